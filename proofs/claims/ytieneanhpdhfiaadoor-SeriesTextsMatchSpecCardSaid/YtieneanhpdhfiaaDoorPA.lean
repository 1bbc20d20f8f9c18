/- A text of the proof: a verified executor of the program form, or the contracts of the functions that the law reaches. -/
import Derived.Test.YtieneanhpdhfiaaDoorShLib
import Derived.Test.YtieneanhpdhfiaaDoorShT
import Derived.Test.YtieneanhpdhfiaaDoorVR
import Derived.Lib.AtoiTie
import Derived.Lib.ItoaMem
import Derived.Test.YtieneanhpdhfiaaDoorVH
import Derived.Test.YtieneanhpdhfiaaDoorVP
set_option linter.all false
namespace Go.Vx
open Go Go.RowKit
theorem ZG {z : Int} (h1 : -9223372036854775808 ≤ z) (h2 : z ≤ 9223372036854775807) : IntKind.i64.wrap z = z := w64 h1 h2
theorem Zga {z : Int} (h1 : 0 ≤ z) (h2 : z < 18446744073709551616) : IntKind.u64.wrap z = z := ZgI h1 h2
@[simp] theorem ZgY {α : Type} {d : α} {o : Option α} : gd true d o = o := rfl
@[simp] theorem ZgX {α : Type} {d : α} {o : Option α} : gd false d o = some d := rfl
@[simp] theorem Zbm {α : Type} {d : α} {o : Option α} : gd (true == true) d o = o := rfl
theorem Z1 {α : Type} {xs : List α} {k : Nat} {x : α} (h : xs[k]? = some x) : idx xs (k : Int) = some x := by simp [idx, h]
theorem ZaZ {α : Type} {xs : List α} {k : Nat} {x : α} (h : xs[k]? = some x) : (k : Int) < (xs.length : Int) := by
  have := (List.getElem?_eq_some_iff.1 h).1; omega
theorem Xb {α : Type} {xs : List α} {k : Nat} (h : k < xs.length) : ∃ x, xs[k]? = some x := ⟨xs[k], List.getElem?_eq_getElem h⟩
theorem Q2 {α : Type} {xs : List α} {k : Nat} {x : α} (h : xs[k]? = some x) : xs.drop k = x :: xs.drop (k + 1) := by
  obtain ⟨hk, rfl⟩ := List.getElem?_eq_some_iff.1 h
  exact List.drop_eq_getElem_cons hk
theorem Qz {α : Type} {xs ys : List α} (h : xs.length + ys.length ≤ 4294967296) : app xs ys = some (xs ++ ys) := by unfold app apz; rw [if_pos (by omega)]

section loops
variable {σ ρ : Type}
theorem Zam {body : σ → Option (σ ⊕ ρ)} (I : σ → Prop) (μ : σ → Nat) (F : σ → ρ) (step : ∀ s, I s → (∃ s', body s = some (.inl s') ∧ I s' ∧ μ s' < μ s ∧ F s = F s') ∨ body s = some (.inr (F s))) :
    ∀ s, I s → loop body s = some (F s) := by
  intro s hs
  obtain ⟨r, h1, h2⟩ := JC (body := body) (fun s' => I s' ∧ F s = F s') μ (fun r => r = F s) (fun s' ⟨h1, h2⟩ => by
    rcases step s' h1 with ⟨s2, e1, e2, e3, e4⟩ | e
    · exact .inl ⟨s2, e1, ⟨e2, h2.trans e4⟩, e3⟩
    · exact .inr ⟨_, e, h2.symm⟩) s ⟨hs, rfl⟩
  rw [h1, h2]
variable {α : Type} {xs : List α}
theorem ZcU {body : Int → Option (Int ⊕ ρ)} (F : Nat → ρ)
    (hstep : ∀ (k : Nat) x, xs[k]? = some x → (body k = some (.inl ((k : Int) + 1)) ∧ F k = F (k + 1)) ∨ body k = some (.inr (F k)))
    (hend : body xs.length = some (.inr (F xs.length))) : loop (t1 body) 0 = some (F 0) := by
  refine Zam (body := t1 body) (fun i => ∃ k : Nat, i = k ∧ k ≤ xs.length) (fun i => xs.length - i.toNat) (fun i => F i.toNat) ?_ 0 ⟨0, rfl, Nat.zero_le _⟩
  rintro i ⟨k, rfl, hk⟩
  simp only [Int.toNat_natCast, Zav]
  rcases Nat.lt_or_ge k xs.length with h | h
  · obtain ⟨x, hx⟩ := Xb h
    rcases hstep k x hx with ⟨h1, h2⟩ | h1
    · exact .inl ⟨_, h1, ⟨k + 1, by push_cast; rfl, h⟩, by omega, by rw [h2]; rfl⟩
    · exact .inr h1
  · have : k = xs.length := by omega
    subst this
    exact .inr hend
theorem Zbh {body : σ → Int → Option ((σ × Int) ⊕ ρ)} (I : σ → Nat → Prop) (F : σ → Nat → ρ)
    (hstep : ∀ a (k : Nat) x, I a k → xs[k]? = some x → (∃ a', body a k = some (.inl (a', (k : Int) + 1)) ∧ I a' (k + 1) ∧ F a k = F a' (k + 1)) ∨ body a k = some (.inr (F a k)))
    (hend : ∀ a, I a xs.length → body a xs.length = some (.inr (F a xs.length))) {a0 : σ} (h0 : I a0 0) : loop (t2 body) (a0, 0) = some (F a0 0) := by
  refine Zam (body := t2 body) (fun p => ∃ k : Nat, p.2 = k ∧ k ≤ xs.length ∧ I p.1 k) (fun p => xs.length - p.2.toNat) (fun p => F p.1 p.2.toNat) ?_ (a0, 0) ⟨0, rfl, Nat.zero_le _, h0⟩
  rintro ⟨a, i⟩ ⟨k, hi, hk, hI⟩
  simp only at hi hI
  subst hi
  simp only [Int.toNat_natCast, Zah]
  rcases Nat.lt_or_ge k xs.length with h | h
  · obtain ⟨x, hx⟩ := Xb h
    rcases hstep a k x hI hx with ⟨a', h1, h2, h3⟩ | h1
    · exact .inl ⟨_, h1, ⟨k + 1, by push_cast; rfl, h, h2⟩, by simp only; omega, by rw [h3]; rfl⟩
    · exact .inr h1
  · have : k = xs.length := by omega
    subst this
    exact .inr (hend a hI)
end loops
end Go.Vx

namespace Go.Vx
open Go Go.RowKit
abbrev Smp := api_Sample
def wi (n lo hi : Int) : Bool := decide (lo ≤ n) && decide (n ≤ hi)
theorem Zbn (n a b : Int) : ZO n a b = some (wi n a b) := rfl
theorem Zb6 (n a b : Int) : Qc n a b = some (!wi n a b) := by
  simp only [Qc, wi, Option.some.injEq]
  rw [Bool.eq_iff_iff]; simp [Int.not_le]
theorem Zc8 {n a b : Int} : wi n a b = true ↔ a ≤ n ∧ n ≤ b := by simp [wi]
def QX (x : Smp) : Option Int := if !(wi x.At 0 1099511627776 && wi x.N (-1125899906842624) 1125899906842624 && wi x.Mark 0 4) then some 9 else if !decide (x.N = 0) && decide (x.Mark ≤ 1) then some 2 else none
def ZcB (xs : List Smp) (k : Nat) : Option Smp := if k = 0 then none else xs[k - 1]?
def Jv (p : Option Smp) (x : Smp) : Bool := match p with | none => false | some q => decide (x.At ≤ q.At)
def J5 : Option Smp → Nat → List Smp → Int × Int
  | _, _, [] => (-1, 0)
  | p, k, x :: tl => match QX x with | some e => ((k : Int), e) | none => if Jv p x then ((k : Int), 10) else J5 (some x) (k + 1) tl
def chk (s : api_Series) : Int × Int := if wi s.Den 1 1000000 then (if (s.Samples.length : Int) ≤ 20000 then J5 none 0 s.Samples else (-1, 3)) else (-1, 9)
theorem Zb4 {xs : List Smp} {k : Nat} {x : Smp} (h : xs[k]? = some x) : ZcB xs (k + 1) = some x := by simp [ZcB, h]
theorem ZcZ {xs : List Smp} {k : Nat} (hk : 0 < k) (h : k ≤ xs.length) : ∃ y, xs[k - 1]? = some y ∧ ZcB xs k = some y ∧ idx xs ((k : Int) - 1) = some y := by
  obtain ⟨y, hy⟩ := Xb (xs := xs) (k := k - 1) (by omega)
  refine ⟨y, hy, by simp [ZcB, hy]; omega, ?_⟩
  have : ((k : Int) - 1) = ((k - 1 : Nat) : Int) := by omega
  rw [this, Z1 hy]
theorem Zdn (s : api_Series) (h : (s.Samples.length : Int) ≤ 20000) :
    loop (t1 (Qt s)) 0 = some ((fun r : Int × Int => if r.2 = 0 then Sum.inr () else Sum.inl r) (J5 none 0 s.Samples)) := by
  refine ZcU (xs := s.Samples) (fun k => (fun r : Int × Int => if r.2 = 0 then Sum.inr () else Sum.inl r) (J5 (ZcB s.Samples k) k (s.Samples.drop k))) (fun k x hx => ?_) ?_
  · have hlt := ZaZ hx
    rw [Q2 hx, J5]
    simp only [Qt, Z1 hx, hlt, decide_true, if_true, Option.bind_some, Zbn]
    by_cases hb : (wi x.At 0 1099511627776 && wi x.N (-1125899906842624) 1125899906842624 && wi x.Mark 0 4) = true
    · simp only [Bool.and_eq_true] at hb
      obtain ⟨⟨h1, h2⟩, h3⟩ := hb
      by_cases hh : (!decide (x.N = 0) && decide (x.Mark ≤ 1)) = true
      · right
        simp [QX, h1, h2, h3, hh]
      · have hs : QX x = none := by simp only [QX, h1, h2, h3]; simp [hh]
        rw [hs]
        rcases Nat.eq_zero_or_pos k with rfl | hk
        · left
          simp [h1, h2, h3, hh, ZG, ZcB, Jv, hx]
        · obtain ⟨y, hy, hp, hi⟩ := ZcZ (xs := s.Samples) hk (by omega)
          have hk' : (0 : Int) < k := by omega
          rw [hp]
          have hw : IntKind.i64.wrap ((k : Int) - 1) = (k : Int) - 1 := ZG (by omega) (by omega)
          have hw2 : IntKind.i64.wrap ((k : Int) + 1) = (k : Int) + 1 := ZG (by omega) (by omega)
          by_cases ho : x.At ≤ y.At
          · right; simp [h1, h2, h3, hh, hw, hi, hk, Jv, ho]
          · left; simp [h1, h2, h3, hh, hw, hw2, hi, hk, Jv, ho, Zb4 hx]
    · right
      have hs : QX x = some 9 := by
        simp only [QX]
        rw [if_pos (by cases h1 : wi x.At 0 1099511627776 <;> cases h2 : wi x.N (-1125899906842624) 1125899906842624 <;> cases h3 : wi x.Mark 0 4 <;> simp_all)]
      rw [hs]
      simp only [Bool.and_eq_true, not_and, Bool.not_eq_true] at hb
      cases h1 : wi x.At 0 1099511627776 <;> cases h2 : wi x.N (-1125899906842624) 1125899906842624 <;> cases h3 : wi x.Mark 0 4 <;> simp_all
  · simp [Qt, List.drop_length, J5]
theorem J4 : ∀ (p : Option Smp) (k : Nat) (xs : List Smp), J5 p k xs = (-1, 0) ∨ (J5 p k xs).2 ≠ 0
  | _, _, [] => .inl rfl
  | p, k, x :: tl => by
    rw [J5]
    split
    · rename_i e he; right; unfold QX at he; split at he
      · cases he; simp
      · split at he <;> cases he; simp
    · split
      · right; simp
      · exact J4 _ _ tl
theorem Zco (s : api_Series) : QJ s = some (chk s) := by
  simp only [QJ, Zbn, Option.bind_some, chk]
  cases hd : wi s.Den 1 1000000 with
  | false => simp
  | true =>
    by_cases hl : (s.Samples.length : Int) ≤ 20000
    · rw [Zdn s hl]
      simp only [show ¬ 20000 < (s.Samples.length : Int) by omega, hl, decide_false, if_true, if_false, Bool.not_true, Option.bind_some, Bool.false_eq_true]
      rcases J4 none 0 s.Samples with h | h
      · simp [h]
      · simp [h]
    · simp [hl, show 20000 < (s.Samples.length : Int) by omega]
theorem Zde (x : Smp) : Qk x = some ((QX x).getD 0) := by
  simp only [Qk, Zb6, Option.bind_some, ZX, QX]
  cases h1 : wi x.At 0 1099511627776 <;> cases h2 : wi x.N (-1125899906842624) 1125899906842624 <;> cases h3 : wi x.Mark 0 4 <;> simp
  by_cases h4 : x.N = 0 <;> by_cases h5 : x.Mark ≤ 1 <;> simp [h4, h5] <;> omega
theorem Zby {x : Smp} {e : Int} (h : QX x = some e) : e = 9 ∨ e = 2 := by
  unfold QX at h; split at h
  · cases h; simp
  · split at h <;> cases h; simp
theorem Zdh (s : api_Series) (h : (s.Samples.length : Int) ≤ 20000) :
    loop (t1 (QR s)) 0 = some ((fun r : Int × Int => if r.2 = 0 then Sum.inr () else Sum.inl r) (J5 none 0 s.Samples)) := by
  refine ZcU (xs := s.Samples) (fun k => (fun r : Int × Int => if r.2 = 0 then Sum.inr () else Sum.inl r) (J5 (ZcB s.Samples k) k (s.Samples.drop k))) (fun k x hx => ?_) ?_
  · have hlt := ZaZ hx
    rw [Q2 hx, J5]
    simp only [QR, Z1 hx, hlt, decide_true, if_true, Option.bind_some, Zde]
    cases hs : QX x with
    | some e =>
      right
      rcases Zby hs with rfl | rfl <;> simp
    | none =>
      rcases Nat.eq_zero_or_pos k with rfl | hk
      · left
        simp [ZG, ZcB, Jv, hx]
      · obtain ⟨y, hy, hp, hi⟩ := ZcZ (xs := s.Samples) hk (by omega)
        rw [hp]
        have hw : IntKind.i64.wrap ((k : Int) - 1) = (k : Int) - 1 := ZG (by omega) (by omega)
        have hw2 : IntKind.i64.wrap ((k : Int) + 1) = (k : Int) + 1 := ZG (by omega) (by omega)
        by_cases ho : x.At ≤ y.At
        · right; simp [hw, hi, hk, Jv, ho]
        · left; simp [hw, hw2, hi, hk, Jv, ho, Zb4 hx]
  · simp [QR, List.drop_length, J5]
theorem ZdI (s : api_Series) : Xd s = some (chk s) := by
  simp only [Xd, Zb6, Option.bind_some, chk]
  cases hd : wi s.Den 1 1000000 with
  | false => simp
  | true =>
    by_cases hl : (s.Samples.length : Int) ≤ 20000
    · rw [Zdh s hl]
      simp only [show ¬ 20000 < (s.Samples.length : Int) by omega, hl, decide_false, if_true, if_false, Bool.not_true, Option.bind_some, Bool.false_eq_true]
      rcases J4 none 0 s.Samples with h | h
      · simp [h]
      · simp [h]
    · simp [hl, show 20000 < (s.Samples.length : Int) by omega]
theorem Zdz (s : api_Series) : QL s = some (chk s).2 := by simp [QL, Zco]
theorem ZeP (s : api_Series) : XH s = some (chk s).2 := by simp [XH, ZdI]

structure SerOK (s : api_Series) : Prop where
  den : 1 ≤ s.Den ∧ s.Den ≤ 1000000
  len : (s.Samples.length : Int) ≤ 20000
  at' : ∀ (k : Nat) x, s.Samples[k]? = some x → (0 ≤ x.At ∧ x.At ≤ 1099511627776) ∧ (-1125899906842624 ≤ x.N ∧ x.N ≤ 1125899906842624) ∧ (0 ≤ x.Mark ∧ x.Mark ≤ 4) ∧ (x.N ≠ 0 → 2 ≤ x.Mark)
  rise : ∀ (i j : Nat) x y, i < j → s.Samples[i]? = some x → s.Samples[j]? = some y → x.At < y.At
theorem ZbV : ∀ (p : Option Smp) (k : Nat) (xs : List Smp), (J5 p k xs).2 = 0 →
    (∀ (j : Nat) x, xs[j]? = some x → QX x = none ∧ ∀ q, p = some q → q.At < x.At) ∧ (∀ (i j : Nat) x y, i < j → xs[i]? = some x → xs[j]? = some y → x.At < y.At)
  | _, _, [], _ => ⟨fun j x h => by simp at h, fun i j x y _ h => by simp at h⟩
  | p, k, x :: tl, h => by
    rw [J5] at h
    cases hs : QX x with
    | some e => rw [hs] at h; rcases Zby hs with rfl | rfl <;> simp at h
    | none =>
      rw [hs] at h
      simp only at h
      split at h
      · simp at h
      · rename_i ho
        obtain ⟨h1, h2⟩ := ZbV _ _ tl h
        have hpx : ∀ q, p = some q → q.At < x.At := fun q hq => by subst hq; simpa [Jv] using ho
        refine ⟨fun j y hy => ?_, fun i j u v hij hu hv => ?_⟩
        · cases j with
          | zero => simp at hy; subst hy; exact ⟨hs, hpx⟩
          | succ j =>
            have hy' : tl[j]? = some y := by simpa using hy
            obtain ⟨g1, g2⟩ := h1 j y hy'
            exact ⟨g1, fun q hq => Int.lt_trans (hpx q hq) (g2 x rfl)⟩
        · cases j with
          | zero => omega
          | succ j =>
            have hv' : tl[j]? = some v := by simpa using hv
            cases i with
            | zero => simp at hu; subst hu; exact (h1 j v hv').2 x rfl
            | succ i => exact h2 i j u v (by omega) (by simpa using hu) hv'
theorem ZaB {s : api_Series} (h : (chk s).2 = 0) : SerOK s := by
  unfold chk at h
  split at h
  · rename_i hd
    split at h
    · rename_i hl
      obtain ⟨h1, h2⟩ := ZbV none 0 s.Samples h
      refine ⟨Zc8.1 hd, hl, fun k x hx => ?_, h2⟩
      have := (h1 k x hx).1
      unfold QX at this
      split at this
      · cases this
      · rename_i hb
        split at this
        · cases this
        · rename_i hh
          simp only [Bool.not_eq_true', Bool.not_eq_false, Bool.and_eq_true, Zc8] at hb
          simp only [Bool.and_eq_true, Bool.not_eq_true', decide_eq_false_iff_not, decide_eq_true_eq] at hh
          exact ⟨hb.1.1, hb.1.2, hb.2, fun h0 => by omega⟩
    · simp at h
  · simp at h
end Go.Vx

namespace Go.Vx
open Go Go.RowKit
def ZB (xs : List Smp) (t : Int) : Nat := xs.countP fun x => decide (x.At ≤ t)
theorem JG : ∀ (xs : List Smp) (t : Int), (∀ (i j : Nat) x y, i < j → xs[i]? = some x → xs[j]? = some y → x.At < y.At) →
    (∀ (k : Nat) x, k < ZB xs t → xs[k]? = some x → x.At ≤ t) ∧ (∀ (k : Nat) x, ZB xs t ≤ k → xs[k]? = some x → t < x.At)
  | [], _, _ => ⟨fun k x h => by simp [ZB] at h, fun k x _ h => by simp at h⟩
  | x :: tl, t, hr => by
    obtain ⟨h1, h2⟩ := JG tl t fun i j u v hij hu hv => hr (i + 1) (j + 1) u v (by omega) (by simpa using hu) (by simpa using hv)
    have hx : ∀ (j : Nat) y, tl[j]? = some y → x.At < y.At := fun j y hy => hr 0 (j + 1) x y (by omega) rfl (by simpa using hy)
    by_cases hc : x.At ≤ t
    · have e : ZB (x :: tl) t = ZB tl t + 1 := by simp [ZB, hc]
      rw [e]
      refine ⟨fun k y hk hy => ?_, fun k y hk hy => ?_⟩
      · cases k with
        | zero => simp at hy; subst hy; exact hc
        | succ k => exact h1 k y (by omega) (by simpa using hy)
      · cases k with
        | zero => omega
        | succ k => exact h2 k y (by omega) (by simpa using hy)
    · have e0 : ZB tl t = 0 := by
        unfold ZB
        rw [List.countP_eq_zero]
        intro y hy
        obtain ⟨j, hj⟩ := List.mem_iff_getElem?.1 hy
        have := hx j y hj
        simp; omega
      have e : ZB (x :: tl) t = 0 := by
        have : ZB (x :: tl) t = ZB tl t := by simp [ZB, hc]
        rw [this, e0]
      rw [e]
      refine ⟨fun k y hk _ => by omega, fun k y _ hy => ?_⟩
      cases k with
      | zero => simp at hy; subst hy; omega
      | succ k => have := hx k y (by simpa using hy); omega
theorem Zcg (xs : List Smp) (t : Int) : ZB xs t ≤ xs.length := List.countP_le_length
def Zdm (xs : List Smp) (t : Int) : Option Smp := if ZB xs t = 0 then none else xs[ZB xs t - 1]?
def Zba (xs : List Smp) (t long : Int) : Option Smp := (Zdm xs t).bind fun x => if 3 ≤ x.Mark ∧ t - x.At ≤ long then some x else none
def z0 : Smp := api_Sample.mk 0 0 0
def Zda (o : Option Smp) : Smp × Bool := match o with | some x => (x, true) | none => (z0, false)

theorem ZbO {ρ : Type} {body : Int → Int → Option ((Int × Int) ⊕ ρ)} (n c : Nat) (F : Nat → ρ) (hc : c ≤ n) (hn : n ≤ 4611686018427387904)
    (hstep : ∀ (i j m : Nat), i < j → j ≤ n → m = (i + j) / 2 → (m < c → body i j = some (.inl ((m : Int) + 1, j))) ∧ (c ≤ m → body i j = some (.inl (i, (m : Int)))))
    (hend : ∀ i : Nat, body i i = some (.inr (F i))) : loop (t2 body) (0, (n : Int)) = some (F c) := by
  refine Zam (body := t2 body) (fun p => ∃ i j : Nat, p = ((i : Int), (j : Int)) ∧ i ≤ c ∧ c ≤ j ∧ j ≤ n) (fun p => (p.2 - p.1).toNat) (fun _ => F c) ?_ _ ⟨0, n, rfl, Nat.zero_le _, hc, Nat.le_refl _⟩
  rintro _ ⟨i, j, rfl, h1, h2, h3⟩
  simp only [Zah]
  rcases Nat.lt_or_ge i j with h | h
  · obtain ⟨g1, g2⟩ := hstep i j ((i + j) / 2) h h3 rfl
    rcases Nat.lt_or_ge ((i + j) / 2) c with h4 | h4
    · exact .inl ⟨_, g1 h4, ⟨(i + j) / 2 + 1, j, by push_cast; rfl, h4, h2, h3⟩, by simp only; omega, by trivial⟩
    · exact .inl ⟨_, g2 h4, ⟨i, (i + j) / 2, rfl, h1, h4, by omega⟩, by simp only; omega, by trivial⟩
  · have e1 : i = c := by omega
    have e2 : j = c := by omega
    subst e1; subst e2
    exact .inr (hend _)

end Go.Vx

namespace Go.Vx
open Go Go.RowKit
theorem ZcA {xs : List Smp} {t : Int} {c : Nat} (hr : ∀ (i j : Nat) x y, i < j → xs[i]? = some x → xs[j]? = some y → x.At < y.At) (hc : c ≤ xs.length)
    (h1 : ∀ (k : Nat) x, k < c → xs[k]? = some x → x.At ≤ t) (h2 : ∀ (k : Nat) x, c ≤ k → xs[k]? = some x → t < x.At) : ZB xs t = c := by
  obtain ⟨g1, g2⟩ := JG xs t hr
  have hl := Zcg xs t
  rcases Nat.lt_trichotomy (ZB xs t) c with h | h | h
  · obtain ⟨x, hx⟩ := Xb (xs := xs) (k := ZB xs t) (by omega)
    have := h1 _ x h hx; have := g2 _ x (Nat.le_refl _) hx; omega
  · exact h
  · obtain ⟨x, hx⟩ := Xb (xs := xs) (k := c) (by omega)
    have := g1 _ x h hx; have := h2 _ x (Nat.le_refl _) hx; omega
theorem ZgC {i j : Nat} (h : i + j < 4611686018427387904) : shr .u64 (u64 (i64 ((i : Int) + j))) 1 = some (((i + j) / 2 : Nat) : Int) := by
  rw [i64, u64, ZG (by omega) (by omega), Zga (by omega) (by omega), shr, if_neg (by decide)]
  have : min (1 : Int).toNat IntKind.u64.bits = 1 := by decide
  rw [this]
  congr 1
  rw [Int.fdiv_eq_ediv_of_nonneg _ (by decide)]
  omega
theorem ZgM {xs : List Smp} {t : Int} (hlen : (xs.length : Int) ≤ 20000) (hat : ∀ (k : Nat) x, xs[k]? = some x → 0 ≤ x.At ∧ x.At ≤ 1099511627776)
    (hr : ∀ (i j : Nat) x y, i < j → xs[i]? = some x → xs[j]? = some y → x.At < y.At) (ht : 0 ≤ t ∧ t ≤ 1099511627776) :
    Zh xs t (fun z0 z1 => ZS z0 z1) = some ((ZB xs (t - 1) : Int), decide (∃ x, xs[ZB xs (t - 1)]? = some x ∧ x.At = t)) := by
  obtain ⟨hc1, hc2⟩ := JG xs (t - 1) hr
  have hcl := Zcg xs (t - 1)
  have hcmp : ∀ (k : Nat) x, xs[k]? = some x → ZS x t = some (x.At - t) := fun k x hx => by
    have := hat k x hx
    simp only [ZS, i64]
    rw [ZG (by omega) (by omega)]
  have hl : loop (t2 (Zf xs t (fun z0 z1 => ZS z0 z1))) (0, (xs.length : Int)) = some ((ZB xs (t - 1) : Nat) : Int) := by
    refine ZbO xs.length (ZB xs (t - 1)) (fun k => (k : Int)) hcl (by omega) (fun i j m hij hj hm => ?_) (fun i => ?_)
    · obtain ⟨x, hx⟩ := Xb (xs := xs) (k := m) (by omega)
      have h2 : (i : Int) < j := by omega
      have hm' : shr .u64 (u64 (i64 ((i : Int) + j))) 1 = some (m : Int) := by rw [ZgC (by omega), hm]
      have hmi : i64 (m : Int) = m := ZG (by omega) (by omega)
      simp only [Zf, h2, decide_true, if_true, hm', Option.bind_some, hmi, Z1 hx, hcmp m x hx]
      refine ⟨fun h => ?_, fun h => ?_⟩
      · have := hc1 m x h hx
        simp [show x.At - t < 0 by omega, ZG (show -9223372036854775808 ≤ (m : Int) + 1 by omega) (by omega)]
      · have := hc2 m x h hx
        simp [show ¬ x.At - t < 0 by omega]
    · simp [Zf]
  simp only [Zh, hl, Option.bind_some, t1]
  rcases Nat.lt_or_ge (ZB xs (t - 1)) xs.length with h | h
  · obtain ⟨x, hx⟩ := Xb h
    have h' : ((ZB xs (t - 1) : Nat) : Int) < xs.length := by omega
    simp only [h', decide_true, Z1 hx, Zbm, Option.bind_some, hcmp _ x hx, hx, Bool.true_and, Option.some.injEq, exists_eq_left', Prod.mk.injEq, true_and]
    simp only [decide_eq_decide]; omega
  · have h' : ¬ ((ZB xs (t - 1) : Nat) : Int) < xs.length := by omega
    simp [gd, h, List.getElem?_eq_none h, show ¬ ZB xs (t - 1) < xs.length by omega]
theorem ZeG {s : api_Series} (hs : SerOK s) {t : Int} (ht : 0 ≤ t ∧ t ≤ 1099511627776) : QP s t = some ((ZB s.Samples t : Int) - 1) := by
  have hlen := hs.len
  obtain ⟨hc1, hc2⟩ := JG s.Samples (t - 1) hs.rise
  have hcl := Zcg s.Samples (t - 1)
  simp only [QP, ZgM hlen (fun k x hx => (hs.at' k x hx).1) hs.rise ht, Option.bind_some]
  by_cases hf : ∃ x, s.Samples[ZB s.Samples (t - 1)]? = some x ∧ x.At = t
  · obtain ⟨x, hx, hxt⟩ := hf
    have hlt := (List.getElem?_eq_some_iff.1 hx).1
    have : ZB s.Samples t = ZB s.Samples (t - 1) + 1 := ZcA hs.rise (by omega) (fun k y hk hy => by
        rcases Nat.lt_or_ge k (ZB s.Samples (t - 1)) with h | h
        · have := hc1 k y h hy; omega
        · have : k = ZB s.Samples (t - 1) := by omega
          subst this; rw [hx] at hy; cases hy; omega) (fun k y hk hy => by
        have := hs.rise _ _ _ _ (show ZB s.Samples (t - 1) < k by omega) hx hy; omega)
    have hd : (∃ x, s.Samples[ZB s.Samples (t - 1)]? = some x ∧ x.At = t) := ⟨x, hx, hxt⟩
    simp only [hd, decide_true, if_true, this]
    congr 1; omega
  · have : ZB s.Samples t = ZB s.Samples (t - 1) := ZcA hs.rise hcl (fun k y hk hy => by have := hc1 k y hk hy; omega) (fun k y hk hy => by
        have h1 := hc2 k y hk hy
        rcases Nat.lt_or_ge (ZB s.Samples (t - 1)) k with h | h
        · obtain ⟨x, hx⟩ := Xb (xs := s.Samples) (k := ZB s.Samples (t - 1)) (by have := (List.getElem?_eq_some_iff.1 hy).1; omega)
          have := hs.rise _ _ _ _ h hx hy
          have := hc2 _ x (Nat.le_refl _) hx; omega
        · have : k = ZB s.Samples (t - 1) := by omega
          subst this
          have : ¬ y.At = t := fun e => hf ⟨y, hy, e⟩
          omega)
    simp only [hf, decide_false, this, i64, Bool.false_eq_true, if_false]
    rw [ZG (by omega) (by omega)]
theorem Zgg {s : api_Series} (hs : SerOK s) (t long : Int) (ht : 0 ≤ t ∧ t ≤ 1099511627776) : Xp s t long = some (Zda (Zba s.Samples t long)) := by
  have hlen := hs.len
  have hcl := Zcg s.Samples t
  simp only [Xp, ZeG hs ht, Option.bind_some]
  by_cases h0 : ZB s.Samples t = 0
  · simp [h0, Zba, Zdm, Zda, z0, gd]
  · obtain ⟨x, hx⟩ := Xb (xs := s.Samples) (k := ZB s.Samples t - 1) (by omega)
    have hi : idx s.Samples ((ZB s.Samples t : Int) - 1) = some x := by
      rw [show ((ZB s.Samples t : Int) - 1) = ((ZB s.Samples t - 1 : Nat) : Int) by omega, Z1 hx]
    obtain ⟨hx1, _, _, _⟩ := hs.at' _ _ hx
    have hw : IntKind.i64.wrap (t - x.At) = t - x.At := ZG (by omega) (by omega)
    have hn : ¬ ((ZB s.Samples t : Int) - 1 < 0) := by omega
    simp only [h0, hi, hn, XB, Zba, Zdm, hx, hw, Option.bind_some, i64, decide_false, if_false, Bool.false_eq_true]
    by_cases h3 : 3 ≤ x.Mark
    · by_cases h4 : long < t - x.At
      · simp [h3, h4, Zda, z0, show ¬ t - x.At ≤ long by omega, hw]
      · simp [h3, h4, Zda, show t - x.At ≤ long by omega, hw]
    · simp [h3, Zda, z0]
def Zch (s : api_Series) (t long : Int) : Smp × Bool × Int :=
  if (chk s).2 ≠ 0 then (z0, false, (chk s).2) else if wi t 0 1099511627776 && wi long 0 1099511627776 then ((Zda (Zba s.Samples t long)).1, (Zda (Zba s.Samples t long)).2, 0) else (z0, false, 9)
end Go.Vx

namespace Go.Vx
open Go Go.RowKit
theorem ZfX (s : api_Series) (t long : Int) : Xs s t long = some (Zch s t long) := by
  simp only [Xs, Zdz, Zbn, Option.bind_some, Zch]
  by_cases h0 : (chk s).2 = 0
  · cases h1 : wi t 0 1099511627776 with
    | false => simp [h0, z0]
    | true => cases h2 : wi long 0 1099511627776 with
      | false => simp [h0, z0]
      | true => simp [h0, Zgg (ZaB h0) t long (Zc8.1 h1)]
  · simp [h0, z0]
theorem ZdP : Xe = some true := by
  have hc : chk (api_Series.mk 1 [api_Sample.mk 5 7 4]) = (-1, 0) := by decide
  simp only [Xe, ZfX, Option.bind_some, Zch, hc]
  decide
end Go.Vx

namespace Go.Vx
open Go Go.RowKit Go.Lib
theorem Zdc {α : Type} {xs : List α} {a b : Int} (h0 : 0 ≤ a) (h1 : a ≤ b) (h2 : b ≤ xs.length) : slc xs a b = some ((xs.take b.toNat).drop a.toNat) := by
  simp only [slc]; rw [if_pos ⟨h0, h1, h2⟩]
theorem Zfi (i : Int) (h0 : 0 ≤ i) (h1 : i < 100) : ∃ s, QG i = some s ∧ s.length ≤ 2 := by
  obtain ⟨n, rfl⟩ := Int.eq_ofNat_of_zero_le h0
  unfold QG
  by_cases h : (n : Int) < 10
  · have e1 : IntKind.i64.wrap ((n : Int) + 1) = (n : Int) + 1 := ZG (by omega) (by omega)
    refine ⟨_, by simp only [h, decide_true, if_true, e1]; rw [Zdc (by omega) (by omega) (by show _ ≤ ((36 : Nat) : Int); omega)]; rfl, ?_⟩
    simp only [List.length_drop, List.length_take]; omega
  · have e1 : IntKind.i64.wrap ((n : Int) * 2) = (n : Int) * 2 := ZG (by omega) (by omega)
    have e2 : IntKind.i64.wrap ((n : Int) * 2 + 2) = (n : Int) * 2 + 2 := ZG (by omega) (by omega)
    refine ⟨_, by simp only [h, decide_false, if_false, Bool.false_eq_true, e1, e2]; rw [Zdc (by omega) (by omega) (by show _ ≤ ((200 : Nat) : Int); omega)]; rfl, ?_⟩
    simp only [List.length_drop, List.length_take]; omega
theorem Zcd (z : Int) : 0 ≤ IntKind.u64.wrap z ∧ IntKind.u64.wrap z < 18446744073709551616 := by
  simp only [IntKind.wrap]
  constructor <;> simp [IntKind.signed, IntKind.bits] <;> omega
theorem ZeS (dst : List Int) (u : Int) (h0 : 0 ≤ u) (h1 : u < 18446744073709551616) (hl : dst.length ≤ 4000000000) : ∃ l, ZT dst u 10 = some l ∧ l.length ≤ dst.length + 20 := by
  unfold ZT
  simp only [decide_true, if_true]
  by_cases h : u < 100
  · have e : IntKind.i64.wrap u = u := ZG (by omega) (by omega)
    obtain ⟨s, hs, hsl⟩ := Zfi u h0 h
    refine ⟨dst ++ bytes s, ?_, by simp [bytes]; omega⟩
    simp only [h, decide_true, if_true, e, hs, Option.bind_some]
    rw [Qz (by simp [bytes]; omega)]
    rfl
  · have hn : nDigits u.toNat ≤ 20 := by
      have := (numDigits_eq u.toNat (by omega) (by omega))
      have h2 := this.2; have h3 := this.1
      split at h3 <;> omega
    have hp := nDigits_pos u.toNat
    have hlt := lt_pow_nDigits u.toNat
    have hsl : ∀ {β : Type} (v : Vector β 24), slc v.toList 0 (nDigits u.toNat : Int) = some ((v.toList.take (nDigits u.toNat)).drop 0) := fun v => Zdc (Int.le_refl _) (by omega) (by simp; omega)
    have hf : ∃ v, Zb0 (Vector.replicate 24 0) (nDigits u.toNat) u = some v := by
      refine ⟨_, by unfold Zb0; rw [if_pos ⟨by omega, by omega, h0, hlt, by omega, fun x hx => by simp at hx; subst hx; omega⟩]⟩
    obtain ⟨v, hv⟩ := hf
    refine ⟨dst ++ (v.toList.take (nDigits u.toNat)).drop 0, ?_, by simp; omega⟩
    simp only [h, decide_false, if_false, Bool.false_eq_true, Jc]
    rw [if_pos (by omega)]
    simp only [Option.bind_some, hsl, Int.sub_zero, Int.toNat_natCast, hv]
    rw [Qz (by simp; omega)]
    rfl
theorem Zgm (dst : List Int) (n : Int) (hl : dst.length ≤ 3999999999) : ∃ l, Z8 dst n 10 = some l ∧ l.length ≤ dst.length + 21 := by
  unfold Z8 Qr
  by_cases h : n < 0
  · obtain ⟨l, h1, h2⟩ := ZeS (dst ++ [45]) (IntKind.u64.wrap (-(IntKind.u64.wrap n))) (Zcd _).1 (Zcd _).2 (by simp; omega)
    refine ⟨l, ?_, by simp at h2; omega⟩
    simp only [h, decide_true, if_true]
    rw [Qz (by simp; omega)]
    simp [h1]
  · obtain ⟨l, h1, h2⟩ := ZeS dst (IntKind.u64.wrap n) (Zcd _).1 (Zcd _).2 (by omega)
    refine ⟨l, ?_, by omega⟩
    simp [h, h1]
theorem ZcJ (k : ref0_Ink) (n : Int) (hl : k.out.length ≤ 3999999999) : ∃ r, ZU k n = some r ∧ r.out.length ≤ k.out.length + 22 := by
  obtain ⟨l, h1, h2⟩ := Zgm k.out n hl
  refine ⟨⟨l ++ [32]⟩, ?_, by simp; omega⟩
  unfold ZU
  simp only [h1, Option.bind_some]
  rw [Qz (by simp; omega)]
  rfl
theorem ZfQ (k : ref0_Ink) (l : List Int) (hl : k.out.length + 22 * (l.length + 1) ≤ 3999999999) (h63 : l.length < 4611686018427387904) : ∃ r, QS k l = some r ∧ r.out.length ≤ k.out.length + 22 * (l.length + 1) := by
  obtain ⟨k1, h1, h2⟩ := ZcJ k l.length (by omega)
  unfold QS
  simp only [h1, Option.bind_some]
  obtain ⟨r, h3, h4⟩ := JC (body := t2 (QI l)) (fun p => ∃ j : Nat, p.2 = j ∧ j ≤ l.length ∧ p.1.length ≤ k1.out.length + 22 * j) (fun p => l.length - p.2.toNat) (fun r => r.out.length ≤ k1.out.length + 22 * l.length) (by
    rintro ⟨out, i⟩ ⟨j, hi, hj, ho⟩
    simp only at hi ho
    subst hi
    simp only [Zah, QI]
    rcases Nat.lt_or_ge j l.length with h | h
    · obtain ⟨x, hx⟩ := Xb h
      obtain ⟨k2, e1, e2⟩ := ZcJ ⟨out⟩ x (by simp only; omega)
      left
      have e : IntKind.i64.wrap ((j : Int) + 1) = (j : Int) + 1 := ZG (by omega) (by omega)
      refine ⟨(k2.out, (j : Int) + 1), by simp [ZaZ hx, Z1 hx, e1, e], ⟨j + 1, by push_cast; rfl, h, by simp only at e2 ⊢; omega⟩, by simp only; omega⟩
    · have : j = l.length := by omega
      subst this
      exact .inr ⟨⟨out⟩, by simp, by simpa using ho⟩) (k1.out, 0) ⟨0, rfl, Nat.zero_le _, by simp⟩
  exact ⟨r, h3, by omega⟩
theorem Zey (k : ref0_Ink) (x : api_Sample) (hl : k.out.length ≤ 3999999000) : ∃ r, Qu k x = some r ∧ r.out.length ≤ k.out.length + 88 := by
  obtain ⟨r, h1, h2⟩ := ZfQ k [x.At, x.N, x.Mark] (by simp; omega) (by simp)
  exact ⟨r, by unfold Qu; simp [h1], by simpa using h2⟩
theorem ZeM (k : ref0_Ink) (s : api_Series) (hk : k.out.length ≤ 1000) (hl : s.Samples.length ≤ 1048576) : ∃ r, Qv k s = some r ∧ r.out.length ≤ 200000000 := by
  obtain ⟨k1, h1, h2⟩ := ZcJ k s.Den (by omega)
  obtain ⟨k2, h3, h4⟩ := ZcJ k1 s.Samples.length (by omega)
  unfold Qv
  simp only [h1, h3, Option.bind_some]
  obtain ⟨r, h5, h6⟩ := JC (body := t2 (Qs s)) (fun p => ∃ j : Nat, p.2 = j ∧ j ≤ s.Samples.length ∧ p.1.length ≤ k2.out.length + 88 * j) (fun p => s.Samples.length - p.2.toNat) (fun r => r.out.length ≤ k2.out.length + 88 * s.Samples.length) (by
    rintro ⟨out, i⟩ ⟨j, hi, hj, ho⟩
    simp only at hi ho
    subst hi
    simp only [Zah, Qs]
    rcases Nat.lt_or_ge j s.Samples.length with h | h
    · obtain ⟨x, hx⟩ := Xb h
      obtain ⟨k3, e1, e2⟩ := Zey ⟨out⟩ x (by simp only; omega)
      left
      have e : IntKind.i64.wrap ((j : Int) + 1) = (j : Int) + 1 := ZG (by omega) (by omega)
      refine ⟨(k3.out, (j : Int) + 1), by simp [ZaZ hx, Z1 hx, e1, e], ⟨j + 1, by push_cast; rfl, h, by simp only at e2 ⊢; omega⟩, by simp only; omega⟩
    · have : j = s.Samples.length := by omega
      subst this
      exact .inr ⟨⟨out⟩, by simp, by simpa using ho⟩) (k2.out, 0) ⟨0, rfl, Nat.zero_le _, by simp⟩
  exact ⟨r, h5, by omega⟩
theorem ZeD (s : api_Series) (e : Int) (hl : s.Samples.length ≤ 1048576) : ∃ t, Q0 s e = some t := by
  obtain ⟨k1, h1, h2⟩ := ZeM ⟨[]⟩ s (by simp) hl
  obtain ⟨k2, h3, h4⟩ := ZcJ k1 e (by omega)
  exact ⟨ZI k2.out, by unfold Q0 Q5 Xi; simp [h1, h3]⟩
end Go.Vx

namespace Go.Vx
open Go Go.RowKit
end Go.Vx

namespace Go.Vx
open Go Go.RowKit
theorem Zeg : ∀ d : Fin 10, Lib.digitVal (UInt8.ofNat (48 + d.val)) = some d.val := by decide
theorem Zeo (b : UInt8) {v : Nat} (h : Lib.digitVal b = some v) : v < 10 ∧ b.toNat = 48 + v ∧ UInt8.ofNat (48 + v) = b := by
  unfold Lib.digitVal at h
  split at h
  · rename_i hb
    cases h
    refine ⟨by omega, by omega, ?_⟩
    rw [show 48 + (b.toNat - 48) = b.toNat by omega]
    exact UInt8.ofNat_toNat
  · cases h
theorem Zcf (d : UInt8) : ∀ (l : List UInt8) (acc : Nat), Lib.decFrom acc (l ++ [d]) = (Lib.decFrom acc l).bind fun m => (Lib.digitVal d).map fun v => m * 10 + v
  | [], acc => by simp only [List.nil_append, Lib.decFrom, Option.bind_some]; cases Lib.digitVal d <;> rfl
  | b :: l, acc => by
    simp only [List.cons_append, Lib.decFrom]
    cases Lib.digitVal b with
    | none => rfl
    | some v => exact Zcf d l _
theorem X7 {u : Nat} (h : u < 10) : Lib.decDigits u = [UInt8.ofNat (48 + u)] := by rw [Lib.decDigits, dif_pos h]
theorem Zdg {u : Nat} (h : ¬ u < 10) : Lib.decDigits u = Lib.decDigits (u / 10) ++ [UInt8.ofNat (48 + u % 10)] := by rw [Lib.decDigits, dif_neg h]
theorem Zdf (u : Nat) : Lib.decFrom 0 (Lib.decDigits u) = some u := by
  induction u using Nat.strongRecOn with
  | _ u ih =>
    by_cases h : u < 10
    · rw [X7 h]
      simp only [Lib.decFrom, Zeg ⟨u, h⟩]
      simp
    · rw [Zdg h, Zcf, ih _ (by omega), Option.bind_some, Zeg ⟨u % 10, by omega⟩]
      simp only [Option.map_some, Option.some.injEq]
      omega
theorem ZeE (u : Nat) : Lib.decDigits u ≠ [] := fun h => by
  have := congrArg List.length h
  rw [Lib.decDigits_length] at this
  have := Lib.nDigits_pos u
  simp at *
  omega
theorem ZdQ (u : Nat) (h1 : 1 ≤ u) : (Lib.decDigits u).head? ≠ some 48 := by
  induction u using Nat.strongRecOn with
  | _ u ih =>
    by_cases h : u < 10
    · rw [X7 h]
      have : ∀ d : Fin 10, 1 ≤ d.val → ([UInt8.ofNat (48 + d.val)] : List UInt8).head? ≠ some 48 := by decide
      exact this ⟨u, h⟩ h1
    · rw [Zdg h]
      have := ih (u / 10) (by omega) (by omega)
      have hn := ZeE (u / 10)
      cases hd : Lib.decDigits (u / 10) with
      | nil => exact absurd hd hn
      | cons a l => rw [hd] at this; simpa using this
theorem ZcG : ∀ (n : Nat) (t : List UInt8) (m : Nat), t.length = n → t ≠ [] → Lib.decFrom 0 t = some m → (t.head? = some 48 → t.length = 1) → Lib.decDigits m = t
  | 0, t, m, hn, h0, _, _ => absurd (List.eq_nil_of_length_eq_zero hn) h0
  | n + 1, t, m, hn, h0, hv, hz => by
    rcases List.eq_nil_or_concat t with rfl | ⟨l, d, rfl⟩
    · cases hn
    · rw [List.concat_eq_append] at *
      rw [Zcf] at hv
      cases hl : Lib.decFrom 0 l with
      | none => rw [hl] at hv; cases hv
      | some m' =>
        rw [hl, Option.bind_some] at hv
        cases hd : Lib.digitVal d with
        | none => rw [hd] at hv; cases hv
        | some v =>
          rw [hd] at hv
          simp only [Option.map_some, Option.some.injEq] at hv
          obtain ⟨h10, _, hb⟩ := Zeo d hd
          cases l with
          | nil =>
            simp only [Lib.decFrom, Option.some.injEq] at hl
            subst hl
            have : m = v := by omega
            subst this
            rw [X7 h10, hb]; rfl
          | cons c l =>
            have hc : c ≠ 48 := fun e => by
              subst e
              have := hz rfl
              simp at this
            have ih := ZcG n (c :: l) m' (by simp at hn ⊢; omega) (by simp) hl (fun e => by
              simp only [List.head?_cons, Option.some.injEq] at e
              exact absurd e hc)
            have hm : 1 ≤ m' := by
              rcases Nat.eq_zero_or_pos m' with rfl | h
              · rw [X7 (by omega)] at ih
                have := congrArg List.head? ih
                simp only [List.head?_cons, Option.some.injEq] at this
                exact absurd this.symm hc
              · exact h
            rw [Zdg (by omega), show m / 10 = m' by omega, ih, show m % 10 = v by omega, hb]
def ZaN (neg : Bool) (t : Str) : Option Int :=
  if t = [] ∨ 18 < t.length ∨ (t.head? = some 48 ∧ (1 < t.length ∨ neg = true)) then none else (Lib.decFrom 0 t).map fun (m : Nat) => if neg = true then -(m : Int) else (m : Int)
def Xy (s : Str) : Bool := s.head? == some 45
def Xq (s : Str) : Str := if Xy s = true then s.tail else s
def num (s : Str) : Option Int := ZaN (Xy s) (Xq s)
theorem Zaz {s : Str} {k : Nat} {b : UInt8} (h : s[k]? = some b) : JR s (k : Int) = some (b.toNat : Int) := by simp [JR, h]
theorem Ze1 {t : Str} (hl : t.length ≤ 18) : loop (t2 (Z2 t)) (0, 0) = some (match Lib.decFrom 0 t with | some m => (.inr (m : Int) : (Int × Bool) ⊕ Int) | none => .inl (0, false)) := by
  refine (Zbh (xs := t) (body := Z2 t) (fun a k => ∃ n : Nat, a = (n : Int) ∧ n < 10 ^ k) (fun a k => match Lib.decFrom a.toNat (t.drop k) with | some m => (.inr (m : Int) : (Int × Bool) ⊕ Int) | none => .inl (0, false)) ?_ ?_ (a0 := 0) ⟨0, rfl, by decide⟩).trans rfl
  · rintro a k x ⟨n, rfl, hn⟩ hx
    have hk : k < t.length := (List.getElem?_eq_some_iff.1 hx).1
    have hp : 10 ^ k ≤ 10 ^ 17 := Nat.pow_le_pow_right (by decide) (by omega)
    have e17 : (10 : Nat) ^ 17 = 100000000000000000 := by decide
    have hb : x.toNat < 256 := x.toNat_lt
    rw [Q2 hx]
    simp only [Z2, ZaZ hx, decide_true, if_true, Zaz hx, Option.bind_some, Int.toNat_natCast, Lib.decFrom]
    by_cases h : 48 ≤ x.toNat ∧ x.toNat ≤ 57
    · left
      have e1 : ¬ (x.toNat : Int) < 48 := by omega
      have e2 : ¬ (57 : Int) < (x.toNat : Int) := by omega
      have w1 : u8 ((x.toNat : Int) - 48) = (x.toNat : Int) - 48 := by
        have : (x.toNat : Int) - 48 = ((x.toNat - 48 : Nat) : Int) := by omega
        rw [this]
        simp only [IntKind.wrap, IntKind.signed, IntKind.bits]
        simp
        omega
      have w2 : i64 ((x.toNat : Int) - 48) = (x.toNat : Int) - 48 := ZG (by omega) (by omega)
      have w3 : i64 (10 * (n : Int)) = 10 * (n : Int) := ZG (by omega) (by omega)
      have w4 : i64 (10 * (n : Int) + ((x.toNat : Int) - 48)) = 10 * (n : Int) + ((x.toNat : Int) - 48) := ZG (by omega) (by omega)
      have w5 : i64 ((k : Int) + 1) = (k : Int) + 1 := ZG (by omega) (by omega)
      have hd : Lib.digitVal x = some (x.toNat - 48) := by unfold Lib.digitVal; rw [if_pos h]
      simp only [e1, e2, decide_false, Bool.or_self, Bool.false_eq_true, if_false, w1, w2, w3, w4, w5, Zbm, hd]
      refine ⟨10 * (n : Int) + ((x.toNat : Int) - 48), ?_, ⟨10 * n + (x.toNat - 48), by omega, ?_⟩, ?_⟩
      · simp [gd]; omega
      · rw [Nat.pow_succ]; omega
      · have : (10 * (n : Int) + ((x.toNat : Int) - 48)).toNat = n * 10 + (x.toNat - 48) := by omega
        rw [this]
    · right
      have hd : Lib.digitVal x = none := by unfold Lib.digitVal; rw [if_neg h]
      rw [hd]
      by_cases e1 : (x.toNat : Int) < 48
      · simp [e1, gd]
      · have e2 : (57 : Int) < (x.toNat : Int) := by omega
        simp [e1, e2, gd]
  · rintro a ⟨n, rfl, hn⟩
    simp [Z2, List.drop_length, Lib.decFrom]
theorem ZcI (s : Str) : ZY s 18 = some (match num s with | some n => (n, true) | none => (0, false)) := by
  have key : ∀ (t : Str) (neg : Bool), ((gd (((decide (t = [])) || (decide ((18 : Int) < (t.length : Int)))) == false) 0 (JR t 0)).bind fun b2 =>
      if (((decide (t = [])) || (decide ((18 : Int) < (t.length : Int)))) || ((decide (b2 = 48)) && ((decide (1 < (t.length : Int))) || neg))) = true then
      some ((0 : Int), false)
      else
      ((loop (t2 (Z2 t)) (0, 0)) : Option ((Int × Bool) ⊕ (Int))).bind (Sum.elim (fun q' => some q') (t1 fun (n : Int) =>
      if neg = true then
      some ((i64 (-n)), true)
      else
      some (n, true)))) = some (match ZaN neg t with | some n => (n, true) | none => (0, false)) := by
    intro t neg
    cases t with
    | nil => simp [ZaN, gd]
    | cons c r =>
      by_cases h18 : 18 < (c :: r).length
      · have e : (18 : Int) < ((c :: r).length : Int) := by omega
        have hn : ZaN neg (c :: r) = none := by unfold ZaN; rw [if_pos (.inr (.inl h18))]
        simp only [hn]
        have e' : decide ((18 : Int) < ((c :: r).length : Int)) = true := by simpa using e
        rw [e', Bool.or_true, show (gd (true == false) (0 : Int) (JR (c :: r) 0)) = some 0 from rfl, Option.bind_some, Bool.true_or, if_pos rfl]
      · have e : ¬ (18 : Int) < ((c :: r).length : Int) := by omega
        have hs : JR (c :: r) 0 = some (c.toNat : Int) := Zaz (k := 0) rfl
        have hc : decide ((c.toNat : Int) = 48) = decide (c = 48) := by
          rw [decide_eq_decide]
          constructor
          · intro h; exact UInt8.toNat_inj.1 (by simp; omega)
          · rintro rfl; rfl
        have hnil : decide ((c :: r) = ([] : Str)) = false := by simp
        simp only [hnil, e, decide_false, Bool.or_self, Bool.false_or, hs, Zbm, Option.bind_some, hc]
        rw [show (gd (false == false) (0 : Int) (some (c.toNat : Int))) = some (c.toNat : Int) from rfl]
        simp only [Option.bind_some, hc]
        by_cases hz : (decide (c = 48) && (decide ((1 : Int) < ((c :: r).length : Int)) || neg)) = true
        · have hn : ZaN neg (c :: r) = none := by
            unfold ZaN
            rw [if_pos]
            right; right
            simp only [Bool.and_eq_true, Bool.or_eq_true, decide_eq_true_eq] at hz
            refine ⟨by rw [List.head?_cons, hz.1], ?_⟩
            rcases hz.2 with h | h
            · left; omega
            · right; exact h
          rw [if_pos hz, hn]
        · have hn : ZaN neg (c :: r) = (Lib.decFrom 0 (c :: r)).map fun (m : Nat) => if neg = true then -(m : Int) else (m : Int) := by
            unfold ZaN
            rw [if_neg]
            rintro (h | h | ⟨h1, h2⟩)
            · cases h
            · exact h18 h
            · apply hz
              simp only [List.head?_cons, Option.some.injEq] at h1
              simp only [Bool.and_eq_true, Bool.or_eq_true, decide_eq_true_eq]
              refine ⟨h1, ?_⟩
              rcases h2 with h | h
              · left; omega
              · right; exact h
          rw [if_neg hz, Ze1 (by omega), hn]
          cases hd : Lib.decFrom 0 (c :: r) with
          | none => rfl
          | some m =>
            have hm : m < 1000000000000000000 := Lib.decFrom_lt18 hd (by omega)
            have w : i64 (-(m : Int)) = -(m : Int) := ZG (by omega) (by omega)
            cases neg <;> simp [w]
  unfold ZY
  cases s with
  | nil =>
    have := key [] false
    simp only [num, Xy, Xq]
    simpa [gd] using this
  | cons c r =>
    have hs : JR (c :: r) 0 = some (c.toNat : Int) := Zaz (k := 0) rfl
    have hc : decide ((c.toNat : Int) = 45) = Xy (c :: r) := by
      unfold Xy
      rw [List.head?_cons, Bool.eq_iff_iff, decide_eq_true_eq, beq_iff_eq, Option.some.injEq]
      constructor
      · intro h; exact UInt8.toNat_inj.1 (by simp; omega)
      · rintro rfl; rfl
    have hnil : decide ((c :: r) = ([] : Str)) = false := by simp
    have hsl : slc (c :: r) 1 ((c :: r).length : Int) = some r := by
      unfold slc
      rw [if_pos (by simp; omega)]
      simp
    simp only [hnil, Bool.not_false, Bool.true_and, hs]
    rw [show (gd (true == true) (0 : Int) (some (c.toNat : Int))) = some (c.toNat : Int) from rfl, Option.bind_some, hc]
    unfold num Xq
    cases hN : Xy (c :: r) with
    | false =>
      have := key (c :: r) false
      simpa using this
    | true =>
      have := key r true
      simp only [if_true, hsl, Option.bind_some, Zav, List.tail_cons]
      exact this
end Go.Vx

namespace Go.Vx
open Go Go.RowKit
theorem ZdW {neg : Bool} {t : Str} {m : Int} (h : ZaN neg t = some m) : t ≠ [] ∧ t.length ≤ 18 ∧ ¬ (t.head? = some 48 ∧ (1 < t.length ∨ neg = true)) ∧ ∃ k : Nat, Lib.decFrom 0 t = some k ∧ m = if neg = true then -(k : Int) else (k : Int) := by
  unfold ZaN at h
  split at h
  · cases h
  · rename_i hn
    simp only [not_or] at hn
    obtain ⟨h1, h2, h3⟩ := hn
    obtain ⟨k, hk, rfl⟩ := Option.map_eq_some_iff.1 h
    exact ⟨h1, by omega, h3, k, hk, rfl⟩
theorem ZcQ {c : UInt8} {r : Str} {k : Nat} (h : Lib.decFrom 0 (c :: r) = some k) : 48 ≤ c.toNat ∧ c.toNat ≤ 57 := by
  simp only [Lib.decFrom] at h
  cases hd : Lib.digitVal c with
  | none => rw [hd] at h; cases h
  | some v => have := Zeo c hd; omega
theorem Zc4 (v : Int) (h : (Xq (Lib.itoa v)).length ≤ 18) : num (Lib.itoa v) = some v := by
  by_cases hv : 0 ≤ v
  · obtain ⟨u, rfl⟩ := Int.eq_ofNat_of_zero_le hv
    rw [Lib.itoa_nonneg] at h ⊢
    have hne := ZeE u
    have hval := Zdf u
    have hN : Xy (Lib.decDigits u) = false := by
      cases hd : Lib.decDigits u with
      | nil => exact absurd hd hne
      | cons c r =>
        rw [hd] at hval
        have := ZcQ hval
        unfold Xy
        rw [List.head?_cons, beq_eq_false_iff_ne]
        intro e
        cases e
        simp at this
    unfold num Xq ZaN
    simp only [Xq, hN] at h ⊢
    simp only [Bool.false_eq_true, if_false] at h ⊢
    rw [if_neg, hval]
    · rfl
    · rintro (h1 | h1 | ⟨h1, h2⟩)
      · exact hne h1
      · omega
      · rcases h2 with h2 | h2
        · rcases Nat.eq_zero_or_pos u with rfl | hu
          · rw [X7 (by omega)] at h2; simp at h2
          · exact ZdQ u hu h1
        · exact h2
  · obtain ⟨u, rfl⟩ : ∃ u : Nat, v = -(u : Int) := ⟨v.natAbs, by omega⟩
    have hu : 1 ≤ u := by omega
    rw [Lib.itoa_neg u hu] at h ⊢
    have hN : Xy (45 :: Lib.decDigits u) = true := rfl
    unfold num Xq ZaN
    simp only [Xq, hN, if_true, List.tail_cons] at h ⊢
    rw [if_neg, Zdf]
    · simp
    · rintro (h1 | h1 | ⟨h1, _⟩)
      · exact ZeE u h1
      · omega
      · exact ZdQ u hu h1
theorem Zay {s : Str} {m : Int} (h : num s = some m) : Lib.atoiAll s = .ok m ∧ Lib.itoa m = s ∧ (Xq s).length ≤ 18 := by
  unfold num at h
  obtain ⟨h1, h2, h3, k, hk, hm⟩ := ZdW h
  have hcan := ZcG _ (Xq s) k rfl h1 hk
  have hdn : Lib.decNat (Xq s) = some k := by
    unfold Lib.decNat
    rw [if_neg (by simpa [List.isEmpty_iff] using h1)]
    exact hk
  cases hN : Xy s with
  | true =>
    rw [hN] at h3 hm
    have hs : s = 45 :: Xq s := by
      unfold Xq
      rw [if_pos hN]
      unfold Xy at hN
      cases s with
      | nil => cases hN
      | cons c r =>
        simp only [List.head?_cons, beq_iff_eq, Option.some.injEq] at hN
        rw [hN]; rfl
    have hh : (Xq s).head? ≠ some 48 := fun e => h3 ⟨e, .inr rfl⟩
    have hd : Lib.decDigits k = Xq s := hcan (fun e => absurd e hh)
    have hk1 : 1 ≤ k := by
      rcases Nat.eq_zero_or_pos k with rfl | h
      · rw [X7 (by omega)] at hd
        rw [← hd] at hh
        exact absurd rfl hh
      · exact h
    simp only [if_true] at hm
    subst hm
    refine ⟨?_, ?_, h2⟩
    · rw [hs, Lib.atoiAll_minus, Lib.signed_short h2, hdn]
      rfl
    · rw [Lib.itoa_neg k hk1, hd]
      exact hs.symm
  | false =>
    rw [hN] at h3 hm
    have hs : Xq s = s := by unfold Xq; rw [if_neg (by rw [hN]; decide)]
    rw [hs] at h1 h2 h3 hk hcan hdn ⊢
    have hd : Lib.decDigits k = s := hcan (fun e => by
      have : ¬ 1 < s.length := fun h => h3 ⟨e, .inl h⟩
      have : s.length ≠ 0 := fun h => h1 (List.eq_nil_of_length_eq_zero h)
      omega)
    simp only [Bool.false_eq_true, if_false] at hm
    subst hm
    refine ⟨?_, ?_, h2⟩
    · cases s with
      | nil => exact absurd rfl h1
      | cons c r =>
        have hc := ZcQ hk
        rw [Lib.atoiAll_plain c r (by omega) (by omega), Lib.signless_short h2, hdn]
        rfl
    · rw [Lib.itoa_nonneg, hd]
theorem Zf7 (s : Str) (hl : s.length ≤ 281474976710656) : Z3 s [45] = some (Xq s) := by
  unfold Z3 Zy Zp
  cases s with
  | nil => simp [gd, Xq, Xy]
  | cons c r =>
    have e : decide ((([45] : Str).length : Int) ≤ ((c :: r).length : Int)) = true := by simp; omega
    have h1 : slc (c :: r) 0 (([45] : Str).length : Int) = some [c] := by
      unfold slc
      rw [if_pos (by simp; omega)]
      simp
    have h2 : slc (c :: r) (([45] : Str).length : Int) ((c :: r).length : Int) = some r := by
      unfold slc
      rw [if_pos (by simp; omega)]
      simp
    have h3 : decide (([c] : Str) = [45]) = Xy (c :: r) := by
      unfold Xy
      rw [List.head?_cons, Bool.eq_iff_iff, decide_eq_true_eq, beq_iff_eq]
      simp
    simp only [e, h1, h2, h3, Zbm, Option.bind_some, Bool.true_and]
    unfold Xq
    cases Xy (c :: r) <;> simp
theorem Jd (s : Str) (hl : s.length ≤ 281474976710656) : ∃ (n : Int) (b : Bool), Zr s = some (n, b) ∧ b = (num s).isSome ∧ ∀ m, num s = some m → n = m := by
  unfold Zr ZcC
  rw [if_pos hl]
  simp only [Option.bind_some]
  have hno : (∀ v, Lib.atoiAll s ≠ .ok v) → num s = none := fun h => by
    cases hn : num s with
    | none => rfl
    | some m => exact absurd (Zay hn).1 (h m)
  cases hA : Lib.atoiAll s with
  | ok v =>
    have hb := Lib.atoiAll_bounds hA
    have hi : itoa v = some (Lib.itoa v) := by unfold itoa; rw [if_pos hb]
    refine ⟨v, decide (((Xq s).length : Int) ≤ 18) && decide (Lib.itoa v = s), ?_, ?_, ?_⟩
    · simp only [Bool.not_false, Zbm, Zf7 s hl, Option.bind_some, Bool.true_and, hi]
      by_cases h18 : ((Xq s).length : Int) ≤ 18
      · simp [h18, gd]
      · simp [h18, gd]
    · cases hn : num s with
      | none =>
        rw [Option.isSome_none, Bool.and_eq_false_iff]
        by_cases h1 : ((Xq s).length : Int) ≤ 18
        · right
          rw [decide_eq_false_iff_not]
          intro e
          have := Zc4 v (by rw [e]; omega)
          rw [e, hn] at this
          cases this
        · left; simpa using h1
      | some m =>
        obtain ⟨h1, h2, h3⟩ := Zay hn
        rw [hA] at h1
        cases h1
        rw [Option.isSome_some, Bool.and_eq_true]
        exact ⟨by rw [decide_eq_true_eq]; omega, by rw [decide_eq_true_eq]; exact h2⟩
    · intro m hn
      have := (Zay hn).1
      rw [hA] at this
      cases this; rfl
  | «syntax» =>
    have hn := hno (fun v => by rw [hA]; intro e; cases e)
    refine ⟨0, false, ?_, by rw [hn]; rfl, fun m h => by rw [hn] at h; cases h⟩
    simp [gd]
  | range =>
    have hn := hno (fun v => by rw [hA]; intro e; cases e)
    refine ⟨Lib.atoiSat s, false, ?_, by rw [hn]; rfl, fun m h => by rw [hn] at h; cases h⟩
    simp [gd]
theorem ZeT : ∀ (k u : Nat), u < 10 ^ (k + 1) → Lib.nDigits u ≤ k + 1
  | 0, u, h => by rw [Lib.nDigits_small (by simpa using h)]; omega
  | k + 1, u, h => by
    by_cases hu : u < 10
    · rw [Lib.nDigits_small hu]; omega
    · rw [Lib.nDigits_big hu]
      have := ZeT k (u / 10) (by rw [Nat.pow_succ] at h; omega)
      omega
theorem Zan {v : Int} {k : Nat} (h : v.natAbs < 10 ^ (k + 1)) : (Lib.itoa v).length ≤ k + 2 ∧ (Xq (Lib.itoa v)).length ≤ k + 1 := by
  by_cases hv : 0 ≤ v
  · obtain ⟨u, rfl⟩ := Int.eq_ofNat_of_zero_le hv
    rw [Lib.itoa_nonneg]
    have := ZeT k u (by simpa using h)
    have hl := Lib.decDigits_length u
    refine ⟨by omega, ?_⟩
    unfold Xq
    split
    · rw [List.length_tail]; omega
    · omega
  · obtain ⟨u, rfl⟩ : ∃ u : Nat, v = -(u : Int) := ⟨v.natAbs, by omega⟩
    rw [Lib.itoa_neg u (by omega)]
    have := ZeT k u (by simpa using h)
    have hl := Lib.decDigits_length u
    refine ⟨by simp; omega, ?_⟩
    unfold Xq
    rw [if_pos (show Xy (45 :: Lib.decDigits u) = true from rfl), List.tail_cons]
    omega
theorem Jk {v : Int} (h : v.natAbs < 10 ^ 18) : Zr (Lib.itoa v) = some (v, true) := by
  obtain ⟨h1, h2⟩ := Zan (k := 17) h
  have hn := Zc4 v h2
  obtain ⟨n, b, e, hb, hm⟩ := Jd (Lib.itoa v) (by omega)
  rw [e, hb, hn, hm v hn]; rfl
theorem JK {c : UInt8} (hc : ¬ (48 ≤ c.toNat ∧ c.toNat ≤ 57)) (h45 : c ≠ 45) (v : Int) : c ∉ Lib.itoa v := by
  have hd : ∀ u, c ∉ Lib.decDigits u := fun u hm => by
    have h1 := Zdf u
    obtain ⟨k, hk⟩ := List.getElem?_of_mem hm
    obtain ⟨d, hd⟩ := Lib.digit_of_decFrom _ _ _ h1 k c hk
    have := Zeo c hd
    omega
  unfold Lib.itoa
  split
  · intro h
    rcases List.mem_cons.1 h with h | h
    · exact h45 h
    · exact hd _ h
  · exact hd _
theorem ZfT {c : UInt8} (hc : ¬ (48 ≤ c.toNat ∧ c.toNat ≤ 57)) (h45 : c ≠ 45) {s : Str} (h : c ∈ s) : num s = none := by
  cases hn : num s with
  | none => rfl
  | some m =>
    have := (Zay hn).2.1
    rw [← this] at h
    exact absurd h (JK hc h45 m)
end Go.Vx

namespace Go.Vx
open Go Go.RowKit
def spA (c : UInt8) : Str → Str → List Str
  | cur, [] => [cur]
  | cur, b :: r => if b = c then cur :: spA c [] r else spA c (cur ++ [b]) r
theorem Zdt (c : UInt8) (cur : Str) : spA c cur [] = [cur] := by rw [spA]
theorem XX (c : UInt8) (cur : Str) (b : UInt8) (r : Str) : spA c cur (b :: r) = if b = c then cur :: spA c [] r else spA c (cur ++ [b]) r := by rw [spA]
theorem ZdM {c : UInt8} : ∀ (s cur : Str), spA c cur s ≠ []
  | [], _ => by simp [spA]
  | b :: r, cur => by
    rw [XX]
    split
    · simp
    · exact ZdM r _
theorem Zdo {c : UInt8} : ∀ (s cur : Str), (spA c cur s).length ≤ s.length + 1
  | [], _ => by simp [spA]
  | b :: r, cur => by
    rw [XX]
    split
    · have := Zdo (c := c) r []
      simp; omega
    · have := Zdo (c := c) r (cur ++ [b])
      simp; omega
theorem ZbF {c : UInt8} : ∀ (s cur : Str), c ∉ s → spA c cur s = [cur ++ s]
  | [], cur, _ => by simp [spA]
  | b :: r, cur, h => by
    have h1 : b ≠ c := fun e => h (by rw [e]; exact List.mem_cons_self)
    rw [XX, if_neg h1, ZbF r _ (fun hm => h (List.mem_cons_of_mem _ hm))]
    simp
theorem Zal {c : UInt8} (r : Str) : ∀ (h cur : Str), c ∉ h → spA c cur (h ++ c :: r) = (cur ++ h) :: spA c [] r
  | [], cur, _ => by rw [List.nil_append, XX, if_pos rfl, List.append_nil]
  | b :: h, cur, hn => by
    have h1 : b ≠ c := fun e => hn (by rw [e]; exact List.mem_cons_self)
    rw [List.cons_append, XX, if_neg h1, Zal r h _ (fun hm => hn (List.mem_cons_of_mem _ hm))]
    simp
theorem ZgF {b c : UInt8} {l : Str} (h : b ≠ c) : Lib.index (b :: l) [c] = if Lib.index l [c] == -1 then -1 else Lib.index l [c] + 1 := by
  have hp : ([c] : List UInt8).isPrefixOf (b :: l) = false := by simp [List.isPrefixOf, Ne.symm h]
  rw [Lib.index, hp]; simp
theorem ZgE {c : UInt8} {l : Str} : Lib.index (c :: l) [c] = 0 := by rw [Lib.index]; simp [List.isPrefixOf]
theorem JE (c : UInt8) : ∀ s : Str, (Lib.index s [c] = -1 ∧ c ∉ s) ∨ ∃ j : Nat, Lib.index s [c] = j ∧ j < s.length ∧ c ∉ s.take j ∧ s = s.take j ++ c :: s.drop (j + 1)
  | [] => .inl ⟨by rw [Lib.index]; rfl, by simp⟩
  | b :: l => by
    by_cases h : b = c
    · subst h
      exact .inr ⟨0, ZgE, by simp, by simp, by simp⟩
    · rw [ZgF h]
      rcases JE c l with ⟨h1, h2⟩ | ⟨j, h1, h2, h3, h4⟩
      · left
        rw [h1]
        exact ⟨rfl, fun hm => (List.mem_cons.1 hm).elim (fun e => h e.symm) h2⟩
      · right
        refine ⟨j + 1, ?_, by simp; omega, ?_, ?_⟩
        · rw [h1, if_neg (by simp)]; push_cast; rfl
        · rw [List.take_succ_cons]
          exact fun hm => (List.mem_cons.1 hm).elim (fun e => h e.symm) h3
        · rw [List.take_succ_cons, List.drop_succ_cons, List.cons_append, ← h4]
theorem Zb2 (c : UInt8) (s : Str) : (Lib.cut s [c] = (s, [], false) ∧ c ∉ s) ∨ ∃ h r : Str, Lib.cut s [c] = (h, r, true) ∧ c ∉ h ∧ s = h ++ c :: r := by
  unfold Lib.cut
  rcases JE c s with ⟨h1, h2⟩ | ⟨j, h1, h2, h3, h4⟩
  · left; rw [h1]; exact ⟨rfl, h2⟩
  · right
    rw [h1, if_pos (by omega)]
    refine ⟨_, _, rfl, ?_, ?_⟩
    · rw [Int.toNat_natCast]; exact h3
    · rw [Int.toNat_natCast]; exact h4
theorem Zfo (c : UInt8) : ∀ (n : Nat) (s : Str), s.length = n → Lib.split s [c] = spA c [] s := by
  intro n
  induction n using Nat.strongRecOn with
  | _ n ih =>
    intro s hs
    unfold Lib.split
    rcases JE c s with ⟨h1, h2⟩ | ⟨j, h1, h2, h3, h4⟩
    · rw [Lib.count_miss h1, ZbF s [] h2]; rfl
    · rw [Lib.count_hit (by simp) h1, Nat.add_comm, Lib.splitK]
      rw [if_neg (by rw [h1]; simp), h1, Int.toNat_natCast]
      have e : spA c [] s = s.take j :: spA c [] (s.drop (j + 1)) := by
        conv => lhs; rw [h4]
        rw [Zal _ _ _ h3]; rfl
      rw [e, ← ih (s.drop (j + 1)).length (by simp; omega) _ rfl]
      simp [Lib.split]
theorem ZdN {s : Str} {f k : Nat} {b : UInt8} (hf : f ≤ k) (hb : s[k]? = some b) : (s.take (k + 1)).drop f = (s.take k).drop f ++ [b] := by
  rw [List.take_succ, hb, List.drop_append_of_le_length (by have := (List.getElem?_eq_some_iff.1 hb).1; simp; omega)]
  rfl
theorem Za6 {s : Str} {f k : Nat} (h1 : f ≤ k) (h2 : k ≤ s.length) : slc s (f : Int) (k : Int) = some ((s.take k).drop f) := by
  unfold slc
  rw [if_pos (by omega)]
  simp
theorem ZdL (s : Str) (hl : s.length ≤ 1000000) : QY s = some (spA 32 [] s) := by
  unfold QY
  obtain ⟨r, h1, h2⟩ := JC (body := t3 (Xj s))
    (fun p => ∃ f k : Nat, p.2.1 = (f : Int) ∧ p.2.2 = (k : Int) ∧ f ≤ k ∧ k ≤ s.length + 1 ∧ p.1.length ≤ k ∧ (k ≤ s.length → p.1 ++ spA 32 ((s.take k).drop f) (s.drop k) = spA 32 [] s) ∧ (k = s.length + 1 → p.1 = spA 32 [] s))
    (fun p => s.length + 1 - p.2.2.toNat) (fun r => r = spA 32 [] s) (by
      rintro ⟨out, a, i⟩ ⟨f, k, ha, hi, hfk, hk, ho, hA, hB⟩
      simp only at ha hi ho hA hB
      subst ha hi
      simp only [ZaQ, Xj]
      have w : i64 ((k : Int) + 1) = (k : Int) + 1 := ZG (by omega) (by omega)
      rcases Nat.lt_or_ge k s.length with h | h
      · obtain ⟨b, hb⟩ := Xb h
        have e1 : decide ((k : Int) ≤ (s.length : Int)) = true := by simp; omega
        have e2 : decide ((k : Int) = (s.length : Int)) = false := by simp; omega
        have hc : decide ((b.toNat : Int) = 32) = decide (b = 32) := by
          rw [decide_eq_decide]
          constructor
          · intro h; exact UInt8.toNat_inj.1 (by simp; omega)
          · rintro rfl; rfl
        have hA := hA (by omega)
        rw [Q2 hb, XX] at hA
        left
        simp only [e1, if_true, e2, Zaz hb, Zbm, Bool.false_or, Option.bind_some]
        rw [show gd (false == false) (0 : Int) (some (b.toNat : Int)) = some (b.toNat : Int) from rfl, Option.bind_some, hc]
        by_cases hb32 : b = 32
        · rw [if_pos hb32] at hA
          rw [if_pos (by simpa using hb32), Za6 hfk (by omega), Option.bind_some, Qz (by simp; omega), Option.bind_some, w]
          refine ⟨_, rfl, ⟨k + 1, k + 1, by push_cast; rfl, by push_cast; rfl, Nat.le_refl _, by omega, by simp; omega, fun h' => ?_, fun h' => absurd h' (by omega)⟩, by simp only; omega⟩
          rw [← hA]
          simp
        · rw [if_neg hb32] at hA
          rw [if_neg (by simpa using hb32), w]
          refine ⟨_, rfl, ⟨f, k + 1, rfl, by push_cast; rfl, by omega, by omega, by simp only; omega, fun h' => ?_, fun h' => absurd h' (by omega)⟩, by simp only; omega⟩
          rw [ZdN hfk hb]
          exact hA
      · rcases Nat.lt_or_ge s.length k with h' | h'
        · have : k = s.length + 1 := by omega
          right
          rw [if_neg (by simp; omega)]
          exact ⟨_, rfl, hB this⟩
        · have : k = s.length := by omega
          subst this
          left
          have hA := hA (Nat.le_refl _)
          rw [List.drop_length, Zdt] at hA
          simp only [Int.le_refl, decide_true, if_true]
          rw [show gd (true == false) (0 : Int) (JR s (s.length : Int)) = some 0 from rfl, Option.bind_some, Bool.true_or, if_pos rfl, Za6 hfk (Nat.le_refl _), Option.bind_some, Qz (by simp; omega), Option.bind_some, w]
          refine ⟨_, rfl, ⟨s.length + 1, s.length + 1, by push_cast; rfl, by push_cast; rfl, Nat.le_refl _, by omega, by simp; omega, fun h' => absurd h' (by omega), fun _ => ?_⟩, by simp only; omega⟩
          exact hA)
    ([], 0, 0) ⟨0, 0, rfl, rfl, Nat.le_refl _, by omega, by simp, fun _ => by simp, fun h => absurd h (by omega)⟩
  rw [h1, Option.bind_some, h2]
  rfl
def lns (s : Str) : List Str × Bool := if (spA 10 [] s).getLast? = some [] then ((spA 10 [] s).dropLast, true) else (spA 10 [] s, false)
theorem Zfh (s : Str) (hl : s.length ≤ 1000000) : XS s = some (lns s) := by
  unfold XS
  obtain ⟨r, h1, h2, h3, h4⟩ := JC (body := t3 (Xk s))
    (fun p => ∃ f k : Nat, p.2.1 = (f : Int) ∧ p.2.2 = (k : Int) ∧ f ≤ k ∧ k ≤ s.length ∧ p.1.length ≤ k ∧ p.1 ++ spA 10 ((s.take k).drop f) (s.drop k) = spA 10 [] s)
    (fun p => s.length - p.2.2.toNat) (fun r => r.1.length ≤ s.length ∧ (∃ f : Nat, r.2 = (f : Int) ∧ f ≤ s.length ∧ r.1 ++ [s.drop f] = spA 10 [] s) ∧ True) (by
      rintro ⟨out, a, i⟩ ⟨f, k, ha, hi, hfk, hk, ho, hA⟩
      simp only at ha hi ho hA
      subst ha hi
      simp only [ZaQ, Xk]
      have w : i64 ((k : Int) + 1) = (k : Int) + 1 := ZG (by omega) (by omega)
      rcases Nat.lt_or_ge k s.length with h | h
      · obtain ⟨b, hb⟩ := Xb h
        have hc : decide ((b.toNat : Int) = 10) = decide (b = 10) := by
          rw [decide_eq_decide]
          constructor
          · intro h; exact UInt8.toNat_inj.1 (by simp; omega)
          · rintro rfl; rfl
        rw [Q2 hb, XX] at hA
        left
        simp only [ZaZ hb, decide_true, if_true, Zaz hb, Option.bind_some, hc]
        by_cases hb10 : b = 10
        · rw [if_pos hb10] at hA
          rw [if_pos (by simpa using hb10), Za6 hfk (by omega), Option.bind_some, Qz (by simp; omega), Option.bind_some, w]
          refine ⟨_, rfl, ⟨k + 1, k + 1, by push_cast; rfl, by push_cast; rfl, Nat.le_refl _, by omega, by simp; omega, ?_⟩, by simp only; omega⟩
          rw [← hA]
          simp
        · rw [if_neg hb10] at hA
          rw [if_neg (by simpa using hb10), w]
          refine ⟨_, rfl, ⟨f, k + 1, rfl, by push_cast; rfl, by omega, by omega, by simp only; omega, ?_⟩, by simp only; omega⟩
          rw [ZdN hfk hb]
          exact hA
      · have : k = s.length := by omega
        subst this
        right
        rw [if_neg (by simp)]
        refine ⟨_, rfl, ho, ⟨f, rfl, hfk, ?_⟩, trivial⟩
        rw [List.drop_length, Zdt] at hA
        rw [List.take_length] at hA
        exact hA)
    ([], 0, 0) ⟨0, 0, rfl, rfl, Nat.le_refl _, by omega, by simp, by simp⟩
  obtain ⟨f, hf, hfl, hE⟩ := h3
  obtain ⟨out, a⟩ := r
  simp only at h2 hf hE
  subst hf
  rw [h1, Option.bind_some]
  simp only [Zah]
  unfold lns
  rw [← hE]
  simp only [List.getLast?_append, List.getLast?_singleton, Option.some_or, List.dropLast_concat, Option.some.injEq]
  by_cases h : f < s.length
  · have e : ¬ s.drop f = [] := fun e => by have := congrArg List.length e; simp at this; omega
    rw [if_pos (by simpa using h), if_neg e, Za6 hfl (Nat.le_refl _), Option.bind_some, Qz (by simp; omega), Option.bind_some, List.take_length]
  · have e : s.drop f = [] := List.drop_eq_nil_of_le (by omega)
    rw [if_neg (by simpa using h), if_pos e]
theorem Zag : lns [] = ([], true) := by simp [lns, spA]
theorem ZdB {s : Str} (h : (10 : UInt8) ∉ s) (h0 : s ≠ []) : lns s = ([s], false) := by
  unfold lns
  rw [ZbF s [] h]
  simp [h0]
theorem Zao {h r : Str} (hn : (10 : UInt8) ∉ h) : lns (h ++ 10 :: r) = (h :: (lns r).1, (lns r).2) := by
  unfold lns
  rw [Zal r h [] hn]
  have hne := ZdM (c := 10) r []
  generalize spA 10 [] r = L at hne
  cases L with
  | nil => exact absurd rfl hne
  | cons a l =>
    simp only [List.nil_append, List.getLast?_cons_cons, List.dropLast_cons_cons]
    split <;> rfl
theorem Zfg (s : Str) : (lns s).1.length ≤ s.length + 1 := by
  have := Zdo (c := 10) s []
  unfold lns
  split
  · simp; omega
  · exact this
theorem Zb5 {s : Str} (h : (lns s).1 = []) : s = [] := by
  rcases Zb2 10 s with ⟨_, h2⟩ | ⟨a, r, _, h2, h3⟩
  · cases s with
    | nil => rfl
    | cons b l => rw [ZdB h2 (by simp)] at h; cases h
  · rw [h3, Zao h2] at h; cases h
end Go.Vx

namespace Go.Vx
open Go Go.RowKit
theorem Zca {c : UInt8} {x : Str} : ∀ (s cur : Str), x ∈ spA c cur s → x.length ≤ cur.length + s.length
  | [], cur, h => by rw [Zdt] at h; simp at h; subst h; simp
  | b :: r, cur, h => by
    rw [XX] at h
    split at h
    · rcases List.mem_cons.1 h with rfl | h
      · simp
      · have := Zca r [] h
        simp at this ⊢; omega
    · have := Zca r _ h
      simp at this ⊢; omega
theorem ZdO (h : Str) (hl : h.length ≤ 1000000) : ZaE h [32] = some (spA 32 [] h) := by
  unfold ZaE
  rw [if_pos ⟨by omega, by simp⟩, Zfo 32 _ h rfl]
theorem Zfj {ρ : Type} {body : Int → Option (Int ⊕ ρ)} (m : Int → Prop) [DecidablePred m] (G : Int → Option ρ) (z : ρ)
    (h : ∀ i : Int, 0 ≤ i → i < 5 → body i = if m i then (G i).map .inr else some (.inl (i + 1))) (h5 : body 5 = some (.inr z)) :
    loop (t1 body) 0 = if m 0 then G 0 else if m 1 then G 1 else if m 2 then G 2 else if m 3 then G 3 else if m 4 then G 4 else some z := by
  have step : ∀ i : Int, 0 ≤ i → i < 5 → loop (t1 body) i = if m i then G i else loop (t1 body) (i + 1) := fun i h0 h1 => by
    rw [JI, Zav, h i h0 h1]
    split
    · cases G i <;> rfl
    · rfl
  have e5 : loop (t1 body) 5 = some z := by rw [JI, Zav, h5]; rfl
  rw [step 0 (by omega) (by omega), step (0 + 1) (by omega) (by omega), step (0 + 1 + 1) (by omega) (by omega), step (0 + 1 + 1 + 1) (by omega) (by omega), step (0 + 1 + 1 + 1 + 1) (by omega) (by omega)]
  simp only [Int.zero_add, Int.reduceAdd, e5]
def mW (i : Int) : Str := (Za4 gv_series_markWords i).getD []
theorem ZdS {i : Int} (h0 : 0 ≤ i) (h5 : i < 5) : Za4 gv_series_markWords i = some (mW i) := by
  have : i = 0 ∨ i = 1 ∨ i = 2 ∨ i = 3 ∨ i = 4 := by omega
  rcases this with rfl | rfl | rfl | rfl | rfl <;> rfl
theorem Zem {i : Int} (h0 : 0 ≤ i) (h5 : i < 5) : (QZ).bind (fun y3 => Za4 y3 i) = some (mW i) := by
  have : i = 0 ∨ i = 1 ∨ i = 2 ∨ i = 3 ∨ i = 4 := by omega
  rcases this with rfl | rfl | rfl | rfl | rfl <;> rfl
def Zbt (w : Str) : Int := if mW 0 = w then 0 else if mW 1 = w then 1 else if mW 2 = w then 2 else if mW 3 = w then 3 else if mW 4 = w then 4 else -1
noncomputable def Zd5 (y : List Str) (n : Int) (i : Int) : Option ((api_Sample × Bool) ⊕ Unit) :=
  if (decide (i < 2)) = true then some (.inl ((api_Sample.mk n 0 i), (decide ((y.length : Int) = 2))))
  else if (!decide ((y.length : Int) = 3)) = true then some (.inl ((api_Sample.mk n 0 i), false))
  else (idx y 2).bind fun x4 => (Zr x4).bind fun y3 => some (.inl ((api_Sample.mk n y3.1 i), y3.2))
theorem Zcm {y : List Str} {y2 : Int × Bool} {w1 : Str} (h : idx y 1 = some w1) : loop (t1 (ZH y y2)) 0 = if Zbt w1 = -1 then some (.inr ()) else Zd5 y y2.1 (Zbt w1) := by
  rw [Zfj (fun i => mW i = w1) (fun i => Zd5 y y2.1 i) (.inr ()) (fun i h0 h5 => ?_) (by simp [ZH])]
  · unfold Zbt
    repeat' split
    all_goals first | rfl | omega
  · unfold ZH
    rw [if_pos (by simpa using h5), ZdS h0 h5, Option.bind_some, h, Option.bind_some, show i64 (i + 1) = i + 1 from ZG (by omega) (by omega)]
    by_cases e : mW i = w1
    · rw [if_neg (by simp [e]), if_pos e]
      unfold Zd5
      split
      · rfl
      · split
        · rfl
        · cases idx y 2 with
          | none => rfl
          | some x4 => cases h4 : Zr x4 <;> simp [h4]
    · rw [if_pos (by simp [e]), if_neg e]
theorem Zfq {y : List Str} {w1 : Str} (h : idx y 1 = some w1) : loop (t2 (Zz y)) (-1, 0) = some (Zbt w1) := by
  have step : ∀ (a i : Int), 0 ≤ i → i < 5 → loop (t2 (Zz y)) (a, i) = loop (t2 (Zz y)) (if mW i = w1 then i else a, i + 1) := fun a i h0 h5 => by
    rw [JI, Zah]
    have hr := Zem h0 h5
    have hb : Zz y a i = some (.inl (if mW i = w1 then i else a, i + 1)) := by
      unfold Zz
      rw [if_pos (by simpa using h5)]
      cases hm : QZ with
      | none => rw [hm] at hr; cases hr
      | some v =>
        rw [hm, Option.bind_some] at hr
        rw [Option.bind_some, hr, Option.bind_some, h, Option.bind_some, show i64 (i + 1) = i + 1 from ZG (by omega) (by omega)]
        by_cases e : mW i = w1
        · simp [e]
        · simp [e]
    rw [hb]; rfl
  have e5 : ∀ a : Int, loop (t2 (Zz y)) (a, 5) = some a := fun a => by
    rw [JI, Zah]
    simp [Zz]
  rw [step _ 0 (by omega) (by omega), step _ (0 + 1) (by omega) (by omega), step _ (0 + 1 + 1) (by omega) (by omega), step _ (0 + 1 + 1 + 1) (by omega) (by omega), step _ (0 + 1 + 1 + 1 + 1) (by omega) (by omega)]
  simp only [Int.zero_add, Int.reduceAdd, e5]
  unfold Zbt
  by_cases h0 : mW 0 = w1
  · subst h0
    simp [show mW 4 ≠ mW 0 by decide, show mW 3 ≠ mW 0 by decide, show mW 2 ≠ mW 0 by decide, show mW 1 ≠ mW 0 by decide]
  by_cases h1 : mW 1 = w1
  · subst h1
    simp [h0, show mW 4 ≠ mW 1 by decide, show mW 3 ≠ mW 1 by decide, show mW 2 ≠ mW 1 by decide]
  by_cases h2 : mW 2 = w1
  · subst h2
    simp [h0, h1, show mW 4 ≠ mW 2 by decide, show mW 3 ≠ mW 2 by decide]
  by_cases h3 : mW 3 = w1
  · subst h3
    simp [h0, h1, h2, show mW 4 ≠ mW 3 by decide]
  by_cases h4 : mW 4 = w1
  · subst h4
    simp [h0, h1, h2, h3]
  · simp [h0, h1, h2, h3, h4]
theorem Zdd (w : Str) : -1 ≤ Zbt w ∧ Zbt w < 5 := by
  unfold Zbt
  repeat' split
  all_goals omega
theorem Zcq {s : Str} {m : Int} (h : num s = some m) : ZY s 18 = some (m, true) := by rw [ZcI, h]
theorem Zbv {s : Str} (h : num s = none) : ZY s 18 = some (0, false) := by rw [ZcI, h]
theorem ZcR (h : Str) (hl : h.length ≤ 1000000) : ∃ (x x' : api_Sample) (b : Bool), ZC h = some (x, b) ∧ QQ h = some (x', b) ∧ (b = true → x = x') := by
  unfold ZC QQ
  rw [ZdO h hl, ZdL h hl]
  simp only [Option.bind_some]
  have hW : ∀ x ∈ spA 32 [] h, x.length ≤ ([] : Str).length + h.length := fun x hx => Zca (c := 32) h [] hx
  have hne := ZdM (c := 32) h []
  generalize spA 32 [] h = W at hW hne ⊢
  have hlen : ∀ x ∈ W, x.length ≤ 281474976710656 := fun x hx => by have := hW x hx; simp at this; omega
  cases W with
  | nil => exact absurd rfl hne
  | cons a W =>
    have i0 : idx (a :: W) 0 = some a := Z1 (k := 0) rfl
    obtain ⟨n1, b1, e1, hb1, hm1⟩ := Jd a (hlen a List.mem_cons_self)
    rw [i0]
    simp only [Option.bind_some, e1]
    cases W with
    | nil => exact ⟨⟨0, 0, 0⟩, ⟨0, 0, 0⟩, false, by simp, by simp, fun h => by cases h⟩
    | cons w1 R =>
      have hn2 : ¬ (((a :: w1 :: R).length : Nat) : Int) < 2 := by simp; omega
      have i1 : idx (a :: w1 :: R) 1 = some w1 := Z1 (k := 1) rfl
      have hso := Zfq i1
      have hrs := Zcm (y2 := (n1, b1)) i1
      simp only [hn2, decide_false, Bool.or_false, Bool.false_eq_true, if_false]
      rw [hso]
      cases hna : num a with
      | none =>
        rw [hna] at hb1
        subst hb1
        rw [Zbv hna]
        refine ⟨⟨0, 0, 0⟩, ⟨0, 0, 0⟩, false, by simp, ?_, fun h => by cases h⟩
        simp
      | some m =>
        rw [hna] at hb1
        subst hb1
        have := hm1 m hna
        subst this
        rw [Zcq hna]
        simp only [Option.isSome_some, Bool.not_true, Bool.false_or, Option.bind_some, Zav, Bool.false_eq_true, if_false]
        rw [show loop (t1 (ZH (a :: w1 :: R) (n1, true))) 0 = _ from hrs]
        obtain ⟨r1, r2⟩ := Zdd w1
        generalize Zbt w1 = mk at r1 r2 ⊢
        by_cases hm : mk = -1
        · subst hm
          exact ⟨⟨0, 0, 0⟩, ⟨0, 0, 0⟩, false, by simp, by simp, fun h => by cases h⟩
        · rw [if_neg hm]
          have hmk : ¬ mk < 0 := by omega
          simp only [hmk, decide_false, Bool.false_eq_true, if_false, ZX, Option.bind_some]
          unfold Zd5
          by_cases h2 : mk < 2
          · have h2' : ¬ 2 ≤ mk := by omega
            refine ⟨⟨n1, 0, mk⟩, ⟨n1, 0, mk⟩, decide ((((a :: w1 :: R).length : Nat) : Int) = 2), ?_, ?_, fun _ => rfl⟩
            · simp [h2]
            · simp [h2']
          · have h2' : 2 ≤ mk := by omega
            simp only [h2, h2', decide_false, decide_true, Bool.not_true, Bool.false_eq_true, if_false]
            cases R with
            | nil =>
              refine ⟨⟨n1, 0, mk⟩, ⟨0, 0, 0⟩, false, by simp, by simp, fun h => by cases h⟩
            | cons w2 R =>
              cases R with
              | cons w3 R =>
                have h3 : ¬ ((((a :: w1 :: w2 :: w3 :: R).length : Nat) : Int) = 3) := by simp; omega
                refine ⟨⟨n1, 0, mk⟩, ⟨0, 0, 0⟩, false, ?_, ?_, fun h => by cases h⟩
                · simp only [h3, decide_false, Bool.not_false, if_true]; rfl
                · simp only [h3, decide_false, Bool.not_false, if_true]
              | nil =>
                have i2 : idx [a, w1, w2] 2 = some w2 := Z1 (k := 2) rfl
                obtain ⟨n2, b2, e2, hb2, hm2⟩ := Jd w2 (hlen w2 (by simp))
                simp only [List.length_cons, List.length_nil, i2, Option.bind_some, e2]
                cases hnw : num w2 with
                | none =>
                  rw [hnw] at hb2
                  subst hb2
                  rw [Zbv hnw]
                  exact ⟨⟨n1, n2, mk⟩, ⟨n1, 0, mk⟩, false, by simp, by simp, fun h => by cases h⟩
                | some m2 =>
                  rw [hnw] at hb2
                  subst hb2
                  have := hm2 m2 hnw
                  subst this
                  rw [Zcq hnw]
                  exact ⟨⟨n1, n2, mk⟩, ⟨n1, n2, mk⟩, true, by simp, by simp, fun _ => rfl⟩
end Go.Vx

namespace Go.Vx
open Go Go.RowKit
abbrev hdP : Str := [115, 101, 114, 105, 101, 115, 32]
abbrev hdS : Str := [115, 101, 114, 105, 101, 115]
theorem ZcL (h : Str) (hl : h.length ≤ 1000000) : ZD h hdP = some (if h.take 7 = hdP then (h.drop 7, true) else (h, false)) := by
  have hp : Zp h hdP = some (decide (h.take 7 = hdP)) := by
    unfold Zp
    by_cases h7 : 7 ≤ h.length
    · have e : decide (((hdP : Str).length : Int) ≤ (h.length : Int)) = true := by simp [hdP]; omega
      have hs : slc h 0 ((hdP : Str).length : Int) = some (h.take 7) := by
        unfold slc
        rw [if_pos (by simp [hdP]; omega)]
        simp [hdP]
      rw [e, hs]
      simp [gd]
    · have e : decide (((hdP : Str).length : Int) ≤ (h.length : Int)) = false := by simp [hdP]; omega
      have e2 : ¬ h.take 7 = hdP := fun e => by have := congrArg List.length e; simp [hdP] at this; omega
      rw [e]
      simp [gd, e2]
  unfold ZD ZA
  rw [hp, Option.bind_some]
  by_cases h7 : h.take 7 = hdP
  · have hlen : 7 ≤ h.length := by have := congrArg List.length h7; simp [hdP] at this; omega
    have hs : slc h ((hdP : Str).length : Int) (h.length : Int) = some (h.drop 7) := by
      unfold slc
      rw [if_pos (by simp [hdP]; omega)]
      simp [hdP]
    simp only [h7, decide_true, Bool.not_true, Bool.false_eq_true, if_false, hs, Option.bind_some, if_true]
  · simp [h7]
noncomputable def Zcu (h : Str) (D : Int) : Option (Int × Bool) :=
  (QY h).bind fun y2 =>
  (gd ((decide ((y2.length : Int) = 2)) == true) [] (idx y2 0)).bind fun x2 =>
  ((if ((decide ((y2.length : Int) = 2)) && (decide (x2 = [115, 101, 114, 105, 101, 115]))) = true then
  (idx y2 1).bind fun x3 =>
  (ZY x3 18).bind fun y3 =>
  some (y3.1, y3.2)
  else
  some (D, ((decide ((y2.length : Int) = 2)) && (decide (x2 = [115, 101, 114, 105, 101, 115]))))) : Option ((Int × Bool)))
theorem ZfO {c : UInt8} {s : Str} (h : c ∈ s) : 2 ≤ (spA c [] s).length := by
  rcases JE c s with ⟨_, h2⟩ | ⟨j, _, _, h3, h4⟩
  · exact absurd h h2
  · rw [h4, Zal _ _ _ h3]
    have := ZdM (c := c) (s.drop (j + 1)) []
    cases hd : spA c [] (s.drop (j + 1)) with
    | nil => exact absurd hd this
    | cons a l => simp
theorem Zc2 (h : Str) (hl : h.length ≤ 1000000) (D : Int) : ∃ (d : Str) (is : Bool) (n : Int) (r : Bool) (n' : Int),
    ZD h hdP = some (d, is) ∧ Zr d = some (n, r) ∧ Zcu h D = some (n', is && r) ∧ ((is && r) = true → n = n') := by
  rw [ZcL h hl]
  unfold Zcu
  rw [ZdL h hl, Option.bind_some]
  by_cases h7 : h.take 7 = hdP
  · rw [if_pos h7]
    have hh : h = hdS ++ 32 :: h.drop 7 := by
      conv => lhs; rw [← List.take_append_drop 7 h, h7]
      rfl
    generalize h.drop 7 = d at hh
    have hdl : d.length ≤ 1000000 := by have := congrArg List.length hh; simp at this; omega
    have hW : spA 32 [] h = hdS :: spA 32 [] d := by rw [hh, Zal _ _ _ (by decide)]; rfl
    rw [hW]
    obtain ⟨n, b, e, hb, hm⟩ := Jd d (by omega)
    by_cases h32 : (32 : UInt8) ∈ d
    · have hn : num d = none := ZfT (by decide) (by decide) h32
      have h2 := ZfO h32
      have hne : ¬ (((hdS :: spA 32 [] d).length : Nat) : Int) = 2 := by simp only [List.length_cons]; omega
      rw [hn] at hb
      subst hb
      refine ⟨d, true, n, false, D, rfl, e, ?_, fun h => by cases h⟩
      simp only [hne, decide_false, Bool.false_and, Bool.false_eq_true, if_false]
      rfl
    · rw [ZbF d [] h32]
      have i0 : idx ([hdS, [] ++ d] : List Str) 0 = some hdS := Z1 (k := 0) rfl
      have i1 : idx ([hdS, [] ++ d] : List Str) 1 = some d := Z1 (k := 1) rfl
      cases hnd : num d with
      | none =>
        rw [hnd] at hb
        subst hb
        refine ⟨d, true, n, false, 0, rfl, e, ?_, fun h => by cases h⟩
        simp only [i0, i1, Option.bind_some, Zbv hnd]
        rfl
      | some m =>
        rw [hnd] at hb
        subst hb
        refine ⟨d, true, n, true, m, rfl, e, ?_, fun _ => hm m hnd⟩
        simp only [i0, i1, Option.bind_some, Zcq hnd]
        rfl
  · rw [if_neg h7]
    obtain ⟨n, b, e, hb, hm⟩ := Jd h (by omega)
    refine ⟨h, false, n, b, D, rfl, e, ?_, fun h => by cases h⟩
    rcases JE 32 h with ⟨_, h2⟩ | ⟨j, _, hj, h3, h4⟩
    · rw [ZbF h [] h2]
      rfl
    · have hS : h.take j ≠ hdS := fun e => by
        apply h7
        rw [e] at h4
        rw [h4]
        rfl
      have hW : spA 32 [] h = h.take j :: spA 32 [] (h.drop (j + 1)) := by
        conv => lhs; rw [h4]
        rw [Zal _ _ _ h3]; rfl
      rw [hW]
      have i0 : idx (h.take j :: spA 32 [] (h.drop (j + 1))) 0 = some (h.take j) := Z1 (k := 0) rfl
      rw [i0]
      by_cases hlen : (((h.take j :: spA 32 [] (h.drop (j + 1))).length : Nat) : Int) = 2
      · simp only [hlen, decide_true, Zbm, Option.bind_some, Bool.true_and]
        rw [if_neg (by simpa using hS), decide_eq_false hS]
        rfl
      · simp only [hlen, decide_false, Bool.false_and, Bool.false_eq_true, if_false]
        rfl
noncomputable def Zbb (h : Str) : Int × Bool := ((ZD h hdP).bind fun y2 => (Zr y2.1).bind fun y3 => some (y3.1, y2.2 && y3.2)).getD (0, false)
noncomputable def Zbe (h : Str) : api_Sample × Bool := (ZC h).getD (⟨0, 0, 0⟩, false)
noncomputable def Qp (e : Bool) : Int → List api_Sample → Nat → List Str → (Int × List api_Sample) ⊕ Nat
  | d, sm, _, [] => .inl (d, sm)
  | d, sm, i, h :: t => if i = 0 then (if ((e || !t.isEmpty) && (Zbb h).2) = true then Qp e (Zbb h).1 sm (i + 1) t else .inr i)
    else (if ((e || !t.isEmpty) && (Zbe h).2) = true then Qp e d (sm ++ [(Zbe h).1]) (i + 1) t else .inr i)
theorem Zcb (e : Bool) (d : Int) (sm : List api_Sample) (i : Nat) : Qp e d sm i [] = .inl (d, sm) := by rw [Qp]
theorem Zaw (e : Bool) (d : Int) (sm : List api_Sample) (i : Nat) (h : Str) (t : List Str) : Qp e d sm i (h :: t) = if i = 0 then (if ((e || !t.isEmpty) && (Zbb h).2) = true then Qp e (Zbb h).1 sm (i + 1) t else .inr i)
    else (if ((e || !t.isEmpty) && (Zbe h).2) = true then Qp e d (sm ++ [(Zbe h).1]) (i + 1) t else .inr i) := by rw [Qp]
def X5 : (Int × List api_Sample) ⊕ Nat → (api_Series × Int × Int) ⊕ (Int × List api_Sample)
  | .inl x => .inr x
  | .inr i => .inl (⟨0, []⟩, (i : Int), 6)
theorem Zcv {h : Str} {x : api_Sample} {b : Bool} (e : ZC h = some (x, b)) : Zbe h = (x, b) := by unfold Zbe; rw [e]; rfl
theorem Zct {h d : Str} {is r : Bool} {n : Int} (e1 : ZD h hdP = some (d, is)) (e2 : Zr d = some (n, r)) : Zbb h = (n, is && r) := by
  unfold Zbb; rw [e1, Option.bind_some, e2]; rfl
theorem Ze7 {s : Str} (h : s.length ≤ 1000000) : Zd4 s [10] = some (Lib.cut s [10]) := by unfold Zd4; rw [if_pos (by omega)]
theorem Zdi {text : Str} {d : Int} {sm : List api_Sample} {k : Nat} {h r : Str} {e : Bool} (hc : Lib.cut text [10] = (h, r, e)) (hh : h.length ≤ 1000000) (ht : text.length ≤ 1000000) (hsm : sm.length ≤ 1000000) (hk : k ≤ 1000000) (hgo : text ≠ [] ∨ k = 0) :
    ZQ text d sm (k : Int) = some (if k = 0 then (if (e && (Zbb h).2) = true then .inl (r, (Zbb h).1, sm, (k : Int) + 1) else .inr (.inl (⟨0, []⟩, (k : Int), 6)))
      else (if (e && (Zbe h).2) = true then .inl (r, d, sm ++ [(Zbe h).1], (k : Int) + 1) else .inr (.inl (⟨0, []⟩, (k : Int), 6)))) := by
  have w : i64 ((k : Int) + 1) = (k : Int) + 1 := ZG (by omega) (by omega)
  have hcond : (!decide (text = []) || decide ((k : Int) = 0)) = true := by
    rcases hgo with h | h
    · simp [h]
    · simp [h]
  unfold ZQ
  rw [if_pos hcond, Ze7 ht, hc, Option.bind_some]
  by_cases h0 : k = 0
  · subst h0
    obtain ⟨dd, is, n, r', _, e1, e2, _, _⟩ := Zc2 h hh 0
    have hv := Zct e1 e2
    simp only [hv]
    have w1 : i64 1 = 1 := ZG (by omega) (by omega)
    simp only [Int.natCast_zero, decide_true, if_true, e1, Option.bind_some, e2, ZaQ, Bool.and_assoc, if_true]
    cases hb : (e && (is && r')) <;> simp [hb, w1]
  · obtain ⟨x, x', b, e1, _, _⟩ := ZcR h hh
    have hv := Zcv e1
    have hk0 : ¬ (k : Int) = 0 := by omega
    simp only [hv]
    simp only [hk0, decide_false, Bool.false_eq_true, if_false, e1, Option.bind_some, ZaQ, h0]
    rw [Qz (by simp; omega)]
    simp only [Option.bind_some, ZaQ, w]
    cases hb : (e && b) <;> simp
theorem Zb3 (text : Str) (ht : text.length ≤ 1000000) : loop (t4 ZQ) (text, 0, [], 0) = some (if text = [] then X5 (.inr 0) else X5 (Qp (lns text).2 0 [] 0 (lns text).1)) := by
  refine (Zam (body := t4 ZQ)
    (fun p : Str × Int × List api_Sample × Int => ∃ k : Nat, p.2.2.2 = (k : Int) ∧ p.1.length + k ≤ 1000000 ∧ p.2.2.1.length ≤ k)
    (fun p => p.1.length)
    (fun p => if p.1 = [] then (if p.2.2.2 = 0 then X5 (.inr 0) else .inr (p.2.1, p.2.2.1)) else X5 (Qp (lns p.1).2 p.2.1 p.2.2.1 p.2.2.2.toNat (lns p.1).1)) ?_ (text, 0, [], 0) ⟨0, rfl, by simpa using ht, by simp⟩).trans ?_
  · rintro ⟨t, d, sm, i⟩ ⟨k, hi, hlen, hsm⟩
    simp only at hi hlen hsm
    subst hi
    simp only [Zgy, Int.toNat_natCast]
    by_cases h0 : t = []
    · subst h0
      right
      by_cases hk : k = 0
      · subst hk
        rw [Zdi (h := []) (r := []) (e := false) (by rfl) (by simp) (by simp) (by omega) (by omega) (.inr rfl)]
        simp [X5]
      · have hk0 : ¬ (k : Int) = 0 := by omega
        unfold ZQ
        rw [if_neg (by simp [hk])]
        simp [hk]
    · simp only [h0, if_false]
      rcases Zb2 10 t with ⟨h1, h2⟩ | ⟨h, r, h1, h2, h3⟩
      · right
        rw [Zdi h1 (by omega) (by omega) (by omega) (by omega) (.inl h0), ZdB h2 h0, Zaw]
        by_cases hk : k = 0 <;> simp [hk, X5]
      · have hl : h.length + r.length + 1 = t.length := by rw [h3]; simp; omega
        rw [Zdi h1 (by omega) (by omega) (by omega) (by omega) (.inl h0)]
        have hln : lns t = (h :: (lns r).1, (lns r).2) := by rw [h3, Zao h2]
        have hfine : ((lns r).2 || !(lns r).1.isEmpty) = true := by
          cases he : (lns r).1 with
          | cons a l => simp
          | nil => rw [Zb5 he, Zag]; rfl
        rw [hln]
        simp only [Zaw, hfine, Bool.true_and]
        by_cases hk : k = 0
        · subst hk
          simp only [if_true]
          cases hv : (Zbb h).2 with
          | false => right; simp [X5]
          | true =>
            left
            refine ⟨(r, (Zbb h).1, sm, 1), by simp, ⟨1, rfl, by simp only; omega, by simp only; omega⟩, by simp only; omega, ?_⟩
            simp only [if_true]
            by_cases hr : r = []
            · subst hr
              simp [Zag, Zcb, X5]
            · simp [hr]
        · simp only [hk, if_false]
          cases hv : (Zbe h).2 with
          | false => right; simp [X5]
          | true =>
            left
            refine ⟨(r, d, sm ++ [(Zbe h).1], (k : Int) + 1), by simp, ⟨k + 1, by push_cast; rfl, by simp only; omega, by simp; omega⟩, by simp only; omega, ?_⟩
            simp only [if_true]
            have hk1 : ¬ (k : Int) + 1 = 0 := by omega
            have hkn : ((k : Int) + 1).toNat = k + 1 := by omega
            by_cases hr : r = []
            · subst hr
              simp [Zag, Zcb, X5, hk1]
            · simp [hr, hkn]
  · simp
theorem Zel (y : List Str × Bool) (hl : y.1.length ≤ 1000001) (hm : ∀ x ∈ y.1, x.length ≤ 1000000) : loop (t3 (Qw y)) (0, [], 0) = some (X5 (Qp y.2 0 [] 0 y.1)) := by
  refine (Zam (body := t3 (Qw y))
    (fun p : Int × List api_Sample × Int => ∃ k : Nat, p.2.2 = (k : Int) ∧ k ≤ y.1.length ∧ p.2.1.length ≤ k)
    (fun p => y.1.length - p.2.2.toNat)
    (fun p => X5 (Qp y.2 p.1 p.2.1 p.2.2.toNat (y.1.drop p.2.2.toNat))) ?_ (0, [], 0) ⟨0, rfl, Nat.zero_le _, by simp⟩).trans (by simp)
  rintro ⟨d, sm, i⟩ ⟨k, hi, hk, hsm⟩
  simp only at hi hsm
  subst hi
  simp only [ZaQ, Int.toNat_natCast]
  have w : i64 ((k : Int) + 1) = (k : Int) + 1 := ZG (by omega) (by omega)
  rcases Nat.lt_or_ge k y.1.length with hlt | hge
  · obtain ⟨h, hx⟩ := Xb hlt
    have hh := hm h (List.mem_of_getElem? hx)
    rw [Q2 hx, Zaw]
    have hemp : decide ((k : Int) + 1 < (y.1.length : Int)) = !(y.1.drop (k + 1)).isEmpty := by
      rw [Bool.eq_iff_iff]
      simp only [decide_eq_true_eq, Bool.not_eq_true', List.isEmpty_eq_false_iff]
      constructor
      · intro h1 h2
        have := congrArg List.length h2
        simp at this; omega
      · intro h1
        rcases Nat.lt_or_ge (k + 1) y.1.length with h2 | h2
        · omega
        · exact absurd (List.drop_eq_nil_of_le h2) h1
    unfold Qw
    rw [if_pos (by simpa using hlt), w, hemp]
    by_cases h0 : k = 0
    · subst h0
      obtain ⟨dd, is, n, r', n', e1, e2, e3, e4⟩ := Zc2 h hh d
      have hv := Zct e1 e2
      have hr : (Zcu h d).bind (t2 fun (Den4 : Int) (is : Bool) => some (Den4, sm, ((y.2 || (!(y.1.drop (0 + 1)).isEmpty)) && is))) = some (n', sm, ((y.2 || (!(y.1.drop (0 + 1)).isEmpty)) && (is && r'))) := by rw [e3]; rfl
      unfold Zcu at hr
      simp only [Option.bind_assoc] at hr
      have hx0 : idx y.1 0 = some h := Z1 (k := 0) hx
      simp only [hv]
      simp only [Int.natCast_zero, decide_true, if_true, hx0, Option.bind_some, Option.bind_assoc, hr, ZaQ]
      cases hb : ((y.2 || !(y.1.drop (0 + 1)).isEmpty) && (is && r')) with
      | false => right; simp [hb, X5]
      | true =>
        left
        have h4 : n = n' := e4 (by simp only [Bool.and_eq_true] at hb; simp [hb.2])
        subst h4
        refine ⟨(n, sm, 1), by simp [hb], ⟨1, rfl, by omega, by simp only; omega⟩, by simp only; omega, ?_⟩
        simp [hb]
    · obtain ⟨x, x', b, e1, e2, e3⟩ := ZcR h hh
      have hv := Zcv e1
      have hk0 : ¬ (k : Int) = 0 := by omega
      simp only [hv]
      simp only [hk0, decide_false, Bool.false_eq_true, if_false, Z1 hx, e2, Option.bind_some, h0]
      rw [Qz (by simp; omega)]
      simp only [Option.bind_some, ZaQ]
      cases hb : ((y.2 || !(y.1.drop (k + 1)).isEmpty) && b) with
      | false => right; simp [X5]
      | true =>
        left
        have h4 : x = x' := e3 (by simp only [Bool.and_eq_true] at hb; exact hb.2)
        subst h4
        refine ⟨(d, sm ++ [x], (k : Int) + 1), by simp, ⟨k + 1, by push_cast; rfl, by omega, by simp; omega⟩, by simp only; omega, ?_⟩
        have hkn : ((k : Int) + 1).toNat = k + 1 := by omega
        simp only [hkn, if_true]
  · have : k = y.1.length := by omega
    subst this
    right
    unfold Qw
    rw [if_neg (by simp), List.drop_length]
    simp [Zcb, X5]
theorem Zfr (text : Str) : ∃ r : api_Series × Int × Int, Z9 text = some r ∧ XK text = some r ∧ r.1.Samples.length ≤ 1048576 := by
  unfold Z9 XK
  by_cases hl : (1000000 : Int) < (text.length : Int)
  · exact ⟨(⟨0, []⟩, 0, 3), by simp [hl], by simp [hl], by simp⟩
  · have ht : text.length ≤ 1000000 := by omega
    have hmem : ∀ x ∈ (lns text).1, x.length ≤ 1000000 := fun x hx => by
      have : x ∈ spA 10 [] text := by
        unfold lns at hx
        split at hx
        · exact List.dropLast_subset _ hx
        · exact hx
      have := Zca text [] this
      simp at this; omega
    have hlen := Zfg text
    rw [if_neg (by simpa using hl), if_neg (by simpa using hl), Zb3 text ht, Zfh text ht, Option.bind_some, Option.bind_some]
    by_cases h0 : text = []
    · subst h0
      exact ⟨(⟨0, []⟩, 0, 6), by simp [X5], by simp [Zag], by simp⟩
    · have hne : ¬ (((lns text).1.length : Nat) : Int) = 0 := fun e => h0 (Zb5 (List.eq_nil_of_length_eq_zero (by omega)))
      rw [if_neg h0, if_neg (by simpa using hne), Zel (lns text) (by omega) hmem, Option.bind_some]
      cases hq : Qp (lns text).2 0 [] 0 (lns text).1 with
      | inr i => exact ⟨(⟨0, []⟩, (i : Int), 6), by simp [X5], by simp [X5], by simp⟩
      | inl p =>
        obtain ⟨D, sm⟩ := p
        simp only [X5, Sum.elim_inr, Zah, Zco, ZdI, Option.bind_some]
        by_cases hc : (chk ⟨D, sm⟩).2 = 0
        · exact ⟨(⟨D, sm⟩, 0, 0), by simp [hc], by simp [hc], by have := (ZaB hc).len; simp only at this ⊢; omega⟩
        · exact ⟨(⟨0, []⟩, i64 ((chk ⟨D, sm⟩).1 + 1), (chk ⟨D, sm⟩).2), by simp [hc], by simp [hc], by simp⟩
end Go.Vx

namespace Go.Vx
open Go Go.RowKit
def Xz (x : api_Sample) : Str := Lib.itoa x.At ++ 32 :: (mW x.Mark ++ (if 2 ≤ x.Mark then 32 :: Lib.itoa x.N else []))
def lineOf (x : api_Sample) : Str := Xz x ++ [10]
def Zas (s : api_Series) : Str := hdP ++ Lib.itoa s.Den
def XG (s : api_Series) : Str := Zas s ++ 10 :: s.Samples.flatMap lineOf
structure SmpOK (x : api_Sample) : Prop where
  at0 : 0 ≤ x.At
  at1 : x.At ≤ 1099511627776
  n0 : -1125899906842624 ≤ x.N
  n1 : x.N ≤ 1125899906842624
  m0 : 0 ≤ x.Mark
  m1 : x.Mark ≤ 4
  nm : x.N ≠ 0 → 2 ≤ x.Mark
theorem Zbl {s : api_Series} (h : SerOK s) {x : api_Sample} (hx : x ∈ s.Samples) : SmpOK x := by
  obtain ⟨k, hk⟩ := List.getElem?_of_mem hx
  obtain ⟨h1, h2, h3, h4⟩ := h.at' k x hk
  exact ⟨h1.1, h1.2, h2.1, h2.2, h3.1, h3.2, h4⟩
theorem JJ {z : Int} (h1 : -9223372036854775808 ≤ z) (h2 : z ≤ 9223372036854775807) : itoa z = some (Lib.itoa z) := by unfold itoa; rw [if_pos ⟨h1, h2⟩]
theorem Xg {s t : Str} (h : s.length + t.length ≤ 9223372036854775807) : cat s t = some (s ++ t) := by unfold cat; rw [if_pos h]
theorem JM (a b : Str) : bytes (a ++ b) = bytes a ++ bytes b := by simp [bytes]
theorem Qj (a : Str) : (bytes a).length = a.length := by simp [bytes]
theorem Zd3 (s : Str) : ZI (bytes s) = s := by
  have := ZbU s
  unfold ofB at this
  split at this
  · exact Option.some.inj this
  · cases this
theorem Zc7 {i : Int} (h0 : 0 ≤ i) (h1 : i ≤ 4) : (mW i).length ≤ 8 := by
  have : i = 0 ∨ i = 1 ∨ i = 2 ∨ i = 3 ∨ i = 4 := by omega
  rcases this with rfl | rfl | rfl | rfl | rfl <;> decide
theorem ZfG {i : Int} (h0 : 0 ≤ i) (h1 : i ≤ 4) : (32 : UInt8) ∉ mW i ∧ (10 : UInt8) ∉ mW i := by
  have : i = 0 ∨ i = 1 ∨ i = 2 ∨ i = 3 ∨ i = 4 := by omega
  rcases this with rfl | rfl | rfl | rfl | rfl <;> decide
theorem Zfl {i : Int} (h0 : 0 ≤ i) (h1 : i ≤ 4) : Zbt (mW i) = i := by
  have : i = 0 ∨ i = 1 ∨ i = 2 ∨ i = 3 ∨ i = 4 := by omega
  rcases this with rfl | rfl | rfl | rfl | rfl <;> decide
theorem Zcy {x : api_Sample} (h : SmpOK x) : (Lib.itoa x.At).length ≤ 14 := by
  have h0 := h.at0; have h1 := h.at1
  exact (Zan (k := 12) (by have : (10 : Nat) ^ (12 + 1) = 10000000000000 := (by decide); omega)).1
theorem Zdp {x : api_Sample} (h : SmpOK x) : (Lib.itoa x.N).length ≤ 17 := by
  have h0 := h.n0; have h1 := h.n1
  exact (Zan (k := 15) (by have : (10 : Nat) ^ (15 + 1) = 10000000000000000 := (by decide); omega)).1
theorem Zaf {x : api_Sample} (h : SmpOK x) : (lineOf x).length ≤ 42 := by
  have h1 := Zcy h; have h2 := Zdp h; have h3 := Zc7 h.m0 h.m1
  unfold lineOf Xz
  split
  · simp; omega
  · simp; omega
theorem Zfs {x : api_Sample} (h : SmpOK x) (s : api_Series) (buf : List Int) (k : Nat) (hk : s.Samples[k]? = some x) (hb : buf.length ≤ 2000000) (hks : k ≤ 2000000) :
    Z7 s buf (k : Int) = some (.inl (buf ++ bytes (lineOf x), (k : Int) + 1)) := by
  have h1 := Zcy h; have h2 := Zdp h; have h3 := Zc7 h.m0 h.m1
  have hA : itoa x.At = some (Lib.itoa x.At) := JJ (by have := h.at0; omega) (by have := h.at1; omega)
  have hN : itoa x.N = some (Lib.itoa x.N) := JJ (by have := h.n0; omega) (by have := h.n1; omega)
  have hM := ZdS h.m0 (by have := h.m1; omega)
  have w : i64 ((k : Int) + 1) = (k : Int) + 1 := ZG (by omega) (by omega)
  unfold Z7
  rw [if_pos (by simpa using ZaZ hk), Z1 hk, Option.bind_some, hA, Option.bind_some, hM, Option.bind_some, Xg (by simp; omega), Option.bind_some, Xg (by simp; omega), Option.bind_some,
    Qz (by simp [Qj]; omega), Option.bind_some]
  by_cases h2m : 2 ≤ x.Mark
  · rw [if_pos (by simpa using h2m), hN, Option.bind_some, Xg (by simp; omega), Option.bind_some, Qz (by simp [Qj]; omega), Option.bind_some, Qz (by simp [Qj]; omega), Option.bind_some, Option.bind_some, Zav, w]
    unfold lineOf Xz
    rw [if_pos h2m]
    have e : buf ++ bytes (Lib.itoa x.At ++ [32] ++ mW x.Mark) ++ bytes ([32] ++ Lib.itoa x.N) ++ bytes [10] = buf ++ bytes (Lib.itoa x.At ++ 32 :: (mW x.Mark ++ 32 :: Lib.itoa x.N) ++ [10]) := by simp [bytes]
    rw [e]
  · rw [if_neg (by simpa using h2m), Qz (by simp [Qj]; omega), Option.bind_some, Option.bind_some, Zav, w]
    unfold lineOf Xz
    rw [if_neg h2m]
    have e : buf ++ bytes (Lib.itoa x.At ++ [32] ++ mW x.Mark) ++ bytes [10] = buf ++ bytes (Lib.itoa x.At ++ 32 :: (mW x.Mark ++ []) ++ [10]) := by simp [bytes]
    rw [e]
theorem Zfy {x : api_Sample} (h : SmpOK x) : X9 x = some (lineOf x) := by
  have h1 := Zcy h; have h2 := Zdp h; have h3 := Zc7 h.m0 h.m1
  have hA : itoa x.At = some (Lib.itoa x.At) := JJ (by have := h.at0; omega) (by have := h.at1; omega)
  have hN : itoa x.N = some (Lib.itoa x.N) := JJ (by have := h.n0; omega) (by have := h.n1; omega)
  have hr := Zem h.m0 (by have := h.m1; omega)
  unfold X9
  rw [hA, Option.bind_some, Xg (by simp; omega), Option.bind_some]
  cases hm : QZ with
  | none => rw [hm] at hr; cases hr
  | some v =>
    rw [hm, Option.bind_some] at hr
    rw [Option.bind_some, hr, Option.bind_some, Xg (by simp; omega), Option.bind_some]
    simp only [ZX, Option.bind_some]
    unfold lineOf Xz
    by_cases h2m : 2 ≤ x.Mark
    · rw [if_pos (by simpa using h2m), hN, Option.bind_some, Xg (by simp; omega), Option.bind_some, Xg (by simp; omega), Option.bind_some, Xg (by simp; omega), Option.bind_some, if_pos h2m]
      simp
    · rw [if_neg (by simpa using h2m), Xg (by simp; omega), Option.bind_some, if_neg h2m]
      simp
theorem ZdZ {l : List api_Sample} (h : ∀ x ∈ l, SmpOK x) : (l.flatMap lineOf).length ≤ 42 * l.length := by
  induction l with
  | nil => simp
  | cons x l ih =>
    have h1 := Zaf (h x List.mem_cons_self)
    have h2 := ih fun y hy => h y (List.mem_cons_of_mem _ hy)
    simp only [List.flatMap_cons, List.length_append, List.length_cons]; omega
theorem Zad {s : api_Series} (h : SerOK s) : (Lib.itoa s.Den).length ≤ 8 := by
  have := h.den
  exact (Zan (k := 6) (by have : (10 : Nat) ^ (6 + 1) = 10000000 := (by decide); omega)).1
theorem Zep {s : api_Series} (h : SerOK s) : (XG s).length ≤ 1000000 := by
  have h1 := Zad h
  have h2 := ZdZ (l := s.Samples) fun x hx => Zbl h hx
  have h3 := h.len
  unfold XG Zas
  simp only [List.length_append, List.length_cons, List.length_nil, hdP]; omega
theorem Zfu (s : api_Series) : Q9 s = some (if (chk s).2 = 0 then (XG s, 0) else ([], (chk s).2)) := by
  unfold Q9
  rw [Zdz, Option.bind_some]
  by_cases hc : (chk s).2 = 0
  · have hS := ZaB hc
    have h1 := Zad hS
    have hD : itoa s.Den = some (Lib.itoa s.Den) := JJ (by have := hS.den; omega) (by have := hS.den; omega)
    have hl := hS.len
    rw [if_neg (by simp [hc]), hD, Option.bind_some, Xg (by simp; omega), Option.bind_some, Xg (by simp; omega), Option.bind_some, Qz (by simp [Qj]; omega), Option.bind_some]
    rw [Zbh (xs := s.Samples) (body := Z7 s) (fun buf k => buf.length ≤ 100 + 42 * k) (fun buf k => buf ++ bytes ((s.Samples.drop k).flatMap lineOf)) (fun buf k x hI hx => by
        have hk := (List.getElem?_eq_some_iff.1 hx).1
        have hx' := Zbl hS (List.mem_of_getElem? hx)
        left
        refine ⟨_, Zfs hx' s buf k hx (by omega) (by omega), by have := Zaf hx'; simp [Qj]; omega, ?_⟩
        rw [Q2 hx, List.flatMap_cons, JM, List.append_assoc]) (fun buf hI => by
        simp [Z7, bytes]) (by simp [Qj]; omega)]
    simp only [Option.bind_some, Zav, List.drop_zero, List.nil_append, ← JM, ZbU, hc, if_true]
    simp [XG, Zas, hdP]
  · rw [if_pos (by simpa using hc), if_neg hc]
theorem ZeO (s : api_Series) : XT s = some (if (chk s).2 = 0 then (XG s, 0) else ([], (chk s).2)) := by
  unfold XT
  rw [ZeP, Option.bind_some]
  by_cases hc : (chk s).2 = 0
  · have hS := ZaB hc
    have h1 := Zad hS
    have hD : itoa s.Den = some (Lib.itoa s.Den) := JJ (by have := hS.den; omega) (by have := hS.den; omega)
    have hl := hS.len
    rw [if_neg (by simp [hc]), hD, Option.bind_some, Xg (by simp; omega), Option.bind_some, Xg (by simp; omega), Option.bind_some, Qz (by simp [Qj]; omega), Option.bind_some]
    rw [Zbh (xs := s.Samples) (body := QN s) (fun buf k => buf.length ≤ 100 + 42 * k) (fun buf k => buf ++ bytes ((s.Samples.drop k).flatMap lineOf)) (fun buf k x hI hx => by
        have hk := (List.getElem?_eq_some_iff.1 hx).1
        have hx' := Zbl hS (List.mem_of_getElem? hx)
        have hln := Zaf hx'
        left
        refine ⟨buf ++ bytes (lineOf x), ?_, by simp [Qj]; omega, ?_⟩
        · unfold QN
          rw [if_pos (by simpa using ZaZ hx), Z1 hx, Option.bind_some, Zfy hx', Option.bind_some, Qz (by simp [Qj]; omega), Option.bind_some, show i64 ((k : Int) + 1) = (k : Int) + 1 from ZG (by omega) (by omega)]
        · rw [Q2 hx, List.flatMap_cons, JM, List.append_assoc]) (fun buf hI => by
        simp [QN, bytes]) (by simp [Qj]; omega)]
    simp only [Option.bind_some, Zav, List.drop_zero, List.nil_append, ← JM, Zd3, hc, if_true]
    simp [XG, Zas, hdP]
  · rw [if_pos (by simpa using hc), if_neg hc]
theorem Zfn {x : api_Sample} (h : SmpOK x) : (10 : UInt8) ∉ Xz x := by
  have h1 := JK (c := 10) (by decide) (by decide) x.At
  have h2 := JK (c := 10) (by decide) (by decide) x.N
  have h3 := (ZfG h.m0 h.m1).2
  unfold Xz
  split
  · simp [h1, h2, h3]
  · simp [h1, h3]
theorem ZeJ {l : List api_Sample} (h : ∀ x ∈ l, SmpOK x) : lns (l.flatMap lineOf) = (l.map Xz, true) := by
  induction l with
  | nil => exact Zag
  | cons x l ih =>
    have e : (x :: l).flatMap lineOf = Xz x ++ 10 :: l.flatMap lineOf := by simp [lineOf]
    rw [e, Zao (Zfn (h x List.mem_cons_self)), ih fun y hy => h y (List.mem_cons_of_mem _ hy)]
    rfl
theorem ZeW {x : api_Sample} (h : SmpOK x) : Zbe (Xz x) = (x, true) := by
  have hA := Jk (v := x.At) (by have h0 := h.at0; have h1 := h.at1; have : (10 : Nat) ^ 18 = 1000000000000000000 := (by decide); omega)
  have hN := Jk (v := x.N) (by have h0 := h.n0; have h1 := h.n1; have : (10 : Nat) ^ 18 = 1000000000000000000 := (by decide); omega)
  have n1 := JK (c := 32) (by decide) (by decide) x.At
  have n2 := JK (c := 32) (by decide) (by decide) x.N
  have n3 := (ZfG h.m0 h.m1).1
  have hl := Zaf h
  refine Zcv ?_
  unfold ZC
  rw [ZdO _ (by unfold lineOf at hl; simp at hl; omega), Option.bind_some]
  have hmk := Zfl h.m0 h.m1
  have hm1 : ¬ Zbt (mW x.Mark) = -1 := by rw [hmk]; have := h.m0; omega
  by_cases h2 : 2 ≤ x.Mark
  · have hW : spA 32 [] (Xz x) = [Lib.itoa x.At, mW x.Mark, Lib.itoa x.N] := by
      unfold Xz
      rw [if_pos h2, Zal _ _ _ n1, Zal _ _ _ n3, ZbF _ _ n2]; rfl
    rw [hW]
    have i0 : idx [Lib.itoa x.At, mW x.Mark, Lib.itoa x.N] 0 = some (Lib.itoa x.At) := Z1 (k := 0) rfl
    have i1 : idx [Lib.itoa x.At, mW x.Mark, Lib.itoa x.N] 1 = some (mW x.Mark) := Z1 (k := 1) rfl
    have i2 : idx [Lib.itoa x.At, mW x.Mark, Lib.itoa x.N] 2 = some (Lib.itoa x.N) := Z1 (k := 2) rfl
    rw [i0, Option.bind_some, hA, Option.bind_some, if_neg (by simp), Zcm i1, if_neg hm1, hmk]
    unfold Zd5
    have h2' : ¬ x.Mark < 2 := by omega
    simp only [h2', decide_false, Bool.false_eq_true, if_false, List.length_cons, List.length_nil, i2, Option.bind_some, hN]
    rfl
  · have hW : spA 32 [] (Xz x) = [Lib.itoa x.At, mW x.Mark] := by
      unfold Xz
      rw [if_neg h2, List.append_nil, Zal _ _ _ n1, ZbF _ _ n3]; rfl
    rw [hW]
    have i0 : idx [Lib.itoa x.At, mW x.Mark] 0 = some (Lib.itoa x.At) := Z1 (k := 0) rfl
    have i1 : idx [Lib.itoa x.At, mW x.Mark] 1 = some (mW x.Mark) := Z1 (k := 1) rfl
    rw [i0, Option.bind_some, hA, Option.bind_some, if_neg (by simp), Zcm i1, if_neg hm1, hmk]
    unfold Zd5
    have h2' : x.Mark < 2 := by omega
    have hn0 : x.N = 0 := Decidable.byContradiction fun e => h2 (h.nm e)
    simp only [h2', decide_true, if_true, List.length_cons, List.length_nil]
    obtain ⟨a, n, m⟩ := x
    simp only at hn0
    subst hn0
    rfl
theorem Ze9 {l : List api_Sample} (h : ∀ x ∈ l, SmpOK x) (D : Int) : ∀ (sm : List api_Sample) (i : Nat), i ≠ 0 → Qp true D sm i (l.map Xz) = .inl (D, sm ++ l) := by
  induction l with
  | nil => intro sm i _; rw [List.map_nil, Zcb, List.append_nil]
  | cons x l ih =>
    intro sm i hi
    rw [List.map_cons, Zaw, if_neg hi, ZeW (h x List.mem_cons_self)]
    simp only [Bool.true_or, Bool.true_and, if_true]
    rw [ih (fun y hy => h y (List.mem_cons_of_mem _ hy)) _ _ (by omega)]
    simp
theorem Zf5 {s : api_Series} (hc : (chk s).2 = 0) : Z9 (XG s) = some (s, 0, 0) := by
  have hS := ZaB hc
  have hl := Zep hS
  have hn : (10 : UInt8) ∉ Zas s := by
    have := JK (c := 10) (by decide) (by decide) s.Den
    unfold Zas
    simp [hdP, this]
  have hln : lns (XG s) = (Zas s :: s.Samples.map Xz, true) := by
    unfold XG
    rw [Zao hn, ZeJ fun x hx => Zbl hS hx]
  have hne : XG s ≠ [] := by unfold XG; simp
  have hh : Zbb (Zas s) = (s.Den, true) := by
    have h1 := Zad hS
    refine Zct (d := Lib.itoa s.Den) (is := true) (r := true) ?_ (Jk (by have := hS.den; have : (10 : Nat) ^ 18 = 1000000000000000000 := (by decide); omega))
    rw [ZcL _ (by unfold Zas; simp [hdP]; omega)]
    rfl
  unfold Z9
  rw [if_neg (by simp; omega), Zb3 _ hl, if_neg hne, hln, Option.bind_some, Zaw, if_pos rfl, hh]
  simp only [Bool.true_or, Bool.true_and, if_true]
  rw [Ze9 (fun x hx => Zbl hS hx) _ _ _ (by omega)]
  simp only [X5, Sum.elim_inr, Zah, List.nil_append, Zco, Option.bind_some]
  have e : (⟨s.Den, s.Samples⟩ : api_Series) = s := rfl
  rw [e]
  simp [hc]
theorem Zdb (s : api_Series) (text : Str) : ZJ s text = some true := by
  unfold ZJ
  rw [Zfu, ZeO, Option.bind_some, Option.bind_some]
  obtain ⟨r, h1, h2, h3⟩ := Zfr text
  obtain ⟨t1, e1⟩ := ZeD r.1 r.2.2 h3
  rw [if_neg (by simp), h1, Option.bind_some, h2, Option.bind_some, e1, Option.bind_some, Option.bind_some, if_neg (by simp)]
  by_cases hc : (chk s).2 = 0
  · obtain ⟨t2, e2⟩ := ZeD s 0 (by have := (ZaB hc).len; omega)
    simp only [hc, if_true, decide_true, Zf5 hc, Option.bind_some, e2]
    simp [ZdP]
  · simp only [hc, if_false, decide_false, Bool.false_eq_true, ZdP, Option.bind_some]
end Go.Vx

namespace Go.Vx
open Go Go.RowKit
def X1 (x : api_Sample) : Prop := (wfI .i64) x.At ∧ (wfI .i64) x.N ∧ (wfI .i64) x.Mark ∧ True
def ZbI (x : api_Series) : Prop := (wfI .i64) x.Den ∧ (wfL X1) x.Samples ∧ True
end Go.Vx
