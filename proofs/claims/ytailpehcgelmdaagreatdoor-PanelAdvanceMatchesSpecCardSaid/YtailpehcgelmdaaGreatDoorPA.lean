/- A text of the proof: a verified executor of the program form, or the contracts of the functions that the law reaches. -/
import Derived.Test.YtailpehcgelmdaaGreatDoorShLib
import Derived.Test.YtailpehcgelmdaaGreatDoorShT
import Derived.Test.YtailpehcgelmdaaGreatDoorVH
import Derived.Test.YtailpehcgelmdaaGreatDoorVP
set_option linter.all false
namespace Go.Vx
open Go Go.RowKit
theorem ZO {z : Int} (h1 : -9223372036854775808 ≤ z) (h2 : z ≤ 9223372036854775807) : IntKind.i64.wrap z = z := w64 h1 h2
theorem ZoC {z : Int} (h1 : 0 ≤ z) (h2 : z < 18446744073709551616) : IntKind.u64.wrap z = z := Zpp h1 h2
@[simp] theorem Zlf {α : Type} {d : α} {o : Option α} : gd true d o = o := rfl
@[simp] theorem Zpy {α : Type} {d : α} {o : Option α} : gd false d o = some d := rfl
@[simp] theorem ZoY {α : Type} {d : α} {o : Option α} : gd (true == true) d o = o := rfl
theorem ZX {α : Type} {xs : List α} {k : Nat} {x : α} (h : xs[k]? = some x) : idx xs (k : Int) = some x := by simp [idx, h]
theorem Q6 {α : Type} {xs : List α} {k : Nat} {x : α} (h : xs[k]? = some x) : (k : Int) < (xs.length : Int) := by
  have := (List.getElem?_eq_some_iff.1 h).1; omega
theorem X1 {α : Type} {xs : List α} {k : Nat} (h : k < xs.length) : ∃ x, xs[k]? = some x := ⟨xs[k], List.getElem?_eq_getElem h⟩
theorem ZhO {α : Type} {xs : List α} {k : Nat} {x : α} (h : xs[k]? = some x) : xs.drop k = x :: xs.drop (k + 1) := by
  obtain ⟨hk, rfl⟩ := List.getElem?_eq_some_iff.1 h
  exact List.drop_eq_getElem_cons hk
theorem Zeq {α : Type} {xs ys : List α} (h : xs.length + ys.length ≤ 4294967296) : app xs ys = some (xs ++ ys) := by unfold app apz; rw [if_pos (by omega)]

section loops
variable {σ ρ : Type}
theorem ZeU {body : σ → Option (σ ⊕ ρ)} (I : σ → Prop) (μ : σ → Nat) (F : σ → ρ) (step : ∀ s, I s → (∃ s', body s = some (.inl s') ∧ I s' ∧ μ s' < μ s ∧ F s = F s') ∨ body s = some (.inr (F s))) :
    ∀ s, I s → loop body s = some (F s) := by
  intro s hs
  obtain ⟨r, h1, h2⟩ := Zmo (body := body) (fun s' => I s' ∧ F s = F s') μ (fun r => r = F s) (fun s' ⟨h1, h2⟩ => by
    rcases step s' h1 with ⟨s2, e1, e2, e3, e4⟩ | e
    · exact .inl ⟨s2, e1, ⟨e2, h2.trans e4⟩, e3⟩
    · exact .inr ⟨_, e, h2.symm⟩) s ⟨hs, rfl⟩
  rw [h1, h2]
variable {α : Type} {xs : List α}
theorem ZeN {body : Int → Option (Int ⊕ ρ)} (F : Nat → ρ)
    (hstep : ∀ (k : Nat) x, xs[k]? = some x → (body k = some (.inl ((k : Int) + 1)) ∧ F k = F (k + 1)) ∨ body k = some (.inr (F k)))
    (hend : body xs.length = some (.inr (F xs.length))) : loop (t1 body) 0 = some (F 0) := by
  refine ZeU (body := t1 body) (fun i => ∃ k : Nat, i = k ∧ k ≤ xs.length) (fun i => xs.length - i.toNat) (fun i => F i.toNat) ?_ 0 ⟨0, rfl, Nat.zero_le _⟩
  rintro i ⟨k, rfl, hk⟩
  simp only [Int.toNat_natCast, JU]
  rcases Nat.lt_or_ge k xs.length with h | h
  · obtain ⟨x, hx⟩ := X1 h
    rcases hstep k x hx with ⟨h1, h2⟩ | h1
    · exact .inl ⟨_, h1, ⟨k + 1, by push_cast; rfl, h⟩, by omega, by rw [h2]; rfl⟩
    · exact .inr h1
  · have : k = xs.length := by omega
    subst this
    exact .inr hend
theorem ZcR {body : σ → Int → Option ((σ × Int) ⊕ ρ)} (I : σ → Nat → Prop) (F : σ → Nat → ρ)
    (hstep : ∀ a (k : Nat) x, I a k → xs[k]? = some x → (∃ a', body a k = some (.inl (a', (k : Int) + 1)) ∧ I a' (k + 1) ∧ F a k = F a' (k + 1)) ∨ body a k = some (.inr (F a k)))
    (hend : ∀ a, I a xs.length → body a xs.length = some (.inr (F a xs.length))) {a0 : σ} (h0 : I a0 0) : loop (t2 body) (a0, 0) = some (F a0 0) := by
  refine ZeU (body := t2 body) (fun p => ∃ k : Nat, p.2 = k ∧ k ≤ xs.length ∧ I p.1 k) (fun p => xs.length - p.2.toNat) (fun p => F p.1 p.2.toNat) ?_ (a0, 0) ⟨0, rfl, Nat.zero_le _, h0⟩
  rintro ⟨a, i⟩ ⟨k, hi, hk, hI⟩
  simp only at hi hI
  subst hi
  simp only [Int.toNat_natCast, ZhW]
  rcases Nat.lt_or_ge k xs.length with h | h
  · obtain ⟨x, hx⟩ := X1 h
    rcases hstep a k x hI hx with ⟨a', h1, h2, h3⟩ | h1
    · exact .inl ⟨_, h1, ⟨k + 1, by push_cast; rfl, h, h2⟩, by simp only; omega, by rw [h3]; rfl⟩
    · exact .inr h1
  · have : k = xs.length := by omega
    subst this
    exact .inr (hend a hI)
end loops
end Go.Vx

namespace Go.Vx
open Go Go.RowKit
abbrev Smp := api_Sample
def wi (n lo hi : Int) : Bool := decide (lo ≤ n) && decide (n ≤ hi)
theorem ZkP (n a b : Int) : Xz n a b = some (wi n a b) := rfl
theorem ZaO (n a b : Int) : XB n a b = some (!wi n a b) := by
  simp only [XB, wi, Option.some.injEq]
  rw [Bool.eq_iff_iff]; simp [Int.not_le]
theorem Jp {n a b : Int} : wi n a b = true ↔ a ≤ n ∧ n ≤ b := by simp [wi]
def ZbM (x : Smp) : Option Int := if !(wi x.At 0 1099511627776 && wi x.N (-1125899906842624) 1125899906842624 && wi x.Mark 0 4) then some 9 else if !decide (x.N = 0) && decide (x.Mark ≤ 1) then some 2 else none
def Zk4 (xs : List Smp) (k : Nat) : Option Smp := if k = 0 then none else xs[k - 1]?
def ZfQ (p : Option Smp) (x : Smp) : Bool := match p with | none => false | some q => decide (x.At ≤ q.At)
def ZgD : Option Smp → Nat → List Smp → Int × Int
  | _, _, [] => (-1, 0)
  | p, k, x :: tl => match ZbM x with | some e => ((k : Int), e) | none => if ZfQ p x then ((k : Int), 10) else ZgD (some x) (k + 1) tl
def chk (s : api_Series) : Int × Int := if wi s.Den 1 1000000 then (if (s.Samples.length : Int) ≤ 20000 then ZgD none 0 s.Samples else (-1, 3)) else (-1, 9)
theorem ZjK {xs : List Smp} {k : Nat} {x : Smp} (h : xs[k]? = some x) : Zk4 xs (k + 1) = some x := by simp [Zk4, h]
theorem ZkK {xs : List Smp} {k : Nat} (hk : 0 < k) (h : k ≤ xs.length) : ∃ y, xs[k - 1]? = some y ∧ Zk4 xs k = some y ∧ idx xs ((k : Int) - 1) = some y := by
  obtain ⟨y, hy⟩ := X1 (xs := xs) (k := k - 1) (by omega)
  refine ⟨y, hy, by simp [Zk4, hy]; omega, ?_⟩
  have : ((k : Int) - 1) = ((k - 1 : Nat) : Int) := by omega
  rw [this, ZX hy]
theorem Zlj (s : api_Series) (h : (s.Samples.length : Int) ≤ 20000) :
    loop (t1 (XX s)) 0 = some ((fun r : Int × Int => if r.2 = 0 then Sum.inr () else Sum.inl r) (ZgD none 0 s.Samples)) := by
  refine ZeN (xs := s.Samples) (fun k => (fun r : Int × Int => if r.2 = 0 then Sum.inr () else Sum.inl r) (ZgD (Zk4 s.Samples k) k (s.Samples.drop k))) (fun k x hx => ?_) ?_
  · have hlt := Q6 hx
    rw [ZhO hx, ZgD]
    simp only [XX, ZX hx, hlt, decide_true, if_true, Option.bind_some, ZkP]
    by_cases hb : (wi x.At 0 1099511627776 && wi x.N (-1125899906842624) 1125899906842624 && wi x.Mark 0 4) = true
    · simp only [Bool.and_eq_true] at hb
      obtain ⟨⟨h1, h2⟩, h3⟩ := hb
      by_cases hh : (!decide (x.N = 0) && decide (x.Mark ≤ 1)) = true
      · right
        simp [ZbM, h1, h2, h3, hh]
      · have hs : ZbM x = none := by simp only [ZbM, h1, h2, h3]; simp [hh]
        rw [hs]
        rcases Nat.eq_zero_or_pos k with rfl | hk
        · left
          simp [h1, h2, h3, hh, ZO, Zk4, ZfQ, hx]
        · obtain ⟨y, hy, hp, hi⟩ := ZkK (xs := s.Samples) hk (by omega)
          have hk' : (0 : Int) < k := by omega
          rw [hp]
          have hw : IntKind.i64.wrap ((k : Int) - 1) = (k : Int) - 1 := ZO (by omega) (by omega)
          have hw2 : IntKind.i64.wrap ((k : Int) + 1) = (k : Int) + 1 := ZO (by omega) (by omega)
          by_cases ho : x.At ≤ y.At
          · right; simp [h1, h2, h3, hh, hw, hi, hk, ZfQ, ho]
          · left; simp [h1, h2, h3, hh, hw, hw2, hi, hk, ZfQ, ho, ZjK hx]
    · right
      have hs : ZbM x = some 9 := by
        simp only [ZbM]
        rw [if_pos (by cases h1 : wi x.At 0 1099511627776 <;> cases h2 : wi x.N (-1125899906842624) 1125899906842624 <;> cases h3 : wi x.Mark 0 4 <;> simp_all)]
      rw [hs]
      simp only [Bool.and_eq_true, not_and, Bool.not_eq_true] at hb
      cases h1 : wi x.At 0 1099511627776 <;> cases h2 : wi x.N (-1125899906842624) 1125899906842624 <;> cases h3 : wi x.Mark 0 4 <;> simp_all
  · simp [XX, List.drop_length, ZgD]
theorem Zgz : ∀ (p : Option Smp) (k : Nat) (xs : List Smp), ZgD p k xs = (-1, 0) ∨ (ZgD p k xs).2 ≠ 0
  | _, _, [] => .inl rfl
  | p, k, x :: tl => by
    rw [ZgD]
    split
    · rename_i e he; right; unfold ZbM at he; split at he
      · cases he; simp
      · split at he <;> cases he; simp
    · split
      · right; simp
      · exact Zgz _ _ tl
theorem Znm (s : api_Series) : Zau s = some (chk s) := by
  simp only [Zau, ZkP, Option.bind_some, chk]
  cases hd : wi s.Den 1 1000000 with
  | false => simp
  | true =>
    by_cases hl : (s.Samples.length : Int) ≤ 20000
    · rw [Zlj s hl]
      simp only [show ¬ 20000 < (s.Samples.length : Int) by omega, hl, decide_false, if_true, if_false, Bool.not_true, Option.bind_some, Bool.false_eq_true]
      rcases Zgz none 0 s.Samples with h | h
      · simp [h]
      · simp [h]
    · simp [hl, show 20000 < (s.Samples.length : Int) by omega]
theorem Zlm (x : Smp) : J5 x = some ((ZbM x).getD 0) := by
  simp only [J5, ZaO, Option.bind_some, ZcM, ZbM]
  cases h1 : wi x.At 0 1099511627776 <;> cases h2 : wi x.N (-1125899906842624) 1125899906842624 <;> cases h3 : wi x.Mark 0 4 <;> simp
  by_cases h4 : x.N = 0 <;> by_cases h5 : x.Mark ≤ 1 <;> simp [h4, h5] <;> omega
theorem Zjn {x : Smp} {e : Int} (h : ZbM x = some e) : e = 9 ∨ e = 2 := by
  unfold ZbM at h; split at h
  · cases h; simp
  · split at h <;> cases h; simp
theorem Zlq (s : api_Series) (h : (s.Samples.length : Int) ≤ 20000) :
    loop (t1 (ZbB s)) 0 = some ((fun r : Int × Int => if r.2 = 0 then Sum.inr () else Sum.inl r) (ZgD none 0 s.Samples)) := by
  refine ZeN (xs := s.Samples) (fun k => (fun r : Int × Int => if r.2 = 0 then Sum.inr () else Sum.inl r) (ZgD (Zk4 s.Samples k) k (s.Samples.drop k))) (fun k x hx => ?_) ?_
  · have hlt := Q6 hx
    rw [ZhO hx, ZgD]
    simp only [ZbB, ZX hx, hlt, decide_true, if_true, Option.bind_some, Zlm]
    cases hs : ZbM x with
    | some e =>
      right
      rcases Zjn hs with rfl | rfl <;> simp
    | none =>
      rcases Nat.eq_zero_or_pos k with rfl | hk
      · left
        simp [ZO, Zk4, ZfQ, hx]
      · obtain ⟨y, hy, hp, hi⟩ := ZkK (xs := s.Samples) hk (by omega)
        rw [hp]
        have hw : IntKind.i64.wrap ((k : Int) - 1) = (k : Int) - 1 := ZO (by omega) (by omega)
        have hw2 : IntKind.i64.wrap ((k : Int) + 1) = (k : Int) + 1 := ZO (by omega) (by omega)
        by_cases ho : x.At ≤ y.At
        · right; simp [hw, hi, hk, ZfQ, ho]
        · left; simp [hw, hw2, hi, hk, ZfQ, ho, ZjK hx]
  · simp [ZbB, List.drop_length, ZgD]
theorem Znv (s : api_Series) : ZdK s = some (chk s) := by
  simp only [ZdK, ZaO, Option.bind_some, chk]
  cases hd : wi s.Den 1 1000000 with
  | false => simp
  | true =>
    by_cases hl : (s.Samples.length : Int) ≤ 20000
    · rw [Zlq s hl]
      simp only [show ¬ 20000 < (s.Samples.length : Int) by omega, hl, decide_false, if_true, if_false, Bool.not_true, Option.bind_some, Bool.false_eq_true]
      rcases Zgz none 0 s.Samples with h | h
      · simp [h]
      · simp [h]
    · simp [hl, show 20000 < (s.Samples.length : Int) by omega]
theorem ZnP (s : api_Series) : Zaz s = some (chk s).2 := by simp [Zaz, Znm]
theorem ZkV (s : api_Series) : ZcI s = some (chk s).2 := by simp [ZcI, Znv]

structure SerOK (s : api_Series) : Prop where
  den : 1 ≤ s.Den ∧ s.Den ≤ 1000000
  len : (s.Samples.length : Int) ≤ 20000
  at' : ∀ (k : Nat) x, s.Samples[k]? = some x → (0 ≤ x.At ∧ x.At ≤ 1099511627776) ∧ (-1125899906842624 ≤ x.N ∧ x.N ≤ 1125899906842624) ∧ (0 ≤ x.Mark ∧ x.Mark ≤ 4) ∧ (x.N ≠ 0 → 2 ≤ x.Mark)
  rise : ∀ (i j : Nat) x y, i < j → s.Samples[i]? = some x → s.Samples[j]? = some y → x.At < y.At
theorem ZjU : ∀ (p : Option Smp) (k : Nat) (xs : List Smp), (ZgD p k xs).2 = 0 →
    (∀ (j : Nat) x, xs[j]? = some x → ZbM x = none ∧ ∀ q, p = some q → q.At < x.At) ∧ (∀ (i j : Nat) x y, i < j → xs[i]? = some x → xs[j]? = some y → x.At < y.At)
  | _, _, [], _ => ⟨fun j x h => by simp at h, fun i j x y _ h => by simp at h⟩
  | p, k, x :: tl, h => by
    rw [ZgD] at h
    cases hs : ZbM x with
    | some e => rw [hs] at h; rcases Zjn hs with rfl | rfl <;> simp at h
    | none =>
      rw [hs] at h
      simp only at h
      split at h
      · simp at h
      · rename_i ho
        obtain ⟨h1, h2⟩ := ZjU _ _ tl h
        have hpx : ∀ q, p = some q → q.At < x.At := fun q hq => by subst hq; simpa [ZfQ] using ho
        refine ⟨fun j y hy => ?_, fun i j u v hij hu hv => ?_⟩
        · cases j with
          | zero => simp at hy; subst hy; exact ⟨hs, hpx⟩
          | succ j =>
            have hy' : tl[j]? = some y := by simpa using hy
            obtain ⟨g1, g2⟩ := h1 j y hy'
            exact ⟨g1, fun q hq => Int.lt_trans (hpx q hq) (g2 x rfl)⟩
        · cases j with
          | zero => omega
          | succ j =>
            have hv' : tl[j]? = some v := by simpa using hv
            cases i with
            | zero => simp at hu; subst hu; exact (h1 j v hv').2 x rfl
            | succ i => exact h2 i j u v (by omega) (by simpa using hu) hv'
theorem ZiV {s : api_Series} (h : (chk s).2 = 0) : SerOK s := by
  unfold chk at h
  split at h
  · rename_i hd
    split at h
    · rename_i hl
      obtain ⟨h1, h2⟩ := ZjU none 0 s.Samples h
      refine ⟨Jp.1 hd, hl, fun k x hx => ?_, h2⟩
      have := (h1 k x hx).1
      unfold ZbM at this
      split at this
      · cases this
      · rename_i hb
        split at this
        · cases this
        · rename_i hh
          simp only [Bool.not_eq_true', Bool.not_eq_false, Bool.and_eq_true, Jp] at hb
          simp only [Bool.and_eq_true, Bool.not_eq_true', decide_eq_false_iff_not, decide_eq_true_eq] at hh
          exact ⟨hb.1.1, hb.1.2, hb.2, fun h0 => by omega⟩
    · simp at h
  · simp at h
end Go.Vx

namespace Go.Vx
open Go Go.RowKit
def Qu (xs : List Smp) (t : Int) : Nat := xs.countP fun x => decide (x.At ≤ t)
theorem ZeP : ∀ (xs : List Smp) (t : Int), (∀ (i j : Nat) x y, i < j → xs[i]? = some x → xs[j]? = some y → x.At < y.At) →
    (∀ (k : Nat) x, k < Qu xs t → xs[k]? = some x → x.At ≤ t) ∧ (∀ (k : Nat) x, Qu xs t ≤ k → xs[k]? = some x → t < x.At)
  | [], _, _ => ⟨fun k x h => by simp [Qu] at h, fun k x _ h => by simp at h⟩
  | x :: tl, t, hr => by
    obtain ⟨h1, h2⟩ := ZeP tl t fun i j u v hij hu hv => hr (i + 1) (j + 1) u v (by omega) (by simpa using hu) (by simpa using hv)
    have hx : ∀ (j : Nat) y, tl[j]? = some y → x.At < y.At := fun j y hy => hr 0 (j + 1) x y (by omega) rfl (by simpa using hy)
    by_cases hc : x.At ≤ t
    · have e : Qu (x :: tl) t = Qu tl t + 1 := by simp [Qu, hc]
      rw [e]
      refine ⟨fun k y hk hy => ?_, fun k y hk hy => ?_⟩
      · cases k with
        | zero => simp at hy; subst hy; exact hc
        | succ k => exact h1 k y (by omega) (by simpa using hy)
      · cases k with
        | zero => omega
        | succ k => exact h2 k y (by omega) (by simpa using hy)
    · have e0 : Qu tl t = 0 := by
        unfold Qu
        rw [List.countP_eq_zero]
        intro y hy
        obtain ⟨j, hj⟩ := List.mem_iff_getElem?.1 hy
        have := hx j y hj
        simp; omega
      have e : Qu (x :: tl) t = 0 := by
        have : Qu (x :: tl) t = Qu tl t := by simp [Qu, hc]
        rw [this, e0]
      rw [e]
      refine ⟨fun k y hk _ => by omega, fun k y _ hy => ?_⟩
      cases k with
      | zero => simp at hy; subst hy; omega
      | succ k => have := hx k y (by simpa using hy); omega
theorem Zja (xs : List Smp) (t : Int) : Qu xs t ≤ xs.length := List.countP_le_length
def ZhV (xs : List Smp) (t : Int) : Option Smp := if Qu xs t = 0 then none else xs[Qu xs t - 1]?
def Zb2 (xs : List Smp) (t long : Int) : Option Smp := (ZhV xs t).bind fun x => if 3 ≤ x.Mark ∧ t - x.At ≤ long then some x else none
def z0 : Smp := api_Sample.mk 0 0 0
def Zf9 (o : Option Smp) : Smp × Bool := match o with | some x => (x, true) | none => (z0, false)

theorem Zgi {ρ : Type} {body : Int → Int → Option ((Int × Int) ⊕ ρ)} (n c : Nat) (F : Nat → ρ) (hc : c ≤ n) (hn : n ≤ 4611686018427387904)
    (hstep : ∀ (i j m : Nat), i < j → j ≤ n → m = (i + j) / 2 → (m < c → body i j = some (.inl ((m : Int) + 1, j))) ∧ (c ≤ m → body i j = some (.inl (i, (m : Int)))))
    (hend : ∀ i : Nat, body i i = some (.inr (F i))) : loop (t2 body) (0, (n : Int)) = some (F c) := by
  refine ZeU (body := t2 body) (fun p => ∃ i j : Nat, p = ((i : Int), (j : Int)) ∧ i ≤ c ∧ c ≤ j ∧ j ≤ n) (fun p => (p.2 - p.1).toNat) (fun _ => F c) ?_ _ ⟨0, n, rfl, Nat.zero_le _, hc, Nat.le_refl _⟩
  rintro _ ⟨i, j, rfl, h1, h2, h3⟩
  simp only [ZhW]
  rcases Nat.lt_or_ge i j with h | h
  · obtain ⟨g1, g2⟩ := hstep i j ((i + j) / 2) h h3 rfl
    rcases Nat.lt_or_ge ((i + j) / 2) c with h4 | h4
    · exact .inl ⟨_, g1 h4, ⟨(i + j) / 2 + 1, j, by push_cast; rfl, h4, h2, h3⟩, by simp only; omega, by trivial⟩
    · exact .inl ⟨_, g2 h4, ⟨i, (i + j) / 2, rfl, h1, h4, by omega⟩, by simp only; omega, by trivial⟩
  · have e1 : i = c := by omega
    have e2 : j = c := by omega
    subst e1; subst e2
    exact .inr (hend _)

theorem Znq {s : api_Series} (hs : SerOK s) (t long : Int) (ht : 0 ≤ t ∧ t ≤ 1099511627776) : ZeR s t long = some (Zf9 (Zb2 s.Samples t long)) := by
  have hlen := hs.len
  obtain ⟨hc1, hc2⟩ := ZeP s.Samples t hs.rise
  have hcl := Zja s.Samples t
  have hl : loop (t2 (Zb3 s t)) (0, (s.Samples.length : Int)) = some ((Qu s.Samples t : Nat) : Int) := by
    refine Zgi s.Samples.length (Qu s.Samples t) (fun k => (k : Int)) hcl (by omega) (fun i j m hij hj hm => ?_) (fun i => ?_)
    · obtain ⟨x, hx⟩ := X1 (xs := s.Samples) (k := m) (by omega)
      have hq : quo .i64 (i64 ((i : Int) + j)) 2 = some (m : Int) := by
        rw [i64, ZO (by omega) (by omega), quo, if_neg (by decide), Int.tdiv_eq_ediv_of_nonneg (by omega), ZO (by omega) (by omega)]
        congr 1; omega
      have h2 : (i : Int) < j := by omega
      simp only [Zb3, h2, decide_true, if_true, hq, Option.bind_some, ZX hx]
      refine ⟨fun h => ?_, fun h => ?_⟩
      · have := hc1 m x h hx
        simp [this, ZO (show -9223372036854775808 ≤ (m : Int) + 1 by omega) (by omega)]
      · have := hc2 m x h hx
        simp [show ¬ x.At ≤ t by omega]
    · simp [Zb3]
  simp only [ZeR, hl, Option.bind_some, t1]
  by_cases h0 : Qu s.Samples t = 0
  · simp [h0, Zb2, ZhV, Zf9, z0]
  · obtain ⟨x, hx⟩ := X1 (xs := s.Samples) (k := Qu s.Samples t - 1) (by omega)
    have hi : idx s.Samples (IntKind.i64.wrap ((Qu s.Samples t : Int) - 1)) = some x := by
      rw [ZO (by omega) (by omega), show ((Qu s.Samples t : Int) - 1) = ((Qu s.Samples t - 1 : Nat) : Int) by omega, ZX hx]
    obtain ⟨hx1, _, _, _⟩ := hs.at' _ _ hx
    have hw : IntKind.i64.wrap (t - x.At) = t - x.At := ZO (by omega) (by omega)
    simp only [h0, hi, Ze9, Zb2, ZhV, hx, hw, Option.bind_some, i64, decide_false, if_false, Int.natCast_eq_zero, Bool.false_eq_true]
    by_cases h3 : 3 ≤ x.Mark
    · by_cases h4 : long < t - x.At
      · simp [h3, h4, Zf9, z0, show ¬ t - x.At ≤ long by omega]
      · simp [h3, h4, Zf9, show t - x.At ≤ long by omega]
    · simp [h3, Zf9, z0]
end Go.Vx

namespace Go.Vx
open Go Go.RowKit
theorem ZkA {xs : List Smp} {t : Int} {c : Nat} (hr : ∀ (i j : Nat) x y, i < j → xs[i]? = some x → xs[j]? = some y → x.At < y.At) (hc : c ≤ xs.length)
    (h1 : ∀ (k : Nat) x, k < c → xs[k]? = some x → x.At ≤ t) (h2 : ∀ (k : Nat) x, c ≤ k → xs[k]? = some x → t < x.At) : Qu xs t = c := by
  obtain ⟨g1, g2⟩ := ZeP xs t hr
  have hl := Zja xs t
  rcases Nat.lt_trichotomy (Qu xs t) c with h | h | h
  · obtain ⟨x, hx⟩ := X1 (xs := xs) (k := Qu xs t) (by omega)
    have := h1 _ x h hx; have := g2 _ x (Nat.le_refl _) hx; omega
  · exact h
  · obtain ⟨x, hx⟩ := X1 (xs := xs) (k := c) (by omega)
    have := g1 _ x h hx; have := h2 _ x (Nat.le_refl _) hx; omega
theorem Zo9 {i j : Nat} (h : i + j < 4611686018427387904) : shr .u64 (u64 (i64 ((i : Int) + j))) 1 = some (((i + j) / 2 : Nat) : Int) := by
  rw [i64, u64, ZO (by omega) (by omega), ZoC (by omega) (by omega), shr, if_neg (by decide)]
  have : min (1 : Int).toNat IntKind.u64.bits = 1 := by decide
  rw [this]
  congr 1
  rw [Int.fdiv_eq_ediv_of_nonneg _ (by decide)]
  omega
theorem Zpj {xs : List Smp} {t : Int} (hlen : (xs.length : Int) ≤ 20000) (hat : ∀ (k : Nat) x, xs[k]? = some x → 0 ≤ x.At ∧ x.At ≤ 1099511627776)
    (hr : ∀ (i j : Nat) x y, i < j → xs[i]? = some x → xs[j]? = some y → x.At < y.At) (ht : 0 ≤ t ∧ t ≤ 1099511627776) :
    Zy xs t (fun z0 z1 => QT z0 z1) = some ((Qu xs (t - 1) : Int), decide (∃ x, xs[Qu xs (t - 1)]? = some x ∧ x.At = t)) := by
  obtain ⟨hc1, hc2⟩ := ZeP xs (t - 1) hr
  have hcl := Zja xs (t - 1)
  have hcmp : ∀ (k : Nat) x, xs[k]? = some x → QT x t = some (x.At - t) := fun k x hx => by
    have := hat k x hx
    simp only [QT, i64]
    rw [ZO (by omega) (by omega)]
  have hl : loop (t2 (Zw xs t (fun z0 z1 => QT z0 z1))) (0, (xs.length : Int)) = some ((Qu xs (t - 1) : Nat) : Int) := by
    refine Zgi xs.length (Qu xs (t - 1)) (fun k => (k : Int)) hcl (by omega) (fun i j m hij hj hm => ?_) (fun i => ?_)
    · obtain ⟨x, hx⟩ := X1 (xs := xs) (k := m) (by omega)
      have h2 : (i : Int) < j := by omega
      have hm' : shr .u64 (u64 (i64 ((i : Int) + j))) 1 = some (m : Int) := by rw [Zo9 (by omega), hm]
      have hmi : i64 (m : Int) = m := ZO (by omega) (by omega)
      simp only [Zw, h2, decide_true, if_true, hm', Option.bind_some, hmi, ZX hx, hcmp m x hx]
      refine ⟨fun h => ?_, fun h => ?_⟩
      · have := hc1 m x h hx
        simp [show x.At - t < 0 by omega, ZO (show -9223372036854775808 ≤ (m : Int) + 1 by omega) (by omega)]
      · have := hc2 m x h hx
        simp [show ¬ x.At - t < 0 by omega]
    · simp [Zw]
  simp only [Zy, hl, Option.bind_some, t1]
  rcases Nat.lt_or_ge (Qu xs (t - 1)) xs.length with h | h
  · obtain ⟨x, hx⟩ := X1 h
    have h' : ((Qu xs (t - 1) : Nat) : Int) < xs.length := by omega
    simp only [h', decide_true, ZX hx, ZoY, Option.bind_some, hcmp _ x hx, hx, Bool.true_and, Option.some.injEq, exists_eq_left', Prod.mk.injEq, true_and]
    simp only [decide_eq_decide]; omega
  · have h' : ¬ ((Qu xs (t - 1) : Nat) : Int) < xs.length := by omega
    simp [gd, h, List.getElem?_eq_none h, show ¬ Qu xs (t - 1) < xs.length by omega]
theorem Zmm {s : api_Series} (hs : SerOK s) {t : Int} (ht : 0 ≤ t ∧ t ≤ 1099511627776) : JL s t = some ((Qu s.Samples t : Int) - 1) := by
  have hlen := hs.len
  obtain ⟨hc1, hc2⟩ := ZeP s.Samples (t - 1) hs.rise
  have hcl := Zja s.Samples (t - 1)
  simp only [JL, Zpj hlen (fun k x hx => (hs.at' k x hx).1) hs.rise ht, Option.bind_some]
  by_cases hf : ∃ x, s.Samples[Qu s.Samples (t - 1)]? = some x ∧ x.At = t
  · obtain ⟨x, hx, hxt⟩ := hf
    have hlt := (List.getElem?_eq_some_iff.1 hx).1
    have : Qu s.Samples t = Qu s.Samples (t - 1) + 1 := ZkA hs.rise (by omega) (fun k y hk hy => by
        rcases Nat.lt_or_ge k (Qu s.Samples (t - 1)) with h | h
        · have := hc1 k y h hy; omega
        · have : k = Qu s.Samples (t - 1) := by omega
          subst this; rw [hx] at hy; cases hy; omega) (fun k y hk hy => by
        have := hs.rise _ _ _ _ (show Qu s.Samples (t - 1) < k by omega) hx hy; omega)
    have hd : (∃ x, s.Samples[Qu s.Samples (t - 1)]? = some x ∧ x.At = t) := ⟨x, hx, hxt⟩
    simp only [hd, decide_true, if_true, this]
    congr 1; omega
  · have : Qu s.Samples t = Qu s.Samples (t - 1) := ZkA hs.rise hcl (fun k y hk hy => by have := hc1 k y hk hy; omega) (fun k y hk hy => by
        have h1 := hc2 k y hk hy
        rcases Nat.lt_or_ge (Qu s.Samples (t - 1)) k with h | h
        · obtain ⟨x, hx⟩ := X1 (xs := s.Samples) (k := Qu s.Samples (t - 1)) (by have := (List.getElem?_eq_some_iff.1 hy).1; omega)
          have := hs.rise _ _ _ _ h hx hy
          have := hc2 _ x (Nat.le_refl _) hx; omega
        · have : k = Qu s.Samples (t - 1) := by omega
          subst this
          have : ¬ y.At = t := fun e => hf ⟨y, hy, e⟩
          omega)
    simp only [hf, decide_false, this, i64, Bool.false_eq_true, if_false]
    rw [ZO (by omega) (by omega)]
theorem Zn8 {s : api_Series} (hs : SerOK s) (t long : Int) (ht : 0 ≤ t ∧ t ≤ 1099511627776) : Zbm s t long = some (Zf9 (Zb2 s.Samples t long)) := by
  have hlen := hs.len
  have hcl := Zja s.Samples t
  simp only [Zbm, Zmm hs ht, Option.bind_some]
  by_cases h0 : Qu s.Samples t = 0
  · simp [h0, Zb2, ZhV, Zf9, z0, gd]
  · obtain ⟨x, hx⟩ := X1 (xs := s.Samples) (k := Qu s.Samples t - 1) (by omega)
    have hi : idx s.Samples ((Qu s.Samples t : Int) - 1) = some x := by
      rw [show ((Qu s.Samples t : Int) - 1) = ((Qu s.Samples t - 1 : Nat) : Int) by omega, ZX hx]
    obtain ⟨hx1, _, _, _⟩ := hs.at' _ _ hx
    have hw : IntKind.i64.wrap (t - x.At) = t - x.At := ZO (by omega) (by omega)
    have hn : ¬ ((Qu s.Samples t : Int) - 1 < 0) := by omega
    simp only [h0, hi, hn, Zbu, Zb2, ZhV, hx, hw, Option.bind_some, i64, decide_false, if_false, Bool.false_eq_true]
    by_cases h3 : 3 ≤ x.Mark
    · by_cases h4 : long < t - x.At
      · simp [h3, h4, Zf9, z0, show ¬ t - x.At ≤ long by omega, hw]
      · simp [h3, h4, Zf9, show t - x.At ≤ long by omega, hw]
    · simp [h3, Zf9, z0]
def Zj8 (s : api_Series) (t long : Int) : Smp × Bool × Int :=
  if (chk s).2 ≠ 0 then (z0, false, (chk s).2) else if wi t 0 1099511627776 && wi long 0 1099511627776 then ((Zf9 (Zb2 s.Samples t long)).1, (Zf9 (Zb2 s.Samples t long)).2, 0) else (z0, false, 9)
theorem ZnJ (s : api_Series) (t long : Int) : ZeA s t long = some (Zj8 s t long) := by
  simp only [ZeA, ZkV, ZaO, Option.bind_some, Zj8]
  by_cases h0 : (chk s).2 = 0
  · cases h1 : wi t 0 1099511627776 with
    | false => simp [h0, z0]
    | true => cases h2 : wi long 0 1099511627776 with
      | false => simp [h0, z0]
      | true => simp [h0, Znq (ZiV h0) t long (Jp.1 h1)]
  · simp [h0, z0]
end Go.Vx

namespace Go.Vx
open Go Go.RowKit
section err
variable {α ε : Type}
def XG {ρ : Type} (A : ε → ρ) (Z : ρ) : Option ε → ρ
  | some e => A e
  | none => Z
@[simp] theorem Zov {ρ : Type} (A : ε → ρ) (Z : ρ) (e : ε) : XG A Z (some e) = A e := rfl
@[simp] theorem ZgO {ρ : Type} (A : ε → ρ) (Z : ρ) : XG A Z none = Z := rfl
end err
end Go.Vx

namespace Go.Vx
open Go Go.RowKit
def JE {σ ρ : Type} (b : σ → Option (σ ⊕ ρ)) (s : σ) : Option ρ :=
  Nat.rec (motive := fun _ => σ → Option ρ) (fun _ => none) (fun _ ih s => match b s with | none => none | some (.inl s') => ih s' | some (.inr r) => some r) 1000000 s
def Le {α : Type} (a b : Option α) : Prop := ∀ r, a = some r → b = some r
theorem Le.refl {α : Type} (a : Option α) : Le a a := fun _ h => h
section
variable {α β γ δ ε ζ η θ ι κ σ ρ : Type}
theorem Le.bind {a b : Option α} {f g : α → Option β} (h : Le a b) (hf : ∀ x, Le (f x) (g x)) : Le (a.bind f) (b.bind g) := by
  intro r hr
  cases ha : a with
  | none => rw [ha] at hr; cases hr
  | some x => rw [ha] at hr; rw [h x ha]; exact hf x r hr
theorem Le.ite {c : Prop} [Decidable c] {a b a' b' : Option α} (h1 : Le a a') (h2 : Le b b') : Le (if c then a else b) (if c then a' else b') := by
  split
  · exact h1
  · exact h2
theorem Le.gd {g : Bool} {d : α} {a b : Option α} (h : Le a b) : Le (gd g d a) (gd g d b) := by
  cases g
  · exact fun r hr => hr
  · exact h
theorem Le.loop {b b' : σ → Option (σ ⊕ ρ)} {s : σ} (h : ∀ s, Le (b s) (b' s)) : Le (JE b s) (loop b' s) := by
  have key : ∀ n s r, Nat.rec (motive := fun _ => σ → Option ρ) (fun _ => none) (fun _ ih s => match b s with | none => none | some (.inl s') => ih s' | some (.inr r) => some r) n s = some r → ZdP b' n s = some r := by
    intro n
    induction n with
    | zero => intro s r hr; cases hr
    | succ n ih =>
      intro s r hr
      simp only at hr
      cases hb : b s with
      | none => rw [hb] at hr; cases hr
      | some o =>
        rw [hb] at hr
        simp only [ZdP, h s o hb, Option.bind_some]
        cases o with
        | inl s' => exact ih s' r hr
        | inr r' => exact hr
  intro r hr
  exact ZiI (key 1000000 s r hr)
theorem Le.t0 {f g : Option κ} {p : Unit} (h : Le f g) : Le (t0 f p) (t0 g p) := h
theorem Le.t1 {f g : α → Option κ} {p : α} (h : ∀ a, Le (f a) (g a)) : Le (t1 f p) (t1 g p) := h _
theorem Le.t2 {f g : α → β → Option κ} {p : α × β} (h : ∀ a b, Le (f a b) (g a b)) : Le (t2 f p) (t2 g p) := h _ _
theorem Le.t3 {f g : α → β → γ → Option κ} {p : α × β × γ} (h : ∀ a b c, Le (f a b c) (g a b c)) : Le (t3 f p) (t3 g p) := h _ _ _
theorem Le.t4 {f g : α → β → γ → δ → Option κ} {p : α × β × γ × δ} (h : ∀ a b c d, Le (f a b c d) (g a b c d)) : Le (t4 f p) (t4 g p) := h _ _ _ _
theorem Le.t5 {f g : α → β → γ → δ → ε → Option κ} {p : α × β × γ × δ × ε} (h : ∀ a b c d e, Le (f a b c d e) (g a b c d e)) : Le (t5 f p) (t5 g p) := h _ _ _ _ _
theorem Le.t6 {f g : α → β → γ → δ → ε → ζ → Option κ} {p : α × β × γ × δ × ε × ζ} (h : ∀ a b c d e x, Le (f a b c d e x) (g a b c d e x)) : Le (t6 f p) (t6 g p) := h _ _ _ _ _ _
theorem Le.t7 {f g : α → β → γ → δ → ε → ζ → η → Option κ} {p : α × β × γ × δ × ε × ζ × η} (h : ∀ a b c d e x y, Le (f a b c d e x y) (g a b c d e x y)) : Le (t7 f p) (t7 g p) := h _ _ _ _ _ _ _
theorem Le.t8 {f g : α → β → γ → δ → ε → ζ → η → θ → Option κ} {p : α × β × γ × δ × ε × ζ × η × θ} (h : ∀ a b c d e x y z, Le (f a b c d e x y z) (g a b c d e x y z)) : Le (t8 f p) (t8 g p) := h _ _ _ _ _ _ _ _
theorem Le.t9 {ι : Type} {f g : α → β → γ → δ → ε → ζ → η → θ → ι → Option κ} {p : α × β × γ × δ × ε × ζ × η × θ × ι} (h : ∀ a b c d e x y z w, Le (f a b c d e x y z w) (g a b c d e x y z w)) : Le (t9 f p) (t9 g p) := h _ _ _ _ _ _ _ _ _
theorem Le.elim {f f' : α → Option κ} {g g' : β → Option κ} {s : α ⊕ β} (h1 : ∀ a, Le (f a) (f' a)) (h2 : ∀ b, Le (g b) (g' b)) : Le (Sum.elim f g s) (Sum.elim f' g' s) := by
  cases s with
  | inl a => exact h1 a
  | inr b => exact h2 b
end
end Go.Vx

namespace Go.Vx
open Go Go.RowKit
set_option linter.unusedVariables false

noncomputable def Qv (n : Int) (low : Int) (high : Int) : Option Bool :=
  some ((decide (low ≤ n)) && (decide (n ≤ high)))
theorem Jy (n : Int) (low : Int) (high : Int) : Le (Qv n low high) (ZV n low high) := by
  unfold Qv ZV
  with_reducible repeat' (first | exact Le.refl _ | apply Le.bind | intro _)

noncomputable def Jc (c_ : Int) (s3 : Str) : Option ((Str) ⊕ (Str)) :=
  (gd ((decide (0 < (s3.length : Int))) == true) 0 (JQ s3 (i64 ((s3.length : Int) - 1)))).bind fun b =>
  if ((decide (0 < (s3.length : Int))) && (decide (b = c_))) = true then
  (slc s3 0 (i64 ((s3.length : Int) - 1))).bind fun s4 =>
  some (.inl s4)
  else
  some (.inr s3)
theorem Zdi (c_ : Int) (s3 : Str) : Le (Jc c_ s3) (XC c_ s3) := by
  unfold Jc XC
  with_reducible repeat' (first | exact Le.refl _ | apply Le.bind | apply Le.ite | apply Le.gd | intro _)

noncomputable def Zac (s : Str) (c_ : Int) : Option Str :=
  ((JE (t1 (Jc c_)) s) : Option ((Str))).bind (t1 fun (s2 : Str) =>
  some s2)
theorem Zed (s : Str) (c_ : Int) : Le (Zac s c_) (Xs s c_) := by
  unfold Zac Xs
  with_reducible repeat' (first | exact Le.refl _ | apply Le.bind | apply Le.loop | apply Le.t1 | apply Zdi | intro _)

noncomputable def Js (c_ : Int) (s3 : Str) : Option ((Str) ⊕ (Str)) :=
  (gd ((decide (0 < (s3.length : Int))) == true) 0 (JQ s3 0)).bind fun b =>
  if ((decide (0 < (s3.length : Int))) && (decide (b = c_))) = true then
  (slc s3 1 (s3.length : Int)).bind fun s4 =>
  some (.inl s4)
  else
  some (.inr s3)
theorem ZdO (c_ : Int) (s3 : Str) : Le (Js c_ s3) (XR c_ s3) := by
  unfold Js XR
  with_reducible repeat' (first | exact Le.refl _ | apply Le.bind | apply Le.ite | apply Le.gd | intro _)

noncomputable def Zax (s : Str) (c_ : Int) : Option Str :=
  ((JE (t1 (Js c_)) s) : Option ((Str))).bind (t1 fun (s2 : Str) =>
  some s2)
theorem Zez (s : Str) (c_ : Int) : Le (Zax s c_) (XM s c_) := by
  unfold Zax XM
  with_reducible repeat' (first | exact Le.refl _ | apply Le.bind | apply Le.loop | apply Le.t1 | apply ZdO | intro _)

noncomputable def Jn (chars : Str) (as_2 : Vector Bool 256) (i : Int) : Option (((Vector Bool 256) × Int) ⊕ ((Vector Bool 256) × Bool) ⊕ ((Vector Bool 256))) :=
  if (decide (i < (chars.length : Int))) = true then
  (JQ chars i).bind fun b =>
  if (decide (128 ≤ b)) = true then
  some (.inr (.inl (as_2, false)))
  else
  (ZhP as_2 b).bind fun x =>
  some (.inl ((Zmw as_2 b true), (i64 (i + 1))))
  else
  some (.inr (.inr as_2))
theorem Zdq (chars : Str) (as_2 : Vector Bool 256) (i : Int) : Le (Jn chars as_2 i) (XT chars as_2 i) := by
  unfold Jn XT
  with_reducible repeat' (first | exact Le.refl _ | apply Le.bind | apply Le.ite | intro _)

noncomputable def Xa (chars : Str) : Option ((Vector Bool 256) × Bool) :=
  ((JE (t2 (Jn chars)) ((Vector.replicate 256 false), 0)) : Option (((Vector Bool 256) × Bool) ⊕ ((Vector Bool 256)))).bind (Sum.elim (fun q' => some q') (t1 fun (as_ : Vector Bool 256) =>
  some (as_, true)))
theorem ZbP (chars : Str) : Le (Xa chars) (QX chars) := by
  unfold Xa QX
  with_reducible repeat' (first | exact Le.refl _ | apply Le.bind | apply Le.loop | apply Le.t1 | apply Le.t2 | apply Le.elim | apply Zdq | intro _)

noncomputable def Q3 (as_ : Vector Bool 256) (c_ : Int) : Option Bool :=
  (ZhP as_ c_).bind fun x =>
  some x
theorem ZaK (as_ : Vector Bool 256) (c_ : Int) : Le (Q3 as_ c_) (Z6 as_ c_) := by
  unfold Q3 Z6
  with_reducible repeat' (first | exact Le.refl _ | apply Le.bind | intro _)

noncomputable def X7 (as_ : Vector Bool 256) (s3 : Str) : Option ((Str) ⊕ (Str)) :=
  if (decide (0 < (s3.length : Int))) = true then
  (JQ s3 (i64 ((s3.length : Int) - 1))).bind fun b =>
  (Q3 as_ b).bind fun y =>
  if (!y) = true then
  some (.inr s3)
  else
  (slc s3 0 (i64 ((s3.length : Int) - 1))).bind fun s4 =>
  some (.inl s4)
  else
  some (.inr s3)
theorem Zc5 (as_ : Vector Bool 256) (s3 : Str) : Le (X7 as_ s3) (Z7 as_ s3) := by
  unfold X7 Z7
  with_reducible repeat' (first | exact Le.refl _ | apply Le.bind | apply Le.ite | apply ZaK | intro _)

noncomputable def JN (s : Str) (as_ : Vector Bool 256) : Option Str :=
  ((JE (t1 (X7 as_)) s) : Option ((Str))).bind (t1 fun (s2 : Str) =>
  some s2)
theorem ZdX (s : Str) (as_ : Vector Bool 256) : Le (JN s as_) (Qt s as_) := by
  unfold JN Qt
  with_reducible repeat' (first | exact Le.refl _ | apply Le.bind | apply Le.loop | apply Le.t1 | apply Zc5 | intro _)

noncomputable def Jf (as_ : Vector Bool 256) (s3 : Str) : Option ((Str) ⊕ (Str)) :=
  if (decide (0 < (s3.length : Int))) = true then
  (JQ s3 0).bind fun b =>
  (Q3 as_ b).bind fun y =>
  if (!y) = true then
  some (.inr s3)
  else
  (slc s3 1 (s3.length : Int)).bind fun s4 =>
  some (.inl s4)
  else
  some (.inr s3)
theorem Zdk (as_ : Vector Bool 256) (s3 : Str) : Le (Jf as_ s3) (Z9 as_ s3) := by
  unfold Jf Z9
  with_reducible repeat' (first | exact Le.refl _ | apply Le.bind | apply Le.ite | apply ZaK | intro _)

noncomputable def Zad (s : Str) (as_ : Vector Bool 256) : Option Str :=
  ((JE (t1 (Jf as_)) s) : Option ((Str))).bind (t1 fun (s2 : Str) =>
  some s2)
theorem Zd7 (s : Str) (as_ : Vector Bool 256) : Le (Zad s as_) (Qy s as_) := by
  unfold Zad Qy
  with_reducible repeat' (first | exact Le.refl _ | apply Le.bind | apply Le.loop | apply Le.t1 | apply Zdk | intro _)

noncomputable def ZcF (b : Int) : Option Bool :=
  some (!decide ((Znk .u8 b 192) = 128))
theorem Zhf (b : Int) : Le (ZcF b) (Zbc b) := by
  unfold ZcF Zbc
  with_reducible repeat' (first | exact Le.refl _ | apply Le.bind | intro _)

noncomputable def Xh (s : Str) (start2 : Int) : Option ((Int) ⊕ (Int)) :=
  if (decide ((max (i64 ((s.length : Int) - 4)) 0) ≤ start2)) = true then
  (JQ s start2).bind fun b2 =>
  (ZcF b2).bind fun y =>
  if y = true then
  some (.inr start2)
  else
  some (.inl (i64 (start2 - 1)))
  else
  some (.inr start2)
theorem ZbU (s : Str) (start2 : Int) : Le (Xh s start2) (QJ s start2) := by
  unfold Xh QJ
  with_reducible repeat' (first | exact Le.refl _ | apply Le.bind | apply Le.ite | apply Zhf | intro _)

noncomputable def XK (s : Str) : Option (Int × Int) :=
  if (decide ((s.length : Int) < 1)) = true then
  some (65533, 0)
  else
  (JQ s 0).bind fun b =>
  none
theorem Zcw (s : Str) : Le (XK s) (QB s) := by
  unfold XK QB
  with_reducible repeat' (first | exact Le.refl _ | apply Le.bind | apply Le.ite | intro _)

noncomputable def Xq (s : Str) : Option (Int × Int) :=
  (gd ((!decide (s = [])) == true) 0 (JQ s 0)).bind fun b =>
  if ((!decide (s = [])) && (decide (b < 128))) = true then
  (JQ s 0).bind fun b2 =>
  some ((i32 b2), 1)
  else
  (XK s).bind fun y =>
  some (y.1, y.2)
theorem Za9 (s : Str) : Le (Xq s) (QF s) := by
  unfold Xq QF
  with_reducible repeat' (first | exact Le.refl _ | apply Le.bind | apply Le.ite | apply Le.gd | apply Zcw | intro _)

noncomputable def XE (s : Str) : Option (Int × Int) :=
  if (decide ((s.length : Int) = 0)) = true then
  some (65533, 0)
  else
  (JQ s (i64 ((s.length : Int) - 1))).bind fun b =>
  if (decide ((i32 b) < 128)) = true then
  some ((i32 b), 1)
  else
  ((JE (t1 (Xh s)) (i64 ((i64 ((s.length : Int) - 1)) - 1))) : Option ((Int))).bind (t1 fun (start : Int) =>
  ((if (decide (start < 0)) = true then
  some 0
  else
  some start) : Option ((Int))).bind (t1 fun (start3 : Int) =>
  (slc s start3 (s.length : Int)).bind fun s2 =>
  (Xq s2).bind fun y2 =>
  if (!decide ((i64 (start3 + y2.2)) = (s.length : Int))) = true then
  some (65533, 1)
  else
  some (y2.1, y2.2)))
theorem ZcH (s : Str) : Le (XE s) (QC s) := by
  unfold XE QC
  with_reducible repeat' (first | exact Le.refl _ | apply Le.bind | apply Le.ite | apply Le.loop | apply Le.t1 | apply ZbU | apply Za9 | intro _)

noncomputable def X6 (s : Str) (r_ : Int) : Option Bool :=
  none
theorem ZbT (s : Str) (r_ : Int) : Le (X6 s r_) (Q0 s r_) := by
  unfold X6 Q0
  with_reducible repeat' (first | exact Le.refl _ | apply Le.bind | intro _)

noncomputable def XJ (cutset : Str) (s3 : Str) : Option ((Str) ⊕ (Str)) :=
  if (decide (0 < (s3.length : Int))) = true then
  (JQ s3 (i64 ((s3.length : Int) - 1))).bind fun b =>
  ((if (decide (128 ≤ (i32 b))) = true then
  (XE s3).bind fun y =>
  some (y.1, y.2)
  else
  some ((i32 b), 1)) : Option ((Int × Int))).bind (t2 fun (r_ : Int) (n : Int) =>
  (X6 cutset r_).bind fun y2 =>
  if (!y2) = true then
  some (.inr s3)
  else
  (slc s3 0 (i64 ((s3.length : Int) - n))).bind fun s4 =>
  some (.inl s4))
  else
  some (.inr s3)
theorem ZcG (cutset : Str) (s3 : Str) : Le (XJ cutset s3) (Q4 cutset s3) := by
  unfold XJ Q4
  with_reducible repeat' (first | exact Le.refl _ | apply Le.bind | apply Le.ite | apply Le.t2 | apply ZcH | apply ZbT | intro _)

noncomputable def Jd (s : Str) (cutset : Str) : Option Str :=
  ((JE (t1 (XJ cutset)) s) : Option ((Str))).bind (t1 fun (s2 : Str) =>
  some s2)
theorem Zdh (s : Str) (cutset : Str) : Le (Jd s cutset) (QS s cutset) := by
  unfold Jd QS
  with_reducible repeat' (first | exact Le.refl _ | apply Le.bind | apply Le.loop | apply Le.t1 | apply ZcG | intro _)

noncomputable def XZ (cutset : Str) (s3 : Str) : Option ((Str) ⊕ (Str)) :=
  if (decide (0 < (s3.length : Int))) = true then
  (Xq s3).bind fun y =>
  (X6 cutset y.1).bind fun y2 =>
  if (!y2) = true then
  some (.inr s3)
  else
  (slc s3 y.2 (s3.length : Int)).bind fun s4 =>
  some (.inl s4)
  else
  some (.inr s3)
theorem ZcO (cutset : Str) (s3 : Str) : Le (XZ cutset s3) (Xb cutset s3) := by
  unfold XZ Xb
  with_reducible repeat' (first | exact Le.refl _ | apply Le.bind | apply Le.ite | apply Za9 | apply ZbT | intro _)

noncomputable def Jw (s : Str) (cutset : Str) : Option Str :=
  ((JE (t1 (XZ cutset)) s) : Option ((Str))).bind (t1 fun (s2 : Str) =>
  some s2)
theorem ZdT (s : Str) (cutset : Str) : Le (Jw s cutset) (Q2 s cutset) := by
  unfold Jw Q2
  with_reducible repeat' (first | exact Le.refl _ | apply Le.bind | apply Le.loop | apply Le.t1 | apply ZcO | intro _)

noncomputable def ZdL (s : Str) (cutset : Str) : Option Str :=
  if ((decide (s = [])) || (decide (cutset = []))) = true then
  some s
  else
  (gd ((decide ((cutset.length : Int) = 1)) == true) 0 (JQ cutset 0)).bind fun b =>
  if ((decide ((cutset.length : Int) = 1)) && (decide (b < 128))) = true then
  (JQ cutset 0).bind fun b2 =>
  (Zac s b2).bind fun y =>
  (JQ cutset 0).bind fun b3 =>
  (Zax y b3).bind fun y2 =>
  some y2
  else
  (Xa cutset).bind fun y3 =>
  if y3.2 = true then
  (JN s y3.1).bind fun y4 =>
  (Zad y4 y3.1).bind fun y5 =>
  some y5
  else
  (Jd s cutset).bind fun y6 =>
  (Jw y6 cutset).bind fun y7 =>
  some y7
theorem Zis (s : Str) (cutset : Str) : Le (ZdL s cutset) (JK s cutset) := by
  unfold ZdL JK
  with_reducible repeat' (first | exact Le.refl _ | apply Le.bind | apply Le.ite | apply Le.gd | apply Zed | apply Zez | apply ZbP | apply ZdX | apply Zd7 | apply Zdh | apply ZdT | intro _)

noncomputable def Zci (s : Str) : Option Bool :=
  (Qv (s.length : Int) 1 30).bind fun y =>
  (gd (y == true) [] (ZdL s [97, 98, 99, 100, 101, 102, 103, 104, 105, 106, 107, 108, 109, 110, 111, 112, 113, 114, 115, 116, 117, 118, 119, 120, 121, 122, 48, 49, 50, 51, 52, 53, 54, 55, 56, 57, 45])).bind fun y2 =>
  some (y && (decide (y2 = [])))
theorem Zfe (s : Str) : Le (Zci s) (JF s) := by
  unfold Zci JF
  with_reducible repeat' (first | exact Le.refl _ | apply Le.bind | apply Le.gd | apply Jy | apply Zis | intro _)

noncomputable def Jv (s : List Int) (v : Int) (i : Int) : Option ((Int) ⊕ (Int) ⊕ (Unit)) :=
  if (decide (i < (s.length : Int))) = true then
  (idx s i).bind fun x =>
  if (decide (v = x)) = true then
  some (.inr (.inl i))
  else
  some (.inl (i64 (i + 1)))
  else
  some (.inr (.inr ()))
theorem Zdr (s : List Int) (v : Int) (i : Int) : Le (Jv s v i) (Qc s v i) := by
  unfold Jv Qc
  with_reducible repeat' (first | exact Le.refl _ | apply Le.bind | apply Le.ite | intro _)

noncomputable def Zas (s : List Int) (v : Int) : Option Int :=
  ((JE (t1 (Jv s v)) 0) : Option ((Int) ⊕ (Unit))).bind (Sum.elim (fun q' => some q') (t0 (some (-1))))
theorem ZeM (s : List Int) (v : Int) : Le (Zas s v) (QZ s v) := by
  unfold Zas QZ
  with_reducible repeat' (first | exact Le.refl _ | apply Le.bind | apply Le.loop | apply Le.t0 | apply Le.t1 | apply Le.elim | apply Zdr | intro _)

noncomputable def Jo (s : List Int) (v : Int) : Option Bool :=
  (Zas s v).bind fun y =>
  some (decide (0 ≤ y))
theorem Zdo (s : List Int) (v : Int) : Le (Jo s v) (Qp s v) := by
  unfold Jo Qp
  with_reducible repeat' (first | exact Le.refl _ | apply Le.bind | apply ZeM | intro _)

noncomputable def Xw (l : List Int) (c0 : api_Instrument) : Option Bool :=
  (Jo l c0.Kind).bind fun y =>
  some y
theorem Zhp (l : List Int) (c0 : api_Instrument) : Le (Xw l c0) (ZT l c0) := by
  unfold Xw ZT
  with_reducible repeat' (first | exact Le.refl _ | apply Le.bind | apply Zdo | intro _)

noncomputable def Zds (i : api_Instrument) : Option Bool :=
  (gd ((!decide (i.Places = 0)) == true) false (Xw ([1, 4, 6] : List Int) i)).bind fun y =>
  (gd ((((!decide (i.Places = 0)) && (!y)) == false) && (((((!decide (i.Low = 0)) || (!decide (i.High = 0))) || (!decide (i.Steps = 0))) || (decide (0 < (i.Zones.length : Int)))) == true)) false (Xw ([2] : List Int) i)).bind fun y2 =>
  (gd (((((!decide (i.Places = 0)) && (!y)) || (((((!decide (i.Low = 0)) || (!decide (i.High = 0))) || (!decide (i.Steps = 0))) || (decide (0 < (i.Zones.length : Int)))) && (!y2))) == false) && (((!decide (i.Op = 0)) || (!decide (i.N = 0))) == true)) false (Xw ([3, 5] : List Int) i)).bind fun y3 =>
  (gd ((((((!decide (i.Places = 0)) && (!y)) || (((((!decide (i.Low = 0)) || (!decide (i.High = 0))) || (!decide (i.Steps = 0))) || (decide (0 < (i.Zones.length : Int)))) && (!y2))) || (((!decide (i.Op = 0)) || (!decide (i.N = 0))) && (!y3))) == false) && (i.Latch == true)) false (Xw ([3] : List Int) i)).bind fun y4 =>
  (gd (((((((!decide (i.Places = 0)) && (!y)) || (((((!decide (i.Low = 0)) || (!decide (i.High = 0))) || (!decide (i.Steps = 0))) || (decide (0 < (i.Zones.length : Int)))) && (!y2))) || (((!decide (i.Op = 0)) || (!decide (i.N = 0))) && (!y3))) || (i.Latch && (!y4))) == false) && ((!decide (i.Size = 0)) == true)) false (Xw ([6] : List Int) i)).bind fun y5 =>
  some ((((((!decide (i.Places = 0)) && (!y)) || (((((!decide (i.Low = 0)) || (!decide (i.High = 0))) || (!decide (i.Steps = 0))) || (decide (0 < (i.Zones.length : Int)))) && (!y2))) || (((!decide (i.Op = 0)) || (!decide (i.N = 0))) && (!y3))) || (i.Latch && (!y4))) || ((!decide (i.Size = 0)) && (!y5)))
theorem Zik (i : api_Instrument) : Le (Zds i) (Zan i) := by
  unfold Zds Zan
  with_reducible repeat' (first | exact Le.refl _ | apply Le.bind | apply Le.gd | apply Zhp | intro _)

noncomputable def Zbl (n : Int) : Option Bool :=
  (Qv n (-1125899906842624) 1125899906842624).bind fun y =>
  some y
theorem Zfj (n : Int) : Le (Zbl n) (QL n) := by
  unfold Zbl QL
  with_reducible repeat' (first | exact Le.refl _ | apply Le.bind | apply Jy | intro _)

noncomputable def Za3 (i : api_Instrument) (i2 : Int) : Option ((Int) ⊕ (Int) ⊕ (Unit)) :=
  if (decide (i2 < (i.Zones.length : Int))) = true then
  (idx i.Zones i2).bind fun x =>
  (Zci x.Name).bind fun y4 =>
  if (!y4) = true then
  some (.inr (.inl 8))
  else
  if (decide (x.To < x.From)) = true then
  some (.inr (.inl 9))
  else
  (gd ((decide (0 < i2)) == true) (api_Zone.mk 0 0 []) (idx i.Zones (i64 (i2 - 1)))).bind fun x2 =>
  if ((decide (0 < i2)) && (decide (x.From ≤ x2.To))) = true then
  some (.inr (.inl 10))
  else
  some (.inl (i64 (i2 + 1)))
  else
  some (.inr (.inr ()))
theorem Zfm (i : api_Instrument) (i2 : Int) : Le (Za3 i i2) (QH i i2) := by
  unfold Za3 QH
  with_reducible repeat' (first | exact Le.refl _ | apply Le.bind | apply Le.ite | apply Le.gd | apply Zfe | intro _)

noncomputable def Zcg (i : api_Instrument) : Option Int :=
  (gd ((decide (i.High ≤ i.Low)) == false) false (Zbl i.Low)).bind fun y =>
  (gd (((decide (i.High ≤ i.Low)) || (!y)) == false) false (Zbl i.High)).bind fun y2 =>
  (gd ((((decide (i.High ≤ i.Low)) || (!y)) || (!y2)) == false) false (Qv i.Steps 1 1000)).bind fun y3 =>
  if ((((decide (i.High ≤ i.Low)) || (!y)) || (!y2)) || (!y3)) = true then
  some 9
  else
  if (decide (10 < (i.Zones.length : Int))) = true then
  some 3
  else
  ((JE (t1 (Za3 i)) 0) : Option ((Int) ⊕ (Unit))).bind (Sum.elim (fun q' => some q') (t0 (some 0)))
theorem ZgJ (i : api_Instrument) : Le (Zcg i) (XV i) := by
  unfold Zcg XV
  with_reducible repeat' (first | exact Le.refl _ | apply Le.bind | apply Le.ite | apply Le.gd | apply Le.loop | apply Le.t0 | apply Le.t1 | apply Le.elim | apply Zfj | apply Jy | apply Zfm | intro _)

noncomputable def J7 (i : api_Instrument) : Option Int :=
  (Qv i.Kind 1 6).bind fun y =>
  if (!y) = true then
  some 7
  else
  (Zci i.Name).bind fun y2 =>
  (gd ((!y2) == false) false (Qv (i.Track.length : Int) 1 30)).bind fun y3 =>
  if ((!y2) || (!y3)) = true then
  some 8
  else
  (Zds i).bind fun y4 =>
  if y4 = true then
  some 2
  else
  (Qv i.Places 0 6).bind fun y5 =>
  if (!y5) = true then
  some 9
  else
  if (decide (i.Kind = 2)) = true then
  (Zcg i).bind fun y6 =>
  some y6
  else
  ((if (decide (i.Kind = 3)) = true then
  some (decide (i.Kind = 3))
  else
  some (decide (i.Kind = 5))) : Option ((Bool))).bind (t1 fun (v : Bool) =>
  if v = true then
  (Qv i.Op 1 6).bind fun y7 =>
  if (!y7) = true then
  some 7
  else
  (Zbl i.N).bind fun y8 =>
  if (!y8) = true then
  some 9
  else
  some 0
  else
  if (decide (i.Kind = 6)) = true then
  (Qv i.Size 1 50).bind fun y9 =>
  if (!y9) = true then
  some 9
  else
  some 0
  else
  some 0)
theorem Zeo (i : api_Instrument) : Le (J7 i) (Qz i) := by
  unfold J7 Qz
  with_reducible repeat' (first | exact Le.refl _ | apply Le.bind | apply Le.ite | apply Le.gd | apply Le.t1 | apply Jy | apply Zfe | apply Zik | apply ZgJ | apply Zfj | intro _)

noncomputable def Qa (s : List api_Instrument) (f : api_Instrument → Option Bool) (i : Int) : Option ((Int) ⊕ (Int) ⊕ (Unit)) :=
  if (decide (i < (s.length : Int))) = true then
  (idx s i).bind fun x =>
  (f x).bind fun y =>
  if y = true then
  some (.inr (.inl i))
  else
  some (.inl (i64 (i + 1)))
  else
  some (.inr (.inr ()))
theorem X8 (s : List api_Instrument) (f : api_Instrument → Option Bool) (i : Int) (f' : api_Instrument → Option Bool) (h_f : ∀ z0, Le (f z0) (f' z0)) : Le (Qa s f i) (Zv s f' i) := by
  unfold Qa Zv
  with_reducible repeat' (first | exact Le.refl _ | apply Le.bind | apply Le.ite | apply h_f | intro _)

noncomputable def Qd (s : List api_Instrument) (f : api_Instrument → Option Bool) : Option Int :=
  ((JE (t1 (Qa s f)) 0) : Option ((Int) ⊕ (Unit))).bind (Sum.elim (fun q' => some q') (t0 (some (-1))))
theorem Jk (s : List api_Instrument) (f : api_Instrument → Option Bool) (f' : api_Instrument → Option Bool) (h_f : ∀ z0, Le (f z0) (f' z0)) : Le (Qd s f) (ZG s f') := by
  unfold Qd ZG
  with_reducible repeat' (first | exact Le.refl _ | apply Le.bind | apply Le.loop | apply Le.t0 | apply Le.t1 | apply Le.elim | apply X8 | apply h_f | intro _)

noncomputable def ZS (s : List api_Instrument) (f : api_Instrument → Option Bool) : Option Bool :=
  (Qd s f).bind fun y =>
  some (decide (0 ≤ y))
theorem QD (s : List api_Instrument) (f : api_Instrument → Option Bool) (f' : api_Instrument → Option Bool) (h_f : ∀ z0, Le (f z0) (f' z0)) : Le (ZS s f) (Zp s f') := by
  unfold ZS Zp
  with_reducible repeat' (first | exact Le.refl _ | apply Le.bind | apply Jk | apply h_f | intro _)

noncomputable def Zc2 (x : api_Instrument) (c0 : api_Instrument) : Option Bool :=
  some (decide (x.Name = c0.Name))
theorem Zhz (x : api_Instrument) (c0 : api_Instrument) : Le (Zc2 x c0) (ZaQ x c0) := by
  unfold Zc2 ZaQ
  with_reducible repeat' (first | exact Le.refl _ | apply Le.bind | intro _)

noncomputable def Zcv (p : api_Panel) (i : Int) : Option ((Int) ⊕ (Int) ⊕ (Unit)) :=
  if (decide (i < (p.Instruments.length : Int))) = true then
  (idx p.Instruments i).bind fun x =>
  (J7 x).bind fun y =>
  if (!decide (y = 0)) = true then
  some (.inr (.inl y))
  else
  (slc p.Instruments 0 i).bind fun l =>
  (ZS l (fun z0 => Zc2 z0 x)).bind fun y2 =>
  if y2 = true then
  some (.inr (.inl 5))
  else
  some (.inl (i64 (i + 1)))
  else
  some (.inr (.inr ()))
theorem ZgY (p : api_Panel) (i : Int) : Le (Zcv p i) (XN p i) := by
  unfold Zcv XN
  with_reducible repeat' (first | exact Le.refl _ | apply Le.bind | apply Le.ite | apply Zeo | apply QD | apply Zhz | intro _)

noncomputable def Zd5 (p : api_Panel) : Option Int :=
  if (decide (100 < (p.Instruments.length : Int))) = true then
  some 3
  else
  ((JE (t1 (Zcv p)) 0) : Option ((Int) ⊕ (Unit))).bind (Sum.elim (fun q' => some q') (t0 (some 0)))
theorem ZiK (p : api_Panel) : Le (Zd5 p) (JH p) := by
  unfold Zd5 JH
  with_reducible repeat' (first | exact Le.refl _ | apply Le.bind | apply Le.ite | apply Le.loop | apply Le.t0 | apply Le.t1 | apply Le.elim | apply ZgY | intro _)

noncomputable def Zb5 (n : Int) (low : Int) (high : Int) : Option Bool :=
  some ((decide (low ≤ n)) && (decide (n ≤ high)))
theorem Zfi (n : Int) (low : Int) (high : Int) : Le (Zb5 n low high) (JI n low high) := by
  unfold Zb5 JI
  with_reducible repeat' (first | exact Le.refl _ | apply Le.bind | intro _)

noncomputable def Zdy (s : Str) : Option Bool :=
  ((if (decide (s = [112, 104, 97, 115, 101])) = true then
  some (decide (s = [112, 104, 97, 115, 101]))
  else
  if (decide (s = [109, 111, 118, 101])) = true then
  some (decide (s = [109, 111, 118, 101]))
  else
  if (decide (s = [114, 117, 108, 101])) = true then
  some (decide (s = [114, 117, 108, 101]))
  else
  if (decide (s = [105, 102])) = true then
  some (decide (s = [105, 102]))
  else
  if (decide (s = [111, 114])) = true then
  some (decide (s = [111, 114]))
  else
  if (decide (s = [97, 110, 100])) = true then
  some (decide (s = [97, 110, 100]))
  else
  if (decide (s = [116, 114, 117, 101])) = true then
  some (decide (s = [116, 114, 117, 101]))
  else
  if (decide (s = [102, 97, 108, 115, 101])) = true then
  some (decide (s = [102, 97, 108, 115, 101]))
  else
  if (decide (s = [115, 116, 101, 97, 100, 121])) = true then
  some (decide (s = [115, 116, 101, 97, 100, 121]))
  else
  if (decide (s = [110, 111, 116])) = true then
  some (decide (s = [110, 111, 116]))
  else
  if (decide (s = [102, 111, 114])) = true then
  some (decide (s = [102, 111, 114]))
  else
  if (decide (s = [119, 105, 116, 104, 105, 110])) = true then
  some (decide (s = [119, 105, 116, 104, 105, 110]))
  else
  if (decide (s = [99, 111, 117, 110, 116])) = true then
  some (decide (s = [99, 111, 117, 110, 116]))
  else
  if (decide (s = [111, 102])) = true then
  some (decide (s = [111, 102]))
  else
  if (decide (s = [114, 105, 115, 101, 115])) = true then
  some (decide (s = [114, 105, 115, 101, 115]))
  else
  some (decide (s = [115, 105, 110, 99, 101]))) : Option ((Bool))).bind (t1 fun (v : Bool) =>
  if v = true then
  some true
  else
  some false)
theorem Zin (s : Str) : Le (Zdy s) (Zap s) := by
  unfold Zdy Zap
  with_reducible repeat' (first | exact Le.refl _ | apply Le.bind | apply Le.ite | apply Le.t1 | intro _)

noncomputable def ZcA (c_ : Int) : Option Bool :=
  some ((((decide (97 ≤ c_)) && (decide (c_ ≤ 122))) || ((decide (48 ≤ c_)) && (decide (c_ ≤ 57)))) || (decide (c_ = 45)))
theorem Zhc (c_ : Int) : Le (ZcA c_) (JY c_) := by
  unfold ZcA JY
  with_reducible repeat' (first | exact Le.refl _ | apply Le.bind | intro _)

noncomputable def ZbX (s : Str) (i : Int) : Option ((Int) ⊕ (Bool) ⊕ (Unit)) :=
  if (decide (i < (s.length : Int))) = true then
  (JQ s i).bind fun b3 =>
  (ZcA b3).bind fun y3 =>
  if (!y3) = true then
  some (.inr (.inl false))
  else
  some (.inl (i64 (i + 1)))
  else
  some (.inr (.inr ()))
theorem ZgA (s : Str) (i : Int) : Le (ZbX s i) (Xm s i) := by
  unfold ZbX Xm
  with_reducible repeat' (first | exact Le.refl _ | apply Le.bind | apply Le.ite | apply Zhc | intro _)

noncomputable def Zdv (s : Str) : Option Bool :=
  (Zb5 (s.length : Int) 1 30).bind fun y =>
  (gd ((!y) == false) 0 (JQ s 0)).bind fun b =>
  (gd (((!y) || (decide (b < 97))) == false) 0 (JQ s 0)).bind fun b2 =>
  (gd ((((!y) || (decide (b < 97))) || (decide (122 < b2))) == false) false (Zdy s)).bind fun y2 =>
  if ((((!y) || (decide (b < 97))) || (decide (122 < b2))) || y2) = true then
  some false
  else
  ((JE (t1 (ZbX s)) 0) : Option ((Bool) ⊕ (Unit))).bind (Sum.elim (fun q' => some q') (t0 (some true)))
theorem ZiB (s : Str) : Le (Zdv s) (Zav s) := by
  unfold Zdv Zav
  with_reducible repeat' (first | exact Le.refl _ | apply Le.bind | apply Le.ite | apply Le.gd | apply Le.loop | apply Le.t0 | apply Le.t1 | apply Le.elim | apply Zfi | apply Zin | apply ZgA | intro _)

noncomputable def Qx (s : List api_Track) (f : api_Track → Option Bool) (i : Int) : Option ((Int) ⊕ (Int) ⊕ (Unit)) :=
  if (decide (i < (s.length : Int))) = true then
  (idx s i).bind fun x =>
  (f x).bind fun y =>
  if y = true then
  some (.inr (.inl i))
  else
  some (.inl (i64 (i + 1)))
  else
  some (.inr (.inr ()))
theorem Zat (s : List api_Track) (f : api_Track → Option Bool) (i : Int) (f' : api_Track → Option Bool) (h_f : ∀ z0, Le (f z0) (f' z0)) : Le (Qx s f i) (Zs s f' i) := by
  unfold Qx Zs
  with_reducible repeat' (first | exact Le.refl _ | apply Le.bind | apply Le.ite | apply h_f | intro _)

noncomputable def Qg (s : List api_Track) (f : api_Track → Option Bool) : Option Int :=
  ((JE (t1 (Qx s f)) 0) : Option ((Int) ⊕ (Unit))).bind (Sum.elim (fun q' => some q') (t0 (some (-1))))
theorem Xy (s : List api_Track) (f : api_Track → Option Bool) (f' : api_Track → Option Bool) (h_f : ∀ z0, Le (f z0) (f' z0)) : Le (Qg s f) (ZH s f') := by
  unfold Qg ZH
  with_reducible repeat' (first | exact Le.refl _ | apply Le.bind | apply Le.loop | apply Le.t0 | apply Le.t1 | apply Le.elim | apply Zat | apply h_f | intro _)

noncomputable def Qw (s : List api_Track) (f : api_Track → Option Bool) : Option Bool :=
  (Qg s f).bind fun y =>
  some (decide (0 ≤ y))
theorem Zaw (s : List api_Track) (f : api_Track → Option Bool) (f' : api_Track → Option Bool) (h_f : ∀ z0, Le (f z0) (f' z0)) : Le (Qw s f) (ZD s f') := by
  unfold Qw ZD
  with_reducible repeat' (first | exact Le.refl _ | apply Le.bind | apply Xy | apply h_f | intro _)

noncomputable def ZaX (x : api_Track) (c0 : api_Track) : Option Bool :=
  some (decide (x.Name = c0.Name))
theorem ZeX (x : api_Track) (c0 : api_Track) : Le (ZaX x c0) (Xk x c0) := by
  unfold ZaX Xk
  with_reducible repeat' (first | exact Le.refl _ | apply Le.bind | intro _)

noncomputable def Jz (n : Int) (low : Int) (high : Int) : Option Bool :=
  some ((decide (low ≤ n)) && (decide (n ≤ high)))
theorem ZeH (n : Int) (low : Int) (high : Int) : Le (Jz n low high) (Xz n low high) := by
  unfold Jz Xz
  with_reducible repeat' (first | exact Le.refl _ | apply Le.bind | intro _)

noncomputable def Zch (s : api_Series) (i : Int) : Option ((Int) ⊕ (Int × Int) ⊕ (Unit)) :=
  if (decide (i < (s.Samples.length : Int))) = true then
  (idx s.Samples i).bind fun x =>
  (Jz x.At 0 1099511627776).bind fun y2 =>
  (gd ((!y2) == false) false (Jz x.N (-1125899906842624) 1125899906842624)).bind fun y3 =>
  (gd (((!y2) || (!y3)) == false) false (Jz x.Mark 0 4)).bind fun y4 =>
  if (((!y2) || (!y3)) || (!y4)) = true then
  some (.inr (.inl (i, 9)))
  else
  if ((!decide (x.N = 0)) && (decide (x.Mark ≤ 1))) = true then
  some (.inr (.inl (i, 2)))
  else
  (gd ((decide (0 < i)) == true) (api_Sample.mk 0 0 0) (idx s.Samples (i64 (i - 1)))).bind fun x2 =>
  if ((decide (0 < i)) && (decide (x.At ≤ x2.At))) = true then
  some (.inr (.inl (i, 10)))
  else
  some (.inl (i64 (i + 1)))
  else
  some (.inr (.inr ()))
theorem ZgI (s : api_Series) (i : Int) : Le (Zch s i) (XX s i) := by
  unfold Zch XX
  with_reducible repeat' (first | exact Le.refl _ | apply Le.bind | apply Le.ite | apply Le.gd | apply ZeH | intro _)

noncomputable def ZdG (s : api_Series) : Option (Int × Int) :=
  (Jz s.Den 1 1000000).bind fun y =>
  if (!y) = true then
  some ((-1), 9)
  else
  if (decide (20000 < (s.Samples.length : Int))) = true then
  some ((-1), 3)
  else
  ((JE (t1 (Zch s)) 0) : Option ((Int × Int) ⊕ (Unit))).bind (Sum.elim (fun q' => some q') (t0 (some ((-1), 0))))
theorem Zif (s : api_Series) : Le (ZdG s) (Zau s) := by
  unfold ZdG Zau
  with_reducible repeat' (first | exact Le.refl _ | apply Le.bind | apply Le.ite | apply Le.loop | apply Le.t0 | apply Le.t1 | apply Le.elim | apply ZeH | apply ZgI | intro _)

noncomputable def ZdH (s : api_Series) : Option Int :=
  (ZdG s).bind fun y =>
  some y.2
theorem Zii (s : api_Series) : Le (ZdH s) (Zaz s) := by
  unfold ZdH Zaz
  with_reducible repeat' (first | exact Le.refl _ | apply Le.bind | apply Zif | intro _)

noncomputable def Zak (l : List api_Track) (i : Int) : Option ((Int) ⊕ (Int) ⊕ (Unit)) :=
  if (decide (i < (l.length : Int))) = true then
  (idx l i).bind fun x =>
  (Zdv x.Name).bind fun y =>
  if (!y) = true then
  some (.inr (.inl 8))
  else
  (slc l 0 i).bind fun l2 =>
  (Qw l2 (fun z0 => ZaX z0 x)).bind fun y2 =>
  if y2 = true then
  some (.inr (.inl 5))
  else
  (ZdH x.Series).bind fun y3 =>
  if (!decide (y3 = 0)) = true then
  some (.inr (.inl y3))
  else
  (Zb5 x.Long 0 1099511627776).bind fun y4 =>
  if (!y4) = true then
  some (.inr (.inl 9))
  else
  some (.inl (i64 (i + 1)))
  else
  some (.inr (.inr ()))
theorem ZeL (l : List api_Track) (i : Int) : Le (Zak l i) (Qr l i) := by
  unfold Zak Qr
  with_reducible repeat' (first | exact Le.refl _ | apply Le.bind | apply Le.ite | apply ZiB | apply Zaw | apply ZeX | apply Zii | apply Zfi | intro _)

noncomputable def Zbw (l : List api_Track) : Option Int :=
  if (decide (50 < (l.length : Int))) = true then
  some 3
  else
  ((JE (t1 (Zak l)) 0) : Option ((Int) ⊕ (Unit))).bind (Sum.elim (fun q' => some q') (t0 (some 0)))
theorem Zfw (l : List api_Track) : Le (Zbw l) (Xc l) := by
  unfold Zbw Xc
  with_reducible repeat' (first | exact Le.refl _ | apply Le.bind | apply Le.ite | apply Le.loop | apply Le.t0 | apply Le.t1 | apply Le.elim | apply ZeL | intro _)

noncomputable def Zcd (t : api_Track) (c0 : api_Instrument) : Option Bool :=
  some (decide (t.Name = c0.Track))
theorem ZgC (t : api_Track) (c0 : api_Instrument) : Le (Zcd t c0) (X3 t c0) := by
  unfold Zcd X3
  with_reducible repeat' (first | exact Le.refl _ | apply Le.bind | intro _)

noncomputable def ZaJ (l : List api_Track) (i : api_Instrument) : Option Int :=
  (Qg l (fun z0 => Zcd z0 i)).bind fun y =>
  some y
theorem ZcD (l : List api_Track) (i : api_Instrument) : Le (ZaJ l i) (QI l i) := by
  unfold ZaJ QI
  with_reducible repeat' (first | exact Le.refl _ | apply Le.bind | apply Xy | apply ZgC | intro _)

noncomputable def Zbx (i : api_Instrument) (c0 : List api_Track) : Option Bool :=
  (ZaJ c0 i).bind fun y =>
  some (decide (y < 0))
theorem Zfr (i : api_Instrument) (c0 : List api_Track) : Le (Zbx i c0) (Xd i c0) := by
  unfold Zbx Xd
  with_reducible repeat' (first | exact Le.refl _ | apply Le.bind | apply ZcD | intro _)

noncomputable def ZbZ (p : api_Panel) (l : List api_Track) : Option Int :=
  (Zd5 p).bind fun y =>
  if (!decide (y = 0)) = true then
  some y
  else
  (Zbw l).bind fun y2 =>
  if (!decide (y2 = 0)) = true then
  some y2
  else
  (ZS p.Instruments (fun z0 => Zbx z0 l)).bind fun y3 =>
  if y3 = true then
  some 4
  else
  some 0
theorem ZgL (p : api_Panel) (l : List api_Track) : Le (ZbZ p l) (QU p l) := by
  unfold ZbZ QU
  with_reducible repeat' (first | exact Le.refl _ | apply Le.bind | apply Le.ite | apply ZiK | apply Zfw | apply QD | apply Zfr | intro _)

noncomputable def Za1 (y : List api_Instrument) (Instruments2 : List api_Instrument) (i : Int) : Option (((List api_Instrument) × Int) ⊕ ((List api_Instrument))) :=
  if (decide (i < (y.length : Int))) = true then
  (idx Instruments2 i).bind fun x =>
  (ZaG x.Zones).bind fun y2 =>
  (idx Instruments2 i).bind fun x2 =>
  some (.inl ((Instruments2.set i.toNat (api_Instrument.mk x2.Kind x2.Name x2.Track x2.Places x2.Low x2.High x2.Steps y2 x2.Op x2.N x2.Latch x2.Size)), (i64 (i + 1))))
  else
  some (.inr Instruments2)
theorem Zfq (y : List api_Instrument) (Instruments2 : List api_Instrument) (i : Int) : Le (Za1 y Instruments2 i) (ZaA y Instruments2 i) := by
  unfold Za1 ZaA
  with_reducible repeat' (first | exact Le.refl _ | apply Le.bind | apply Le.ite | intro _)

noncomputable def Zca (p : api_Panel) : Option api_Panel :=
  (ZaG p.Instruments).bind fun y =>
  ((JE (t2 (Za1 y)) (y, 0)) : Option (((List api_Instrument)))).bind (t1 fun (Instruments : List api_Instrument) =>
  some (api_Panel.mk Instruments))
theorem ZgU (p : api_Panel) : Le (Zca p) (ZaI p) := by
  unfold Zca ZaI
  with_reducible repeat' (first | exact Le.refl _ | apply Le.bind | apply Le.loop | apply Le.t1 | apply Le.t2 | apply Zfq | intro _)

noncomputable def ZaW (y : List api_Track) (out2 : List api_Track) (i : Int) : Option (((List api_Track) × Int) ⊕ ((List api_Track))) :=
  if (decide (i < (y.length : Int))) = true then
  (idx out2 i).bind fun x =>
  (ZaG x.Series.Samples).bind fun y2 =>
  (idx out2 i).bind fun x2 =>
  some (.inl ((out2.set i.toNat (api_Track.mk x2.Name (api_Series.mk x2.Series.Den y2) x2.Long)), (i64 (i + 1))))
  else
  some (.inr out2)
theorem Ze2 (y : List api_Track) (out2 : List api_Track) (i : Int) : Le (ZaW y out2 i) (JW y out2 i) := by
  unfold ZaW JW
  with_reducible repeat' (first | exact Le.refl _ | apply Le.bind | apply Le.ite | intro _)

noncomputable def ZbJ (l : List api_Track) : Option (List api_Track) :=
  (ZaG l).bind fun y =>
  ((JE (t2 (ZaW y)) (y, 0)) : Option (((List api_Track)))).bind (t1 fun (out : List api_Track) =>
  some out)
theorem Zgb (l : List api_Track) : Le (ZbJ l) (J2 l) := by
  unfold ZbJ J2
  with_reducible repeat' (first | exact Le.refl _ | apply Le.bind | apply Le.loop | apply Le.t1 | apply Le.t2 | apply Ze2 | intro _)

noncomputable def Zel (p : api_Panel) : Option api_PanelState :=
  (mks (p.Instruments.length : Int) (api_Memo.mk false false 0 0 [])).bind fun l =>
  some (api_PanelState.mk (-1) l)
theorem Zi7 (p : api_Panel) : Le (Zel p) (ZcW p) := by
  unfold Zel ZcW
  with_reducible repeat' (first | exact Le.refl _ | apply Le.bind | intro _)

noncomputable def ZfP (p : api_Panel) (l : List api_Track) (keep : Int) : Option ((Int) ⊕ (panel_Replay × Int)) :=
  (ZbZ p l).bind fun y =>
  if (!decide (y = 0)) = true then
  some (Sum.inl y)
  else
  (Qv keep 1 1000).bind fun y2 =>
  if (!y2) = true then
  some (Sum.inl 9)
  else
  (Zca p).bind fun y3 =>
  (ZbJ l).bind fun y4 =>
  (Zel p).bind fun y5 =>
  some (Sum.inr ((panel_Replay.mk y3 y4 keep y5 [] []), 0))
theorem Zkj (p : api_Panel) (l : List api_Track) (keep : Int) : Le (ZfP p l keep) (ZcC p l keep) := by
  unfold ZfP ZcC
  with_reducible repeat' (first | exact Le.refl _ | apply Le.bind | apply Le.ite | apply Le.elim | apply ZgL | apply Jy | apply ZgU | apply Zgb | apply Zi7 | intro _)

noncomputable def Z5 (x : List api_Sample) (target : Int) (cmp : api_Sample → Int → Option Int) (i2 : Int) (j : Int) : Option ((Int × Int) ⊕ (Int)) :=
  if (decide (i2 < j)) = true then
  (shr .u64 (u64 (i64 (i2 + j))) 1).bind fun q =>
  (idx x (i64 q)).bind fun x2 =>
  (cmp x2 target).bind fun y =>
  if (decide (y < 0)) = true then
  some (.inl ((i64 ((i64 q) + 1)), j))
  else
  some (.inl (i2, (i64 q)))
  else
  some (.inr i2)
theorem XQ (x : List api_Sample) (target : Int) (cmp : api_Sample → Int → Option Int) (i2 : Int) (j : Int) (cmp' : api_Sample → Int → Option Int) (h_cmp : ∀ z0 z1, Le (cmp z0 z1) (cmp' z0 z1)) : Le (Z5 x target cmp i2 j) (Zw x target cmp' i2 j) := by
  unfold Z5 Zw
  with_reducible repeat' (first | exact Le.refl _ | apply Le.bind | apply Le.ite | apply h_cmp | intro _)

noncomputable def Qb (x : List api_Sample) (target : Int) (cmp : api_Sample → Int → Option Int) : Option (Int × Bool) :=
  ((JE (t2 (Z5 x target cmp)) (0, (x.length : Int))) : Option ((Int))).bind (t1 fun (i : Int) =>
  (gd ((decide (i < (x.length : Int))) == true) (api_Sample.mk 0 0 0) (idx x i)).bind fun x3 =>
  (gd ((decide (i < (x.length : Int))) == true) 0 (cmp x3 target)).bind fun y2 =>
  some (i, ((decide (i < (x.length : Int))) && (decide (y2 = 0)))))
theorem Ja (x : List api_Sample) (target : Int) (cmp : api_Sample → Int → Option Int) (cmp' : api_Sample → Int → Option Int) (h_cmp : ∀ z0 z1, Le (cmp z0 z1) (cmp' z0 z1)) : Le (Qb x target cmp) (Zy x target cmp') := by
  unfold Qb Zy
  with_reducible repeat' (first | exact Le.refl _ | apply Le.bind | apply Le.gd | apply Le.loop | apply Le.t1 | apply Le.t2 | apply XQ | apply h_cmp | intro _)

noncomputable def Zb8 (x : api_Sample) (at_ : Int) : Option Int :=
  some (i64 (x.At - at_))
theorem Zgu (x : api_Sample) (at_ : Int) : Le (Zb8 x at_) (QT x at_) := by
  unfold Zb8 QT
  with_reducible repeat' (first | exact Le.refl _ | apply Le.bind | intro _)

noncomputable def Zc3 (s : api_Series) (at_ : Int) : Option Int :=
  (Qb s.Samples at_ (fun z0 z1 => Zb8 z0 z1)).bind fun y =>
  if y.2 = true then
  some y.1
  else
  some (i64 (y.1 - 1))
theorem ZhI (s : api_Series) (at_ : Int) : Le (Zc3 s at_) (JL s at_) := by
  unfold Zc3 JL
  with_reducible repeat' (first | exact Le.refl _ | apply Le.bind | apply Le.ite | apply Ja | apply Zgu | intro _)

noncomputable def Zdu (x : api_Sample) : Option Bool :=
  some (decide (3 ≤ x.Mark))
theorem Zie (x : api_Sample) : Le (Zdu x) (Zbu x) := by
  unfold Zdu Zbu
  with_reducible repeat' (first | exact Le.refl _ | apply Le.bind | intro _)

noncomputable def Zen (s : api_Series) (at_ : Int) (long : Int) : Option (api_Sample × Bool) :=
  (Zc3 s at_).bind fun y =>
  (gd ((decide (y < 0)) == false) (api_Sample.mk 0 0 0) (idx s.Samples y)).bind fun x =>
  (gd ((decide (y < 0)) == false) false (Zdu x)).bind fun y2 =>
  (gd (((decide (y < 0)) || (!y2)) == false) (api_Sample.mk 0 0 0) (idx s.Samples y)).bind fun x2 =>
  if (((decide (y < 0)) || (!y2)) || (decide (long < (i64 (at_ - x2.At))))) = true then
  some ((api_Sample.mk 0 0 0), false)
  else
  (idx s.Samples y).bind fun x3 =>
  some (x3, true)
theorem ZiX (s : api_Series) (at_ : Int) (long : Int) : Le (Zen s at_ long) (Zbm s at_ long) := by
  unfold Zen Zbm
  with_reducible repeat' (first | exact Le.refl _ | apply Le.bind | apply Le.ite | apply Le.gd | apply ZhI | apply Zie | intro _)

noncomputable def Zd8 (s : api_Series) (at_ : Int) (long : Int) : Option (api_Sample × Bool) :=
  (Zen s at_ long).bind fun y =>
  some (y.1, y.2)
theorem Zjg (s : api_Series) (at_ : Int) (long : Int) : Le (Zd8 s at_ long) (ZbQ s at_ long) := by
  unfold Zd8 ZbQ
  with_reducible repeat' (first | exact Le.refl _ | apply Le.bind | apply ZiX | intro _)

noncomputable def ZcL (t : api_Track) (frame : Int) : Option (api_Sample × Bool) :=
  (Zd8 t.Series (i64 ((i64 ((i64 (64 * frame)) + 64)) - 1)) t.Long).bind fun y =>
  some (y.1, y.2)
theorem ZfC (t : api_Track) (frame : Int) : Le (ZcL t frame) (JB t frame) := by
  unfold ZcL JB
  with_reducible repeat' (first | exact Le.refl _ | apply Le.bind | apply Zjg | intro _)

noncomputable def Zeg (op : Int) (a : Int) (b : Int) : Option Bool :=
  if (decide (op = 1)) = true then
  some (decide (a < b))
  else
  if (decide (op = 2)) = true then
  some (decide (a ≤ b))
  else
  if (decide (op = 3)) = true then
  some (decide (a = b))
  else
  if (decide (op = 4)) = true then
  some (!decide (a = b))
  else
  if (decide (op = 5)) = true then
  some (decide (b ≤ a))
  else
  some (decide (b < a))
theorem Zi4 (op : Int) (a : Int) (b : Int) : Le (Zeg op a b) (Zah op a b) := by
  unfold Zeg Zah
  with_reducible repeat' (first | exact Le.refl _ | apply Le.bind | apply Le.ite | intro _)

noncomputable def ZbI (out2 : List Int) (i : Int) : Option (((List Int) × Int) ⊕ ((List Int))) :=
  if (decide ((i64 (i + 2)) ≤ (out2.length : Int))) = true then
  (slp out2 i (i64 (i + 2))).bind fun u =>
  (ck (decide (2 ≤ Int.toNat ((i64 (i + 2)) - i)))).bind fun u2 =>
  (ck (decide ((0 : Int) ≤ 1) && decide (1 < (2 : Int)))).bind fun u3 =>
  (idx out2 (i + 1)).bind fun x =>
  (ck (decide ((0 : Int) ≤ 0) && decide (0 < (2 : Int)))).bind fun u4 =>
  (idx out2 (i + 0)).bind fun x2 =>
  some (.inl ((out2.set (i + 0).toNat x), (i64 (i + 1))))
  else
  some (.inr out2)
theorem Zge (out2 : List Int) (i : Int) : Le (ZbI out2 i) (Q1 out2 i) := by
  unfold ZbI Q1
  with_reducible repeat' (first | exact Le.refl _ | apply Le.bind | apply Le.ite | intro _)

noncomputable def Zdc (tape : List Int) (size : Int) (n : Int) : Option (List Int) :=
  (ZaG tape).bind fun y =>
  (app y ([n] : List Int)).bind fun l =>
  if (decide ((l.length : Int) ≤ size)) = true then
  some l
  else
  ((JE (t2 (ZbI)) (l, 0)) : Option (((List Int)))).bind (t1 fun (out : List Int) =>
  (slc out 0 (i64 ((out.length : Int) - 1))).bind fun l2 =>
  some l2)
theorem ZhF (tape : List Int) (size : Int) (n : Int) : Le (Zdc tape size n) (JS tape size n) := by
  unfold Zdc JS
  with_reducible repeat' (first | exact Le.refl _ | apply Le.bind | apply Le.ite | apply Le.loop | apply Le.t1 | apply Le.t2 | apply Zge | intro _)

noncomputable def Zba (i : api_Instrument) (m : api_Memo) (n : Int) (known : Bool) : Option api_Memo :=
  (gd ((known && ((decide (i.Kind = 3)) || (decide (i.Kind = 5)))) == true) false (Zeg i.Op n i.N)).bind fun y =>
  ((if (decide (i.Kind = 3)) = true then
  some (api_Memo.mk (((known && ((decide (i.Kind = 3)) || (decide (i.Kind = 5)))) && y) || (i.Latch && m.Lit)) m.Some m.N m.Count m.Tape)
  else
  if (decide (i.Kind = 5)) = true then
  if (((known && ((decide (i.Kind = 3)) || (decide (i.Kind = 5)))) && y) && (!m.Lit)) = true then
  some (api_Memo.mk ((known && ((decide (i.Kind = 3)) || (decide (i.Kind = 5)))) && y) m.Some m.N (i64 (m.Count + 1)) m.Tape)
  else
  some (api_Memo.mk ((known && ((decide (i.Kind = 3)) || (decide (i.Kind = 5)))) && y) m.Some m.N m.Count m.Tape)
  else
  if ((decide (i.Kind = 4)) && known) = true then
  ((if m.Some = true then
  some (max n m.N)
  else
  some n) : Option ((Int))).bind (t1 fun (n2 : Int) =>
  some (api_Memo.mk m.Lit true n2 m.Count m.Tape))
  else
  if ((decide (i.Kind = 6)) && known) = true then
  (Zdc m.Tape i.Size n).bind fun y2 =>
  some (api_Memo.mk m.Lit m.Some m.N m.Count y2)
  else
  some m) : Option ((api_Memo))).bind (t1 fun (m2 : api_Memo) =>
  some m2)
theorem Zfl (i : api_Instrument) (m : api_Memo) (n : Int) (known : Bool) : Le (Zba i m n known) (QW i m n known) := by
  unfold Zba QW
  with_reducible repeat' (first | exact Le.refl _ | apply Le.bind | apply Le.ite | apply Le.gd | apply Le.t1 | apply Zi4 | apply ZhF | intro _)

noncomputable def ZbL (p : api_Panel) (l : List api_Track) (s : api_PanelState) (Memos2 : List api_Memo) (i : Int) : Option (((List api_Memo) × Int) ⊕ ((List api_Memo))) :=
  if (decide (i < (p.Instruments.length : Int))) = true then
  (idx p.Instruments i).bind fun x =>
  (ZaJ l x).bind fun y =>
  (idx l y).bind fun x2 =>
  (ZcL x2 (i64 (s.Frame + 1))).bind fun y2 =>
  (idx s.Memos i).bind fun x3 =>
  (ZaG x3.Tape).bind fun y3 =>
  (Zba x (api_Memo.mk x3.Lit x3.Some x3.N x3.Count y3) y2.1.N y2.2).bind fun y4 =>
  (app Memos2 ([y4] : List api_Memo)).bind fun l2 =>
  some (.inl (l2, (i64 (i + 1))))
  else
  some (.inr Memos2)
theorem Zgg (p : api_Panel) (l : List api_Track) (s : api_PanelState) (Memos2 : List api_Memo) (i : Int) : Le (ZbL p l s Memos2 i) (QK p l s Memos2 i) := by
  unfold ZbL QK
  with_reducible repeat' (first | exact Le.refl _ | apply Le.bind | apply Le.ite | apply ZcD | apply ZfC | apply Zfl | intro _)

noncomputable def Zc1 (p : api_Panel) (l : List api_Track) (s : api_PanelState) : Option api_PanelState :=
  ((JE (t2 (ZbL p l s)) ([], 0)) : Option (((List api_Memo)))).bind (t1 fun (Memos : List api_Memo) =>
  some (api_PanelState.mk (i64 (s.Frame + 1)) Memos))
theorem ZhC (p : api_Panel) (l : List api_Track) (s : api_PanelState) : Le (Zc1 p l s) (Q8 p l s) := by
  unfold Zc1 Q8
  with_reducible repeat' (first | exact Le.refl _ | apply Le.bind | apply Le.loop | apply Le.t1 | apply Le.t2 | apply Zgg | intro _)

noncomputable def ZU (x : List api_PanelState) (target : Int) (cmp : api_PanelState → Int → Option Int) (i2 : Int) (j : Int) : Option ((Int × Int) ⊕ (Int)) :=
  if (decide (i2 < j)) = true then
  (shr .u64 (u64 (i64 (i2 + j))) 1).bind fun q =>
  (idx x (i64 q)).bind fun x2 =>
  (cmp x2 target).bind fun y =>
  if (decide (y < 0)) = true then
  some (.inl ((i64 ((i64 q) + 1)), j))
  else
  some (.inl (i2, (i64 q)))
  else
  some (.inr i2)
theorem Q7 (x : List api_PanelState) (target : Int) (cmp : api_PanelState → Int → Option Int) (i2 : Int) (j : Int) (cmp' : api_PanelState → Int → Option Int) (h_cmp : ∀ z0 z1, Le (cmp z0 z1) (cmp' z0 z1)) : Le (ZU x target cmp i2 j) (ZI x target cmp' i2 j) := by
  unfold ZU ZI
  with_reducible repeat' (first | exact Le.refl _ | apply Le.bind | apply Le.ite | apply h_cmp | intro _)

noncomputable def ZZ (x : List api_PanelState) (target : Int) (cmp : api_PanelState → Int → Option Int) : Option (Int × Bool) :=
  ((JE (t2 (ZU x target cmp)) (0, (x.length : Int))) : Option ((Int))).bind (t1 fun (i : Int) =>
  (gd ((decide (i < (x.length : Int))) == true) (api_PanelState.mk 0 []) (idx x i)).bind fun x3 =>
  (gd ((decide (i < (x.length : Int))) == true) 0 (cmp x3 target)).bind fun y2 =>
  some (i, ((decide (i < (x.length : Int))) && (decide (y2 = 0)))))
theorem Xo (x : List api_PanelState) (target : Int) (cmp : api_PanelState → Int → Option Int) (cmp' : api_PanelState → Int → Option Int) (h_cmp : ∀ z0 z1, Le (cmp z0 z1) (cmp' z0 z1)) : Le (ZZ x target cmp) (ZE x target cmp') := by
  unfold ZZ ZE
  with_reducible repeat' (first | exact Le.refl _ | apply Le.bind | apply Le.gd | apply Le.loop | apply Le.t1 | apply Le.t2 | apply Q7 | apply h_cmp | intro _)

noncomputable def J9 (s : api_PanelState) (frame : Int) : Option Int :=
  some (i64 (s.Frame - frame))
theorem Zec (s : api_PanelState) (frame : Int) : Le (J9 s frame) (Xr s frame) := by
  unfold J9 Xr
  with_reducible repeat' (first | exact Le.refl _ | apply Le.bind | intro _)

noncomputable def ZaV (r_ : panel_Replay) (frame : Int) : Option (Int × Bool) :=
  (ZZ r_.kept frame (fun z0 z1 => J9 z0 z1)).bind fun y =>
  some (y.1, y.2)
theorem Ze5 (r_ : panel_Replay) (frame : Int) : Le (ZaV r_ frame) (X4 r_ frame) := by
  unfold ZaV X4
  with_reducible repeat' (first | exact Le.refl _ | apply Le.bind | apply Xo | apply Zec | intro _)

noncomputable def Zbd (y : List api_Memo) (Memos2 : List api_Memo) (i : Int) : Option (((List api_Memo) × Int) ⊕ ((List api_Memo))) :=
  if (decide (i < (y.length : Int))) = true then
  (idx Memos2 i).bind fun x =>
  (ZaG x.Tape).bind fun y2 =>
  (idx Memos2 i).bind fun x2 =>
  some (.inl ((Memos2.set i.toNat (api_Memo.mk x2.Lit x2.Some x2.N x2.Count y2)), (i64 (i + 1))))
  else
  some (.inr Memos2)
theorem Zfp (y : List api_Memo) (Memos2 : List api_Memo) (i : Int) : Le (Zbd y Memos2 i) (Zal y Memos2 i) := by
  unfold Zbd Zal
  with_reducible repeat' (first | exact Le.refl _ | apply Le.bind | apply Le.ite | intro _)

noncomputable def Zcj (s : api_PanelState) : Option api_PanelState :=
  (ZaG s.Memos).bind fun y =>
  ((JE (t2 (Zbd y)) (y, 0)) : Option (((List api_Memo)))).bind (t1 fun (Memos : List api_Memo) =>
  some (api_PanelState.mk s.Frame Memos))
theorem ZgK (s : api_PanelState) : Le (Zcj s) (ZaF s) := by
  unfold Zcj ZaF
  with_reducible repeat' (first | exact Le.refl _ | apply Le.bind | apply Le.loop | apply Le.t1 | apply Le.t2 | apply Zfp | intro _)

noncomputable def Ql (s : List api_PanelState) (i : Int) (v : List api_PanelState) : Option (List api_PanelState) :=
  (slc s i (s.length : Int)).bind fun l =>
  if (decide ((v.length : Int) = 0)) = true then
  some s
  else
  if (decide (i = (s.length : Int))) = true then
  (app s v).bind fun l2 =>
  some l2
  else
  none
theorem JR (s : List api_PanelState) (i : Int) (v : List api_PanelState) : Le (Ql s i v) (ZQ s i v) := by
  unfold Ql ZQ
  with_reducible repeat' (first | exact Le.refl _ | apply Le.bind | apply Le.ite | intro _)

noncomputable def XY (r_ : panel_Replay) (n : Int) (state : api_PanelState) (kept : List api_PanelState) (i : Int) : Option ((api_PanelState × (List api_PanelState) × Int) ⊕ (panel_Replay)) :=
  if (decide (i < n)) = true then
  (((Zc1 r_.p r_.l state).bind fun y =>
  (rem y.Frame r_.keep).bind fun q =>
  if (!decide (q = (i64 (r_.keep - 1)))) = true then
  some (y.Frame, y.Memos, kept)
  else
  (ZaV (panel_Replay.mk r_.p r_.l r_.keep y kept r_.marks) y.Frame).bind fun y2 =>
  if (!y2.2) = true then
  (Zcj y).bind fun y3 =>
  (Ql kept y2.1 ([y3] : List api_PanelState)).bind fun y4 =>
  some (y.Frame, y.Memos, y4)
  else
  some (y.Frame, y.Memos, kept)) : Option ((Int × (List api_Memo) × (List api_PanelState)))).bind (t3 fun (Frame : Int) (Memos : List api_Memo) (kept2 : List api_PanelState) =>
  some (.inl ((api_PanelState.mk Frame Memos), kept2, (i64 (i + 1)))))
  else
  some (.inr (panel_Replay.mk r_.p r_.l r_.keep state kept r_.marks))
theorem ZcZ (r_ : panel_Replay) (n : Int) (state : api_PanelState) (kept : List api_PanelState) (i : Int) : Le (XY r_ n state kept i) (Xf r_ n state kept i) := by
  unfold XY Xf
  with_reducible repeat' (first | exact Le.refl _ | apply Le.bind | apply Le.ite | apply Le.t3 | apply ZhC | apply Ze5 | apply ZgK | apply JR | intro _)

noncomputable def Ju (r_ : panel_Replay) (n : Int) : Option panel_Replay :=
  JE (t3 (XY r_ n)) (r_.state, r_.kept, 0)
theorem Zdw (r_ : panel_Replay) (n : Int) : Le (Ju r_ n) (QY r_ n) := by
  unfold Ju QY
  with_reducible repeat' (first | exact Le.refl _ | apply Le.bind | apply Le.loop | apply Le.t3 | apply ZcZ | intro _)

noncomputable def Zaj (r_ : panel_Replay) (n : Int) : Option (Int × panel_Replay) :=
  if ((decide (n < 0)) || (decide ((i64 (19999 - r_.state.Frame)) < n))) = true then
  some (9, r_)
  else
  (Ju r_ n).bind fun y =>
  some (0, y)
theorem ZeC (r_ : panel_Replay) (n : Int) : Le (Zaj r_ n) (XH r_ n) := by
  unfold Zaj XH
  with_reducible repeat' (first | exact Le.refl _ | apply Le.bind | apply Le.ite | apply Zdw | intro _)

noncomputable def Zb0 (places : Int) (scale2 : Int) (i : Int) : Option ((Int × Int) ⊕ (Int)) :=
  if (decide (i < places)) = true then
  some (.inl ((i64 (scale2 * 10)), (i64 (i + 1))))
  else
  some (.inr scale2)
theorem ZgE (places : Int) (scale2 : Int) (i : Int) : Le (Zb0 places scale2 i) (ZaD places scale2 i) := by
  unfold Zb0 ZaD
  with_reducible repeat' (first | exact Le.refl _ | apply Le.bind | apply Le.ite | intro _)

noncomputable def Za2 (n : Int) (den : Int) (places : Int) : Option Str :=
  (quo .i64 (max n (i64 (-n))) den).bind fun q =>
  ((JE (t2 (Zb0 places)) (1, 0)) : Option ((Int))).bind (t1 fun (scale : Int) =>
  (rem (max n (i64 (-n))) den).bind fun q2 =>
  (quo .i64 (i64 ((i64 ((i64 (q2 * scale)) * 2)) + den)) (i64 (2 * den))).bind fun q3 =>
  ((if (decide (q3 = scale)) = true then
  some ((i64 (q + 1)), 0)
  else
  some (q, q3)) : Option ((Int × Int))).bind (t2 fun (whole : Int) (part : Int) =>
  (itoa whole).bind fun y =>
  ((if (decide (0 < places)) = true then
  (itoa (i64 (scale + part))).bind fun y2 =>
  (slc y2 1 (y2.length : Int)).bind fun s =>
  (cat [46] s).bind fun s2 =>
  (cat y s2).bind fun s3 =>
  some s3
  else
  some y) : Option ((Str))).bind (t1 fun (out : Str) =>
  if ((decide (n < 0)) && ((decide (0 < whole)) || (decide (0 < part)))) = true then
  (cat [45] out).bind fun s4 =>
  some s4
  else
  some out)))
theorem Zfh (n : Int) (den : Int) (places : Int) : Le (Za2 n den places) (Q9 n den places) := by
  unfold Za2 Q9
  with_reducible repeat' (first | exact Le.refl _ | apply Le.bind | apply Le.ite | apply Le.loop | apply Le.t1 | apply Le.t2 | apply ZgE | intro _)

noncomputable def ZdA (i : api_Instrument) (n : Int) : Option Int :=
  if (decide (n ≤ i.Low)) = true then
  some 0
  else
  if (decide (i.High ≤ n)) = true then
  some i.Steps
  else
  (quo .i64 (i64 ((i64 (n - i.Low)) * i.Steps)) (i64 (i.High - i.Low))).bind fun q =>
  some q
theorem Zil (i : api_Instrument) (n : Int) : Le (ZdA i n) (Zai i n) := by
  unfold ZdA Zai
  with_reducible repeat' (first | exact Le.refl _ | apply Le.bind | apply Le.ite | intro _)

noncomputable def ZbY (i : api_Instrument) (n : Int) (i2 : Int) : Option ((Int) ⊕ (Str) ⊕ (Unit)) :=
  if (decide (i2 < (i.Zones.length : Int))) = true then
  (idx i.Zones i2).bind fun x =>
  (Qv n x.From x.To).bind fun y =>
  if y = true then
  some (.inr (.inl x.Name))
  else
  some (.inl (i64 (i2 + 1)))
  else
  some (.inr (.inr ()))
theorem Zgv (i : api_Instrument) (n : Int) (i2 : Int) : Le (ZbY i n i2) (Qo i n i2) := by
  unfold ZbY Qo
  with_reducible repeat' (first | exact Le.refl _ | apply Le.bind | apply Le.ite | apply Jy | intro _)

noncomputable def ZdF (i : api_Instrument) (n : Int) : Option Str :=
  ((JE (t1 (ZbY i n)) 0) : Option ((Str) ⊕ (Unit))).bind (Sum.elim (fun q' => some q') (t0 (some [])))
theorem Zij (i : api_Instrument) (n : Int) : Le (ZdF i n) (XA i n) := by
  unfold ZdF XA
  with_reducible repeat' (first | exact Le.refl _ | apply Le.bind | apply Le.loop | apply Le.t0 | apply Le.t1 | apply Le.elim | apply Zgv | intro _)

noncomputable def Zc7 (i : api_Instrument) (m : api_Memo) (den : Int) (l2 : List Str) (i2 : Int) : Option (((List Str) × Int) ⊕ ((List Str))) :=
  if (decide (i2 < (m.Tape.length : Int))) = true then
  (idx m.Tape i2).bind fun x2 =>
  (Za2 x2 den i.Places).bind fun y6 =>
  (app l2 ([y6] : List Str)).bind fun l3 =>
  some (.inl (l3, (i64 (i2 + 1))))
  else
  some (.inr l2)
theorem Zhs (i : api_Instrument) (m : api_Memo) (den : Int) (l2 : List Str) (i2 : Int) : Le (Zc7 i m den l2 i2) (Jb i m den l2 i2) := by
  unfold Zc7 Jb
  with_reducible repeat' (first | exact Le.refl _ | apply Le.bind | apply Le.ite | apply Zfh | intro _)

noncomputable def Ze6 (i : api_Instrument) (m : api_Memo) (den : Int) (x : api_Sample) (known : Bool) : Option api_Face :=
  ((if (decide (i.Kind = 1)) = true then
  if known = true then
  (Za2 x.N den i.Places).bind fun y =>
  some (api_Face.mk y 0 m.Lit x.Mark)
  else
  some (api_Face.mk [45, 45, 45] 0 m.Lit x.Mark)
  else
  if (decide (i.Kind = 2)) = true then
  if known = true then
  (ZdA i x.N).bind fun y2 =>
  (ZdF i x.N).bind fun y3 =>
  some (api_Face.mk y3 y2 m.Lit x.Mark)
  else
  some (api_Face.mk [45, 45, 45] 0 m.Lit x.Mark)
  else
  if (decide (i.Kind = 3)) = true then
  if m.Lit = true then
  some (api_Face.mk [111, 110] 0 m.Lit x.Mark)
  else
  if known = true then
  some (api_Face.mk [111, 102, 102] 0 m.Lit x.Mark)
  else
  some (api_Face.mk [45, 45, 45] 0 m.Lit x.Mark)
  else
  if (decide (i.Kind = 4)) = true then
  if m.Some = true then
  (Za2 m.N den i.Places).bind fun y4 =>
  some (api_Face.mk y4 0 m.Lit x.Mark)
  else
  some (api_Face.mk [45, 45, 45] 0 m.Lit x.Mark)
  else
  if (decide (i.Kind = 5)) = true then
  (itoa m.Count).bind fun y5 =>
  some (api_Face.mk y5 0 m.Lit x.Mark)
  else
  if (decide (i.Kind = 6)) = true then
  ((JE (t2 (Zc7 i m den)) ([], 0)) : Option (((List Str)))).bind (t1 fun (l : List Str) =>
  if (decide (0 < (l.length : Int))) = true then
  (Zhq l [32]).bind fun y7 =>
  some (api_Face.mk y7 0 m.Lit x.Mark)
  else
  some (api_Face.mk [45, 45, 45] 0 m.Lit x.Mark))
  else
  some (api_Face.mk [45, 45, 45] 0 m.Lit x.Mark)) : Option ((api_Face))).bind (t1 fun (out : api_Face) =>
  some out)
theorem Zjv (i : api_Instrument) (m : api_Memo) (den : Int) (x : api_Sample) (known : Bool) : Le (Ze6 i m den x known) (Je i m den x known) := by
  unfold Ze6 Je
  with_reducible repeat' (first | exact Le.refl _ | apply Le.bind | apply Le.ite | apply Le.loop | apply Le.t1 | apply Le.t2 | apply Zfh | apply Zil | apply Zij | apply Zhs | intro _)

noncomputable def Zcs (p : api_Panel) (l : List api_Track) (s : api_PanelState) (out2 : List api_Face) (i : Int) : Option (((List api_Face) × Int) ⊕ ((List api_Face))) :=
  if (decide (i < (p.Instruments.length : Int))) = true then
  (idx p.Instruments i).bind fun x =>
  (ZaJ l x).bind fun y =>
  (idx l y).bind fun x2 =>
  ((if (decide (0 ≤ s.Frame)) = true then
  (ZcL x2 s.Frame).bind fun y2 =>
  some (y2.1, y2.2)
  else
  some ((api_Sample.mk 0 0 0), false)) : Option ((api_Sample × Bool))).bind (t2 fun (x3 : api_Sample) (known : Bool) =>
  (idx s.Memos i).bind fun x4 =>
  (Ze6 x x4 x2.Series.Den x3 known).bind fun y3 =>
  (app out2 ([y3] : List api_Face)).bind fun l2 =>
  some (.inl (l2, (i64 (i + 1)))))
  else
  some (.inr out2)
theorem Zg0 (p : api_Panel) (l : List api_Track) (s : api_PanelState) (out2 : List api_Face) (i : Int) : Le (Zcs p l s out2 i) (XI p l s out2 i) := by
  unfold Zcs XI
  with_reducible repeat' (first | exact Le.refl _ | apply Le.bind | apply Le.ite | apply Le.t2 | apply ZcD | apply ZfC | apply Zjv | intro _)

noncomputable def Zeb (p : api_Panel) (l : List api_Track) (s : api_PanelState) : Option (List api_Face) :=
  ((JE (t2 (Zcs p l s)) ([], 0)) : Option (((List api_Face)))).bind (t1 fun (out : List api_Face) =>
  some out)
theorem ZiN (p : api_Panel) (l : List api_Track) (s : api_PanelState) : Le (Zeb p l s) (Zag p l s) := by
  unfold Zeb Zag
  with_reducible repeat' (first | exact Le.refl _ | apply Le.bind | apply Le.loop | apply Le.t1 | apply Le.t2 | apply Zg0 | intro _)

noncomputable def Zbi (r_ : panel_Replay) : Option (List api_Face) :=
  (Zeb r_.p r_.l r_.state).bind fun y =>
  some y
theorem Zfo (r_ : panel_Replay) : Le (Zbi r_) (Ji r_) := by
  unfold Zbi Ji
  with_reducible repeat' (first | exact Le.refl _ | apply Le.bind | apply ZiN | intro _)

noncomputable def Ze0 : Option Bool :=
  (ZfP (api_Panel.mk ([(api_Instrument.mk 1 [97] [116] 1 0 0 0 [] 0 0 false 0)] : List api_Instrument)) ([(api_Track.mk [116] (api_Series.mk 2 ([(api_Sample.mk 70 (-3) 4)] : List api_Sample)) 100)] : List api_Track) 1).bind (Sum.elim (fun y =>
  (gd ((!decide (y = 0)) == false) () (none : Option Unit)).bind fun u =>
  if ((!decide (y = 0)) || (!decide (0 = 0))) = true then
  some false
  else
  none) (fun y =>
  ((if ((!decide (y.2 = 0)) == false) = true then
  (Zaj y.1 2).bind fun y2 =>
  if (false || (!decide (y2.1 = 0))) = true then
  some (.inl false)
  else
  some (.inr (y2.2.p, y2.2.l, y2.2.keep, y2.2.state, y2.2.kept, y2.2.marks))
  else
  (gd (true == false) () (none : Option Unit)).bind fun u2 =>
  if (true || false) = true then
  some (.inl false)
  else
  some (.inr (y.1.p, y.1.l, y.1.keep, y.1.state, y.1.kept, y.1.marks))) : Option ((Bool) ⊕ (api_Panel × (List api_Track) × Int × api_PanelState × (List api_PanelState) × (List api_Bookmark)))).bind (Sum.elim (fun q' => some q') (t6 fun (p : api_Panel) (l : List api_Track) (keep : Int) (state : api_PanelState) (kept : List api_PanelState) (marks : List api_Bookmark) =>
  (Zbi (panel_Replay.mk p l keep state kept marks)).bind fun y3 =>
  (gd ((decide ((y3.length : Int) = 1)) == true) (api_Face.mk [] 0 false 0) (idx y3 0)).bind fun x =>
  some ((decide ((y3.length : Int) = 1)) && (decide (x.Text = [45, 49, 46, 53]) && (decide (x.Needle = 0) && ((x.Lit == false) && (decide (x.Mark = 4) && true)))))))))
theorem ZjJ : Le (Ze0 ) (Zcy ) := by
  unfold Ze0 Zcy
  with_reducible repeat' (first | exact Le.refl _ | apply Le.bind | apply Le.ite | apply Le.gd | apply Le.t6 | apply Le.elim | apply Zkj | apply ZeC | apply Zfo | intro _)
end Go.Vx

namespace Go.Vx
open Go Go.RowKit
theorem Zni : Ze0 = some true := by decide +kernel
theorem Znc : Zcy = some true := ZjJ true Zni
end Go.Vx

namespace Go.Vx
open Go Go.RowKit
section
variable {α ε : Type}
def ZL (g : Nat → α → Option ε) : Nat → List α → Option ε
  | _, [] => none
  | k, x :: tl => match g k x with | some e => some e | none => ZL g (k + 1) tl
theorem Z4 {ρ : Type} {xs : List α} (g : Nat → α → Option ε) (A : ε → ρ) (Z : ρ) {body : Int → Option (Int ⊕ ρ)}
    (h : ∀ (k : Nat) x, xs[k]? = some x → body k = XG (fun e => some (.inr (A e))) (some (.inl ((k : Int) + 1))) (g k x))
    (hend : body xs.length = some (.inr Z)) : loop (t1 body) 0 = some (XG A Z (ZL g 0 xs)) := by
  refine ZeN (xs := xs) (fun k => XG A Z (ZL g k (xs.drop k))) (fun k x hx => ?_) ?_
  · rw [h k x hx, ZhO hx]
    simp only [ZL]
    cases hg : g k x with
    | some e => right; rfl
    | none => left; exact ⟨rfl, rfl⟩
  · rw [hend]; simp [ZL]
theorem Zh4 {g g' : Nat → α → Option ε} : ∀ (k : Nat) (xs : List α), (∀ (j : Nat) x, xs[j]? = some x → g (k + j) x = g' (k + j) x) → ZL g k xs = ZL g' k xs
  | _, [], _ => rfl
  | k, x :: tl, h => by
    have h0 := h 0 x rfl
    rw [Nat.add_zero] at h0
    have ih := Zh4 (g := g) (g' := g') (k + 1) tl fun j y hy => by
      have := h (j + 1) y (by simpa using hy)
      rwa [show k + (j + 1) = k + 1 + j by omega] at this
    simp only [ZL, h0]
    rw [ih]
theorem Zfb {g : Nat → α → Option ε} : ∀ (k : Nat) (xs : List α), ZL g k xs = none → ∀ (j : Nat) x, xs[j]? = some x → g (k + j) x = none
  | _, [], _, j, x, hx => by simp at hx
  | k, y :: tl, h, j, x, hx => by
    simp only [ZL] at h
    cases hy : g k y with
    | some e => rw [hy] at h; cases h
    | none =>
      rw [hy] at h
      cases j with
      | zero => simp at hx; subst hx; simpa using hy
      | succ j =>
        have := Zfb (k + 1) tl h j x (by simpa using hx)
        rwa [show k + 1 + j = k + (j + 1) by omega] at this
theorem Zf6 {p : α → Bool} : ∀ (k : Nat) (xs : List α), ZL (fun _ x => if p x then none else some ()) k xs = if xs.all p then none else some ()
  | _, [] => rfl
  | k, x :: tl => by
    have ih := Zf6 (p := p) (k + 1) tl
    simp only [ZL, List.all_cons]
    by_cases hp : p x = true
    · simp only [hp, if_true, Bool.true_and]; exact ih
    · have hp' : p x = false := by simpa using hp
      simp [hp']
end
theorem ZdI {k : Nat} {n : Nat} (h : k < n) (hn : n ≤ 9223372036854775807) : i64 ((k : Int) + 1) = (k : Int) + 1 := ZO (by omega) (by omega)
theorem Zf1 {s : Str} {k : Nat} {b : UInt8} (h : s[k]? = some b) : JQ s (k : Int) = some ((b.toNat : Nat) : Int) := by simp [JQ, h]
def lcI (z : Int) : Bool := decide (97 ≤ z) && decide (z ≤ 122)
def nbI (z : Int) : Bool := (lcI z || (decide (48 ≤ z) && decide (z ≤ 57))) || decide (z = 45)
def lcB (b : UInt8) : Bool := lcI (b.toNat : Int)
def nbB (b : UInt8) : Bool := nbI (b.toNat : Int)
theorem ZnS {z : Int} (h : lcI z = true) : nbI z = true := by simp [nbI, h]
def resW : List Str := [[112, 104, 97, 115, 101], [109, 111, 118, 101], [114, 117, 108, 101], [105, 102], [111, 114], [97, 110, 100], [116, 114, 117, 101], [102, 97, 108, 115, 101], [115, 116, 101, 97, 100, 121], [110, 111, 116], [102, 111, 114], [119, 105, 116, 104, 105, 110], [99, 111, 117, 110, 116], [111, 102], [114, 105, 115, 101, 115], [115, 105, 110, 99, 101]]
theorem Zny : Ze7 = some resW := rfl
theorem ZkL {s : Str} : ∀ (k : Nat) (l : List Str), ZL (fun _ x => if decide (x = s) = true then some true else none) k l = if s ∈ l then some true else none
  | _, [] => rfl
  | k, x :: tl => by
    have ih := ZkL (s := s) (k + 1) tl
    simp only [ZL]
    by_cases h : x = s
    · subst h; simp
    · have h' : ¬ s = x := fun e => h e.symm
      rw [if_neg (by simpa using h)]
      simp only [ih, List.mem_cons, h', false_or]
theorem Zlb (s : Str) : Zbz s = some (decide (s ∈ resW)) := by
  unfold Zbz
  rw [Zny, Option.bind_some]
  rw [Z4 (xs := resW) (body := JZ s resW) (fun _ x => if decide (x = s) = true then some true else none) Sum.inl (Sum.inr ()) (fun k x hx => ?_) (by simp [JZ]), ZkL]
  · by_cases h : s ∈ resW <;> simp [h]
  · have hlt := Q6 hx
    have e1 : i64 ((k : Int) + 1) = (k : Int) + 1 := ZdI (n := 16) (by have := hlt; have e : resW.length = 16 := rfl; omega) (by omega)
    simp only [JZ, hlt, decide_true, if_true, ZX hx, Option.bind_some, e1]
    by_cases h : x = s <;> simp [h]
theorem orW {a b : Prop} [Decidable a] [Decidable b] {o : Option Bool} (h : o = some (decide b)) : (if decide a = true then some (decide a) else o) = some (decide (a ∨ b)) := by
  by_cases h1 : a
  · simp [h1]
  · simp [h1, h]
theorem Zmz (s : Str) : Zap s = some (decide (s ∈ resW)) := by
  have key : ∀ {o : Option Bool} {t : Bool}, o = some t → (o.bind (t1 fun (v : Bool) => if v = true then some true else some false)) = some t := by
    intro o t h; subst h; cases t <;> rfl
  unfold Zap
  refine key ?_
  simp only [resW, List.mem_cons, List.not_mem_nil, or_false]
  repeat (first | exact rfl | refine orW ?_)
def nmE : Str → Bool
  | [] => false
  | c :: tl => (lcB c && tl.all nbB) && (decide ((c :: tl).length ≤ 30) && !decide ((c :: tl) ∈ resW))
theorem Zmp (s : Str) : Zav s = some (nmE s) := by
  unfold Zav JI
  rw [Option.bind_some]
  cases s with
  | nil => simp [nmE, gd]
  | cons c tl =>
    by_cases hl : (c :: tl).length ≤ 30
    · have hw : (decide (1 ≤ (((c :: tl).length : Nat) : Int)) && decide ((((c :: tl).length : Nat) : Int) ≤ 30)) = true := by
        simp only [Bool.and_eq_true, decide_eq_true_iff]; simp only [List.length_cons] at hl ⊢; omega
      have h0 : JQ (c :: tl) 0 = some ((c.toNat : Nat) : Int) := Zf1 (k := 0) rfl
      have hloop : loop (t1 (Xm (c :: tl))) 0 = some (XG (fun _ => Sum.inl false) (Sum.inr ()) (if (c :: tl).all nbB then none else some ())) := by
        rw [← Zf6 0]
        refine Z4 (xs := c :: tl) (body := Xm (c :: tl)) _ _ _ (fun k x hx => ?_) (by simp [Xm])
        have hlt := Q6 hx
        have e1 : i64 ((k : Int) + 1) = (k : Int) + 1 := ZdI (n := (c :: tl).length) (by omega) (by omega)
        simp only [Xm, hlt, decide_true, if_true, Zf1 hx, Option.bind_some, e1, JY]
        have e2 : nbB x = ((((decide (97 ≤ ((x.toNat : Nat) : Int))) && (decide (((x.toNat : Nat) : Int) ≤ 122))) || ((decide (48 ≤ ((x.toNat : Nat) : Int))) && (decide (((x.toNat : Nat) : Int) ≤ 57)))) || (decide (((x.toNat : Nat) : Int) = 45))) := rfl
        rw [← e2]
        cases nbB x <;> simp
      rw [hw, h0, Zmz, hloop]
      simp only [nmE, hl, decide_true, Bool.true_and, List.all_cons]
      by_cases hlc : lcB c = true
      · have hnb : nbB c = true := ZnS hlc
        simp only [lcB, lcI, Bool.and_eq_true, decide_eq_true_iff] at hlc
        have h1 : ¬ ((c.toNat : Nat) : Int) < 97 := by omega
        have h2 : ¬ 122 < ((c.toNat : Nat) : Int) := by omega
        have h3 : lcB c = true := by simp only [lcB, lcI, Bool.and_eq_true, decide_eq_true_iff]; exact hlc
        simp only [Bool.not_true, beq_self_eq_true, Zlf, Option.bind_some, h1, h2, decide_false, Bool.or_self, Bool.false_or, h3, hnb, Bool.true_and]
        by_cases hr : (c :: tl) ∈ resW
        · simp [hr]
        · cases ha : tl.all nbB <;> simp [hr]
      · have h3 : lcB c = false := by simpa using hlc
        simp only [h3, Bool.false_and, Bool.not_true, beq_self_eq_true, Zlf, Option.bind_some, Bool.false_or]
        simp only [lcB, lcI, Bool.and_eq_false_iff, decide_eq_false_iff_not] at h3
        by_cases h1 : ((c.toNat : Nat) : Int) < 97
        · simp [h1, gd]
        · have h2 : 122 < ((c.toNat : Nat) : Int) := by omega
          have h2' : ¬ ((c.toNat : Nat) : Int) ≤ 122 := by omega
          simp [h1, h2, h2', gd]
    · have hw : (decide (1 ≤ (((c :: tl).length : Nat) : Int)) && decide ((((c :: tl).length : Nat) : Int) ≤ 30)) = false := by
        simp only [Bool.and_eq_false_iff, decide_eq_false_iff_not]; right; omega
      rw [hw]
      simp only [nmE, hl, decide_false, Bool.false_and, Bool.and_false]
      simp [gd]
theorem Zmf (s : Str) (hs : s.length ≤ 9223372036854775807) : ZcP s = some (nmE s) := by
  unfold ZcP
  have hloop : loop (t1 (Zaa s)) 0 = some (XG (fun _ => Sum.inl false) (Sum.inr ()) (ZL (fun k b => if (lcB b || (decide (0 < k) && nbB b)) = true then none else some ()) 0 s)) := by
    refine Z4 (xs := s) (body := Zaa s) _ _ _ (fun k x hx => ?_) (by simp [Zaa])
    have hlt := Q6 hx
    have e1 : i64 ((k : Int) + 1) = (k : Int) + 1 := ZdI (n := s.length) (by omega) hs
    simp only [Zaa, hlt, decide_true, if_true, Zf1 hx, Option.bind_some, e1]
    have e2 : (((decide (97 ≤ ((x.toNat : Nat) : Int))) && (decide (((x.toNat : Nat) : Int) ≤ 122))) || ((decide (0 < (k : Int))) && (((decide (48 ≤ ((x.toNat : Nat) : Int))) && (decide (((x.toNat : Nat) : Int) ≤ 57))) || (decide (((x.toNat : Nat) : Int) = 45))))) = (lcB x || (decide (0 < k) && nbB x)) := by
      show (lcB x || (_ && _)) = _
      have ek : decide (0 < (k : Int)) = decide (0 < k) := by rw [decide_eq_decide]; omega
      rw [ek]
      unfold nbB nbI
      show _ = (lcB x || (_ && ((lcB x || _) || _)))
      cases lcB x <;> simp
    rw [e2]
    cases (lcB x || (decide (0 < k) && nbB x)) <;> simp
  rw [hloop]
  cases s with
  | nil => simp [nmE, ZL, gd]
  | cons c tl =>
    have htl : ZL (fun k b => if (lcB b || (decide (0 < k) && nbB b)) = true then none else some ()) 1 tl = if tl.all nbB then none else some () := by
      rw [← Zf6 1]
      refine Zh4 1 tl fun j x _ => ?_
      have : decide (0 < 1 + j) = true := decide_eq_true (by omega)
      rw [this, Bool.true_and]
      cases h : lcB x with
      | false => simp
      | true => have : nbB x = true := ZnS h; simp [this]
    simp only [ZL, htl, nmE]
    cases hc : lcB c with
    | false => simp
    | true =>
      cases ha : tl.all nbB with
      | false => simp
      | true =>
        by_cases hl : (c :: tl).length ≤ 30
        · have hl' : (((c :: tl).length : Nat) : Int) ≤ 30 := by omega
          have hg : ((!decide (c :: tl = [])) && decide ((((c :: tl).length : Nat) : Int) ≤ 30)) = true := by simp [hl']; simpa using hl'
          simp only [Bool.true_or, if_true, ZgO, Option.bind_some, Sum.elim_inr, Zm2, hg, beq_self_eq_true, Zlf, Zlb, hl, decide_true, Bool.true_and]
        · have hl' : ¬ (((c :: tl).length : Nat) : Int) ≤ 30 := by omega
          simp only [Bool.true_or, if_true, ZgO, Option.bind_some, Sum.elim_inr, Zm2, hl', hl, decide_false, Bool.and_false, Bool.false_and, Bool.true_and]
          simp [gd]
end Go.Vx

namespace Go.Vx
open Go Go.RowKit
def ZfH (x : api_Zone) : Prop := (wfI .i64) x.From ∧ (wfI .i64) x.To ∧ wfS x.Name ∧ True
def Zb1 (x : api_Instrument) : Prop := (wfI .i64) x.Kind ∧ wfS x.Name ∧ wfS x.Track ∧ (wfI .i64) x.Places ∧ (wfI .i64) x.Low ∧ (wfI .i64) x.High ∧ (wfI .i64) x.Steps ∧ (wfL ZfH) x.Zones ∧ (wfI .i64) x.Op ∧ (wfI .i64) x.N ∧ wfT x.Latch ∧ (wfI .i64) x.Size ∧ True
def Zhj (x : api_Panel) : Prop := (wfL Zb1) x.Instruments ∧ True
def ZfA (x : api_Memo) : Prop := wfT x.Lit ∧ wfT x.Some ∧ (wfI .i64) x.N ∧ (wfI .i64) x.Count ∧ (wfL (wfI .i64)) x.Tape ∧ True
def ZdZ (x : api_PanelState) : Prop := (wfI .i64) x.Frame ∧ (wfL ZfA) x.Memos ∧ True
def Zee (x : api_Sample) : Prop := (wfI .i64) x.At ∧ (wfI .i64) x.N ∧ (wfI .i64) x.Mark ∧ True
def ZjC (x : api_Series) : Prop := (wfI .i64) x.Den ∧ (wfL Zee) x.Samples ∧ True
def Ze1 (x : api_Track) : Prop := wfS x.Name ∧ ZjC x.Series ∧ (wfI .i64) x.Long ∧ True
end Go.Vx

namespace Go.Vx
open Go Go.RowKit
section
variable {α ε : Type}
theorem ZeJ {p : α → Bool} {e : ε} : ∀ (k : Nat) (xs : List α), ZL (fun _ x => if p x = true then some e else none) k xs = if xs.any p = true then some e else none
  | _, [] => rfl
  | k, x :: tl => by
    have ih := ZeJ (p := p) (e := e) (k + 1) tl
    simp only [ZL, List.any_cons]
    by_cases hp : p x = true
    · simp [hp]
    · have hp' : p x = false := by simpa using hp
      simp only [hp', Bool.false_eq_true, if_false, Bool.false_or]; exact ih
theorem Zeu {p : α → Bool} : ∀ (k : Nat) (xs : List α), (ZL (fun j x => if p x = true then some (j : Int) else none) k xs = none ∧ xs.any p = false) ∨ (∃ m : Nat, ZL (fun j x => if p x = true then some (j : Int) else none) k xs = some (m : Int) ∧ xs.any p = true)
  | _, [] => .inl ⟨rfl, rfl⟩
  | k, x :: tl => by
    have ih := Zeu (p := p) (k + 1) tl
    simp only [ZL, List.any_cons]
    by_cases hp : p x = true
    · exact .inr ⟨k, by simp [hp], by simp [hp]⟩
    · have hp' : p x = false := by simpa using hp
      simp only [hp', Bool.false_eq_true, if_false, Bool.false_or]; exact ih
end
theorem ZoZ {l : List api_Track} (hl : l.length ≤ 9223372036854775807) {f : api_Track → Option Bool} {p : api_Track → Bool} (hf : ∀ x, f x = some (p x)) : ZD l f = some (l.any p) := by
  have h : loop (t1 (Zs l f)) 0 = some (XG Sum.inl (Sum.inr ()) (ZL (fun k x => if p x = true then some (k : Int) else none) 0 l)) := by
    refine Z4 (xs := l) (body := Zs l f) _ _ _ (fun k x hx => ?_) (by simp [Zs])
    have hlt := Q6 hx
    have e1 : i64 ((k : Int) + 1) = (k : Int) + 1 := ZdI (n := l.length) (by omega) hl
    simp only [Zs, hlt, decide_true, if_true, ZX hx, Option.bind_some, e1, hf]
    cases p x <;> rfl
  unfold ZD ZH
  rw [h]
  rcases Zeu (p := p) 0 l with ⟨h1, h2⟩ | ⟨m, h1, h2⟩
  · rw [h1, h2]; simp
  · rw [h1, h2]; simp
def Zim (l : List api_Track) (k : Nat) (x : api_Track) : Option Int :=
  if nmE x.Name = false then some 8 else if (l.take k).any (fun z => decide (z.Name = x.Name)) = true then some 5 else if (chk x.Series).2 ≠ 0 then some (chk x.Series).2 else if wi x.Long 0 1099511627776 = false then some 9 else none
def ckT (l : List api_Track) : Int := if 50 < (l.length : Int) then 3 else XG id 0 (ZL (Zim l) 0 l)
theorem Zna {α : Type} {l : List α} {k : Nat} (h : k ≤ l.length) : slc l 0 (k : Int) = some (l.take k) := by
  unfold slc
  rw [if_pos ⟨by omega, by omega, by omega⟩]
  simp
theorem Zlp (l : List api_Track) : Xc l = some (ckT l) := by
  unfold Xc ckT
  by_cases h50 : 50 < (l.length : Int)
  · simp [h50]
  · have h : loop (t1 (Qr l)) 0 = some (XG Sum.inl (Sum.inr ()) (ZL (Zim l) 0 l)) := by
      refine Z4 (xs := l) (body := Qr l) _ _ _ (fun k x hx => ?_) (by simp [Qr])
      have hlt := Q6 hx
      have e1 : i64 ((k : Int) + 1) = (k : Int) + 1 := ZdI (n := l.length) (by omega) (by omega)
      have hc : ZD (l.take k) (fun z0 => Xk z0 x) = some ((l.take k).any fun z => decide (z.Name = x.Name)) :=
        ZoZ (by rw [List.length_take]; omega) (fun _ => rfl)
      have hw : JI x.Long 0 1099511627776 = some (wi x.Long 0 1099511627776) := rfl
      simp only [Qr, hlt, decide_true, if_true, ZX hx, Option.bind_some, e1, Zmp, Zna (show k ≤ l.length by omega), hc, ZnP, hw, Zim]
      cases nmE x.Name with
      | false => simp
      | true => cases (l.take k).any (fun z => decide (z.Name = x.Name)) with
        | true => simp
        | false =>
          by_cases h0 : (chk x.Series).2 = 0
          · cases wi x.Long 0 1099511627776 <;> simp [h0]
          · simp [h0]
    rw [if_neg (by simpa using h50), if_neg h50, h]
    cases ZL (Zim l) 0 l <;> simp
theorem Zpm {l : List api_Track} {i : Nat} {x : api_Track} (hx : l[i]? = some x) (hl : l.length ≤ 50) : loop (t1 (QO l i)) 0 = some (if (l.take i).any (fun z => decide (z.Name = x.Name)) = true then .inl 5 else .inr ()) := by
  have hlt := Q6 hx
  have hlen : (l.take i).length = i := by rw [List.length_take]; omega
  have h : loop (t1 (QO l i)) 0 = some (XG (fun _ => Sum.inl 5) (Sum.inr ()) (ZL (fun _ z => if decide (z.Name = x.Name) = true then some () else none) 0 (l.take i))) := by
    refine Z4 (xs := l.take i) (body := QO l i) _ _ _ (fun k z hz => ?_) (by rw [hlen]; simp [QO])
    have hk : (k : Int) < (i : Int) := by have := Q6 hz; rw [hlen] at this; exact this
    have hz' : l[k]? = some z := by rw [List.getElem?_take_of_lt (by omega)] at hz; exact hz
    have e1 : i64 ((k : Int) + 1) = (k : Int) + 1 := ZO (by omega) (by omega)
    simp only [QO, hk, decide_true, if_true, ZX hz', ZX hx, Option.bind_some, e1]
    by_cases hn : z.Name = x.Name <;> simp [hn]
  rw [h, ZeJ]
  cases (l.take i).any (fun z => decide (z.Name = x.Name)) <;> rfl
theorem Zlk (l : List api_Track) (hs : ∀ x ∈ l, x.Name.length ≤ 9223372036854775807) : Zae l = some (ckT l) := by
  unfold Zae ckT
  by_cases h50 : 50 < (l.length : Int)
  · simp [h50]
  · have h : loop (t1 (Xj l)) 0 = some (XG Sum.inl (Sum.inr ()) (ZL (Zim l) 0 l)) := by
      refine Z4 (xs := l) (body := Xj l) _ _ _ (fun k x hx => ?_) (by simp [Xj])
      have hlt := Q6 hx
      have e1 : i64 ((k : Int) + 1) = (k : Int) + 1 := ZdI (n := l.length) (by omega) (by omega)
      have hw : Zdj x.Long 0 1099511627776 = some (!wi x.Long 0 1099511627776) := ZaO _ _ _
      simp only [Xj, hlt, decide_true, if_true, ZX hx, Option.bind_some, e1, Zmf x.Name (hs x (List.mem_of_getElem? hx)), Zpm hx (by omega), ZkV, hw, Zim]
      cases nmE x.Name with
      | false => simp
      | true => cases (l.take k).any (fun z => decide (z.Name = x.Name)) with
        | true => simp
        | false =>
          by_cases h0 : (chk x.Series).2 = 0
          · cases wi x.Long 0 1099511627776 <;> simp [h0]
          · simp [h0]
    rw [if_neg (by simpa using h50), if_neg h50, h]
    cases ZL (Zim l) 0 l <;> simp
theorem Zji {t : api_Track} {l : List api_Track} (h : ckT l = 0) (ht : t ∈ l) : (chk t.Series).2 = 0 ∧ wi t.Long 0 1099511627776 = true := by
  unfold ckT at h
  split at h
  · cases h
  · obtain ⟨j, hj⟩ := List.mem_iff_getElem?.1 ht
    cases hf : ZL (Zim l) 0 l with
    | none =>
      have := Zfb 0 l hf j t hj
      unfold Zim at this
      split at this
      · cases this
      · split at this
        · cases this
        · split at this
          · cases this
          · rename_i h0
            split at this
            · cases this
            · rename_i h1
              exact ⟨by simpa using h0, by simpa using h1⟩
    | some e =>
      rw [hf] at h
      have he : e = 0 := h
      subst he
      exfalso
      have key : ∀ (k : Nat) (xs : List api_Track) , ZL (Zim l) k xs ≠ some 0 := by
        intro k xs
        induction xs generalizing k with
        | nil => intro e; cases e
        | cons x tl ih =>
          intro e
          simp only [ZL] at e
          cases hg : Zim l k x with
          | none => rw [hg] at e; exact ih _ e
          | some v =>
            rw [hg] at e
            cases e
            unfold Zim at hg
            repeat' split at hg
            all_goals first | (cases hg; done) | simp_all
      exact key 0 l hf
end Go.Vx

namespace Go.Vx
open Go Go.RowKit
theorem ZiU : ∀ (k u : Nat), u < 10 ^ (k + 1) → Go.Lib.nDigits u ≤ k + 1
  | 0, u, h => by rw [Go.Lib.nDigits_small (by simpa using h)]; exact Nat.le_refl _
  | k + 1, u, h => by
    by_cases h1 : u < 10
    · rw [Go.Lib.nDigits_small h1]; omega
    · rw [Go.Lib.nDigits_big h1]
      have := ZiU k (u / 10) (by rw [Nat.pow_succ] at h; omega)
      omega
theorem Zky {z : Int} (h0 : 0 ≤ z) (h1 : z < 1000000000000000000) : ∃ d, itoa z = some d ∧ 1 ≤ d.length ∧ d.length ≤ 18 := by
  obtain ⟨u, rfl⟩ := Int.eq_ofNat_of_zero_le h0
  refine ⟨Go.Lib.decDigits u, ?_, ?_, ?_⟩
  · unfold itoa
    rw [if_pos ⟨by omega, by omega⟩]
    unfold Go.Lib.itoa
    rw [if_neg (by omega)]; simp
  · rw [Go.Lib.decDigits_length]; exact Go.Lib.nDigits_pos u
  · rw [Go.Lib.decDigits_length]
    have e : (10 : Nat) ^ (17 + 1) = 1000000000000000000 := by decide
    exact ZiU 17 u (by rw [e]; omega)
theorem Zn4 {k : Nat} (h : k ≤ 6) : (1 : Int) ≤ 10 ^ k ∧ (10 : Int) ^ k ≤ 1000000 := by
  obtain rfl | rfl | rfl | rfl | rfl | rfl | rfl : k = 0 ∨ k = 1 ∨ k = 2 ∨ k = 3 ∨ k = 4 ∨ k = 5 ∨ k = 6 := by omega
  all_goals decide
theorem ZkJ {m : Nat} (hm : m ≤ 6) (body : Int → Int → Option ((Int × Int) ⊕ Int))
    (hb : ∀ s i : Int, body s i = if decide (i < (m : Int)) = true then some (.inl (i64 (s * 10), i64 (i + 1))) else some (.inr s)) : loop (t2 body) (1, 0) = some ((10 : Int) ^ m) := by
  refine ZeU (body := t2 body) (fun p => ∃ k : Nat, p = ((10 : Int) ^ k, (k : Int)) ∧ k ≤ m) (fun p => m - p.2.toNat) (fun _ => (10 : Int) ^ m) ?_ (1, 0) ⟨0, rfl, Nat.zero_le _⟩
  rintro ⟨s, i⟩ ⟨k, he, hk⟩
  obtain ⟨rfl, rfl⟩ := Prod.mk.inj he
  simp only [ZhW, hb]
  by_cases h : k < m
  · have h' : (k : Int) < m := by omega
    have hp := Zn4 (k := k) (by omega)
    rw [if_pos (decide_eq_true h')]
    refine .inl ⟨_, rfl, ⟨k + 1, ?_, h⟩, ?_, trivial⟩
    · rw [show i64 ((10 : Int) ^ k * 10) = 10 ^ k * 10 from ZO (by omega) (by omega), show i64 ((k : Int) + 1) = k + 1 from ZO (by omega) (by omega)]
      rw [Int.pow_succ]; rfl
    · rw [show i64 ((k : Int) + 1) = k + 1 from ZO (by omega) (by omega)]
      simp only; omega
  · obtain rfl : k = m := by omega
    rw [if_neg (by simp)]
    exact .inr rfl
theorem ZhT {s t : Str} (h : s.length + t.length ≤ 9223372036854775807) : cat s t = some (s ++ t) := by simp [cat, h]
theorem Zom {s : Str} (h : 1 ≤ s.length) : slc s 1 (s.length : Int) = some (s.drop 1) := by
  unfold slc
  rw [if_pos ⟨by omega, by omega, Int.le_refl _⟩]
  simp
theorem ZmY {n den places : Int} (hn1 : -1125899906842624 ≤ n) (hn2 : n ≤ 1125899906842624) (hd1 : 1 ≤ den) (hd2 : den ≤ 1000000) (hp1 : 0 ≤ places) (hp2 : places ≤ 6) :
    ∃ s, Q9 n den places = some s ∧ JG n den places = some s ∧ s.length ≤ 41 := by
  obtain ⟨m, rfl⟩ := Int.eq_ofNat_of_zero_le hp1
  have hm : m ≤ 6 := by omega
  obtain ⟨hS1, hS2⟩ := Zn4 hm
  have hl1 := ZkJ hm (ZaD (m : Int)) (fun _ _ => rfl)
  have hl2 := ZkJ hm (ZdQ (m : Int)) (fun _ _ => rfl)
  generalize hS : (10 : Int) ^ m = S at hS1 hS2 hl1 hl2
  have ea : max n (i64 (-n)) = if n < 0 then -n else n := by
    rw [show i64 (-n) = -n from ZO (by omega) (by omega)]
    split <;> omega
  have en : i64 (-n) = -n := ZO (by omega) (by omega)
  generalize hA : (if n < 0 then -n else n) = A at ea
  have hA1 : 0 ≤ A := by rw [← hA]; split <;> omega
  have hA2 : A ≤ 1125899906842624 := by rw [← hA]; split <;> omega
  have hd0 : den ≠ 0 := by omega
  have hq1 : 0 ≤ A / den := Int.ediv_nonneg hA1 (by omega)
  have hq2 : A / den ≤ A := Int.ediv_le_self _ hA1
  have hr1 : 0 ≤ A % den := Int.emod_nonneg _ hd0
  have hr2 : A % den < den := Int.emod_lt_of_pos _ (by omega)
  have eq1 : quo .i64 A den = some (A / den) := by
    unfold quo
    rw [if_neg hd0, Int.tdiv_eq_ediv_of_nonneg hA1, ZO (by omega) (by omega)]
  have eq2 : Go.Vx.rem A den = some (A % den) := by
    unfold Go.Vx.rem
    rw [if_neg hd0, Int.tmod_eq_emod_of_nonneg hA1]
  generalize A / den = q at *
  generalize A % den = r at *
  have hrS0 : 0 ≤ r * S := Int.mul_nonneg hr1 (by omega)
  have hrS : r * S ≤ (den - 1) * S := Int.mul_le_mul_of_nonneg_right (by omega) (by omega)
  have hrS2 : r * S ≤ 1000000 * 1000000 := Int.mul_le_mul (by omega) hS2 (by omega) (by omega)
  have hdS : (den - 1) * S = den * S - S := by rw [Int.sub_mul, Int.one_mul]
  have e1 : i64 (r * S) = r * S := ZO (by omega) (by omega)
  have e2 : i64 (r * S * 2) = r * S * 2 := ZO (by omega) (by omega)
  have e3 : i64 (r * S * 2 + den) = r * S * 2 + den := ZO (by omega) (by omega)
  have e4 : i64 (2 * den) = 2 * den := ZO (by omega) (by omega)
  have e5 : i64 (2 * S) = 2 * S := ZO (by omega) (by omega)
  have e6 : 2 * S * r = r * S * 2 := by rw [Int.mul_assoc, Int.mul_comm 2, Int.mul_comm S]
  have hN : 0 ≤ r * S * 2 + den := by omega
  have hq3 : 0 ≤ (r * S * 2 + den) / (2 * den) := Int.ediv_nonneg hN (by omega)
  have hq4 : (r * S * 2 + den) / (2 * den) ≤ S := by
    have : (r * S * 2 + den) / (2 * den) < S + 1 := by
      refine Int.ediv_lt_of_lt_mul (by omega) ?_
      have : (S + 1) * (2 * den) = 2 * (den * S) + 2 * den := by
        rw [Int.add_mul, Int.one_mul, Int.mul_left_comm S 2 den, Int.mul_comm S den]
      omega
    omega
  have eq3 : quo .i64 (r * S * 2 + den) (2 * den) = some ((r * S * 2 + den) / (2 * den)) := by
    unfold quo
    rw [if_neg (by omega), Int.tdiv_eq_ediv_of_nonneg hN, ZO (by omega) (by omega)]
  generalize (r * S * 2 + den) / (2 * den) = w at *
  have e7 : i64 (q + 1) = q + 1 := ZO (by omega) (by omega)
  obtain ⟨W, Q, hWQ, hW1, hW2, hQ1, hQ2⟩ : ∃ W Q : Int, (if decide (w = S) = true then some (q + 1, (0 : Int)) else some (q, w)) = some (W, Q) ∧ 0 ≤ W ∧ W ≤ 1125899906842625 ∧ 0 ≤ Q ∧ Q ≤ S := by
    by_cases h : w = S
    · exact ⟨q + 1, 0, by rw [if_pos (decide_eq_true h)], by omega, by omega, by omega, by omega⟩
    · exact ⟨q, w, by rw [if_neg (by simpa using h)], by omega, by omega, by omega, by omega⟩
  obtain ⟨d, hd, hdl1, hdl2⟩ := Zky (z := W) hW1 (by omega)
  obtain ⟨f, hf, hfl1, hfl2⟩ := Zky (z := S + Q) (by omega) (by omega)
  have e8 : i64 (S + Q) = S + Q := ZO (by omega) (by omega)
  obtain ⟨o, ho, hol⟩ : ∃ o : Str, (if decide (0 < (m : Int)) = true then some (d ++ ([46] ++ f.drop 1)) else some d) = some o ∧ o.length ≤ 40 := by
    by_cases h : 0 < (m : Int)
    · exact ⟨_, if_pos (decide_eq_true h), by simp; omega⟩
    · exact ⟨_, if_neg (by simpa using h), by omega⟩
  have hc1 : cat [46] (f.drop 1) = some ([46] ++ f.drop 1) := ZhT (by simp; omega)
  have hc2 : cat d ([46] ++ f.drop 1) = some (d ++ ([46] ++ f.drop 1)) := ZhT (by simp; omega)
  have hc3 : cat [45] o = some ([45] ++ o) := ZhT (by simp; omega)
  have hc4 : cat [] o = some ([] ++ o) := ZhT (by simp; omega)
  refine ⟨if n < 0 ∧ (0 < W ∨ 0 < Q) then [45] ++ o else o, ?_, ?_, ?_⟩
  · unfold Q9
    rw [ea, eq1, eq2, hl1]
    simp only [Option.bind_some, JU, e1, e2, e3, e4, e7, eq3, hWQ, ZhW, hd, e8, hf, Zom hfl1, hc1, hc2, ho]
    by_cases h : n < 0 ∧ (0 < W ∨ 0 < Q)
    · have h' : (decide (n < 0) && (decide (0 < W) || decide (0 < Q))) = true := by simpa using h
      rw [if_pos h', if_pos h, hc3]; rfl
    · have h' : (decide (n < 0) && (decide (0 < W) || decide (0 < Q))) = false := by
        rw [Bool.eq_false_iff]; intro e; exact h (by simpa using e)
      rw [if_neg (by rw [h']; simp), if_neg h]
  · have hsz : (if decide (n < 0) = true then some (i64 (-n), ([45] : Str)) else some (n, [])) = some (A, if n < 0 then [45] else []) := by
      rw [en, ← hA]
      by_cases h : n < 0 <;> simp [h]
    unfold JG
    rw [hsz]
    simp only [Option.bind_some, ZhW, hl2, JU, eq1, eq2, e5, e6, e2, e3, e4, eq3, e7, hWQ, hd, e8, hf, Zom hfl1, hc1, hc2, ho]
    by_cases h0 : W = 0 ∧ Q = 0
    · have h' : (decide (W = 0) && decide (Q = 0)) = true := by simpa using h0
      rw [if_pos h']
      simp only [Option.bind_some, JU, hc4]
      rw [if_neg (by omega)]; rfl
    · have h' : (decide (W = 0) && decide (Q = 0)) = false := by
        rw [Bool.eq_false_iff]; intro e; exact h0 (by simpa using e)
      rw [h']
      by_cases hn : n < 0
      · have : n < 0 ∧ (0 < W ∨ 0 < Q) := ⟨hn, by omega⟩
        simp only [hn, if_true, Bool.false_eq_true, if_false, Option.bind_some, JU, hc3]
        rw [if_pos ⟨trivial, this.2⟩]
      · simp only [hn, if_false, Bool.false_eq_true, Option.bind_some, JU, hc4]
        simp
  · split
    · simp; omega
    · omega
end Go.Vx
