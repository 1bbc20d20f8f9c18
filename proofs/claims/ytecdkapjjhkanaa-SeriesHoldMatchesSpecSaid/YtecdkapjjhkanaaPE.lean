/- A text of the proof: a verified executor of the program form, or the contracts of the functions that the law reaches. -/
import Derived.Test.YtecdkapjjhkanaaPD
set_option linter.all false
namespace Go.Vx
open Go Go.RowKit
/-! ## Combine -/
def mapO {α β : Type} (g : α → Option β) : List α → Option (List β)
  | [] => some []
  | x :: tl => (g x).bind fun y => (mapO g tl).map fun l => y :: l
theorem mapO_len {α β : Type} {g : α → Option β} : ∀ {xs : List α} {l : List β}, mapO g xs = some l → l.length = xs.length
  | [], l, h => by cases h; rfl
  | x :: tl, l, h => by
    simp only [mapO, Option.bind_eq_some_iff, Option.map_eq_some_iff] at h
    obtain ⟨y, _, l', h2, rfl⟩ := h
    simp [mapO_len h2]
theorem loop_mapE {α β ε : Type} {xs : List α} {body : List β → Int → Option ((List β × Int) ⊕ ε ⊕ (List β))} (g : α → Option β) (e : ε)
    (hstep : ∀ (k : Nat) x acc, xs[k]? = some x → acc.length = k → body acc k = elimO (fun y => some (.inl (acc ++ [y], (k : Int) + 1))) (some (.inr (.inl e))) (g x))
    (hend : ∀ acc, body acc xs.length = some (.inr (.inr acc))) : loop (t2 body) ([], 0) = some (elimO (fun l => .inr l) (.inl e) (mapO g xs)) := by
  refine (loop_to (body := t2 body) (fun p => ∃ k : Nat, p.2 = k ∧ k ≤ xs.length ∧ p.1.length = k) (fun p => xs.length - p.2.toNat) (fun p => elimO (fun l => Sum.inr (p.1 ++ l)) (Sum.inl e) (mapO g (xs.drop p.2.toNat))) ?_ ([], 0) ⟨0, rfl, Nat.zero_le _, rfl⟩).trans (by simp)
  rintro ⟨acc, i⟩ ⟨k, hi, hk, ha⟩
  simp only at hi ha
  subst hi
  simp only [t2_mk, Int.toNat_natCast]
  rcases Nat.lt_or_ge k xs.length with h | h
  · obtain ⟨x, hx⟩ := get_ex h
    rw [hstep k x acc hx ha, drop_cons hx]
    simp only [mapO]
    cases hg : g x with
    | none => right; rfl
    | some y =>
      left
      refine ⟨_, rfl, ⟨k + 1, by push_cast; rfl, h, by simp [ha]⟩, by simp only; omega, ?_⟩
      simp only [Option.bind_some]
      have : ((k : Int) + 1).toNat = k + 1 := by omega
      rw [this]
      cases mapO g (List.drop (k + 1) xs) <;> simp
  · have : k = xs.length := by omega
    subst this
    right
    rw [hend]; simp [mapO]
def comb (op a b : Int) : Int := if op = 1 then i64 (a + b) else if op = 2 then i64 (a - b) else if op = 3 then min a b else if op = 4 then max a b else max (i64 (a - b)) (i64 (-(i64 (a - b))))
theorem combined_s (op a b : Int) : series_combined op a b = some (comb op a b) := by
  unfold series_combined comb series_size
  by_cases h1 : op = 1 <;> by_cases h2 : op = 2 <;> by_cases h3 : op = 3 <;> by_cases h4 : op = 4 <;> simp [h1, h2, h3, h4]
def inN (a : Int) : Prop := -1125899906842624 ≤ a ∧ a ≤ 1125899906842624
theorem rcombined_s (op : Int) {a b : Int} (ha : inN a) (hb : inN b) : ref5_combined op a b = some (comb op a b) := by
  unfold ref5_combined comb ref5_apart
  obtain ⟨a1, a2⟩ := ha
  obtain ⟨b1, b2⟩ := hb
  have e1 : i64 (a - b) = a - b := i64_id (by omega) (by omega)
  have e2 : i64 (b - a) = b - a := i64_id (by omega) (by omega)
  have e3 : i64 (-(a - b)) = b - a := by rw [show -(a - b) = b - a by omega]; exact e2
  by_cases h1 : op = 1 <;> by_cases h2 : op = 2 <;> by_cases h3 : op = 3 <;> by_cases h4 : op = 4 <;> simp [h1, h2, h3, h4, e1, e2, e3]
theorem held_mem {xs : List Smp} {t long : Int} {x : Smp} (h : heldAt xs t long = some x) : ∃ k : Nat, xs[k]? = some x := by
  simp only [heldAt, Option.bind_eq_some_iff] at h
  obtain ⟨y, h1, h2⟩ := h
  split at h2
  · cases h2
    unfold lastLe at h1
    split at h1
    · cases h1
    · exact ⟨_, h1⟩
  · cases h2
def combG (b : api_Series) (op long : Int) (x : Smp) : Option Smp :=
  if wi (if (decide (3 ≤ x.Mark) && (outH (heldAt b.Samples x.At long)).2) = true then (⟨x.At, comb op x.N (outH (heldAt b.Samples x.At long)).1.N, min x.Mark (outH (heldAt b.Samples x.At long)).1.Mark⟩ : Smp) else ⟨x.At, 0, 0⟩).N (-1125899906842624) 1125899906842624 then
  some (if (decide (3 ≤ x.Mark) && (outH (heldAt b.Samples x.At long)).2) = true then ⟨x.At, comb op x.N (outH (heldAt b.Samples x.At long)).1.N, min x.Mark (outH (heldAt b.Samples x.At long)).1.Mark⟩ else ⟨x.At, 0, 0⟩) else none
theorem comb_loop {a b : api_Series} (ha : SerOK a) (hb : SerOK b) (op long : Int) : loop (t2 (series_Combine_L2 a b op long)) ([], 0) = some (elimO (fun l => .inr l) (.inl (bad 9)) (mapO (combG b op long) a.Samples)) := by
  have hl := ha.len
  refine loop_mapE (xs := a.Samples) (body := series_Combine_L2 a b op long) (combG b op long) (bad 9) (fun k x acc hx hac => ?_) (fun acc => by simp [series_Combine_L2])
  have hlt := lt_of hx
  have e1 : i64 ((k : Int) + 1) = (k : Int) + 1 := i64_id (by omega) (by omega)
  have ea : ∀ z : Smp, app acc [z] = some (acc ++ [z]) := fun z => app_of (by simp; omega)
  have hat := (ha.at' k x hx).1
  simp only [series_Combine_L2, hlt, decide_true, if_true, idx_of hx, Option.bind_some, e1, hold_s hb x.At long hat, series_solid, combined_s, within_s]
  unfold combG
  cases hc : (decide (3 ≤ x.Mark) && (outH (heldAt b.Samples x.At long)).2) with
  | true =>
    cases hw : wi (comb op x.N (outH (heldAt b.Samples x.At long)).1.N) (-1125899906842624) 1125899906842624 <;> simp [hw, ea, bad]
  | false =>
    have hw : wi 0 (-1125899906842624) 1125899906842624 = true := by decide
    simp [hw, ea]
theorem rcomb_loop {a b : api_Series} (ha : SerOK a) (hb : SerOK b) (op long : Int) : loop (t2 (ref5_Combine_L1 a b op long)) ([], 0) = some (elimO (fun l => .inr l) (.inl (bad 9)) (mapO (combG b op long) a.Samples)) := by
  have hl := ha.len
  refine loop_mapE (xs := a.Samples) (body := ref5_Combine_L1 a b op long) (combG b op long) (bad 9) (fun k x acc hx hac => ?_) (fun acc => by simp [ref5_Combine_L1])
  have hlt := lt_of hx
  have e1 : i64 ((k : Int) + 1) = (k : Int) + 1 := i64_id (by omega) (by omega)
  have ea : ∀ z : Smp, app acc [z] = some (acc ++ [z]) := fun z => app_of (by simp; omega)
  have hat := (ha.at' k x hx).1
  have hN := (ha.at' k x hx).2.1
  simp only [ref5_Combine_L1, hlt, decide_true, if_true, idx_of hx, Option.bind_some, e1, rHeld_s hb x.At long hat, ref5_solid, outside_s]
  unfold combG
  cases hc : (decide (3 ≤ x.Mark) && (outH (heldAt b.Samples x.At long)).2) with
  | true =>
    have hy : inN (outH (heldAt b.Samples x.At long)).1.N := by
      cases hh : heldAt b.Samples x.At long with
      | none => rw [hh] at hc; simp [outH] at hc
      | some y =>
        obtain ⟨j, hj⟩ := held_mem hh
        exact (hb.at' j y hj).2.1
    simp only [if_true, rcombined_s op hN hy, Option.bind_some]
    cases hw : wi (comb op x.N (outH (heldAt b.Samples x.At long)).1.N) (-1125899906842624) 1125899906842624 <;> simp [hw, ea, bad]
  | false =>
    have hw : wi 0 (-1125899906842624) 1125899906842624 = true := by decide
    simp [hw, ea]
def outComb (a b : api_Series) (op long : Int) : api_Series × Int :=
  if (chk a).2 ≠ 0 then bad (chk a).2 else if (chk b).2 ≠ 0 then bad (chk b).2 else if a.Den ≠ b.Den then bad 2 else if wi op 1 5 = false then bad 7 else if wi long 0 1099511627776 = false then bad 9 else
  elimO (fun l => (⟨a.Den, l⟩, 0)) (bad 9) (mapO (combG b op long) a.Samples)
theorem Combine_s (a b : api_Series) (op long : Int) : series_Combine a b op long = some (outComb a b op long) := by
  unfold series_Combine
  rw [two_checks a b (fun y => (api_Series.mk 0 [], y)) (series_Combine_L1 a b) (fun i => rfl)]
  unfold outComb
  by_cases h0 : (chk a).2 = 0
  · by_cases h1 : (chk b).2 = 0
    · by_cases h2 : a.Den = b.Den
      · cases h3 : wi op 1 5 with
        | false => simp [h0, h1, h2, h3, within_s, bad]
        | true =>
          cases h4 : wi long 0 1099511627776 with
          | false => simp [h0, h1, h2, h3, h4, within_s, bad]
          | true =>
            have := comb_loop (ser_ok h0) (ser_ok h1) op long
            simp only [h0, h1, h2, h3, h4, within_s, this]
            cases mapO (combG b op long) a.Samples <;> simp [bad]
      · simp [h0, h1, h2, bad]
    · simp [h0, h1, bad]
  · simp [h0, bad]
theorem rCombine_s (a b : api_Series) (op long : Int) : ref5_Combine a b op long = some (outComb a b op long) := by
  unfold ref5_Combine
  rw [pairFault_s]
  unfold outComb
  by_cases h0 : (chk a).2 = 0
  · by_cases h1 : (chk b).2 = 0
    · by_cases h2 : a.Den = b.Den
      · cases h3 : wi op 1 5 with
        | false => simp [h0, h1, h2, h3, outside_s, bad]
        | true =>
          cases h4 : wi long 0 1099511627776 with
          | false => simp [h0, h1, h2, h3, h4, outside_s, bad]
          | true =>
            have := rcomb_loop (ser_ok h0) (ser_ok h1) op long
            simp only [h0, h1, h2, h3, h4, outside_s, this]
            cases mapO (combG b op long) a.Samples <;> simp [bad]
      · simp [h0, h1, h2, bad]
    · simp [h0, h1, bad]
  · simp [h0, bad]
theorem outComb_len (a b : api_Series) (op long : Int) : (outComb a b op long).1.Samples.length ≤ 1048576 := by
  unfold outComb
  by_cases h0 : (chk a).2 = 0
  · by_cases h1 : (chk b).2 = 0
    · by_cases h2 : a.Den = b.Den
      · cases h3 : wi op 1 5 with
        | false => simp [h0, h1, h2, bad]
        | true =>
          cases h4 : wi long 0 1099511627776 with
          | false => simp [h0, h1, h2, bad]
          | true =>
            have hl := (ser_ok h0).len
            cases hm : mapO (combG b op long) a.Samples with
            | none => simp [h0, h1, h2, bad]
            | some l => have := mapO_len hm; simp [h0, h1, h2]; omega
      · simp [h0, h1, h2, bad]
    · simp [h0, h1, bad]
  · simp [h0, bad]
end Go.Vx

namespace Go.Vx
open Go Go.RowKit
/-! ## Steepest -/
def run {σ : Type} (f : Nat → σ → σ) : Nat → Nat → σ → σ
  | 0, _, st => st
  | m + 1, k, st => run f m (k + 1) (f k st)
theorem loop_run {σ S ρ : Type} {body : S → Option (S ⊕ ρ)} (n : Nat) (I : σ → Prop) (f : Nat → σ → σ) (enc : σ → Nat → S) (out : σ → ρ) (k0 : Nat)
    (hstep : ∀ k st, k0 ≤ k → k < n → I st → body (enc st k) = some (.inl (enc (f k st) (k + 1))) ∧ I (f k st)) (hend : ∀ st, I st → body (enc st n) = some (.inr (out st)))
    (st0 : σ) (h0 : k0 ≤ n) (hI : I st0) : loop body (enc st0 k0) = some (out (run f (n - k0) k0 st0)) := by
  have key : ∀ m k st, k + m = n → k0 ≤ k → I st → loop body (enc st k) = some (out (run f m k st)) := by
    intro m
    induction m with
    | zero =>
      intro k st hk _ hI
      have : k = n := by omega
      subst this
      rw [loop_eq, hend st hI]; rfl
    | succ m ih =>
      intro k st hk hk0 hI
      obtain ⟨h1, h2⟩ := hstep k st hk0 (by omega) hI
      rw [loop_eq, h1]
      exact ih (k + 1) (f k st) (by omega) (by omega) h2
  exact key (n - k0) k0 st0 (by omega) (Nat.le_refl _) hI
/-- The places of those that p names. -/
def filtI {α : Type} (p : α → Bool) : Nat → List α → List Int
  | _, [] => []
  | k, x :: tl => if p x then (k : Int) :: filtI p (k + 1) tl else filtI p (k + 1) tl
theorem filtI_len {α : Type} (p : α → Bool) : ∀ (k : Nat) (xs : List α), (filtI p k xs).length ≤ xs.length
  | _, [] => Nat.le_refl _
  | k, x :: tl => by
    have := filtI_len p (k + 1) tl
    simp only [filtI]
    split <;> simp only [List.length_cons] <;> omega
theorem filtI_get {α : Type} (p : α → Bool) : ∀ (k : Nat) (xs : List α) (j : Nat) (i : Int), (filtI p k xs)[j]? = some i → ∃ m : Nat, i = ((k + m : Nat) : Int) ∧ ∃ x, xs[m]? = some x ∧ p x = true
  | _, [], j, i, h => by simp [filtI] at h
  | k, x :: tl, j, i, h => by
    simp only [filtI] at h
    split at h
    · rename_i hp
      cases j with
      | zero => simp only [List.getElem?_cons_zero, Option.some.injEq] at h; exact ⟨0, by rw [← h]; rfl, x, rfl, hp⟩
      | succ j =>
        obtain ⟨m, h1, y, h2, h3⟩ := filtI_get p (k + 1) tl j i (by simpa using h)
        exact ⟨m + 1, by rw [h1]; congr 1; omega, y, by simpa using h2, h3⟩
    · obtain ⟨m, h1, y, h2, h3⟩ := filtI_get p (k + 1) tl j i h
      exact ⟨m + 1, by rw [h1]; congr 1; omega, y, by simpa using h2, h3⟩
theorem filtI_up {α : Type} (p : α → Bool) : ∀ (k : Nat) (xs : List α) (j : Nat) (a b : Int), (filtI p k xs)[j]? = some a → (filtI p k xs)[j + 1]? = some b → a < b
  | _, [], j, a, b, h, _ => by simp [filtI] at h
  | k, x :: tl, j, a, b, h, h' => by
    simp only [filtI] at h h'
    split at h
    · rename_i hp
      rw [if_pos hp] at h'
      cases j with
      | zero =>
        simp only [List.getElem?_cons_zero, Option.some.injEq] at h
        obtain ⟨m, h1, _⟩ := filtI_get p (k + 1) tl 0 b (by simpa using h')
        rw [← h, h1]
        push_cast; omega
      | succ j => exact filtI_up p (k + 1) tl j a b (by simpa using h) (by simpa using h')
    · rename_i hp
      rw [if_neg hp] at h'
      exact filtI_up p (k + 1) tl j a b h h'
theorem loop_filt {α : Type} {xs : List α} {body : List Int → Int → Option ((List Int × Int) ⊕ (List Int))} (p : α → Bool)
    (hstep : ∀ (k : Nat) x acc, xs[k]? = some x → acc.length ≤ k → body acc k = some (.inl (if p x then acc ++ [(k : Int)] else acc, (k : Int) + 1)))
    (hend : ∀ acc, body acc xs.length = some (.inr acc)) : loop (t2 body) ([], 0) = some (filtI p 0 xs) := by
  refine (loop_to (body := t2 body) (fun q => ∃ k : Nat, q.2 = k ∧ k ≤ xs.length ∧ q.1.length ≤ k) (fun q => xs.length - q.2.toNat) (fun q => q.1 ++ filtI p q.2.toNat (xs.drop q.2.toNat)) ?_ ([], 0) ⟨0, rfl, Nat.zero_le _, Nat.le_refl _⟩).trans (by simp)
  rintro ⟨acc, i⟩ ⟨k, hi, hk, ha⟩
  simp only at hi ha
  subst hi
  simp only [t2_mk, Int.toNat_natCast]
  rcases Nat.lt_or_ge k xs.length with h | h
  · obtain ⟨x, hx⟩ := get_ex h
    left
    refine ⟨_, hstep k x acc hx ha, ⟨k + 1, by push_cast; rfl, h, by simp only; cases p x <;> simp <;> omega⟩, by simp only; omega, ?_⟩
    have : ((k : Int) + 1).toNat = k + 1 := by omega
    simp only [this]
    rw [drop_cons hx]
    simp only [filtI]
    cases p x <;> simp
  · have : k = xs.length := by omega
    subst this
    right
    rw [hend]; simp [filtI]
def sol (x : Smp) : Bool := decide (3 ≤ x.Mark)
theorem solids_s {s : api_Series} (hs : SerOK s) : series_solids s = some (filtI sol 0 s.Samples) := by
  have hl := hs.len
  unfold series_solids
  rw [loop_filt (xs := s.Samples) (body := series_solids_L1 s) sol (fun k x acc hx ha => ?_) (fun acc => by simp [series_solids_L1])]
  · rfl
  · have hlt := lt_of hx
    have e1 : i64 ((k : Int) + 1) = (k : Int) + 1 := i64_id (by omega) (by omega)
    simp only [series_solids_L1, hlt, decide_true, if_true, idx_of hx, Option.bind_some, e1, series_solid, sol]
    rw [app_of (by simp; omega)]
    by_cases h : 3 ≤ x.Mark <;> simp [h]
theorem rsolids_s {s : api_Series} (hs : SerOK s) : ref5_Solids s = some (filtI sol 0 s.Samples) := by
  have hl := hs.len
  unfold ref5_Solids
  rw [loop_filt (xs := s.Samples) (body := ref5_Solids_L1 s) sol (fun k x acc hx ha => ?_) (fun acc => by simp [ref5_Solids_L1])]
  · rfl
  · have hlt := lt_of hx
    have e1 : i64 ((k : Int) + 1) = (k : Int) + 1 := i64_id (by omega) (by omega)
    simp only [ref5_Solids_L1, hlt, decide_true, if_true, idx_of hx, Option.bind_some, e1, ref5_solid, sol]
    rw [app_of (by simp; omega)]
    by_cases h : 3 ≤ x.Mark <;> simp [h]
/-! ### Wide products -/
theorem shr32 (x : Int) : shr .u64 x 32 = some (x.fdiv (2 ^ 32)) := by simp [shr, IntKind.bits]
theorem mul64_ex (x y : Int) : ∃ h l, bits_Mul64 x y = some (h, l) ∧ (0 ≤ h ∧ h < 18446744073709551616) ∧ (0 ≤ l ∧ l < 18446744073709551616) := by
  unfold bits_Mul64
  simp only [shr32, Option.bind_some]
  exact ⟨_, _, rfl, u64_lo _, u64_lo _⟩
theorem steeper_ex (a b c d : Int) (ha : 0 ≤ a) (hc : 0 ≤ c) : ∃ v, series_steeper a b c d = some v ∧ ref5_steeper a b c d = some v := by
  obtain ⟨h1, l1, e1, ⟨r1, r2⟩, r3, r4⟩ := mul64_ex (u64 a) (u64 d)
  obtain ⟨h2, l2, e2, ⟨q1, q2⟩, q3, q4⟩ := mul64_ex (u64 c) (u64 b)
  have ha' : ¬ a < 0 := by omega
  have hc' : ¬ c < 0 := by omega
  refine ⟨_, ?_, by unfold ref5_steeper ref5_product; simp only [ha', hc', decide_false, Bool.false_eq_true, if_false, Option.bind_some, t1_mk, e1, e2]; rfl⟩
  have f1 : bits_Add64 0 l1 0 = some (l1, 0) := by
    unfold bits_Add64
    rw [if_pos (by omega)]
    congr 2 <;> omega
  have f2 : bits_Add64 0 l2 0 = some (l2, 0) := by
    unfold bits_Add64
    rw [if_pos (by omega)]
    congr 2 <;> omega
  have g1 : u64 (h1 + 0) = h1 := by rw [Int.add_zero]; exact u64_id r1 r2
  have g1' : u64 (0 + h1) = h1 := by rw [Int.zero_add]; exact u64_id r1 r2
  have g2 : u64 (h2 + 0) = h2 := by rw [Int.add_zero]; exact u64_id q1 q2
  have g2' : u64 (0 + h2) = h2 := by rw [Int.zero_add]; exact u64_id q1 q2
  unfold series_steeper series_wide_addProduct series_wide_less
  simp only [e1, e2, Option.bind_some, f1, f2, g1, g1', g2, g2']
  have : decide (h2 = h1) = decide (h1 = h2) := by rw [Bool.eq_iff_iff]; simp [eq_comm]
  rw [this]
end Go.Vx

namespace Go.Vx
open Go Go.RowKit
theorem gcd_s {a b : Int} (ha : 0 ≤ a) (hb : 0 ≤ b) : loop (t2 series_divisor_L1) (a, b) = some (Int.gcd a b : Int) := by
  refine loop_to (body := t2 series_divisor_L1) (fun p => 0 ≤ p.1 ∧ 0 ≤ p.2) (fun p => p.2.toNat) (fun p => (Int.gcd p.1 p.2 : Int)) ?_ (a, b) ⟨ha, hb⟩
  rintro ⟨a, b⟩ ⟨h1, h2⟩
  simp only at h1 h2
  simp only [t2_mk]
  unfold series_divisor_L1
  by_cases h : b = 0
  · right
    subst h
    simp [Int.natAbs_of_nonneg h1]
  · left
    have hb : 0 < b := by omega
    refine ⟨(b, a.tmod b), by simp [h, rem], ⟨by simpa using h2, Int.tmod_nonneg _ h1⟩, ?_, ?_⟩
    · have := Int.tmod_lt_of_pos a hb
      have h3 := Int.tmod_nonneg b h1
      simp only; omega
    · simp only
      obtain ⟨m, rfl⟩ := Int.eq_ofNat_of_zero_le h1
      obtain ⟨n, rfl⟩ := Int.eq_ofNat_of_zero_le h2
      congr 1
      have e : (m : Int).tmod (n : Int) = ((m % n : Nat) : Int) := by rw [Int.tmod_eq_emod_of_nonneg h1]; rfl
      rw [e]
      show Nat.gcd m n = Nat.gcd n (m % n)
      rw [Nat.gcd_comm m n, Nat.gcd_rec n m, Nat.gcd_comm]
theorem gcd_pos {a b : Int} (hb : 0 < b) : 0 < (Int.gcd a b : Int) := by
  have : 0 < Int.gcd a b := Int.gcd_pos_of_ne_zero_right _ (by omega)
  omega
abbrev StS := Option (Int × Int × Int)
noncomputable def steep (a b c d : Int) : Bool := (series_steeper a b c d).getD false
def smpAt (s : api_Series) (l : List Int) (j : Nat) : Smp := ((l[j]?).bind fun i => s.Samples[i.toNat]?).getD z0
def gapN (a b : Int) : Int := max (b - a) (a - b)
noncomputable def stF (s : api_Series) (long : Int) (l : List Int) (k : Nat) (st : StS) : StS :=
  let a := smpAt s l (k - 1); let b := smpAt s l k
  if decide (b.At - a.At ≤ long) && (match st with | none => true | some (num, den, _) => steep (gapN a.N b.N) (b.At - a.At) num den) then some (gapN a.N b.N, b.At - a.At, (l[k]?).getD 0) else st
def InvS : StS → Prop
  | none => True
  | some (num, den, at') => 0 ≤ num ∧ num ≤ 4503599627370496 ∧ 0 < den ∧ den ≤ 1099511627776 ∧ 0 ≤ at'
theorem smp_get {s : api_Series} (hs : SerOK s) {k : Nat} (hk : 1 ≤ k) (hl : k < (filtI sol 0 s.Samples).length) :
    ∃ i j x y, (filtI sol 0 s.Samples)[k - 1]? = some i ∧ (filtI sol 0 s.Samples)[k]? = some j ∧ idx s.Samples i = some x ∧ idx s.Samples j = some y ∧ smpAt s (filtI sol 0 s.Samples) (k - 1) = x ∧ smpAt s (filtI sol 0 s.Samples) k = y ∧
      (0 < y.At - x.At ∧ y.At - x.At ≤ 1099511627776) ∧ inN x.N ∧ inN y.N ∧ 0 ≤ j := by
  obtain ⟨i, hi⟩ := get_ex (xs := filtI sol 0 s.Samples) (k := k - 1) (by omega)
  obtain ⟨j, hj⟩ := get_ex hl
  obtain ⟨m, rfl, x, hx, _⟩ := filtI_get _ _ _ _ _ hi
  obtain ⟨n, rfl, y, hy, _⟩ := filtI_get _ _ _ _ _ hj
  have hup := filtI_up sol 0 s.Samples (k - 1) _ _ hi (by rw [show k - 1 + 1 = k by omega]; exact hj)
  have hmn : m < n := by omega
  have h1 := hs.at' m x hx
  have h2 := hs.at' n y hy
  have h3 := hs.rise m n x y hmn hx hy
  refine ⟨_, _, x, y, hi, hj, ?_, ?_, ?_, ?_, ⟨by omega, by omega⟩, h1.2.1, h2.2.1, by omega⟩
  · rw [Nat.zero_add]; exact idx_of hx
  · rw [Nat.zero_add]; exact idx_of hy
  · simp [smpAt, hi, hx]
  · simp [smpAt, hj, hy]
theorem gap_in {a b : Int} (ha : inN a) (hb : inN b) : 0 ≤ gapN a b ∧ gapN a b ≤ 4503599627370496 ∧ i64 (b - a) = b - a ∧ i64 (a - b) = a - b := by
  obtain ⟨a1, a2⟩ := ha
  obtain ⟨b1, b2⟩ := hb
  unfold gapN
  refine ⟨by omega, by omega, i64_id (by omega) (by omega), i64_id (by omega) (by omega)⟩
def encP (st : StS) (k : Nat) : Int × Int × Int × Int := match st with | none => (-1, 0, 1, (k : Int)) | some (num, den, at') => (at', num, den, (k : Int))
def encR (st : StS) (k : Nat) : Int × Int × Int × Int := match st with | none => (0, 0, 0, (k : Int)) | some (num, den, at') => (num, den, at', (k : Int))
def outP (st : StS) : Int × Int × Int := match st with | none => (-1, 0, 1) | some (num, den, at') => (at', num, den)
def outR (st : StS) : Int × Int × Int := match st with | none => (0, 0, 0) | some (num, den, at') => (num, den, at')
theorem stF_inv {s : api_Series} (hs : SerOK s) {long : Int} {k : Nat} (hk : 1 ≤ k) (hl : k < (filtI sol 0 s.Samples).length) {st : StS} (h : InvS st) : InvS (stF s long (filtI sol 0 s.Samples) k st) := by
  obtain ⟨i, j, x, y, h1, h2, h3, h4, h5, h6, h7, h8, h9, h10⟩ := smp_get hs hk hl
  unfold stF
  simp only [h5, h6, h2, Option.getD_some]
  obtain ⟨g1, g2, _⟩ := gap_in h8 h9
  have key : ∀ c : Bool, InvS (if c = true then some (gapN x.N y.N, y.At - x.At, j) else st) := by
    intro c
    cases c with
    | false => exact h
    | true => exact ⟨g1, g2, h7.1, h7.2, h10⟩
  exact key _
theorem steep_step {s : api_Series} (hs : SerOK s) (long : Int) : ∀ k st, 1 ≤ k → k < (filtI sol 0 s.Samples).length → InvS st →
    t4 (series_Steepest_L1 s long (filtI sol 0 s.Samples)) (encP st k) = some (.inl (encP (stF s long (filtI sol 0 s.Samples) k st) (k + 1))) ∧ InvS (stF s long (filtI sol 0 s.Samples) k st) := by
  intro k st hk hl hI
  refine ⟨?_, stF_inv hs hk hl hI⟩
  obtain ⟨i, j, x, y, h1, h2, h3, h4, h5, h6, h7, h8, h9, h10⟩ := smp_get hs hk hl
  have hlen := hs.len
  have hfl := filtI_len sol 0 s.Samples
  have hlt : (k : Int) < ((filtI sol 0 s.Samples).length : Int) := by omega
  have e1 : i64 ((k : Int) - 1) = ((k - 1 : Nat) : Int) := by show IntKind.i64.wrap _ = _; rw [i64_id (by omega) (by omega)]; omega
  have e2 : i64 ((k : Int) + 1) = ((k + 1 : Nat) : Int) := by show IntKind.i64.wrap _ = _; rw [i64_id (by omega) (by omega)]; push_cast; rfl
  have e3 : i64 (y.At - x.At) = y.At - x.At := i64_id (by omega) (by omega)
  obtain ⟨g1, g2, g3, g4⟩ := gap_in h8 h9
  have e4 : i64 (-(y.N - x.N)) = x.N - y.N := by rw [show -(y.N - x.N) = x.N - y.N by omega]; exact g4
  have hsz : series_size (y.N - x.N) = some (gapN x.N y.N) := by unfold series_size gapN; rw [e4]
  unfold stF
  simp only [h5, h6, h2, Option.getD_some]
  cases st with
  | none =>
    have hm : (-1 : Int) < 0 := by decide
    simp only [encP, t4_mk, series_Steepest_L1, hlt, decide_true, if_true, e1, e2, idx_of h1, idx_of h2, h3, h4, Option.bind_some, g3, e3, hsz, hm]
    by_cases hc : y.At - x.At ≤ long <;> simp [hc]
  | some q =>
    obtain ⟨num, den, at'⟩ := q
    obtain ⟨q1, q2, q3, q4, q5⟩ := hI
    have hm : ¬ at' < 0 := by omega
    obtain ⟨v, hv, _⟩ := steeper_ex (gapN x.N y.N) (y.At - x.At) num den g1 q1
    have hst : steep (gapN x.N y.N) (y.At - x.At) num den = v := by unfold steep; rw [hv]; rfl
    simp only [encP, t4_mk, series_Steepest_L1, hlt, decide_true, if_true, e1, e2, idx_of h1, idx_of h2, h3, h4, Option.bind_some, g3, e3, hsz, hm, decide_false, hv, hst]
    by_cases hc : y.At - x.At ≤ long <;> cases v <;> simp [hc]
theorem rsteep_step {s : api_Series} (hs : SerOK s) (long : Int) : ∀ k st, 1 ≤ k → k < (filtI sol 0 s.Samples).length → InvS st →
    t4 (ref5_Steepest_L1 s long (filtI sol 0 s.Samples)) (encR st k) = some (.inl (encR (stF s long (filtI sol 0 s.Samples) k st) (k + 1))) ∧ InvS (stF s long (filtI sol 0 s.Samples) k st) := by
  intro k st hk hl hI
  refine ⟨?_, stF_inv hs hk hl hI⟩
  obtain ⟨i, j, x, y, h1, h2, h3, h4, h5, h6, h7, h8, h9, h10⟩ := smp_get hs hk hl
  have hlen := hs.len
  have hfl := filtI_len sol 0 s.Samples
  have hlt : (k : Int) < ((filtI sol 0 s.Samples).length : Int) := by omega
  have e1 : i64 ((k : Int) - 1) = ((k - 1 : Nat) : Int) := by show IntKind.i64.wrap _ = _; rw [i64_id (by omega) (by omega)]; omega
  have e2 : i64 ((k : Int) + 1) = ((k + 1 : Nat) : Int) := by show IntKind.i64.wrap _ = _; rw [i64_id (by omega) (by omega)]; push_cast; rfl
  have e3 : i64 (y.At - x.At) = y.At - x.At := i64_id (by omega) (by omega)
  obtain ⟨g1, g2, g3, g4⟩ := gap_in h8 h9
  have hsz : ref5_apart y.N x.N = some (gapN x.N y.N) := by unfold ref5_apart gapN; rw [g3, g4]
  unfold stF
  simp only [h5, h6, h2, Option.getD_some]
  cases st with
  | none =>
    simp only [encR, t4_mk, ref5_Steepest_L1, hlt, decide_true, if_true, e1, e2, idx_of h1, idx_of h2, h3, h4, Option.bind_some, e3, hsz]
    by_cases hc : y.At - x.At ≤ long
    · have hc' : ¬ long < y.At - x.At := by omega
      simp [hc, hc']
    · have hc' : long < y.At - x.At := by omega
      simp [hc, hc']
  | some q =>
    obtain ⟨num, den, at'⟩ := q
    obtain ⟨q1, q2, q3, q4, q5⟩ := hI
    have hm : ¬ den = 0 := by omega
    obtain ⟨v, hv, hv'⟩ := steeper_ex (gapN x.N y.N) (y.At - x.At) num den g1 q1
    have hst : steep (gapN x.N y.N) (y.At - x.At) num den = v := by unfold steep; rw [hv]; rfl
    simp only [encR, t4_mk, ref5_Steepest_L1, hlt, decide_true, if_true, e1, e2, idx_of h1, idx_of h2, h3, h4, Option.bind_some, e3, hsz, hm, decide_false, hv', hst]
    by_cases hc : y.At - x.At ≤ long
    · have hc' : ¬ long < y.At - x.At := by omega
      cases v <;> simp [hc, hc', hv']
    · have hc' : long < y.At - x.At := by omega
      simp [hc, hc']
end Go.Vx

namespace Go.Vx
open Go Go.RowKit
theorem run_inv {σ : Type} {f : Nat → σ → σ} {I : σ → Prop} {k0 n : Nat} (h : ∀ k st, k0 ≤ k → k < n → I st → I (f k st)) : ∀ m k st, k0 ≤ k → k + m ≤ n → I st → I (run f m k st)
  | 0, _, _, _, _, hI => hI
  | m + 1, k, st, hk, hn, hI => run_inv h m (k + 1) (f k st) (by omega) (by omega) (h k st hk (by omega) hI)
noncomputable def bestS (s : api_Series) (long : Int) : StS := run (stF s long (filtI sol 0 s.Samples)) (max 1 (filtI sol 0 s.Samples).length - 1) 1 none
def endS (st : StS) : api_Ratio × Int × Int := match st with
  | none => (⟨0, 0⟩, 0, 13)
  | some (num, den, at') => (⟨i64 (num.tdiv (Int.gcd num den : Int)), i64 (den.tdiv (Int.gcd num den : Int))⟩, at', 0)
noncomputable def outSt (s : api_Series) (long : Int) : api_Ratio × Int × Int :=
  if (chk s).2 ≠ 0 then (⟨0, 0⟩, 0, (chk s).2) else if wi long 0 1099511627776 = false then (⟨0, 0⟩, 0, 9) else endS (bestS s long)
theorem best_inv {s : api_Series} (hs : SerOK s) (long : Int) : InvS (bestS s long) :=
  run_inv (k0 := 1) (n := max 1 (filtI sol 0 s.Samples).length) (fun k st h1 h2 hI => stF_inv hs h1 (by omega) hI) _ 1 none (Nat.le_refl _) (by omega) trivial
theorem st_loop {s : api_Series} (hs : SerOK s) (long : Int) : loop (t4 (series_Steepest_L1 s long (filtI sol 0 s.Samples))) ((-1), 0, 1, 1) = some (outP (bestS s long)) := by
  refine loop_run (max 1 (filtI sol 0 s.Samples).length) InvS (stF s long (filtI sol 0 s.Samples)) encP outP 1 (fun k st h1 h2 hI => steep_step hs long k st h1 (by omega) hI) (fun st _ => ?_) none (by omega) trivial
  have : ¬ (((max 1 (filtI sol 0 s.Samples).length : Nat)) : Int) < ((filtI sol 0 s.Samples).length : Int) := by omega
  cases st with
  | none => simp only [encP, t4_mk, series_Steepest_L1]; rw [if_neg (by simpa using this)]; rfl
  | some q => obtain ⟨num, den, at'⟩ := q; simp only [encP, t4_mk, series_Steepest_L1]; rw [if_neg (by simpa using this)]; rfl
theorem rst_loop {s : api_Series} (hs : SerOK s) (long : Int) : loop (t4 (ref5_Steepest_L1 s long (filtI sol 0 s.Samples))) (0, 0, 0, 1) = some (outR (bestS s long)) := by
  refine loop_run (max 1 (filtI sol 0 s.Samples).length) InvS (stF s long (filtI sol 0 s.Samples)) encR outR 1 (fun k st h1 h2 hI => rsteep_step hs long k st h1 (by omega) hI) (fun st _ => ?_) none (by omega) trivial
  have : ¬ (((max 1 (filtI sol 0 s.Samples).length : Nat)) : Int) < ((filtI sol 0 s.Samples).length : Int) := by omega
  cases st with
  | none => simp only [encR, t4_mk, ref5_Steepest_L1]; rw [if_neg (by simpa using this)]; rfl
  | some q => obtain ⟨num, den, at'⟩ := q; simp only [encR, t4_mk, ref5_Steepest_L1]; rw [if_neg (by simpa using this)]; rfl
theorem divisor_s {a b : Int} (ha : 0 ≤ a) (ha2 : a ≤ 4611686018427387904) (hb : 0 ≤ b) (hb2 : b ≤ 4611686018427387904) : series_divisor a b = some (Int.gcd a b : Int) := by
  have e1 : i64 (-a) = -a := i64_id (by omega) (by omega)
  have e2 : i64 (-b) = -b := i64_id (by omega) (by omega)
  unfold series_divisor series_size
  simp only [e1, e2, Option.bind_some, show max a (-a) = a by omega, show max b (-b) = b by omega, gcd_s ha hb]
  rfl
theorem rgcd_s {a b : Int} (ha : 0 ≤ a) (hb : 0 ≤ b) : ref5_gcd a b = some (Int.gcd a b : Int) := by
  unfold ref5_gcd
  have : ref5_gcd_L1 = series_divisor_L1 := rfl
  rw [this, gcd_s ha hb]; rfl
theorem Steepest_s (s : api_Series) (long : Int) : series_Steepest s long = some (outSt s long) := by
  unfold series_Steepest outSt
  simp only [Check_s, within_s, Option.bind_some]
  by_cases h0 : (chk s).2 = 0
  · cases h1 : wi long 0 1099511627776 with
    | false => simp [h0]
    | true =>
      have hs := ser_ok h0
      have hI := best_inv hs long
      simp only [h0, solids_s hs, st_loop hs long, Option.bind_some]
      cases hb : bestS s long with
      | none => simp [outP, endS]
      | some q =>
        obtain ⟨num, den, at'⟩ := q
        rw [hb] at hI
        obtain ⟨q1, q2, q3, q4, q5⟩ := hI
        have hm : ¬ at' < 0 := by omega
        have hg := gcd_pos (a := num) q3
        have hg0 : ¬ (Int.gcd num den : Int) = 0 := by omega
        simp [outP, endS, hm, series_ratio, divisor_s q1 (by omega) (Int.le_of_lt q3) (by omega), quo]
        have hd : ¬ (num = 0 ∧ den = 0) := by omega
        simp only [hd, if_false, Option.bind_some]
  · simp [h0]
theorem rSteepest_s (s : api_Series) (long : Int) : ref5_Steepest s long = some (outSt s long) := by
  unfold ref5_Steepest outSt
  simp only [rCheck_s, outside_s, Option.bind_some]
  by_cases h0 : (chk s).2 = 0
  · cases h1 : wi long 0 1099511627776 with
    | false => simp [h0]
    | true =>
      have hs := ser_ok h0
      have hI := best_inv hs long
      simp only [h0, rsolids_s hs, rst_loop hs long, Option.bind_some]
      cases hb : bestS s long with
      | none => simp [outR, endS]
      | some q =>
        obtain ⟨num, den, at'⟩ := q
        rw [hb] at hI
        obtain ⟨q1, q2, q3, q4, q5⟩ := hI
        have hm : ¬ den = 0 := by omega
        have hg := gcd_pos (a := num) q3
        have hg0 : ¬ (Int.gcd num den : Int) = 0 := by omega
        simp [outR, endS, hm, rgcd_s (Int.le_of_lt q3) q1, quo, Int.gcd_comm den num]
  · simp [h0]
theorem law_Combine (a b : api_Series) (op long : Int) : law5_SeriesCombineMatchesSpec a b op long = some true := by
  simp only [law5_SeriesCombineMatchesSpec, Combine_s, rCombine_s, Steepest_s, rSteepest_s, Option.bind_some]
  obtain ⟨t, ht⟩ := told_t (outComb a b op long).1 (outComb a b op long).2 (outComb_len a b op long)
  simp [ht, holds_s]
end Go.Vx
