/- A text of the proof: a verified executor of the program form, or the contracts of the functions that the law reaches. -/
import Derived.Test.YtecdkapjjhkanaaDoorPuD7
set_option linter.all false
namespace Go.Vx
open Go Go.RowKit
theorem gcd_s {a b : Int} (ha : 0 ≤ a) (hb : 0 ≤ b) : loop (t2 series_divisor_L1) (a, b) = some (Int.gcd a b : Int) := by
  refine loop_to (body := t2 series_divisor_L1) (fun p => 0 ≤ p.1 ∧ 0 ≤ p.2) (fun p => p.2.toNat) (fun p => (Int.gcd p.1 p.2 : Int)) ?_ (a, b) ⟨ha, hb⟩
  rintro ⟨a, b⟩ ⟨h1, h2⟩
  simp only at h1 h2
  simp only [t2_mk]
  unfold series_divisor_L1
  by_cases h : b = 0
  · right
    subst h
    simp [Int.natAbs_of_nonneg h1]
  · left
    have hb : 0 < b := by omega
    refine ⟨(b, a.tmod b), by simp [h, rem], ⟨by simpa using h2, Int.tmod_nonneg _ h1⟩, ?_, ?_⟩
    · have := Int.tmod_lt_of_pos a hb
      have h3 := Int.tmod_nonneg b h1
      simp only; omega
    · simp only
      obtain ⟨m, rfl⟩ := Int.eq_ofNat_of_zero_le h1
      obtain ⟨n, rfl⟩ := Int.eq_ofNat_of_zero_le h2
      congr 1
      have e : (m : Int).tmod (n : Int) = ((m % n : Nat) : Int) := by rw [Int.tmod_eq_emod_of_nonneg h1]; rfl
      rw [e]
      show Nat.gcd m n = Nat.gcd n (m % n)
      rw [Nat.gcd_comm m n, Nat.gcd_rec n m, Nat.gcd_comm]
theorem gcd_pos {a b : Int} (hb : 0 < b) : 0 < (Int.gcd a b : Int) := by
  have : 0 < Int.gcd a b := Int.gcd_pos_of_ne_zero_right _ (by omega)
  omega
abbrev StS := Option (Int × Int × Int)
noncomputable def steep (a b c d : Int) : Bool := (series_steeper a b c d).getD false
def smpAt (s : api_Series) (l : List Int) (j : Nat) : Smp := ((l[j]?).bind fun i => s.Samples[i.toNat]?).getD z0
def gapN (a b : Int) : Int := max (b - a) (a - b)
noncomputable def stF (s : api_Series) (long : Int) (l : List Int) (k : Nat) (st : StS) : StS :=
  let a := smpAt s l (k - 1); let b := smpAt s l k
  if decide (b.At - a.At ≤ long) && (match st with | none => true | some (num, den, _) => steep (gapN a.N b.N) (b.At - a.At) num den) then some (gapN a.N b.N, b.At - a.At, (l[k]?).getD 0) else st
def InvS : StS → Prop
  | none => True
  | some (num, den, at') => 0 ≤ num ∧ num ≤ 4503599627370496 ∧ 0 < den ∧ den ≤ 1099511627776 ∧ 0 ≤ at'
theorem smp_get {s : api_Series} (hs : SerOK s) {k : Nat} (hk : 1 ≤ k) (hl : k < (filtI sol 0 s.Samples).length) :
    ∃ i j x y, (filtI sol 0 s.Samples)[k - 1]? = some i ∧ (filtI sol 0 s.Samples)[k]? = some j ∧ idx s.Samples i = some x ∧ idx s.Samples j = some y ∧ smpAt s (filtI sol 0 s.Samples) (k - 1) = x ∧ smpAt s (filtI sol 0 s.Samples) k = y ∧
      (0 < y.At - x.At ∧ y.At - x.At ≤ 1099511627776) ∧ inN x.N ∧ inN y.N ∧ 0 ≤ j := by
  obtain ⟨i, hi⟩ := get_ex (xs := filtI sol 0 s.Samples) (k := k - 1) (by omega)
  obtain ⟨j, hj⟩ := get_ex hl
  obtain ⟨m, rfl, x, hx, _⟩ := filtI_get _ _ _ _ _ hi
  obtain ⟨n, rfl, y, hy, _⟩ := filtI_get _ _ _ _ _ hj
  have hup := filtI_up sol 0 s.Samples (k - 1) _ _ hi (by rw [show k - 1 + 1 = k by omega]; exact hj)
  have hmn : m < n := by omega
  have h1 := hs.at' m x hx
  have h2 := hs.at' n y hy
  have h3 := hs.rise m n x y hmn hx hy
  refine ⟨_, _, x, y, hi, hj, ?_, ?_, ?_, ?_, ⟨by omega, by omega⟩, h1.2.1, h2.2.1, by omega⟩
  · rw [Nat.zero_add]; exact idx_of hx
  · rw [Nat.zero_add]; exact idx_of hy
  · simp [smpAt, hi, hx]
  · simp [smpAt, hj, hy]
theorem gap_in {a b : Int} (ha : inN a) (hb : inN b) : 0 ≤ gapN a b ∧ gapN a b ≤ 4503599627370496 ∧ i64 (b - a) = b - a ∧ i64 (a - b) = a - b := by
  obtain ⟨a1, a2⟩ := ha
  obtain ⟨b1, b2⟩ := hb
  unfold gapN
  refine ⟨by omega, by omega, i64_id (by omega) (by omega), i64_id (by omega) (by omega)⟩
def encP (st : StS) (k : Nat) : Int × Int × Int × Int := match st with | none => (-1, 0, 1, (k : Int)) | some (num, den, at') => (at', num, den, (k : Int))
def encR (st : StS) (k : Nat) : Int × Int × Int × Int := match st with | none => (0, 0, 0, (k : Int)) | some (num, den, at') => (num, den, at', (k : Int))
def outP (st : StS) : Int × Int × Int := match st with | none => (-1, 0, 1) | some (num, den, at') => (at', num, den)
def outR (st : StS) : Int × Int × Int := match st with | none => (0, 0, 0) | some (num, den, at') => (num, den, at')
theorem stF_inv {s : api_Series} (hs : SerOK s) {long : Int} {k : Nat} (hk : 1 ≤ k) (hl : k < (filtI sol 0 s.Samples).length) {st : StS} (h : InvS st) : InvS (stF s long (filtI sol 0 s.Samples) k st) := by
  obtain ⟨i, j, x, y, h1, h2, h3, h4, h5, h6, h7, h8, h9, h10⟩ := smp_get hs hk hl
  unfold stF
  simp only [h5, h6, h2, Option.getD_some]
  obtain ⟨g1, g2, _⟩ := gap_in h8 h9
  have key : ∀ c : Bool, InvS (if c = true then some (gapN x.N y.N, y.At - x.At, j) else st) := by
    intro c
    cases c with
    | false => exact h
    | true => exact ⟨g1, g2, h7.1, h7.2, h10⟩
  exact key _
theorem steep_step {s : api_Series} (hs : SerOK s) (long : Int) : ∀ k st, 1 ≤ k → k < (filtI sol 0 s.Samples).length → InvS st →
    t4 (series_Steepest_L1 s long (filtI sol 0 s.Samples)) (encP st k) = some (.inl (encP (stF s long (filtI sol 0 s.Samples) k st) (k + 1))) ∧ InvS (stF s long (filtI sol 0 s.Samples) k st) := by
  intro k st hk hl hI
  refine ⟨?_, stF_inv hs hk hl hI⟩
  obtain ⟨i, j, x, y, h1, h2, h3, h4, h5, h6, h7, h8, h9, h10⟩ := smp_get hs hk hl
  have hlen := hs.len
  have hfl := filtI_len sol 0 s.Samples
  have hlt : (k : Int) < ((filtI sol 0 s.Samples).length : Int) := by omega
  have e1 : i64 ((k : Int) - 1) = ((k - 1 : Nat) : Int) := by show IntKind.i64.wrap _ = _; rw [i64_id (by omega) (by omega)]; omega
  have e2 : i64 ((k : Int) + 1) = ((k + 1 : Nat) : Int) := by show IntKind.i64.wrap _ = _; rw [i64_id (by omega) (by omega)]; push_cast; rfl
  have e3 : i64 (y.At - x.At) = y.At - x.At := i64_id (by omega) (by omega)
  obtain ⟨g1, g2, g3, g4⟩ := gap_in h8 h9
  have e4 : i64 (-(y.N - x.N)) = x.N - y.N := by rw [show -(y.N - x.N) = x.N - y.N by omega]; exact g4
  have hsz : series_size (y.N - x.N) = some (gapN x.N y.N) := by unfold series_size gapN; rw [e4]
  unfold stF
  simp only [h5, h6, h2, Option.getD_some]
  cases st with
  | none =>
    have hm : (-1 : Int) < 0 := by decide
    simp only [encP, t4_mk, series_Steepest_L1, hlt, decide_true, if_true, e1, e2, idx_of h1, idx_of h2, h3, h4, Option.bind_some, g3, e3, hsz, hm]
    by_cases hc : y.At - x.At ≤ long <;> simp [hc]
  | some q =>
    obtain ⟨num, den, at'⟩ := q
    obtain ⟨q1, q2, q3, q4, q5⟩ := hI
    have hm : ¬ at' < 0 := by omega
    obtain ⟨v, hv, _⟩ := steeper_ex (gapN x.N y.N) (y.At - x.At) num den g1 q1
    have hst : steep (gapN x.N y.N) (y.At - x.At) num den = v := by unfold steep; rw [hv]; rfl
    simp only [encP, t4_mk, series_Steepest_L1, hlt, decide_true, if_true, e1, e2, idx_of h1, idx_of h2, h3, h4, Option.bind_some, g3, e3, hsz, hm, decide_false, hv, hst]
    by_cases hc : y.At - x.At ≤ long <;> cases v <;> simp [hc]
theorem rsteep_step {s : api_Series} (hs : SerOK s) (long : Int) : ∀ k st, 1 ≤ k → k < (filtI sol 0 s.Samples).length → InvS st →
    t4 (ref5_Steepest_L1 s long (filtI sol 0 s.Samples)) (encR st k) = some (.inl (encR (stF s long (filtI sol 0 s.Samples) k st) (k + 1))) ∧ InvS (stF s long (filtI sol 0 s.Samples) k st) := by
  intro k st hk hl hI
  refine ⟨?_, stF_inv hs hk hl hI⟩
  obtain ⟨i, j, x, y, h1, h2, h3, h4, h5, h6, h7, h8, h9, h10⟩ := smp_get hs hk hl
  have hlen := hs.len
  have hfl := filtI_len sol 0 s.Samples
  have hlt : (k : Int) < ((filtI sol 0 s.Samples).length : Int) := by omega
  have e1 : i64 ((k : Int) - 1) = ((k - 1 : Nat) : Int) := by show IntKind.i64.wrap _ = _; rw [i64_id (by omega) (by omega)]; omega
  have e2 : i64 ((k : Int) + 1) = ((k + 1 : Nat) : Int) := by show IntKind.i64.wrap _ = _; rw [i64_id (by omega) (by omega)]; push_cast; rfl
  have e3 : i64 (y.At - x.At) = y.At - x.At := i64_id (by omega) (by omega)
  obtain ⟨g1, g2, g3, g4⟩ := gap_in h8 h9
  have hsz : ref5_apart y.N x.N = some (gapN x.N y.N) := by unfold ref5_apart gapN; rw [g3, g4]
  unfold stF
  simp only [h5, h6, h2, Option.getD_some]
  cases st with
  | none =>
    simp only [encR, t4_mk, ref5_Steepest_L1, hlt, decide_true, if_true, e1, e2, idx_of h1, idx_of h2, h3, h4, Option.bind_some, e3, hsz]
    by_cases hc : y.At - x.At ≤ long
    · have hc' : ¬ long < y.At - x.At := by omega
      simp [hc, hc']
    · have hc' : long < y.At - x.At := by omega
      simp [hc, hc']
  | some q =>
    obtain ⟨num, den, at'⟩ := q
    obtain ⟨q1, q2, q3, q4, q5⟩ := hI
    have hm : ¬ den = 0 := by omega
    obtain ⟨v, hv, hv'⟩ := steeper_ex (gapN x.N y.N) (y.At - x.At) num den g1 q1
    have hst : steep (gapN x.N y.N) (y.At - x.At) num den = v := by unfold steep; rw [hv]; rfl
    simp only [encR, t4_mk, ref5_Steepest_L1, hlt, decide_true, if_true, e1, e2, idx_of h1, idx_of h2, h3, h4, Option.bind_some, e3, hsz, hm, decide_false, hv', hst]
    by_cases hc : y.At - x.At ≤ long
    · have hc' : ¬ long < y.At - x.At := by omega
      cases v <;> simp [hc, hc', hv']
    · have hc' : long < y.At - x.At := by omega
      simp [hc, hc']
end Go.Vx
