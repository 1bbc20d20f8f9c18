/- A text of the proof: a verified executor of the program form, or the contracts of the functions that the law reaches. -/
import Derived.Test.YtecdkapjjhkanaaDoorPuS3
set_option linter.all false
namespace Go.Vx
open Go Go.RowKit Go.Lib
/-! ## What is told -/
theorem app_len {α : Type} {xs ys zs : List α} (h : app xs ys = some zs) : zs = xs ++ ys := by
  unfold app at h; split at h <;> simp_all
theorem slc_ex {α : Type} {xs : List α} {a b : Int} (h0 : 0 ≤ a) (h1 : a ≤ b) (h2 : b ≤ xs.length) : slc xs a b = some ((xs.take b.toNat).drop a.toNat) := by
  simp only [slc]; rw [if_pos ⟨h0, h1, h2⟩]
theorem small_t (i : Int) (h0 : 0 ≤ i) (h1 : i < 100) : ∃ s, istrconv_small i = some s ∧ s.length ≤ 2 := by
  obtain ⟨n, rfl⟩ := Int.eq_ofNat_of_zero_le h0
  unfold istrconv_small
  by_cases h : (n : Int) < 10
  · have e1 : IntKind.i64.wrap ((n : Int) + 1) = (n : Int) + 1 := i64_id (by omega) (by omega)
    refine ⟨_, by simp only [h, decide_true, if_true, e1]; rw [slc_ex (by omega) (by omega) (by show _ ≤ ((36 : Nat) : Int); omega)]; rfl, ?_⟩
    simp only [List.length_drop, List.length_take]; omega
  · have e1 : IntKind.i64.wrap ((n : Int) * 2) = (n : Int) * 2 := i64_id (by omega) (by omega)
    have e2 : IntKind.i64.wrap ((n : Int) * 2 + 2) = (n : Int) * 2 + 2 := i64_id (by omega) (by omega)
    refine ⟨_, by simp only [h, decide_false, if_false, Bool.false_eq_true, e1, e2]; rw [slc_ex (by omega) (by omega) (by show _ ≤ ((200 : Nat) : Int); omega)]; rfl, ?_⟩
    simp only [List.length_drop, List.length_take]; omega
theorem u64_lo (z : Int) : 0 ≤ IntKind.u64.wrap z ∧ IntKind.u64.wrap z < 18446744073709551616 := by
  simp only [IntKind.wrap]
  constructor <;> simp [IntKind.signed, IntKind.bits] <;> omega
theorem uint_t (dst : List Int) (u : Int) (h0 : 0 ≤ u) (h1 : u < 18446744073709551616) (hl : dst.length ≤ 4000000000) : ∃ l, istrconv_AppendUint dst u 10 = some l ∧ l.length ≤ dst.length + 20 := by
  unfold istrconv_AppendUint
  simp only [decide_true, if_true]
  by_cases h : u < 100
  · have e : IntKind.i64.wrap u = u := i64_id (by omega) (by omega)
    obtain ⟨s, hs, hsl⟩ := small_t u h0 h
    refine ⟨dst ++ bytes s, ?_, by simp [bytes]; omega⟩
    simp only [h, decide_true, if_true, e, hs, Option.bind_some]
    rw [app_of (by simp [bytes]; omega)]
    rfl
  · have hn : nDigits u.toNat ≤ 20 := by
      have := (numDigits_eq u.toNat (by omega) (by omega))
      have h2 := this.2; have h3 := this.1
      split at h3 <;> omega
    have hp := nDigits_pos u.toNat
    have hlt := lt_pow_nDigits u.toNat
    have hsl : ∀ {β : Type} (v : Vector β 24), slc v.toList 0 (nDigits u.toNat : Int) = some ((v.toList.take (nDigits u.toNat)).drop 0) := fun v => slc_ex (Int.le_refl _) (by omega) (by simp; omega)
    have hf : ∃ v, fmt10 (Vector.replicate 24 0) (nDigits u.toNat) u = some v := by
      refine ⟨_, by unfold fmt10; rw [if_pos ⟨by omega, by omega, h0, hlt, by omega, fun x hx => by simp at hx; subst hx; omega⟩]⟩
    obtain ⟨v, hv⟩ := hf
    refine ⟨dst ++ (v.toList.take (nDigits u.toNat)).drop 0, ?_, by simp; omega⟩
    simp only [h, decide_false, if_false, Bool.false_eq_true, numDigits]
    rw [if_pos (by omega)]
    simp only [Option.bind_some, hsl, Int.sub_zero, Int.toNat_natCast, hv]
    rw [app_of (by simp; omega)]
    rfl
theorem int_t (dst : List Int) (n : Int) (hl : dst.length ≤ 3999999999) : ∃ l, strconv_AppendInt dst n 10 = some l ∧ l.length ≤ dst.length + 21 := by
  unfold strconv_AppendInt istrconv_AppendInt
  by_cases h : n < 0
  · obtain ⟨l, h1, h2⟩ := uint_t (dst ++ [45]) (IntKind.u64.wrap (-(IntKind.u64.wrap n))) (u64_lo _).1 (u64_lo _).2 (by simp; omega)
    refine ⟨l, ?_, by simp at h2; omega⟩
    simp only [h, decide_true, if_true]
    rw [app_of (by simp; omega)]
    simp [h1]
  · obtain ⟨l, h1, h2⟩ := uint_t dst (IntKind.u64.wrap n) (u64_lo _).1 (u64_lo _).2 (by omega)
    refine ⟨l, ?_, by omega⟩
    simp [h, h1]
theorem Int_t (k : ref0_Ink) (n : Int) (hl : k.out.length ≤ 3999999999) : ∃ r, ref0_Ink_Int k n = some r ∧ r.out.length ≤ k.out.length + 22 := by
  obtain ⟨l, h1, h2⟩ := int_t k.out n hl
  refine ⟨⟨l ++ [32]⟩, ?_, by simp; omega⟩
  unfold ref0_Ink_Int
  simp only [h1, Option.bind_some]
  rw [app_of (by simp; omega)]
  rfl
theorem Ints_t (k : ref0_Ink) (l : List Int) (hl : k.out.length + 22 * (l.length + 1) ≤ 3999999999) (h63 : l.length < 4611686018427387904) : ∃ r, ref0_Ink_Ints k l = some r ∧ r.out.length ≤ k.out.length + 22 * (l.length + 1) := by
  obtain ⟨k1, h1, h2⟩ := Int_t k l.length (by omega)
  unfold ref0_Ink_Ints
  simp only [h1, Option.bind_some]
  obtain ⟨r, h3, h4⟩ := loop_inv (body := t2 (ref0_Ink_Ints_L1 l)) (fun p => ∃ j : Nat, p.2 = j ∧ j ≤ l.length ∧ p.1.length ≤ k1.out.length + 22 * j) (fun p => l.length - p.2.toNat) (fun r => r.out.length ≤ k1.out.length + 22 * l.length) (by
    rintro ⟨out, i⟩ ⟨j, hi, hj, ho⟩
    simp only at hi ho
    subst hi
    simp only [t2_mk, ref0_Ink_Ints_L1]
    rcases Nat.lt_or_ge j l.length with h | h
    · obtain ⟨x, hx⟩ := get_ex h
      obtain ⟨k2, e1, e2⟩ := Int_t ⟨out⟩ x (by simp only; omega)
      left
      have e : IntKind.i64.wrap ((j : Int) + 1) = (j : Int) + 1 := i64_id (by omega) (by omega)
      refine ⟨(k2.out, (j : Int) + 1), by simp [lt_of hx, idx_of hx, e1, e], ⟨j + 1, by push_cast; rfl, h, by simp only at e2 ⊢; omega⟩, by simp only; omega⟩
    · have : j = l.length := by omega
      subst this
      exact .inr ⟨⟨out⟩, by simp, by simpa using ho⟩) (k1.out, 0) ⟨0, rfl, Nat.zero_le _, by simp⟩
  exact ⟨r, h3, by omega⟩
theorem Sample_t (k : ref0_Ink) (x : api_Sample) (hl : k.out.length ≤ 3999999000) : ∃ r, ref0_Ink_Sample k x = some r ∧ r.out.length ≤ k.out.length + 88 := by
  obtain ⟨r, h1, h2⟩ := Ints_t k [x.At, x.N, x.Mark] (by simp; omega) (by simp)
  exact ⟨r, by unfold ref0_Ink_Sample; simp [h1], by simpa using h2⟩
theorem Series_t (k : ref0_Ink) (s : api_Series) (hk : k.out.length ≤ 1000) (hl : s.Samples.length ≤ 1048576) : ∃ r, ref0_Ink_Series k s = some r ∧ r.out.length ≤ 200000000 := by
  obtain ⟨k1, h1, h2⟩ := Int_t k s.Den (by omega)
  obtain ⟨k2, h3, h4⟩ := Int_t k1 s.Samples.length (by omega)
  unfold ref0_Ink_Series
  simp only [h1, h3, Option.bind_some]
  obtain ⟨r, h5, h6⟩ := loop_inv (body := t2 (ref0_Ink_Series_L1 s)) (fun p => ∃ j : Nat, p.2 = j ∧ j ≤ s.Samples.length ∧ p.1.length ≤ k2.out.length + 88 * j) (fun p => s.Samples.length - p.2.toNat) (fun r => r.out.length ≤ k2.out.length + 88 * s.Samples.length) (by
    rintro ⟨out, i⟩ ⟨j, hi, hj, ho⟩
    simp only at hi ho
    subst hi
    simp only [t2_mk, ref0_Ink_Series_L1]
    rcases Nat.lt_or_ge j s.Samples.length with h | h
    · obtain ⟨x, hx⟩ := get_ex h
      obtain ⟨k3, e1, e2⟩ := Sample_t ⟨out⟩ x (by simp only; omega)
      left
      have e : IntKind.i64.wrap ((j : Int) + 1) = (j : Int) + 1 := i64_id (by omega) (by omega)
      refine ⟨(k3.out, (j : Int) + 1), by simp [lt_of hx, idx_of hx, e1, e], ⟨j + 1, by push_cast; rfl, h, by simp only at e2 ⊢; omega⟩, by simp only; omega⟩
    · have : j = s.Samples.length := by omega
      subst this
      exact .inr ⟨⟨out⟩, by simp, by simpa using ho⟩) (k2.out, 0) ⟨0, rfl, Nat.zero_le _, by simp⟩
  exact ⟨r, h5, by omega⟩
/-- What is told of a series is told. -/
theorem told_t (s : api_Series) (e : Int) (hl : s.Samples.length ≤ 1048576) : ∃ t, law5_told s e = some t := by
  obtain ⟨k1, h1, h2⟩ := Series_t ⟨[]⟩ s (by simp) hl
  obtain ⟨k2, h3, h4⟩ := Int_t k1 e (by omega)
  exact ⟨ofBytes k2.out, by unfold law5_told ref0_Ink_Errno ref0_Ink_Told; simp [h1, h3]⟩
theorem ints_t (l : List Int) (e : Int) (hl : l.length ≤ 1048576) : ∃ t, law5_ints l e = some t := by
  obtain ⟨k1, h1, h2⟩ := Ints_t ⟨[]⟩ l (by simp; omega) (by omega)
  obtain ⟨k2, h3, h4⟩ := Int_t k1 e (by simp at h2; omega)
  exact ⟨ofBytes k2.out, by unfold law5_ints ref0_Ink_Errno ref0_Ink_Told; simp [h1, h3]⟩
end Go.Vx
