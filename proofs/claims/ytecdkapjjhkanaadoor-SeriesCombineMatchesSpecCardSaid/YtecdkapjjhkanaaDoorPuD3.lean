/- A text of the proof: a verified executor of the program form, or the contracts of the functions that the law reaches. -/
import Derived.Test.YtecdkapjjhkanaaDoorPuD2
set_option linter.all false
namespace Go.Vx
open Go Go.RowKit
def bad (e : Int) : api_Series × Int := (⟨0, []⟩, e)
def outJoin (a b : api_Series) : api_Series × Int :=
  if (chk a).2 ≠ 0 then bad (chk a).2 else if (chk b).2 ≠ 0 then bad (chk b).2 else if a.Den ≠ b.Den then bad 2 else if 20000 < (jn a.Samples b.Samples).length then bad 3 else (⟨a.Den, jn a.Samples b.Samples⟩, 0)
/-- Two series are checked, one behind the other. -/
theorem two_checks {ρ : Type} (a b : api_Series) (f : Int → ρ) : ∀ (body : Int → Option (Int ⊕ ρ ⊕ Unit)),
    (∀ i, body i = if (decide (i < (([a, b] : List api_Series).length : Int))) = true then
      (idx ([a, b] : List api_Series) i).bind fun x => (series_Check x).bind fun y =>
      if (!decide (y = 0)) = true then some (.inr (.inl (f y))) else some (.inl (i64 (i + 1))) else some (.inr (.inr ()))) →
    loop (t1 body) 0 = some (if (chk a).2 ≠ 0 then .inl (f (chk a).2) else if (chk b).2 ≠ 0 then .inl (f (chk b).2) else .inr ()) := by
  intro body hb
  have hF : ∃ F : Nat → ρ ⊕ Unit, F = fun k => if k = 0 then (if (chk a).2 ≠ 0 then Sum.inl (f (chk a).2) else if (chk b).2 ≠ 0 then Sum.inl (f (chk b).2) else Sum.inr ()) else if k = 1 then (if (chk b).2 ≠ 0 then Sum.inl (f (chk b).2) else Sum.inr ()) else Sum.inr () := ⟨_, rfl⟩
  obtain ⟨F, hF⟩ := hF
  refine (loop_ix1 (xs := [a, b]) F ?_ ?_).trans (by rw [hF]; simp)
  · intro k x hx
    match k, hx with
    | 0, hx =>
      simp only [List.getElem?_cons_zero, Option.some.injEq] at hx
      subst hx
      have e : i64 1 = 1 := by decide
      by_cases h : (chk a).2 = 0
      · left
        rw [hb, hF]
        simp [idx, Check_s, h, e]
      · right
        rw [hb, hF]
        simp [idx, Check_s, h]
    | 1, hx =>
      simp only [List.getElem?_cons_succ, List.getElem?_cons_zero, Option.some.injEq] at hx
      subst hx
      have e : i64 2 = 2 := by decide
      by_cases h : (chk b).2 = 0
      · left
        rw [hb, hF]
        simp [idx, Check_s, h, e]
      · right
        rw [hb, hF]
        simp [idx, Check_s, h]
    | k + 2, hx => simp at hx
  · rw [hb, hF]; simp
theorem Join_s (a b : api_Series) : series_Join a b = some (outJoin a b) := by
  unfold series_Join
  rw [two_checks a b (fun y => (api_Series.mk 0 [], y)) (series_Join_L1 a b) (fun i => rfl)]
  unfold outJoin bad
  by_cases h0 : (chk a).2 = 0
  · by_cases h1 : (chk b).2 = 0
    · by_cases h2 : a.Den = b.Den
      · have ha := (ser_ok h0).len
        have hbl := (ser_ok h1).len
        simp only [h0, h1, h2, join_loop a.Samples b.Samples (by omega)]
        by_cases h3 : 20000 < (jn a.Samples b.Samples).length
        · have : (20000 : Int) < ((jn a.Samples b.Samples).length : Int) := by omega
          simp [h3, this]
        · have : ¬ (20000 : Int) < ((jn a.Samples b.Samples).length : Int) := by omega
          simp [h3, this]
      · simp [h0, h1, h2]
    · simp [h0, h1]
  · simp [h0]
theorem pairFault_s (a b : api_Series) : ref5_pairFault a b = some (if (chk a).2 ≠ 0 then (chk a).2 else if (chk b).2 ≠ 0 then (chk b).2 else if a.Den ≠ b.Den then 2 else 0) := by
  unfold ref5_pairFault
  simp only [rCheck_s, Option.bind_some]
  by_cases h0 : (chk a).2 = 0
  · by_cases h1 : (chk b).2 = 0
    · by_cases h2 : a.Den = b.Den <;> simp [h0, h1, h2]
    · simp [h0, h1]
  · simp [h0]
theorem rJoin_s (a b : api_Series) : ref5_Join a b = some (outJoin a b) := by
  unfold ref5_Join
  rw [pairFault_s]
  unfold outJoin bad
  by_cases h0 : (chk a).2 = 0
  · by_cases h1 : (chk b).2 = 0
    · by_cases h2 : a.Den = b.Den
      · have ha := (ser_ok h0).len
        have hbl := (ser_ok h1).len
        have := rjoin_loop a b (by omega)
        simp only [h0, h1, h2, this]
        by_cases h3 : 20000 < (jn a.Samples b.Samples).length
        · have : (20000 : Int) < ((jn a.Samples b.Samples).length : Int) := by omega
          simp [h3, this]
        · have : ¬ (20000 : Int) < ((jn a.Samples b.Samples).length : Int) := by omega
          simp [h3, this]
      · simp [h0, h1, h2]
    · simp [h0, h1]
  · simp [h0]
theorem outJoin_len (a b : api_Series) : (outJoin a b).1.Samples.length ≤ 1048576 := by
  unfold outJoin bad
  split
  · simp
  · split
    · simp
    · split
      · simp
      · split
        · simp
        · simp only; omega
theorem law_Join (a b : api_Series) : law5_SeriesJoinMatchesSpec a b = some true := by
  simp only [law5_SeriesJoinMatchesSpec, Join_s, rJoin_s, Option.bind_some]
  obtain ⟨t, ht⟩ := told_t (outJoin a b).1 (outJoin a b).2 (outJoin_len a b)
  simp only [ht, Option.bind_some, decide_true, Bool.not_true, Bool.false_eq_true, if_false, holds_s]
  by_cases he : (outJoin a b).2 = 0
  · have hs : outJoin b a = outJoin a b := by
      unfold outJoin at he ⊢
      by_cases h0 : (chk a).2 = 0
      · by_cases h1 : (chk b).2 = 0
        · by_cases h2 : a.Den = b.Den
          · have h2' : b.Den = a.Den := h2.symm
            simp only [h0, h1, h2, jn_comm _ b.Samples a.Samples (Nat.le_refl _)]
          · simp [h0, h1, h2, bad] at he
        · simp [h0, h1, bad] at he
      · simp [h0, bad] at he
    obtain ⟨t2, ht2⟩ := told_t (outJoin a b).1 0 (outJoin_len a b)
    rw [he] at ht
    simp [he, hs, ht]
  · simp [he]
end Go.Vx
