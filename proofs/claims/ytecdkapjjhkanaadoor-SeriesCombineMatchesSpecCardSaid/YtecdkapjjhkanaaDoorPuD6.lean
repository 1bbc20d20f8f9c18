/- A text of the proof: a verified executor of the program form, or the contracts of the functions that the law reaches. -/
import Derived.Test.YtecdkapjjhkanaaDoorPuD5
set_option linter.all false
namespace Go.Vx
open Go Go.RowKit
/-! ## Combine -/
def mapO {α β : Type} (g : α → Option β) : List α → Option (List β)
  | [] => some []
  | x :: tl => (g x).bind fun y => (mapO g tl).map fun l => y :: l
theorem mapO_len {α β : Type} {g : α → Option β} : ∀ {xs : List α} {l : List β}, mapO g xs = some l → l.length = xs.length
  | [], l, h => by cases h; rfl
  | x :: tl, l, h => by
    simp only [mapO, Option.bind_eq_some_iff, Option.map_eq_some_iff] at h
    obtain ⟨y, _, l', h2, rfl⟩ := h
    simp [mapO_len h2]
theorem loop_mapE {α β ε : Type} {xs : List α} {body : List β → Int → Option ((List β × Int) ⊕ ε ⊕ (List β))} (g : α → Option β) (e : ε)
    (hstep : ∀ (k : Nat) x acc, xs[k]? = some x → acc.length = k → body acc k = elimO (fun y => some (.inl (acc ++ [y], (k : Int) + 1))) (some (.inr (.inl e))) (g x))
    (hend : ∀ acc, body acc xs.length = some (.inr (.inr acc))) : loop (t2 body) ([], 0) = some (elimO (fun l => .inr l) (.inl e) (mapO g xs)) := by
  refine (loop_to (body := t2 body) (fun p => ∃ k : Nat, p.2 = k ∧ k ≤ xs.length ∧ p.1.length = k) (fun p => xs.length - p.2.toNat) (fun p => elimO (fun l => Sum.inr (p.1 ++ l)) (Sum.inl e) (mapO g (xs.drop p.2.toNat))) ?_ ([], 0) ⟨0, rfl, Nat.zero_le _, rfl⟩).trans (by simp)
  rintro ⟨acc, i⟩ ⟨k, hi, hk, ha⟩
  simp only at hi ha
  subst hi
  simp only [t2_mk, Int.toNat_natCast]
  rcases Nat.lt_or_ge k xs.length with h | h
  · obtain ⟨x, hx⟩ := get_ex h
    rw [hstep k x acc hx ha, drop_cons hx]
    simp only [mapO]
    cases hg : g x with
    | none => right; rfl
    | some y =>
      left
      refine ⟨_, rfl, ⟨k + 1, by push_cast; rfl, h, by simp [ha]⟩, by simp only; omega, ?_⟩
      simp only [Option.bind_some]
      have : ((k : Int) + 1).toNat = k + 1 := by omega
      rw [this]
      cases mapO g (List.drop (k + 1) xs) <;> simp
  · have : k = xs.length := by omega
    subst this
    right
    rw [hend]; simp [mapO]
def comb (op a b : Int) : Int := if op = 1 then i64 (a + b) else if op = 2 then i64 (a - b) else if op = 3 then min a b else if op = 4 then max a b else max (i64 (a - b)) (i64 (-(i64 (a - b))))
theorem combined_s (op a b : Int) : series_combined op a b = some (comb op a b) := by
  unfold series_combined comb series_size
  by_cases h1 : op = 1 <;> by_cases h2 : op = 2 <;> by_cases h3 : op = 3 <;> by_cases h4 : op = 4 <;> simp [h1, h2, h3, h4]
def inN (a : Int) : Prop := -1125899906842624 ≤ a ∧ a ≤ 1125899906842624
theorem rcombined_s (op : Int) {a b : Int} (ha : inN a) (hb : inN b) : ref5_combined op a b = some (comb op a b) := by
  unfold ref5_combined comb ref5_apart
  obtain ⟨a1, a2⟩ := ha
  obtain ⟨b1, b2⟩ := hb
  have e1 : i64 (a - b) = a - b := i64_id (by omega) (by omega)
  have e2 : i64 (b - a) = b - a := i64_id (by omega) (by omega)
  have e3 : i64 (-(a - b)) = b - a := by rw [show -(a - b) = b - a by omega]; exact e2
  by_cases h1 : op = 1 <;> by_cases h2 : op = 2 <;> by_cases h3 : op = 3 <;> by_cases h4 : op = 4 <;> simp [h1, h2, h3, h4, e1, e2, e3]
theorem held_mem {xs : List Smp} {t long : Int} {x : Smp} (h : heldAt xs t long = some x) : ∃ k : Nat, xs[k]? = some x := by
  simp only [heldAt, Option.bind_eq_some_iff] at h
  obtain ⟨y, h1, h2⟩ := h
  split at h2
  · cases h2
    unfold lastLe at h1
    split at h1
    · cases h1
    · exact ⟨_, h1⟩
  · cases h2
def combG (b : api_Series) (op long : Int) (x : Smp) : Option Smp :=
  if wi (if (decide (3 ≤ x.Mark) && (outH (heldAt b.Samples x.At long)).2) = true then (⟨x.At, comb op x.N (outH (heldAt b.Samples x.At long)).1.N, min x.Mark (outH (heldAt b.Samples x.At long)).1.Mark⟩ : Smp) else ⟨x.At, 0, 0⟩).N (-1125899906842624) 1125899906842624 then
  some (if (decide (3 ≤ x.Mark) && (outH (heldAt b.Samples x.At long)).2) = true then ⟨x.At, comb op x.N (outH (heldAt b.Samples x.At long)).1.N, min x.Mark (outH (heldAt b.Samples x.At long)).1.Mark⟩ else ⟨x.At, 0, 0⟩) else none
theorem comb_loop {a b : api_Series} (ha : SerOK a) (hb : SerOK b) (op long : Int) : loop (t2 (series_Combine_L2 a b op long)) ([], 0) = some (elimO (fun l => .inr l) (.inl (bad 9)) (mapO (combG b op long) a.Samples)) := by
  have hl := ha.len
  refine loop_mapE (xs := a.Samples) (body := series_Combine_L2 a b op long) (combG b op long) (bad 9) (fun k x acc hx hac => ?_) (fun acc => by simp [series_Combine_L2])
  have hlt := lt_of hx
  have e1 : i64 ((k : Int) + 1) = (k : Int) + 1 := i64_id (by omega) (by omega)
  have ea : ∀ z : Smp, app acc [z] = some (acc ++ [z]) := fun z => app_of (by simp; omega)
  have hat := (ha.at' k x hx).1
  simp only [series_Combine_L2, hlt, decide_true, if_true, idx_of hx, Option.bind_some, e1, hold_s hb x.At long hat, series_solid, combined_s, within_s]
  unfold combG
  cases hc : (decide (3 ≤ x.Mark) && (outH (heldAt b.Samples x.At long)).2) with
  | true =>
    cases hw : wi (comb op x.N (outH (heldAt b.Samples x.At long)).1.N) (-1125899906842624) 1125899906842624 <;> simp [hw, ea, bad]
  | false =>
    have hw : wi 0 (-1125899906842624) 1125899906842624 = true := by decide
    simp [hw, ea]
theorem rcomb_loop {a b : api_Series} (ha : SerOK a) (hb : SerOK b) (op long : Int) : loop (t2 (ref5_Combine_L1 a b op long)) ([], 0) = some (elimO (fun l => .inr l) (.inl (bad 9)) (mapO (combG b op long) a.Samples)) := by
  have hl := ha.len
  refine loop_mapE (xs := a.Samples) (body := ref5_Combine_L1 a b op long) (combG b op long) (bad 9) (fun k x acc hx hac => ?_) (fun acc => by simp [ref5_Combine_L1])
  have hlt := lt_of hx
  have e1 : i64 ((k : Int) + 1) = (k : Int) + 1 := i64_id (by omega) (by omega)
  have ea : ∀ z : Smp, app acc [z] = some (acc ++ [z]) := fun z => app_of (by simp; omega)
  have hat := (ha.at' k x hx).1
  have hN := (ha.at' k x hx).2.1
  simp only [ref5_Combine_L1, hlt, decide_true, if_true, idx_of hx, Option.bind_some, e1, rHeld_s hb x.At long hat, ref5_solid, outside_s]
  unfold combG
  cases hc : (decide (3 ≤ x.Mark) && (outH (heldAt b.Samples x.At long)).2) with
  | true =>
    have hy : inN (outH (heldAt b.Samples x.At long)).1.N := by
      cases hh : heldAt b.Samples x.At long with
      | none => rw [hh] at hc; simp [outH] at hc
      | some y =>
        obtain ⟨j, hj⟩ := held_mem hh
        exact (hb.at' j y hj).2.1
    simp only [if_true, rcombined_s op hN hy, Option.bind_some]
    cases hw : wi (comb op x.N (outH (heldAt b.Samples x.At long)).1.N) (-1125899906842624) 1125899906842624 <;> simp [hw, ea, bad]
  | false =>
    have hw : wi 0 (-1125899906842624) 1125899906842624 = true := by decide
    simp [hw, ea]
def outComb (a b : api_Series) (op long : Int) : api_Series × Int :=
  if (chk a).2 ≠ 0 then bad (chk a).2 else if (chk b).2 ≠ 0 then bad (chk b).2 else if a.Den ≠ b.Den then bad 2 else if wi op 1 5 = false then bad 7 else if wi long 0 1099511627776 = false then bad 9 else
  elimO (fun l => (⟨a.Den, l⟩, 0)) (bad 9) (mapO (combG b op long) a.Samples)
theorem Combine_s (a b : api_Series) (op long : Int) : series_Combine a b op long = some (outComb a b op long) := by
  unfold series_Combine
  rw [two_checks a b (fun y => (api_Series.mk 0 [], y)) (series_Combine_L1 a b) (fun i => rfl)]
  unfold outComb
  by_cases h0 : (chk a).2 = 0
  · by_cases h1 : (chk b).2 = 0
    · by_cases h2 : a.Den = b.Den
      · cases h3 : wi op 1 5 with
        | false => simp [h0, h1, h2, h3, within_s, bad]
        | true =>
          cases h4 : wi long 0 1099511627776 with
          | false => simp [h0, h1, h2, h3, h4, within_s, bad]
          | true =>
            have := comb_loop (ser_ok h0) (ser_ok h1) op long
            simp only [h0, h1, h2, h3, h4, within_s, this]
            cases mapO (combG b op long) a.Samples <;> simp [bad]
      · simp [h0, h1, h2, bad]
    · simp [h0, h1, bad]
  · simp [h0, bad]
theorem rCombine_s (a b : api_Series) (op long : Int) : ref5_Combine a b op long = some (outComb a b op long) := by
  unfold ref5_Combine
  rw [pairFault_s]
  unfold outComb
  by_cases h0 : (chk a).2 = 0
  · by_cases h1 : (chk b).2 = 0
    · by_cases h2 : a.Den = b.Den
      · cases h3 : wi op 1 5 with
        | false => simp [h0, h1, h2, h3, outside_s, bad]
        | true =>
          cases h4 : wi long 0 1099511627776 with
          | false => simp [h0, h1, h2, h3, h4, outside_s, bad]
          | true =>
            have := rcomb_loop (ser_ok h0) (ser_ok h1) op long
            simp only [h0, h1, h2, h3, h4, outside_s, this]
            cases mapO (combG b op long) a.Samples <;> simp [bad]
      · simp [h0, h1, h2, bad]
    · simp [h0, h1, bad]
  · simp [h0, bad]
theorem outComb_len (a b : api_Series) (op long : Int) : (outComb a b op long).1.Samples.length ≤ 1048576 := by
  unfold outComb
  by_cases h0 : (chk a).2 = 0
  · by_cases h1 : (chk b).2 = 0
    · by_cases h2 : a.Den = b.Den
      · cases h3 : wi op 1 5 with
        | false => simp [h0, h1, h2, bad]
        | true =>
          cases h4 : wi long 0 1099511627776 with
          | false => simp [h0, h1, h2, bad]
          | true =>
            have hl := (ser_ok h0).len
            cases hm : mapO (combG b op long) a.Samples with
            | none => simp [h0, h1, h2, bad]
            | some l => have := mapO_len hm; simp [h0, h1, h2]; omega
      · simp [h0, h1, h2, bad]
    · simp [h0, h1, bad]
  · simp [h0, bad]
end Go.Vx
