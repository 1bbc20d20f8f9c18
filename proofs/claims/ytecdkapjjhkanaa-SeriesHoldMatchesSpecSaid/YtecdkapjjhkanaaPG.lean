/- A text of the proof: a verified executor of the program form, or the contracts of the functions that the law reaches. -/
import Derived.Test.YtecdkapjjhkanaaPF
set_option linter.all false
namespace Go.Vx
open Go Go.RowKit
/-! ## Marks, Part, Range -/
theorem marks_t {s : api_Series} (hs : SerOK s) : ∃ r, loop (t2 (series_Marks_L1 s)) ((Vector.replicate 5 0), 0) = some r := by
  have hl := hs.len
  obtain ⟨r, h, _⟩ := loop_inv (body := t2 (series_Marks_L1 s)) (fun p => ∃ k : Nat, p.2 = k ∧ k ≤ s.Samples.length) (fun p => s.Samples.length - p.2.toNat) (fun _ => True) (by
    rintro ⟨out, i⟩ ⟨k, hi, hk⟩
    simp only at hi
    subst hi
    simp only [t2_mk, series_Marks_L1]
    rcases Nat.lt_or_ge k s.Samples.length with h | h
    · obtain ⟨x, hx⟩ := get_ex h
      have hm := (hs.at' k x hx).2.2.1
      have hv : ∃ z, vidx out x.Mark = some z := by
        unfold vidx
        rw [if_pos hm.1]
        obtain ⟨z, hz⟩ := get_ex (xs := out.toList) (k := x.Mark.toNat) (by simp; omega)
        exact ⟨z, hz⟩
      obtain ⟨z, hz⟩ := hv
      have e1 : i64 ((k : Int) + 1) = (k : Int) + 1 := i64_id (by omega) (by omega)
      left
      exact ⟨(vset out x.Mark (i64 (z + 1)), (k : Int) + 1), by simp only [lt_of hx, decide_true, if_true, idx_of hx, Option.bind_some, hz, e1], ⟨k + 1, by push_cast; rfl, h⟩, by simp only; omega⟩
    · have : k = s.Samples.length := by omega
      subst this
      exact .inr ⟨out, by simp, trivial⟩) ((Vector.replicate 5 0), 0) ⟨0, rfl, Nat.zero_le _⟩
  exact ⟨r, h⟩
theorem Marks_t (s : api_Series) : ∃ r, series_Marks s = some r ∧ ref5_Marks s = some r := by
  unfold series_Marks ref5_Marks
  have e : ref5_Marks_L1 s = series_Marks_L1 s := rfl
  simp only [Check_s, rCheck_s, Option.bind_some, e]
  by_cases h0 : (chk s).2 = 0
  · obtain ⟨r, h⟩ := marks_t (ser_ok h0)
    exact ⟨(r, 0), by simp [h0, h], by simp [h0, h]⟩
  · exact ⟨(Vector.replicate 5 0, (chk s).2), by simp [h0], by simp [h0]⟩
theorem loop_filtS {α : Type} {xs : List α} {body : List α → Int → Option ((List α × Int) ⊕ (List α))} (p : α → Bool)
    (hstep : ∀ (k : Nat) x acc, xs[k]? = some x → acc.length ≤ k → body acc k = some (.inl (if p x then acc ++ [x] else acc, (k : Int) + 1)))
    (hend : ∀ acc, body acc xs.length = some (.inr acc)) : loop (t2 body) ([], 0) = some (xs.filter p) := by
  refine (loop_to (body := t2 body) (fun q => ∃ k : Nat, q.2 = k ∧ k ≤ xs.length ∧ q.1.length ≤ k) (fun q => xs.length - q.2.toNat) (fun q => q.1 ++ (xs.drop q.2.toNat).filter p) ?_ ([], 0) ⟨0, rfl, Nat.zero_le _, Nat.le_refl _⟩).trans (by simp)
  rintro ⟨acc, i⟩ ⟨k, hi, hk, ha⟩
  simp only at hi ha
  subst hi
  simp only [t2_mk, Int.toNat_natCast]
  rcases Nat.lt_or_ge k xs.length with h | h
  · obtain ⟨x, hx⟩ := get_ex h
    left
    refine ⟨_, hstep k x acc hx ha, ⟨k + 1, by push_cast; rfl, h, by simp only; cases p x <;> simp <;> omega⟩, by simp only; omega, ?_⟩
    have : ((k : Int) + 1).toNat = k + 1 := by omega
    simp only [this]
    rw [drop_cons hx]
    cases hp : p x <;> simp [hp]
  · have : k = xs.length := by omega
    subst this
    right
    rw [hend]; simp
def inP (from_ to : Int) (x : Smp) : Bool := decide (from_ ≤ x.At) && decide (x.At < to)
def outPart (s : api_Series) (from_ to : Int) : api_Series × Int :=
  if (chk s).2 ≠ 0 then bad (chk s).2 else if ((decide (from_ < 0) || decide (to < from_)) || decide (1099511627777 < to)) = true then bad 9 else (⟨s.Den, s.Samples.filter (inP from_ to)⟩, 0)
theorem part_loop {s : api_Series} (hs : SerOK s) {from_ to : Int} (h0 : 0 ≤ to) (h1 : to ≤ 1099511627777) : loop (t2 (series_Part_L1 s from_ to)) ([], 0) = some (s.Samples.filter (inP from_ to)) := by
  have hl := hs.len
  refine loop_filtS (xs := s.Samples) (body := series_Part_L1 s from_ to) (inP from_ to) (fun k x acc hx ha => ?_) (fun acc => by simp [series_Part_L1])
  have hlt := lt_of hx
  have e1 : i64 ((k : Int) + 1) = (k : Int) + 1 := i64_id (by omega) (by omega)
  have e2 : i64 (to - 1) = to - 1 := i64_id (by omega) (by omega)
  have ew : wi x.At from_ (to - 1) = inP from_ to x := by
    unfold wi inP
    congr 1
    rw [Bool.eq_iff_iff]; simp only [decide_eq_true_iff]; omega
  simp only [series_Part_L1, lt_of hx, decide_true, if_true, idx_of hx, Option.bind_some, e1, e2, within_s, ew]
  rw [app_of (by simp; omega)]
  cases inP from_ to x <;> simp
theorem rpart_loop {s : api_Series} (hs : SerOK s) {from_ to : Int} : loop (t2 (ref5_Part_L1 s from_ to)) ([], 0) = some (s.Samples.filter (inP from_ to)) := by
  have hl := hs.len
  refine loop_filtS (xs := s.Samples) (body := ref5_Part_L1 s from_ to) (inP from_ to) (fun k x acc hx ha => ?_) (fun acc => by simp [ref5_Part_L1])
  have hlt := lt_of hx
  have e1 : i64 ((k : Int) + 1) = (k : Int) + 1 := i64_id (by omega) (by omega)
  simp only [ref5_Part_L1, lt_of hx, decide_true, if_true, idx_of hx, Option.bind_some, e1]
  rw [app_of (by simp; omega)]
  unfold inP
  cases (decide (from_ ≤ x.At) && decide (x.At < to)) <;> simp
theorem Part_s (s : api_Series) (from_ to : Int) : series_Part s from_ to = some (outPart s from_ to) := by
  unfold series_Part outPart bad
  simp only [Check_s, Option.bind_some]
  by_cases h0 : (chk s).2 = 0
  · by_cases h1 : ((decide (from_ < 0) || decide (to < from_)) || decide (1099511627777 < to)) = true
    · simp only [h0, h1]; simp
    · have h2 : 0 ≤ to ∧ to ≤ 1099511627777 := by
        simp only [Bool.or_eq_true, decide_eq_true_iff, not_or] at h1; omega
      simp only [h0, h1, part_loop (ser_ok h0) h2.1 h2.2]; simp
  · simp [h0]
theorem rPart_s (s : api_Series) (from_ to : Int) : ref5_Part s from_ to = some (outPart s from_ to) := by
  unfold ref5_Part outPart bad
  simp only [rCheck_s, Option.bind_some]
  by_cases h0 : (chk s).2 = 0
  · by_cases h1 : ((decide (from_ < 0) || decide (to < from_)) || decide (1099511627777 < to)) = true
    · simp only [h0, h1]; simp
    · simp only [h0, h1, rpart_loop (ser_ok h0)]; simp
  · simp [h0]
theorem outPart_len (s : api_Series) (from_ to : Int) : (outPart s from_ to).1.Samples.length ≤ 1048576 := by
  unfold outPart bad
  by_cases h0 : (chk s).2 = 0
  · have hl := (ser_ok h0).len
    have := List.length_filter_le (inP from_ to) s.Samples
    by_cases h1 : ((decide (from_ < 0) || decide (to < from_)) || decide (1099511627777 < to)) = true
    · simp only [h0, h1]; simp
    · simp only [h0, h1]; simp; omega
  · simp [h0]
/-! ### Range -/
def nums (s : api_Series) : List Int := (filtI sol 0 s.Samples).map fun i => ((s.Samples[i.toNat]?).getD z0).N
theorem lst_mem {l : List Int} (hne : l ≠ []) : (∃ a, (l.mergeSort fun x y => decide (x ≤ y))[0]? = some a ∧ a ∈ l ∧ ∀ x ∈ l, a ≤ x) ∧ (∃ b, (l.mergeSort fun x y => decide (x ≤ y))[l.length - 1]? = some b ∧ b ∈ l ∧ ∀ x ∈ l, x ≤ b) := by
  have hp := List.mergeSort_perm l (fun x y => decide (x ≤ y))
  have hs := List.pairwise_mergeSort (le := fun x y => decide ((x : Int) ≤ y)) (fun a b c h1 h2 => by simp only [decide_eq_true_iff] at *; omega) (fun a b => by simp only [Bool.or_eq_true, decide_eq_true_iff]; omega) l
  have hlen := hp.length_eq
  have hpos : 0 < l.length := List.length_pos_iff.2 hne
  generalize l.mergeSort (fun x y => decide (x ≤ y)) = m at hp hs hlen
  constructor
  · obtain ⟨a, ha⟩ := get_ex (xs := m) (k := 0) (by omega)
    refine ⟨a, ha, hp.mem_iff.1 (List.mem_of_getElem? ha), fun x hx => ?_⟩
    obtain ⟨j, hj⟩ := List.getElem?_of_mem (hp.mem_iff.2 hx)
    rcases Nat.eq_zero_or_pos j with rfl | h
    · rw [ha] at hj; cases hj; exact Int.le_refl _
    · have := List.pairwise_iff_getElem.1 hs 0 j (by omega) (List.getElem?_eq_some_iff.1 hj).1 h
      rw [(List.getElem?_eq_some_iff.1 ha).2, (List.getElem?_eq_some_iff.1 hj).2] at this
      simpa using this
  · obtain ⟨b, hb⟩ := get_ex (xs := m) (k := l.length - 1) (by omega)
    refine ⟨b, hb, hp.mem_iff.1 (List.mem_of_getElem? hb), fun x hx => ?_⟩
    obtain ⟨j, hj⟩ := List.getElem?_of_mem (hp.mem_iff.2 hx)
    have hjl := (List.getElem?_eq_some_iff.1 hj).1
    rcases Nat.lt_or_ge j (l.length - 1) with h | h
    · have := List.pairwise_iff_getElem.1 hs j (l.length - 1) hjl (by omega) h
      rw [(List.getElem?_eq_some_iff.1 hb).2, (List.getElem?_eq_some_iff.1 hj).2] at this
      simpa using this
    · have : j = l.length - 1 := by omega
      subst this
      rw [hb] at hj; cases hj; exact Int.le_refl _
end Go.Vx

namespace Go.Vx
open Go Go.RowKit
theorem nums_get {s : api_Series} {k : Nat} {i : Int} (h : (filtI sol 0 s.Samples)[k]? = some i) : ∃ x, idx s.Samples i = some x ∧ (nums s)[k]? = some x.N := by
  obtain ⟨m, rfl, x, hx, _⟩ := filtI_get _ _ _ _ _ h
  refine ⟨x, by rw [Nat.zero_add]; exact idx_of hx, ?_⟩
  unfold nums
  rw [List.getElem?_map, h]
  simp [hx]
theorem nums_len (s : api_Series) : (nums s).length = (filtI sol 0 s.Samples).length := by simp [nums]
theorem range_loop {s : api_Series} (hs : SerOK s) : loop (t2 (series_Range_L1 s (filtI sol 0 s.Samples))) ([], 0) = some (nums s) := by
  have hl := hs.len
  have hfl := filtI_len sol 0 s.Samples
  refine loop_map (xs := filtI sol 0 s.Samples) (body := series_Range_L1 s (filtI sol 0 s.Samples)) (fun i => ((s.Samples[i.toNat]?).getD z0).N) (fun k i acc hi ha => ?_) (fun acc => by simp [series_Range_L1])
  have hlt := lt_of hi
  have e1 : i64 ((k : Int) + 1) = (k : Int) + 1 := i64_id (by omega) (by omega)
  obtain ⟨m, rfl, x, hx, _⟩ := filtI_get _ _ _ _ _ hi
  have hidx : idx s.Samples ((0 + m : Nat) : Int) = some x := by rw [Nat.zero_add]; exact idx_of hx
  simp only [series_Range_L1, hlt, decide_true, if_true, idx_of hi, Option.bind_some, hidx, e1]
  rw [app_of (by simp; omega)]
  simp [hx]
theorem rrange_loop {s : api_Series} (hs : SerOK s) (z : Int) (hz : z ∈ nums s) : ∃ a b, loop (t3 (ref5_Range_L1 s (filtI sol 0 s.Samples))) (z, z, 0) = some (a, b) ∧ (a ∈ nums s ∧ ∀ x ∈ nums s, a ≤ x) ∧ (b ∈ nums s ∧ ∀ x ∈ nums s, x ≤ b) := by
  have hl := hs.len
  have hfl := filtI_len sol 0 s.Samples
  obtain ⟨r, h1, h2⟩ := loop_inv (body := t3 (ref5_Range_L1 s (filtI sol 0 s.Samples)))
    (fun p => ∃ k : Nat, p.2.2 = k ∧ k ≤ (filtI sol 0 s.Samples).length ∧ p.1 ∈ nums s ∧ p.2.1 ∈ nums s ∧ ∀ (j : Nat) y, j < k → (nums s)[j]? = some y → p.1 ≤ y ∧ y ≤ p.2.1)
    (fun p => (filtI sol 0 s.Samples).length - p.2.2.toNat) (fun r => (r.1 ∈ nums s ∧ ∀ x ∈ nums s, r.1 ≤ x) ∧ (r.2 ∈ nums s ∧ ∀ x ∈ nums s, x ≤ r.2)) (by
    rintro ⟨a, b, i⟩ ⟨k, hi, hk, ha, hb, hall⟩
    simp only at hi ha hb hall
    subst hi
    simp only [t3_mk, ref5_Range_L1]
    rcases Nat.lt_or_ge k (filtI sol 0 s.Samples).length with h | h
    · obtain ⟨i, hi⟩ := get_ex h
      obtain ⟨x, hx, hn⟩ := nums_get hi
      have hlt := lt_of hi
      have e1 : i64 ((k : Int) + 1) = (k : Int) + 1 := i64_id (by omega) (by omega)
      have hxm := List.mem_of_getElem? hn
      left
      refine ⟨(min a x.N, max b x.N, (k : Int) + 1), by simp only [hlt, decide_true, if_true, idx_of hi, Option.bind_some, hx, e1], ⟨k + 1, by push_cast; rfl, h, ?_, ?_, fun j y hj hy => ?_⟩, by simp only; omega⟩
      · simp only; rcases Int.le_total a x.N with h5 | h5
        · rw [Int.min_eq_left h5]; exact ha
        · rw [Int.min_eq_right h5]; exact hxm
      · simp only; rcases Int.le_total b x.N with h5 | h5
        · rw [Int.max_eq_right h5]; exact hxm
        · rw [Int.max_eq_left h5]; exact hb
      · simp only
        rcases Nat.lt_or_ge j k with h5 | h5
        · have := hall j y h5 hy; omega
        · have : j = k := by omega
          subst this
          rw [hn] at hy; cases hy
          omega
    · have : k = (filtI sol 0 s.Samples).length := by omega
      subst this
      right
      refine ⟨(a, b), by simp, ⟨ha, fun x hx => ?_⟩, hb, fun x hx => ?_⟩ <;>
      · obtain ⟨j, hj⟩ := List.getElem?_of_mem hx
        have hjl := (List.getElem?_eq_some_iff.1 hj).1
        rw [nums_len] at hjl
        have := hall j x hjl hj
        omega) (z, z, 0) ⟨0, rfl, Nat.zero_le _, hz, hz, fun j y hj => absurd hj (by omega)⟩
  exact ⟨r.1, r.2, h1, h2⟩
theorem sorted_s {l : List Int} (hne : l ≠ []) (hl : l.length ≤ 4294967296) : series_sorted_int l = some (l.mergeSort fun x y => decide (x ≤ y)) := by
  unfold series_sorted_int clone
  rw [app_of (by simp; omega)]
  simp only [List.nil_append, Option.bind_some, sortI]
  rw [if_pos ⟨hne, by omega⟩]; rfl
theorem Range_t (s : api_Series) : ∃ r, series_Range s = some r ∧ ref5_Range s = some r := by
  unfold series_Range ref5_Range
  simp only [Check_s, rCheck_s, Option.bind_some]
  by_cases h0 : (chk s).2 = 0
  · have hs := ser_ok h0
    have hl := hs.len
    have hfl := filtI_len sol 0 s.Samples
    have hnl := nums_len s
    simp only [h0, solids_s hs, rsolids_s hs, range_loop hs, Option.bind_some, decide_true, Bool.not_true, Bool.false_eq_true, if_false, t1_mk]
    by_cases hz : (filtI sol 0 s.Samples).length = 0
    · refine ⟨(0, 0, 13), ?_, ?_⟩
      · rw [if_pos (decide_eq_true (by omega))]
      · rw [if_pos (decide_eq_true (by omega))]
    · have hne : nums s ≠ [] := by intro e; rw [e] at hnl; simp at hnl; omega
      obtain ⟨i, hi⟩ := get_ex (xs := filtI sol 0 s.Samples) (k := 0) (by omega)
      obtain ⟨x, hx, hn⟩ := nums_get hi
      have hi0 : idx (filtI sol 0 s.Samples) 0 = some i := idx_of (k := 0) hi
      obtain ⟨⟨a, ha, ha1, ha2⟩, b, hb, hb1, hb2⟩ := lst_mem hne
      obtain ⟨c, d, hcd, ⟨hc1, hc2⟩, hd1, hd2⟩ := rrange_loop hs x.N (List.mem_of_getElem? hn)
      have hac : c = a := by have := ha2 c hc1; have := hc2 a ha1; omega
      have hbd : d = b := by have := hb2 d hd1; have := hd2 b hb1; omega
      refine ⟨(a, b, 0), ?_, ?_⟩
      · rw [if_neg (by rw [decide_eq_false (by omega)]; simp), sorted_s hne (by omega)]
        have e1 : i64 (((nums s).mergeSort fun x y => decide (x ≤ y)).length - 1 : Int) = (((nums s).length - 1 : Nat) : Int) := by
          show IntKind.i64.wrap _ = _
          rw [List.length_mergeSort, i64_id (by omega) (by omega)]; omega
        have g0 : idx ((nums s).mergeSort fun x y => decide (x ≤ y)) 0 = some a := idx_of (k := 0) ha
        simp only [Option.bind_some, g0, e1, idx_of hb]
      · rw [if_neg (by rw [decide_eq_false (by omega)]; simp)]
        simp only [hi0, hx, Option.bind_some, hcd, hac, hbd, t2_mk]
  · exact ⟨(0, 0, (chk s).2), by simp [h0], by simp [h0]⟩
theorem law_Check (s : api_Series) (from_ to : Int) : law5_SeriesCheckMatchesSpec s from_ to = some true := by
  obtain ⟨m, hm, hm'⟩ := Marks_t s
  obtain ⟨r, hr, hr'⟩ := Range_t s
  obtain ⟨t, ht⟩ := told_t (outPart s from_ to).1 (outPart s from_ to).2 (outPart_len s from_ to)
  simp [law5_SeriesCheckMatchesSpec, hm, hm', hr, hr', Check_s, rCheck_s, Part_s, rPart_s, ht, holds_s]
end Go.Vx
