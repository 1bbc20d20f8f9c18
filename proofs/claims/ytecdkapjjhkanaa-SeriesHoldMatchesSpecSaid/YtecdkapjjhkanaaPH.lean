/- A text of the proof: a verified executor of the program form, or the contracts of the functions that the law reaches. -/
import Derived.Test.YtecdkapjjhkanaaPG
set_option linter.all false
namespace Go.Vx
open Go Go.RowKit
/-! ## Sorting by insertion -/
theorem perm_swap {l : List Int} {i j : Nat} {x y : Int} (hi : l[i]? = some x) (hj : l[j]? = some y) : ((l.set i y).set j x).Perm l := by
  obtain ⟨h1, rfl⟩ := List.getElem?_eq_some_iff.1 hi
  obtain ⟨h2, rfl⟩ := List.getElem?_eq_some_iff.1 hj
  exact List.set_set_perm h1 h2
theorem sorted_uniq {l m : List Int} (hp : l.Perm m) (hl : l.Pairwise (· ≤ ·)) (hm : m.Pairwise (· ≤ ·)) : l = m :=
  hp.eq_of_pairwise (fun _ _ _ _ h1 h2 => Int.le_antisymm h1 h2) hl hm
theorem merge_sorted (l : List Int) : (l.mergeSort fun x y => decide (x ≤ y)).Pairwise (· ≤ ·) := by
  have := List.pairwise_mergeSort (le := fun x y => decide ((x : Int) ≤ y)) (fun a b c h1 h2 => by simp only [decide_eq_true_iff] at *; omega) (fun a b => by simp only [Bool.or_eq_true, decide_eq_true_iff]; omega) l
  exact this.imp (by simp)
/-- sorted up to i, but for the one at k -/
structure InsI (l : List Int) (i : Nat) (m : List Int) (k : Nat) : Prop where
  perm : m.Perm l
  ki : k ≤ i
  il : i < l.length
  low : ∀ (a b : Nat) x y, a < b → b ≤ i → a ≠ k → b ≠ k → m[a]? = some x → m[b]? = some y → x ≤ y
  up : ∀ (b : Nat) x y, k < b → b ≤ i → m[k]? = some x → m[b]? = some y → x ≤ y
def SortTo (l : List Int) (i : Nat) (m : List Int) : Prop := m.Perm l ∧ ∀ (a b : Nat) x y, a < b → b < i → m[a]? = some x → m[b]? = some y → x ≤ y
theorem ins_loop {l : List Int} {i : Nat} (hl : l.length < 4611686018427387904) : ∀ p : List Int × Int, (∃ k : Nat, p.2 = k ∧ InsI l i p.1 k) → ∃ r, loop (t2 ref5_Sorted_L2) p = some r ∧ SortTo l (i + 1) r := by
  refine loop_inv (body := t2 ref5_Sorted_L2) (fun p : List Int × Int => ∃ k : Nat, p.2 = k ∧ InsI l i p.1 k) (fun p => p.2.toNat) (fun r => SortTo l (i + 1) r) ?_
  rintro ⟨m, kk⟩ ⟨k, hk, H⟩
  simp only at hk H
  subst hk
  have hlen := H.perm.length_eq
  have hki := H.ki
  have hil := H.il
  simp only [t2_mk, ref5_Sorted_L2]
  rcases Nat.eq_zero_or_pos k with rfl | hpos
  · right
    refine ⟨m, by simp [gd], H.perm, fun a b x y hab hb hx hy => ?_⟩
    rcases Nat.eq_zero_or_pos a with rfl | ha
    · exact H.up b x y hab (by omega) hx hy
    · exact H.low a b x y hab (by omega) (by omega) (by omega) hx hy
  · obtain ⟨x, hx⟩ := get_ex (xs := m) (k := k) (by omega)
    obtain ⟨y, hy⟩ := get_ex (xs := m) (k := k - 1) (by omega)
    have e1 : i64 ((k : Int) - 1) = ((k - 1 : Nat) : Int) := by show IntKind.i64.wrap _ = _; rw [i64_id (by omega) (by omega)]; omega
    have hp : (0 : Int) < (k : Int) := by omega
    simp only [hp, decide_true, gd_tt, idx_of hx, e1, idx_of hy, Option.bind_some, Bool.true_and, decide_eq_true_iff]
    by_cases hc : x < y
    · left
      have hset : idx (m.set (k : Int).toNat y) ((k - 1 : Nat) : Int) = some y := by
        refine idx_of ?_
        rw [List.getElem?_set_ne (by simp; omega)]; exact hy
      rw [Int.toNat_natCast] at hset
      simp only [hc, if_true, hset, Option.bind_some, Int.toNat_natCast]
      have g : ∀ (j : Nat), ((m.set k y).set (k - 1) x)[j]? = if j = k - 1 then some x else if j = k then some y else m[j]? := by
        intro j
        rw [List.getElem?_set]
        by_cases h1 : k - 1 = j
        · subst h1; simp; omega
        · rw [if_neg h1, if_neg (by omega), List.getElem?_set]
          by_cases h2 : k = j
          · subst h2; simp; omega
          · rw [if_neg h2, if_neg (by omega)]
      refine ⟨((m.set k y).set (k - 1) x, ((k - 1 : Nat) : Int)), rfl, ⟨k - 1, rfl, (perm_swap hx hy).trans H.perm, by omega, hil, fun a b u v hab hb ha hbk hu hv => ?_, fun b u v hb1 hb hu hv => ?_⟩, by simp only; omega⟩
      · rw [g] at hu hv
        rw [if_neg ha] at hu
        rw [if_neg hbk] at hv
        by_cases h1 : a = k
        · subst h1
          rw [if_pos rfl] at hu; cases hu
          rw [if_neg (by omega)] at hv
          exact H.low (a - 1) b _ _ (by omega) hb (by omega) (by omega) hy hv
        · rw [if_neg h1] at hu
          by_cases h2 : b = k
          · subst h2
            rw [if_pos rfl] at hv; cases hv
            exact H.low a (b - 1) _ _ (by omega) (by omega) (by omega) (by omega) hu hy
          · rw [if_neg h2] at hv
            exact H.low a b _ _ hab hb h1 h2 hu hv
      · rw [g] at hu hv
        rw [if_pos rfl] at hu; cases hu
        rw [if_neg (by omega)] at hv
        by_cases h2 : b = k
        · subst h2
          rw [if_pos rfl] at hv; cases hv; omega
        · rw [if_neg h2] at hv
          exact H.up b _ _ (by omega) hb hx hv
    · right
      refine ⟨m, by simp [hc], H.perm, fun a b u v hab hb hu hv => ?_⟩
      by_cases h1 : a = k
      · subst h1; exact H.up b u v hab (by omega) hu hv
      · by_cases h2 : b = k
        · subst h2
          rw [hx] at hv; cases hv
          by_cases h3 : a = b - 1
          · subst h3; rw [hy] at hu; cases hu; omega
          · have := H.low a (b - 1) _ _ (by omega) (by omega) (by omega) (by omega) hu hy
            omega
        · exact H.low a b u v hab (by omega) h1 h2 hu hv
theorem Sorted_s {l : List Int} (hl : l.length ≤ 4294967296) : ref5_Sorted l = some (l.mergeSort fun x y => decide (x ≤ y)) := by
  obtain ⟨r, h1, h2⟩ := loop_inv (body := t2 ref5_Sorted_L1) (fun p : List Int × Int => ∃ k : Nat, p.2 = k ∧ 1 ≤ k ∧ SortTo l k p.1) (fun p => l.length - p.2.toNat) (fun r => SortTo l l.length r) (by
    rintro ⟨m, kk⟩ ⟨k, hk, h1k, H⟩
    simp only at hk H
    subst hk
    have hlen := H.1.length_eq
    simp only [t2_mk, ref5_Sorted_L1]
    rcases Nat.lt_or_ge k l.length with h | h
    · left
      have h' : (k : Int) < (m.length : Int) := by omega
      obtain ⟨r, hr, hr2⟩ := ins_loop (l := l) (i := k) (by omega) (m, (k : Int)) ⟨k, rfl, H.1, Nat.le_refl _, h, fun a b x y hab hb ha hbk hx hy => H.2 a b x y hab (by omega) hx hy, fun b x y hb1 hb => by omega⟩
      have e1 : i64 ((k : Int) + 1) = ((k + 1 : Nat) : Int) := by show IntKind.i64.wrap _ = _; rw [i64_id (by omega) (by omega)]; push_cast; rfl
      refine ⟨(r, ((k + 1 : Nat) : Int)), by simp only [h', decide_true, if_true, hr, Option.bind_some, t1_mk, e1], ⟨k + 1, rfl, by omega, hr2⟩, by simp only; omega⟩
    · right
      have h' : ¬ (k : Int) < (m.length : Int) := by omega
      exact ⟨m, by simp [h'], H.1, fun a b x y hab hb hx hy => H.2 a b x y hab (by omega) hx hy⟩) (l, 1) ⟨1, rfl, Nat.le_refl _, .refl _, fun a b x y hab hb => by omega⟩
  unfold ref5_Sorted
  rw [app_of (by simp; omega)]
  simp only [List.nil_append, Option.bind_some, h1, t1_mk]
  congr 1
  refine sorted_uniq (h2.1.trans (List.mergeSort_perm l _).symm) ?_ (merge_sorted l)
  rw [List.pairwise_iff_getElem]
  intro a b ha hb hab
  have hlen := h2.1.length_eq
  exact h2.2 a b _ _ hab (by omega) (List.getElem?_eq_getElem ha) (List.getElem?_eq_getElem hb)
end Go.Vx

namespace Go.Vx
open Go Go.RowKit
/-! ## Median -/
theorem loop_seg {α β : Type} {xs : List α} {body : List β → Int → Option ((List β × Int) ⊕ (List β))} (g : α → β) (a b : Nat) (hab : a ≤ b) (hb : b ≤ xs.length)
    (hstep : ∀ (k : Nat) x acc, a ≤ k → k < b → xs[k]? = some x → acc.length ≤ k → body acc k = some (.inl (acc ++ [g x], (k : Int) + 1)))
    (hend : ∀ acc, body acc b = some (.inr acc)) : loop (t2 body) ([], (a : Int)) = some (((xs.take b).drop a).map g) := by
  refine (loop_to (body := t2 body) (fun p => ∃ k : Nat, p.2 = k ∧ a ≤ k ∧ k ≤ b ∧ p.1.length ≤ k) (fun p => b - p.2.toNat) (fun p => p.1 ++ ((xs.take b).drop p.2.toNat).map g) ?_ ([], (a : Int)) ⟨a, rfl, Nat.le_refl _, hab, Nat.zero_le _⟩).trans (by simp)
  rintro ⟨acc, i⟩ ⟨k, hi, hka, hk, ha⟩
  simp only at hi ha
  subst hi
  simp only [t2_mk, Int.toNat_natCast]
  rcases Nat.lt_or_ge k b with h | h
  · obtain ⟨x, hx⟩ := get_ex (xs := xs) (k := k) (by omega)
    left
    refine ⟨_, hstep k x acc hka h hx ha, ⟨k + 1, by push_cast; rfl, by omega, by omega, by simp only [List.length_append, List.length_cons, List.length_nil]; omega⟩, by simp only; omega, ?_⟩
    have : (xs.take b)[k]? = some x := by rw [List.getElem?_take, if_pos h]; exact hx
    have e : ((k : Int) + 1).toNat = k + 1 := by omega
    simp only [e]
    rw [drop_cons this]
    simp
  · have : k = b := by omega
    subst this
    right
    rw [hend, List.drop_eq_nil_of_le (by simp; omega)]; simp
abbrev fI (s : api_Series) : List Int := filtI sol 0 s.Samples
def nOf (s : api_Series) (i : Int) : Int := ((s.Samples[i.toNat]?).getD z0).N
def win (s : api_Series) (h k : Nat) : List Int := (((fI s).take (min (fI s).length (k + h + 1))).drop (k - h)).map (nOf s)
def med (s : api_Series) (h k : Nat) : Int := (((win s h k).mergeSort fun x y => decide (x ≤ y))[((win s h k).length - 1) / 2]?).getD 0
def mdF (s : api_Series) (h k : Nat) (acc : List Smp) : List Smp :=
  acc.set (((fI s)[k]?).getD 0).toNat ⟨((acc[(((fI s)[k]?).getD 0).toNat]?).getD z0).At, med s h k, ((acc[(((fI s)[k]?).getD 0).toNat]?).getD z0).Mark⟩
theorem win_len (s : api_Series) (h k : Nat) : (win s h k).length = min (fI s).length (k + h + 1) - (k - h) := by
  simp only [win, List.length_map, List.length_drop, List.length_take]; omega
theorem win_mem {s : api_Series} {h k : Nat} {x : Int} (hx : x ∈ win s h k) : x ∈ nums s := by
  simp only [win, List.mem_map] at hx
  obtain ⟨i, hi, rfl⟩ := hx
  have := List.mem_of_mem_take (List.mem_of_mem_drop hi)
  simp only [nums, List.mem_map]
  exact ⟨i, this, rfl⟩
theorem med_get {s : api_Series} {h k : Nat} (hk : k < (fI s).length) : ((win s h k).mergeSort fun x y => decide (x ≤ y))[((win s h k).length - 1) / 2]? = some (med s h k) ∧ med s h k ∈ win s h k := by
  have hl := win_len s h k
  obtain ⟨m, hm⟩ := get_ex (xs := (win s h k).mergeSort fun x y => decide (x ≤ y)) (k := ((win s h k).length - 1) / 2) (by rw [List.length_mergeSort]; omega)
  unfold med
  rw [hm]
  exact ⟨rfl, (List.mergeSort_perm _ _).mem_iff.1 (List.mem_of_getElem? hm)⟩
def InvM (s : api_Series) (acc : List Smp) : Prop := acc.length = s.Samples.length ∧ ∀ (j : Nat) x, s.Samples[j]? = some x → ∃ y, acc[j]? = some y ∧ y.At = x.At ∧ y.Mark = x.Mark ∧ (sol x = false → y.N = x.N) ∧ (sol x = true → y.N ∈ nums s)
theorem sol_nums {s : api_Series} : ∀ {j : Nat} {x : Smp}, s.Samples[j]? = some x → sol x = true → x.N ∈ nums s := by
  have key : ∀ (k : Nat) (xs : List Smp) (j : Nat) x, xs[j]? = some x → sol x = true → ((k + j : Nat) : Int) ∈ filtI sol k xs := by
    intro k xs
    induction xs generalizing k with
    | nil => intro j x h; simp at h
    | cons y tl ih =>
      intro j x h hs
      cases j with
      | zero => simp at h; subst h; simp [filtI, hs]
      | succ j =>
        have := ih (k + 1) j x (by simpa using h) hs
        rw [show k + 1 + j = k + (j + 1) by omega] at this
        simp only [filtI]; split
        · exact List.mem_cons_of_mem _ this
        · exact this
  intro j x h hs
  have := key 0 s.Samples j x h hs
  simp only [nums, List.mem_map]
  exact ⟨_, this, by simp [h]⟩
theorem inv0 (s : api_Series) : InvM s s.Samples := ⟨rfl, fun j x hx => ⟨x, hx, rfl, rfl, fun _ => rfl, fun h => sol_nums hx h⟩⟩
theorem mdF_inv {s : api_Series} {h k : Nat} (hk : k < (fI s).length) {acc : List Smp} (H : InvM s acc) : InvM s (mdF s h k acc) := by
  obtain ⟨i, hi⟩ := get_ex hk
  obtain ⟨m, rfl, x, hx, hsx⟩ := filtI_get _ _ _ _ _ hi
  obtain ⟨y, hy, h1, h2, h3, h4⟩ := H.2 m x hx
  have hm : ((0 + m : Nat) : Int).toNat = m := by omega
  have e : mdF s h k acc = acc.set m ⟨y.At, med s h k, y.Mark⟩ := by simp [mdF, hi, hy]
  rw [e]
  refine ⟨by simp [H.1], fun j u hu => ?_⟩
  by_cases hj : m = j
  · subst hj
    rw [hx] at hu; cases hu
    refine ⟨⟨y.At, med s h k, y.Mark⟩, ?_, h1, h2, (by intro hf; rw [hsx] at hf; cases hf), fun _ => win_mem (med_get hk).2⟩
    rw [List.getElem?_set_self (by have := (List.getElem?_eq_some_iff.1 hy).1; exact this)]
  · rw [List.getElem?_set_ne hj]
    exact H.2 j u hu
theorem half_w {w : Int} (hw : 1 ≤ w ∧ w ≤ 101) : ∃ h : Nat, h ≤ 50 ∧ quo .i64 w 2 = some (h : Int) ∧ w.tdiv 2 = (h : Int) := by
  obtain ⟨n, rfl⟩ := Int.eq_ofNat_of_zero_le (show 0 ≤ w by omega)
  refine ⟨n / 2, by omega, ?_, ?_⟩
  · simp only [quo]; rw [if_neg (by decide), Int.tdiv_eq_ediv_of_nonneg (by omega), i64_id (by omega) (by omega)]; rfl
  · rw [Int.tdiv_eq_ediv_of_nonneg (by omega)]; rfl
theorem md_bits {s : api_Series} (hs : SerOK s) {h k : Nat} (hh : h ≤ 50) (hk : k < (fI s).length) :
    max 0 (i64 ((k : Int) - h)) = ((k - h : Nat) : Int) ∧ min ((fI s).length : Int) (i64 (i64 ((k : Int) + h) + 1)) = ((min (fI s).length (k + h + 1) : Nat) : Int) ∧ i64 ((k : Int) + h) = ((k + h : Nat) : Int) ∧ i64 ((k : Int) + 1) = ((k + 1 : Nat) : Int) ∧
    quo .i64 (i64 (((win s h k).length : Int) - 1)) 2 = some ((((win s h k).length - 1) / 2 : Nat) : Int) ∧ (win s h k).length ≤ 101 ∧ win s h k ≠ [] := by
  have hl := hs.len
  have hfl : (fI s).length ≤ s.Samples.length := filtI_len sol 0 s.Samples
  have hwl := win_len s h k
  have e1 : i64 ((k : Int) - h) = (k : Int) - h := i64_id (by omega) (by omega)
  have e2 : i64 ((k : Int) + h) = (k : Int) + h := i64_id (by omega) (by omega)
  have e3 : i64 ((k : Int) + h + 1) = (k : Int) + h + 1 := i64_id (by omega) (by omega)
  have e4 : i64 ((k : Int) + 1) = (k : Int) + 1 := i64_id (by omega) (by omega)
  have e5 : i64 (((win s h k).length : Int) - 1) = (((win s h k).length - 1 : Nat) : Int) := by show IntKind.i64.wrap _ = _; rw [i64_id (by omega) (by omega)]; omega
  refine ⟨by rw [e1]; omega, by rw [e2, e3]; omega, by rw [e2]; omega, by rw [e4]; omega, ?_, by omega, fun e => by rw [e] at hwl; simp at hwl; omega⟩
  rw [e5, quo, if_neg (by decide), Int.tdiv_eq_ediv_of_nonneg (by omega), i64_id (by omega) (by omega)]; congr 1
theorem md_slc {s : api_Series} {h k : Nat} (hk : k < (fI s).length) : slc (fI s) ((k - h : Nat) : Int) ((min (fI s).length (k + h + 1) : Nat) : Int) = some (((fI s).take (min (fI s).length (k + h + 1))).drop (k - h)) := by
  rw [slc_ex (by omega) (by omega) (by omega)]
  simp only [Int.toNat_natCast]
theorem nOf_idx {s : api_Series} {i : Int} (h : i ∈ fI s) : ∃ x, idx s.Samples i = some x ∧ x.N = nOf s i := by
  obtain ⟨k, hk⟩ := List.getElem?_of_mem h
  obtain ⟨m, rfl, x, hx, _⟩ := filtI_get _ _ _ _ _ hk
  exact ⟨x, by rw [Nat.zero_add]; exact idx_of hx, by simp [nOf, hx]⟩
theorem near_s {s : api_Series} (hs : SerOK s) {h k : Nat} (hk : k < (fI s).length) : loop (t2 (series_Median_L2 s (((fI s).take (min (fI s).length (k + h + 1))).drop (k - h)))) ([], 0) = some (win s h k) := by
  have hl := hs.len
  have hfl : (fI s).length ≤ s.Samples.length := filtI_len sol 0 s.Samples
  refine loop_map (xs := ((fI s).take (min (fI s).length (k + h + 1))).drop (k - h)) (body := series_Median_L2 s _) (nOf s) (fun j x acc hx ha => ?_) (fun acc => by simp [series_Median_L2])
  have hlt := lt_of hx
  have hj : j < (fI s).length := by
    have := hlt
    simp only [List.length_drop, List.length_take] at this
    omega
  obtain ⟨u, hu, hn⟩ := nOf_idx (List.mem_of_mem_take (List.mem_of_mem_drop (List.mem_of_getElem? hx)))
  have e1 : i64 ((j : Int) + 1) = (j : Int) + 1 := i64_id (by omega) (by omega)
  simp only [series_Median_L2, hlt, decide_true, if_true, idx_of hx, Option.bind_some, hu, e1, hn]
  rw [app_of (by simp; omega)]
  rfl
theorem rnear_s {s : api_Series} (hs : SerOK s) {w : Int} {h k : Nat} (hh : h ≤ 50) (hw : quo .i64 w 2 = some (h : Int)) (hk : k < (fI s).length) : loop (t2 (ref5_Median_L2 s w (fI s) (k : Int))) ([], ((k - h : Nat) : Int)) = some (win s h k) := by
  have hl := hs.len
  have hfl : (fI s).length ≤ s.Samples.length := filtI_len sol 0 s.Samples
  obtain ⟨b1, b2, b3, b4, b5, b6, b7⟩ := md_bits hs hh hk
  refine loop_seg (xs := fI s) (body := ref5_Median_L2 s w (fI s) (k : Int)) (nOf s) (k - h) (min (fI s).length (k + h + 1)) (by omega) (by omega) (fun j x acc h1 h2 hx ha => ?_) (fun acc => ?_)
  · have hlt := lt_of hx
    obtain ⟨u, hu, hn⟩ := nOf_idx (List.mem_of_getElem? hx)
    have e1 : i64 ((j : Int) + 1) = (j : Int) + 1 := i64_id (by omega) (by omega)
    have hle : (j : Int) ≤ ((k + h : Nat) : Int) := by omega
    simp only [ref5_Median_L2, hlt, decide_true, gd_tt, hw, Option.bind_some, b3, hle, Bool.and_true, if_true, idx_of hx, hu, e1, hn]
    rw [app_of (by simp; omega)]
    rfl
  · simp only [ref5_Median_L2, hw]
    by_cases hc : ((min (fI s).length (k + h + 1) : Nat) : Int) < ((fI s).length : Int)
    · have hle : ¬ ((min (fI s).length (k + h + 1) : Nat) : Int) ≤ ((k + h : Nat) : Int) := by omega
      simp only [hc, decide_true, gd_tt, Option.bind_some, b3, hle, decide_false, Bool.and_false]
      rfl
    · simp [hc, gd]
theorem mdL_s {s : api_Series} (hs : SerOK s) {w : Int} {h k : Nat} (hh : h ≤ 50) (hw : quo .i64 w 2 = some (h : Int)) (hk : k < (fI s).length) {acc : List Smp} (H : InvM s acc) :
    series_Median_L1 s w (fI s) acc k = some (.inl (mdF s h k acc, ((k + 1 : Nat) : Int))) ∧ ref5_Median_L1 s w (fI s) acc k = some (.inl (mdF s h k acc, ((k + 1 : Nat) : Int))) := by
  obtain ⟨b1, b2, b3, b4, b5, b6, b7⟩ := md_bits hs hh hk
  obtain ⟨i, hi⟩ := get_ex hk
  have hlt := lt_of hi
  obtain ⟨m, rfl, x, hx, hsx⟩ := filtI_get _ _ _ _ _ hi
  obtain ⟨y, hy, h1, h2, h3, h4⟩ := H.2 m x hx
  have hiy : idx acc (m : Int) = some y := idx_of hy
  have hmd := idx_of (med_get (h := h) hk).1
  have e : mdF s h k acc = acc.set m ⟨y.At, med s h k, y.Mark⟩ := by simp [mdF, hi, hy]
  constructor
  · simp only [series_Median_L1, hlt, decide_true, if_true, idx_of hi, Option.bind_some, hw, b1, b2, md_slc hk, near_s hs hk, t1_mk, sorted_s b7 (by omega), b5, hmd, hiy, b4, e, Int.toNat_natCast, Nat.zero_add]
  · simp only [ref5_Median_L1, hlt, decide_true, if_true, idx_of hi, Option.bind_some, hw, b1, rnear_s hs hh hw hk, t1_mk, Sorted_s (show (win s h k).length ≤ 4294967296 by omega), b5, hmd, hiy, b4, e, Int.toNat_natCast, Nat.zero_add]
def medS (s : api_Series) (h : Nat) : List Smp := run (mdF s h) ((fI s).length - 0) 0 s.Samples
theorem medS_loop {s : api_Series} (hs : SerOK s) {w : Int} {h : Nat} (hh : h ≤ 50) (hw : quo .i64 w 2 = some (h : Int)) :
    loop (t2 (series_Median_L1 s w (fI s))) (s.Samples, 0) = some (medS s h) ∧ loop (t2 (ref5_Median_L1 s w (fI s))) (s.Samples, 0) = some (medS s h) ∧ InvM s (medS s h) := by
  have h1 := loop_runI (body := t2 (series_Median_L1 s w (fI s))) (fI s).length (fun _ => InvM s) (mdF s h) (fun acc k => (acc, (k : Int))) id 0 (fun k acc _ hk H => ⟨(mdL_s hs hh hw hk H).1, mdF_inv hk H⟩) (fun acc _ => by simp [series_Median_L1]) s.Samples (Nat.zero_le _) (inv0 s)
  have h2 := loop_runI (body := t2 (ref5_Median_L1 s w (fI s))) (fI s).length (fun _ => InvM s) (mdF s h) (fun acc k => (acc, (k : Int))) id 0 (fun k acc _ hk H => ⟨(mdL_s hs hh hw hk H).2, mdF_inv hk H⟩) (fun acc _ => by simp [ref5_Median_L1]) s.Samples (Nat.zero_le _) (inv0 s)
  exact ⟨h1.1, h2.1, h1.2⟩
def outMed (s : api_Series) (w : Int) : api_Series × Int :=
  if (chk s).2 ≠ 0 then bad (chk s).2 else if (!(wi w 1 101) || decide (w.tmod 2 = 0)) = true then bad 1 else (⟨s.Den, medS s (w.tdiv 2).toNat⟩, 0)
theorem Median_s (s : api_Series) (w : Int) : series_Median s w = some (outMed s w) ∧ ref5_Median s w = some (outMed s w) := by
  unfold series_Median ref5_Median outMed
  simp only [Check_s, rCheck_s, within_s, outside_s, Option.bind_some]
  by_cases h0 : (chk s).2 = 0
  · have hs := ser_ok h0
    have hn := hs.len
    have ea : app [] s.Samples = some s.Samples := by rw [app_of (by simp; omega)]; rfl
    have ec : clone s.Samples = some s.Samples := ea
    cases h1 : wi w 1 101 with
    | false => constructor <;> simp [h0, gd, bad]
    | true =>
      have hr : rem w 2 = some (w.tmod 2) := by simp [rem]
      obtain ⟨h, hh, hw, hw2⟩ := half_w (wi_iff.1 h1)
      obtain ⟨g1, g2, _⟩ := medS_loop hs hh hw
      by_cases h2 : w.tmod 2 = 0
      · constructor <;> simp [h0, hr, h2, bad]
      · constructor
        · simp [h0, hr, h2, ec, solids_s hs, g1, hw2]
        · simp [h0, hr, h2, ea, rsolids_s hs, g2, hw2]
  · constructor <;> simp [h0, bad]
end Go.Vx

namespace Go.Vx
open Go Go.RowKit
theorem smp_none {x : Smp} (h1 : 0 ≤ x.At ∧ x.At ≤ 1099511627776) (h2 : -1125899906842624 ≤ x.N ∧ x.N ≤ 1125899906842624) (h3 : 0 ≤ x.Mark ∧ x.Mark ≤ 4) (h4 : x.N ≠ 0 → 2 ≤ x.Mark) : smpErr x = none := by
  unfold smpErr
  rw [wi_iff.2 h1, wi_iff.2 h2, wi_iff.2 h3]
  simp only [Bool.and_self, Bool.not_true, Bool.false_eq_true, if_false]
  rw [if_neg]
  simp only [Bool.and_eq_true, Bool.not_eq_true', decide_eq_false_iff_not, decide_eq_true_eq]
  rintro ⟨a, b⟩
  have := h4 a; omega
theorem chkL_zero : ∀ (p : Option Smp) (k : Nat) (xs : List Smp), (∀ (j : Nat) x, xs[j]? = some x → smpErr x = none) → (∀ q, p = some q → ∀ x, xs[0]? = some x → q.At < x.At) →
    (∀ (j : Nat) x y, xs[j]? = some x → xs[j + 1]? = some y → x.At < y.At) → chkL p k xs = (-1, 0)
  | _, _, [], _, _, _ => rfl
  | p, k, x :: tl, h1, h2, h3 => by
    have hx := h1 0 x rfl
    have ho : ordErr p x = false := by
      cases p with
      | none => rfl
      | some q => have := h2 q rfl x rfl; simp only [ordErr, decide_eq_false_iff_not]; omega
    simp only [chkL, hx, ho, Bool.false_eq_true, if_false]
    refine chkL_zero (some x) (k + 1) tl (fun j y hy => h1 (j + 1) y (by simpa using hy)) (fun q hq y hy => by cases hq; exact h3 0 x y rfl (by simpa using hy)) (fun j y z hy hz => h3 (j + 1) y z (by simpa using hy) (by simpa using hz))
theorem nums_in {s : api_Series} (hs : SerOK s) {x : Int} (h : x ∈ nums s) : inN x := by
  obtain ⟨k, hk⟩ := List.getElem?_of_mem h
  have hkl := (List.getElem?_eq_some_iff.1 hk).1
  rw [nums_len] at hkl
  obtain ⟨i, hi⟩ := get_ex hkl
  obtain ⟨m, rfl, y, hy, _⟩ := filtI_get _ _ _ _ _ hi
  obtain ⟨u, hu, hn⟩ := nums_get hi
  rw [Nat.zero_add, idx_of hy] at hu
  cases hu
  rw [hk] at hn; cases hn
  exact (hs.at' m y hy).2.1
theorem inv_chk {s : api_Series} (h0 : (chk s).2 = 0) {ys : List Smp} (H : InvM s ys) : (chk ⟨s.Den, ys⟩).2 = 0 := by
  have hs := ser_ok h0
  have hl := hs.len
  have get : ∀ (j : Nat) y, ys[j]? = some y → ∃ x, s.Samples[j]? = some x ∧ y.At = x.At ∧ y.Mark = x.Mark ∧ (sol x = false → y.N = x.N) ∧ (sol x = true → y.N ∈ nums s) := by
    intro j y hy
    obtain ⟨x, hx⟩ := get_ex (xs := s.Samples) (k := j) (by have := (List.getElem?_eq_some_iff.1 hy).1; have := H.1; omega)
    obtain ⟨z, hz, h⟩ := H.2 j x hx
    rw [hy] at hz; cases hz
    exact ⟨x, hx, h⟩
  unfold chk
  simp only [wi_iff.2 hs.den, if_true, H.1]
  rw [if_pos hl, chkL_zero none 0 ys]
  · intro j y hy
    obtain ⟨x, hx, e1, e2, e3, e4⟩ := get j y hy
    obtain ⟨a1, a2, a3, a4⟩ := hs.at' j x hx
    cases hc : sol x with
    | false =>
      have e := e3 hc
      exact smp_none (by rw [e1]; exact a1) (by rw [e]; exact a2) (by rw [e2]; exact a3) (by rw [e, e2]; exact a4)
    | true =>
      have e := nums_in hs (e4 hc)
      simp only [sol, decide_eq_true_iff] at hc
      exact smp_none (by rw [e1]; exact a1) e (by rw [e2]; exact a3) (fun _ => by omega)
  · intro q hq; cases hq
  · intro j y z hy hz
    obtain ⟨x, hx, e1, _⟩ := get j y hy
    obtain ⟨u, hu, f1, _⟩ := get (j + 1) z hz
    rw [e1, f1]
    exact hs.rise j (j + 1) x u (by omega) hx hu
theorem filtI_congr {α : Type} {p : α → Bool} : ∀ (k : Nat) (xs ys : List α), xs.length = ys.length → (∀ (j : Nat) x y, xs[j]? = some x → ys[j]? = some y → p x = p y) → filtI p k xs = filtI p k ys
  | _, [], [], _, _ => rfl
  | _, [], y :: tl, h, _ => by simp at h
  | _, x :: tl, [], h, _ => by simp at h
  | k, x :: tl, y :: tl', h, hp => by
    have e := hp 0 x y rfl rfl
    have ih := filtI_congr (k + 1) tl tl' (by simpa using h) fun j u v hu hv => hp (j + 1) u v (by simpa using hu) (by simpa using hv)
    simp only [filtI, e, ih]
theorem inv_nums {s : api_Series} {ys : List Smp} (H : InvM s ys) : (nums ⟨s.Den, ys⟩).length = (nums s).length ∧ ∀ x ∈ nums ⟨s.Den, ys⟩, x ∈ nums s := by
  have e : filtI sol 0 ys = filtI sol 0 s.Samples := filtI_congr 0 ys s.Samples H.1 fun j y x hy hx => by
    obtain ⟨z, hz, _, h2, _⟩ := H.2 j x hx
    rw [hy] at hz; cases hz
    simp [sol, h2]
  refine ⟨by rw [nums_len, nums_len]; show (filtI sol 0 ys).length = _; rw [e], fun x hx => ?_⟩
  simp only [nums, List.mem_map] at hx
  obtain ⟨i, hi, rfl⟩ := hx
  rw [e] at hi
  obtain ⟨k, hk⟩ := List.getElem?_of_mem hi
  obtain ⟨m, rfl, x, hx, hsx⟩ := filtI_get _ _ _ _ _ hk
  obtain ⟨z, hz, _, _, _, h4⟩ := H.2 m x hx
  have := h4 hsx
  simpa [hz] using this
theorem Range_s {s : api_Series} (h0 : (chk s).2 = 0) : (nums s = [] ∧ series_Range s = some (0, 0, 13)) ∨ ∃ a b, series_Range s = some (a, b, 0) ∧ a ∈ nums s ∧ b ∈ nums s ∧ ∀ x ∈ nums s, a ≤ x ∧ x ≤ b := by
  have hs := ser_ok h0
  have hl := hs.len
  have hfl := filtI_len sol 0 s.Samples
  have hnl := nums_len s
  unfold series_Range
  simp only [Check_s, Option.bind_some, h0, solids_s hs, range_loop hs, decide_true, Bool.not_true, Bool.false_eq_true, if_false, t1_mk]
  by_cases hz : nums s = []
  · left
    refine ⟨hz, ?_⟩
    rw [hz, if_pos (by simp)]
  · right
    have hpos := List.length_pos_iff.2 hz
    obtain ⟨⟨a, ha, ha1, ha2⟩, b, hb, hb1, hb2⟩ := lst_mem hz
    refine ⟨a, b, ?_, ha1, hb1, fun x hx => ⟨ha2 x hx, hb2 x hx⟩⟩
    rw [if_neg (by rw [decide_eq_false (by omega)]; simp), sorted_s hz (by omega)]
    have e1 : i64 (((nums s).mergeSort fun x y => decide (x ≤ y)).length - 1 : Int) = (((nums s).length - 1 : Nat) : Int) := by
      show IntKind.i64.wrap _ = _
      rw [List.length_mergeSort, i64_id (by omega) (by omega)]; omega
    have g0 : idx ((nums s).mergeSort fun x y => decide (x ≤ y)) 0 = some a := idx_of (k := 0) ha
    simp only [Option.bind_some, g0, e1, idx_of hb]
theorem law_Median (s : api_Series) (width : Int) : law5_SeriesMedianMatchesSpec s width = some true := by
  obtain ⟨h1, h2⟩ := Median_s s width
  by_cases h0 : (chk s).2 = 0
  · have hs := ser_ok h0
    have hl := hs.len
    by_cases hc : (!(wi width 1 101) || decide (width.tmod 2 = 0)) = true
    · have e : outMed s width = bad 1 := by unfold outMed; rw [if_neg (by simp [h0]), if_pos hc]
      obtain ⟨t, ht⟩ := told_t ⟨0, []⟩ 1 (by simp)
      simp [law5_SeriesMedianMatchesSpec, h1, h2, e, bad, ht, holds_s]
    · have hw : wi width 1 101 = true := by cases h : wi width 1 101 <;> simp_all
      obtain ⟨h, hh, q1, q2⟩ := half_w (wi_iff.1 hw)
      obtain ⟨_, _, H⟩ := medS_loop hs hh q1
      have e : outMed s width = (⟨s.Den, medS s h⟩, 0) := by unfold outMed; rw [if_neg (by simp [h0]), if_neg hc, q2]; rfl
      obtain ⟨t, ht⟩ := told_t ⟨s.Den, medS s h⟩ 0 (by simp only [H.1]; omega)
      have hm0 := inv_chk h0 H
      obtain ⟨hn1, hn2⟩ := inv_nums H
      simp only [law5_SeriesMedianMatchesSpec, h1, h2, e, ht, Option.bind_some, decide_true, Bool.not_true, Bool.false_eq_true, if_false, if_true, holds_s]
      rcases Range_s h0 with ⟨ha, hr⟩ | ⟨a, b, hr, ha, hb, hab⟩
      · rcases Range_s hm0 with ⟨hc, hr2⟩ | ⟨c, d, hr2, hc, hd, hcd⟩
        · simp [hr, hr2]
        · exact absurd (hn2 c hc) (by rw [ha]; simp)
      · rcases Range_s hm0 with ⟨hc, hr2⟩ | ⟨c, d, hr2, hc, hd, hcd⟩
        · rw [hc] at hn1
          have : nums s = [] := List.length_eq_zero_iff.1 (by simpa using hn1.symm)
          rw [this] at ha; cases ha
        · have g1 := (hab c (hn2 c hc)).1
          have g2 := (hab d (hn2 d hd)).2
          simp [hr, hr2, show ¬ c < a by omega, show ¬ b < d by omega]
  · have e : outMed s width = bad (chk s).2 := by unfold outMed; rw [if_pos h0]
    obtain ⟨t, ht⟩ := told_t ⟨0, []⟩ (chk s).2 (by simp)
    simp [law5_SeriesMedianMatchesSpec, h1, h2, e, bad, ht, h0, holds_s]
end Go.Vx
