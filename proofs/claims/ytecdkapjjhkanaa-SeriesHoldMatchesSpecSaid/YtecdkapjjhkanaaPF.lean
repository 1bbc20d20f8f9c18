/- A text of the proof: a verified executor of the program form, or the contracts of the functions that the law reaches. -/
import Derived.Test.YtecdkapjjhkanaaPE
set_option linter.all false
namespace Go.Vx
open Go Go.RowKit
/-! ## Spikes and Doubt -/
theorem loop_runI {σ S ρ : Type} {body : S → Option (S ⊕ ρ)} (n : Nat) (I : Nat → σ → Prop) (f : Nat → σ → σ) (enc : σ → Nat → S) (out : σ → ρ) (k0 : Nat)
    (hstep : ∀ k st, k0 ≤ k → k < n → I k st → body (enc st k) = some (.inl (enc (f k st) (k + 1))) ∧ I (k + 1) (f k st)) (hend : ∀ st, I n st → body (enc st n) = some (.inr (out st)))
    (st0 : σ) (h0 : k0 ≤ n) (hI : I k0 st0) : loop body (enc st0 k0) = some (out (run f (n - k0) k0 st0)) ∧ I n (run f (n - k0) k0 st0) := by
  have key : ∀ m k st, k + m = n → k0 ≤ k → I k st → loop body (enc st k) = some (out (run f m k st)) ∧ I n (run f m k st) := by
    intro m
    induction m with
    | zero =>
      intro k st hk _ hI
      have : k = n := by omega
      subst this
      rw [loop_eq, hend st hI]; exact ⟨rfl, hI⟩
    | succ m ih =>
      intro k st hk hk0 hI
      obtain ⟨h1, h2⟩ := hstep k st hk0 (by omega) hI
      rw [loop_eq, h1]
      exact ih (k + 1) (f k st) (by omega) (by omega) h2
  exact key (n - k0) k0 st0 (by omega) (Nat.le_refl _) hI
def spk (s : api_Series) (most : Int) (l : List Int) (k : Nat) : Bool :=
  ((decide (most < (smpAt s l (k + 1)).N - (smpAt s l k).N) && decide (most < (smpAt s l (k + 1)).N - (smpAt s l (k + 2)).N)) || (decide (most < (smpAt s l k).N - (smpAt s l (k + 1)).N) && decide (most < (smpAt s l (k + 2)).N - (smpAt s l (k + 1)).N))) &&
  decide (gapN (smpAt s l (k + 2)).N (smpAt s l k).N ≤ most)
def spF (s : api_Series) (most : Int) (l : List Int) (k : Nat) (acc : List Int) : List Int := if spk s most l k then acc ++ [(l[k + 1]?).getD 0] else acc
def InvP (l : List Int) (k : Nat) (acc : List Int) : Prop := acc.length ≤ k ∧ (∀ x ∈ acc, ∃ j : Nat, j ≤ k ∧ l[j]? = some x) ∧ acc.Pairwise (· < ·)
theorem filt_mono {s : api_Series} : ∀ (i d : Nat) (a b : Int), (filtI sol 0 s.Samples)[i]? = some a → (filtI sol 0 s.Samples)[i + 1 + d]? = some b → a < b := by
  intro i d
  induction d with
  | zero => intro a b ha hb; exact filtI_up sol 0 s.Samples i a b ha (by simpa using hb)
  | succ d ih =>
    intro a b ha hb
    obtain ⟨c, hc⟩ := get_ex (xs := filtI sol 0 s.Samples) (k := i + 1 + d) (by have := (List.getElem?_eq_some_iff.1 hb).1; omega)
    have h1 := ih a c ha hc
    have h2 := filtI_up sol 0 s.Samples (i + 1 + d) c b hc (by simpa [Nat.add_assoc] using hb)
    omega
theorem spF_inv {s : api_Series} {most : Int} {k : Nat} {acc : List Int} (hk : k + 2 < (filtI sol 0 s.Samples).length) (h : InvP (filtI sol 0 s.Samples) k acc) : InvP (filtI sol 0 s.Samples) (k + 1) (spF s most (filtI sol 0 s.Samples) k acc) := by
  obtain ⟨h1, h2, h3⟩ := h
  obtain ⟨y, hy⟩ := get_ex (xs := filtI sol 0 s.Samples) (k := k + 1) (by omega)
  unfold spF
  simp only [hy, Option.getD_some]
  cases spk s most (filtI sol 0 s.Samples) k with
  | false => exact ⟨by simp; omega, fun x hx => by obtain ⟨j, hj, e⟩ := h2 x (by simpa using hx); exact ⟨j, by omega, e⟩, by simpa using h3⟩
  | true =>
    refine ⟨by simp; omega, fun x hx => ?_, ?_⟩
    · simp only [if_true, List.mem_append, List.mem_singleton] at hx
      rcases hx with hx | rfl
      · obtain ⟨j, hj, e⟩ := h2 x hx; exact ⟨j, by omega, e⟩
      · exact ⟨k + 1, Nat.le_refl _, hy⟩
    · simp only [if_true]
      rw [List.pairwise_append]
      refine ⟨h3, by simp, fun a ha b hb => ?_⟩
      simp only [List.mem_singleton] at hb
      subst hb
      obtain ⟨j, hj, e⟩ := h2 a ha
      exact filt_mono j (k - j) a b e (by rw [show j + 1 + (k - j) = k + 1 by omega]; exact hy)
theorem smp_get3 {s : api_Series} (hs : SerOK s) {k : Nat} (hk : k < (filtI sol 0 s.Samples).length) : ∃ i x, (filtI sol 0 s.Samples)[k]? = some i ∧ idx s.Samples i = some x ∧ smpAt s (filtI sol 0 s.Samples) k = x ∧ inN x.N ∧ 0 ≤ i ∧ i < (s.Samples.length : Int) := by
  obtain ⟨i, hi⟩ := get_ex hk
  obtain ⟨m, rfl, x, hx, _⟩ := filtI_get _ _ _ _ _ hi
  have h1 := hs.at' m x hx
  have hm := (List.getElem?_eq_some_iff.1 hx).1
  exact ⟨_, x, hi, by rw [Nat.zero_add]; exact idx_of hx, by simp [smpAt, hi, hx], h1.2.1, by omega, by omega⟩
def spkS (s : api_Series) (most : Int) : List Int := run (spF s most (filtI sol 0 s.Samples)) ((filtI sol 0 s.Samples).length - 2 - 0) 0 []
theorem spk_loop {s : api_Series} (hs : SerOK s) (most : Int) : loop (t2 (series_Spikes_L1 s most (filtI sol 0 s.Samples))) ([], 0) = some (spkS s most) ∧ InvP (filtI sol 0 s.Samples) ((filtI sol 0 s.Samples).length - 2) (spkS s most) := by
  have hlen := hs.len
  have hfl := filtI_len sol 0 s.Samples
  refine loop_runI ((filtI sol 0 s.Samples).length - 2) (InvP (filtI sol 0 s.Samples)) (spF s most (filtI sol 0 s.Samples)) (fun acc k => (acc, (k : Int))) id 0 (fun k acc _ hk hI => ⟨?_, spF_inv (by omega) hI⟩) (fun acc _ => ?_) [] (Nat.zero_le _) ⟨Nat.le_refl _, by simp, .nil⟩
  · obtain ⟨i1, x, g1, g2, g3, g4, _, _⟩ := smp_get3 hs (k := k) (by omega)
    obtain ⟨i2, y, q1, q2, q3, q4, _, _⟩ := smp_get3 hs (k := k + 1) (by omega)
    obtain ⟨i3, z, r1, r2, r3, r4, _, _⟩ := smp_get3 hs (k := k + 2) (by omega)
    have ha := hI.1
    have e1 : i64 ((k : Int) + 1) = ((k + 1 : Nat) : Int) := by show IntKind.i64.wrap _ = _; rw [i64_id (by omega) (by omega)]; push_cast; rfl
    have e3 : i64 ((k : Int) + 3) = ((k + 3 : Nat) : Int) := by show IntKind.i64.wrap _ = _; rw [i64_id (by omega) (by omega)]; push_cast; rfl
    have hle : ((k + 3 : Nat) : Int) ≤ ((filtI sol 0 s.Samples).length : Int) := by omega
    have hsl : slc (filtI sol 0 s.Samples) (k : Int) ((k + 3 : Nat) : Int) = some [i1, i2, i3] := by
      rw [slc_ex (by omega) (by omega) (by omega)]
      simp only [Int.toNat_natCast]
      congr 1
      apply List.ext_getElem?
      intro j
      rw [List.getElem?_drop, List.getElem?_take]
      match j with
      | 0 => simp [g1]
      | 1 => rw [if_pos (by omega)]; simpa using q1
      | 2 => rw [if_pos (by omega)]; simpa using r1
      | j + 3 => rw [if_neg (by omega)]; simp
    have hv : tov 3 [i1, i2, i3] = some ⟨#[i1, i2, i3], rfl⟩ := rfl
    have v0 : vidx (⟨#[i1, i2, i3], rfl⟩ : Vector Int 3) 0 = some i1 := rfl
    have v1 : vidx (⟨#[i1, i2, i3], rfl⟩ : Vector Int 3) 1 = some i2 := rfl
    have v2 : vidx (⟨#[i1, i2, i3], rfl⟩ : Vector Int 3) 2 = some i3 := rfl
    obtain ⟨_, _, d1, d2⟩ := gap_in g4 q4
    obtain ⟨_, _, d3, d4⟩ := gap_in r4 q4
    obtain ⟨_, _, d5, d6⟩ := gap_in r4 g4
    have hsz : series_size (x.N - z.N) = some (gapN z.N x.N) := by
      unfold series_size gapN
      have : i64 (-(x.N - z.N)) = z.N - x.N := by rw [show -(x.N - z.N) = z.N - x.N by omega]; exact d6
      rw [this]
    have ea : ∀ w : Int, app acc [w] = some (acc ++ [w]) := fun w => app_of (by simp; omega)
    simp only [t2_mk, series_Spikes_L1, e3, decide_eq_true hle, if_true, hsl, hv, v0, v1, v2, Option.bind_some, g2, q2, r2, d1, d2, d3, d4, d5, hsz, e1]
    unfold spF spk
    simp only [g3, q3, r3, q1, Option.getD_some]
    cases hc : ((decide (most < y.N - x.N) && decide (most < y.N - z.N)) || (decide (most < x.N - y.N) && decide (most < z.N - y.N))) <;> cases hc2 : decide (gapN z.N x.N ≤ most) <;> simp only [decide_eq_true_iff, decide_eq_false_iff_not] at hc2 <;> simp [ea, hc2, hc]
  · simp only [t2_mk, series_Spikes_L1]
    have e3 : i64 ((((filtI sol 0 s.Samples).length - 2 : Nat) : Int) + 3) = (((filtI sol 0 s.Samples).length - 2 : Nat) : Int) + 3 := i64_id (by omega) (by omega)
    rw [e3, if_neg (by simp; omega)]
    rfl
theorem rspk_loop {s : api_Series} (hs : SerOK s) (most : Int) : loop (t2 (ref5_Spikes_L1 s most (filtI sol 0 s.Samples))) ([], 1) = some (spkS s most) := by
  have hlen := hs.len
  have hfl := filtI_len sol 0 s.Samples
  refine (loop_runI ((filtI sol 0 s.Samples).length - 2) (InvP (filtI sol 0 s.Samples)) (spF s most (filtI sol 0 s.Samples)) (fun acc k => (acc, (k : Int) + 1)) id 0 (fun k acc _ hk hI => ⟨?_, spF_inv (by omega) hI⟩) (fun acc _ => ?_) [] (Nat.zero_le _) ⟨Nat.le_refl _, by simp, .nil⟩).1
  · obtain ⟨i1, x, g1, g2, g3, g4, _, _⟩ := smp_get3 hs (k := k) (by omega)
    obtain ⟨i2, y, q1, q2, q3, q4, _, _⟩ := smp_get3 hs (k := k + 1) (by omega)
    obtain ⟨i3, z, r1, r2, r3, r4, _, _⟩ := smp_get3 hs (k := k + 2) (by omega)
    have ha := hI.1
    have e0 : i64 ((k : Int) + 1 - 1) = (k : Int) := by show IntKind.i64.wrap _ = _; rw [i64_id (by omega) (by omega)]; omega
    have e1 : i64 ((k : Int) + 1 + 1) = ((k + 2 : Nat) : Int) := by show IntKind.i64.wrap _ = _; rw [i64_id (by omega) (by omega)]; push_cast; omega
    have hle : ((k + 2 : Nat) : Int) < ((filtI sol 0 s.Samples).length : Int) := by omega
    have hk1 : (k : Int) + 1 = ((k + 1 : Nat) : Int) := by push_cast; rfl
    obtain ⟨_, _, d1, d2⟩ := gap_in g4 q4
    obtain ⟨_, _, d3, d4⟩ := gap_in r4 q4
    obtain ⟨_, _, d5, d6⟩ := gap_in r4 g4
    have hsz : ref5_apart x.N z.N = some (gapN z.N x.N) := by unfold ref5_apart gapN; rw [d5, d6]
    have ea : ∀ w : Int, app acc [w] = some (acc ++ [w]) := fun w => app_of (by simp; omega)
    simp only [t2_mk, ref5_Spikes_L1, e0, e1, decide_eq_true hle, if_true, idx_of g1, idx_of r1, Option.bind_some]
    simp only [hk1, idx_of q1, Option.bind_some, g2, q2, r2, d1, d2, d3, d4, hsz]
    have e2 : ((k + 2 : Nat) : Int) = ((k + 1 : Nat) : Int) + 1 := by push_cast; omega
    unfold spF spk
    simp only [g3, q3, r3, q1, Option.getD_some]
    cases hc : ((decide (most < y.N - x.N) && decide (most < y.N - z.N)) || (decide (most < x.N - y.N) && decide (most < z.N - y.N))) <;> cases hc2 : decide (gapN z.N x.N ≤ most) <;> simp only [decide_eq_true_iff, decide_eq_false_iff_not] at hc2 <;> simp [ea, hc2, hc, e2]
  · simp only [t2_mk, ref5_Spikes_L1]
    have e3 : i64 ((((filtI sol 0 s.Samples).length - 2 : Nat) : Int) + 1 + 1) = (((filtI sol 0 s.Samples).length - 2 : Nat) : Int) + 1 + 1 := i64_id (by omega) (by omega)
    rw [e3, if_neg (by simp; omega)]
    rfl
end Go.Vx

namespace Go.Vx
open Go Go.RowKit
def inR (n x : Int) : Option Int := if wi x 0 (n - 1) then none else some 9
def upE (p : Option Int) (x : Int) : Option Int := match p with | none => none | some q => if x ≤ q then some 10 else none
theorem loop_err1 {α ε ρ : Type} {xs : List α} (g : Option α → α → Option ε) (A : ε → ρ) (Z : ρ) {body : Int → Option (Int ⊕ ρ)} (hg : ∀ x, g none x = none)
    (h : ∀ (k : Nat) x, 1 ≤ k → xs[k]? = some x → body k = elimO (fun e => some (.inr (A e))) (some (.inl ((k : Int) + 1))) (g (prevA xs k) x))
    (hend : ∀ k : Nat, 1 ≤ k → xs.length ≤ k → body k = some (.inr Z)) : loop (t1 body) 1 = some (elimO A Z (errL g none xs)) := by
  refine (loop_to (body := t1 body) (fun i => ∃ k : Nat, i = k ∧ 1 ≤ k) (fun i => xs.length - i.toNat) (fun i => elimO A Z (errL g (prevA xs i.toNat) (xs.drop i.toNat))) ?_ 1 ⟨1, rfl, Nat.le_refl _⟩).trans ?_
  · rintro i ⟨k, rfl, hk⟩
    simp only [Int.toNat_natCast, t1_mk]
    rcases Nat.lt_or_ge k xs.length with hl | hl
    · obtain ⟨x, hx⟩ := get_ex hl
      rw [h k x hk hx, drop_cons hx]
      simp only [errL]
      cases hg2 : g (prevA xs k) x with
      | some e => right; rfl
      | none =>
        left
        refine ⟨_, rfl, ⟨k + 1, by push_cast; rfl, by omega⟩, by omega, ?_⟩
        have : ((k : Int) + 1).toNat = k + 1 := by omega
        rw [this, prevA_succ hx]
    · right
      rw [hend k hk hl, List.drop_eq_nil_of_le hl]
      rfl
  · cases xs with
    | nil => rfl
    | cons x tl => simp [errL, hg, prevA]
theorem dL1 (s : api_Series) (l : List Int) (hs : SerOK s) (hl : l.length ≤ 9223372036854775807) : loop (t1 (series_Doubt_L1 s l)) 0 = some (elimO (fun e => Sum.inl (bad e)) (Sum.inr ()) (findL (inR s.Samples.length) l)) := by
  have hn := hs.len
  refine loop_find (xs := l) (body := series_Doubt_L1 s l) (inR s.Samples.length) (fun e => Sum.inl (bad e)) (Sum.inr ()) (fun k x hx => ?_) (by simp [series_Doubt_L1])
  have hlt := lt_of hx
  have e0 : i64 ((s.Samples.length : Int) - 1) = (s.Samples.length : Int) - 1 := i64_id (by omega) (by omega)
  have e1 : i64 ((k : Int) + 1) = (k : Int) + 1 := i64_id (by omega) (by omega)
  simp only [series_Doubt_L1, hlt, decide_true, if_true, idx_of hx, Option.bind_some, e0, e1, within_s]
  unfold inR
  cases wi x 0 ((s.Samples.length : Int) - 1) <;> simp [bad]
theorem dL1' (s : api_Series) (l : List Int) : ref5_Doubt_L1 s l = series_Doubt_L1 s l := by
  funext i
  simp only [ref5_Doubt_L1, series_Doubt_L1, outside_s, within_s, Option.bind_some]
theorem dL2' (l : List Int) : ref5_Doubt_L2 l = series_Doubt_L2 l := rfl
theorem dL3' (l : List Int) : ref5_Doubt_L3 l = series_Doubt_L3 l := by
  funext acc i
  simp only [ref5_Doubt_L3, series_Doubt_L3, ref5_solid, series_solid, Option.bind_some]
  by_cases h : i < (l.length : Int)
  · simp only [h, decide_true, if_true]
    cases idx l i with
    | none => rfl
    | some x => simp only [Option.bind_some]
  · simp [h]
theorem dL2 (l : List Int) (hl : l.length ≤ 9223372036854775807) : loop (t1 (series_Doubt_L2 l)) 1 = some (elimO (fun e => Sum.inl (bad e)) (Sum.inr ()) (errL upE none l)) := by
  refine loop_err1 (xs := l) (body := series_Doubt_L2 l) upE (fun e => Sum.inl (bad e)) (Sum.inr ()) (fun x => rfl) (fun k x hk hx => ?_) (fun k hk hlk => ?_)
  · have hlt := lt_of hx
    have hkl : k ≤ l.length := by omega
    obtain ⟨y, hy, hp, hi⟩ := prevA_pos (xs := l) (by omega : 0 < k) hkl
    have e0 : i64 ((k : Int) - 1) = (k : Int) - 1 := i64_id (by omega) (by omega)
    have e1 : i64 ((k : Int) + 1) = (k : Int) + 1 := i64_id (by omega) (by omega)
    simp only [series_Doubt_L2, hlt, decide_true, if_true, idx_of hx, Option.bind_some, e0, e1, hi, hp, upE]
    by_cases h : x ≤ y <;> simp [h, bad]
  · have : ¬ (k : Int) < (l.length : Int) := by omega
    simp only [series_Doubt_L2]
    rw [if_neg (by simpa using this)]
theorem dL3 (l : List Int) (xs : List Smp) (hl : l.length ≤ 9223372036854775807) (h : ∀ (k : Nat) x, l[k]? = some x → 0 ≤ x ∧ x < (xs.length : Int)) : ∃ r, loop (t2 (series_Doubt_L3 l)) (xs, 0) = some r ∧ r.length = xs.length := by
  refine loop_inv (body := t2 (series_Doubt_L3 l)) (fun p => ∃ k : Nat, p.2 = k ∧ k ≤ l.length ∧ p.1.length = xs.length) (fun p => l.length - p.2.toNat) (fun r => r.length = xs.length) ?_ (xs, 0) ⟨0, rfl, Nat.zero_le _, rfl⟩
  rintro ⟨acc, i⟩ ⟨k, hi, hk, ha⟩
  simp only at hi ha
  subst hi
  simp only [t2_mk, series_Doubt_L3]
  rcases Nat.lt_or_ge k l.length with hlt | hge
  · obtain ⟨x, hx⟩ := get_ex hlt
    obtain ⟨h0, h1⟩ := h k x hx
    obtain ⟨m, rfl⟩ := Int.eq_ofNat_of_zero_le h0
    obtain ⟨y, hy⟩ := get_ex (xs := acc) (k := m) (by omega)
    have e1 : i64 ((k : Int) + 1) = (k : Int) + 1 := i64_id (by omega) (by omega)
    left
    have hidx : idx acc ((m : Nat) : Int) = some y := idx_of hy
    by_cases hm : 3 ≤ y.Mark
    · refine ⟨(acc.set m ⟨y.At, y.N, 2⟩, (k : Int) + 1), by simp [lt_of hx, idx_of hx, e1, hidx, series_solid, hm], ⟨k + 1, by push_cast; rfl, hlt, by simp [ha]⟩, by simp only; omega⟩
    · refine ⟨(acc, (k : Int) + 1), by simp [lt_of hx, idx_of hx, e1, hidx, series_solid, hm], ⟨k + 1, by push_cast; rfl, hlt, ha⟩, by simp only; omega⟩
  · have : k = l.length := by omega
    subst this
    exact .inr ⟨acc, by simp, ha⟩
theorem find_none {n : Int} : ∀ {l : List Int}, findL (inR n) l = none → ∀ (k : Nat) x, l[k]? = some x → 0 ≤ x ∧ x < n
  | [], _, k, x, hx => by simp at hx
  | y :: tl, h, k, x, hx => by
    simp only [findL] at h
    cases hy : inR n y with
    | some e => rw [hy] at h; cases h
    | none =>
      rw [hy] at h
      cases k with
      | zero =>
        simp only [List.getElem?_cons_zero, Option.some.injEq] at hx
        subst hx
        unfold inR at hy
        split at hy
        · rename_i hw; rw [wi_iff] at hw; omega
        · cases hy
      | succ k => exact find_none h k x (by simpa using hx)
theorem Doubt_t (s : api_Series) (l : List Int) (hl : l.length ≤ 9223372036854775807) : ∃ r, series_Doubt s l = some r ∧ ref5_Doubt s l = some r ∧ r.1.Samples.length ≤ 1048576 ∧
    ((chk s).2 = 0 → findL (inR s.Samples.length) l = none → errL upE none l = none → r.2 = 0) := by
  unfold series_Doubt ref5_Doubt
  simp only [Check_s, rCheck_s, Option.bind_some, dL1', dL2', dL3']
  by_cases h0 : (chk s).2 = 0
  · have hs := ser_ok h0
    have hn := hs.len
    have ea : app [] s.Samples = some s.Samples := by rw [app_of (by simp; omega)]; rfl
    have ec : clone s.Samples = some s.Samples := ea
    simp only [h0, decide_true, Bool.not_true, Bool.false_eq_true, if_false, ea, ec, Option.bind_some, dL1 s l hs hl, dL2 l hl]
    cases h1 : findL (inR s.Samples.length) l with
    | some e => exact ⟨bad e, by simp, by simp, by simp [bad], fun _ h => by cases h⟩
    | none =>
      cases h2 : errL upE none l with
      | some e => exact ⟨bad e, by simp, by simp, by simp [bad], fun _ _ h => by cases h⟩
      | none =>
        obtain ⟨r, h3, h4⟩ := dL3 l s.Samples hl (find_none h1)
        exact ⟨(⟨s.Den, r⟩, 0), by simp [h3], by simp [h3], by simp only; omega, fun _ _ _ => rfl⟩
  · exact ⟨(⟨0, []⟩, (chk s).2), by simp [h0], by simp [h0], by simp, fun h => absurd h h0⟩
def outSpk (s : api_Series) (most : Int) : List Int × Int := if (chk s).2 ≠ 0 then ([], (chk s).2) else if wi most 0 1125899906842624 = false then ([], 9) else (spkS s most, 0)
theorem Spikes_s (s : api_Series) (most : Int) : series_Spikes s most = some (outSpk s most) := by
  unfold series_Spikes outSpk
  simp only [Check_s, within_s, Option.bind_some]
  by_cases h0 : (chk s).2 = 0
  · cases h1 : wi most 0 1125899906842624 with
    | false => simp [h0]
    | true => simp [h0, solids_s (ser_ok h0), (spk_loop (ser_ok h0) most).1]
  · simp [h0]
theorem rSpikes_s (s : api_Series) (most : Int) : ref5_Spikes s most = some (outSpk s most) := by
  unfold ref5_Spikes outSpk
  simp only [rCheck_s, outside_s, Option.bind_some]
  by_cases h0 : (chk s).2 = 0
  · cases h1 : wi most 0 1125899906842624 with
    | false => simp [h0]
    | true => simp [h0, rsolids_s (ser_ok h0), rspk_loop (ser_ok h0) most]
  · simp [h0]
theorem up_none : ∀ (p : Option Int) (l : List Int), (∀ q, p = some q → ∀ x ∈ l, q < x) → l.Pairwise (· < ·) → errL upE p l = none
  | _, [], _, _ => rfl
  | p, x :: tl, hp, h => by
    rw [List.pairwise_cons] at h
    have hx : upE p x = none := by
      cases p with
      | none => rfl
      | some q => have := hp q rfl x (by simp); simp only [upE]; rw [if_neg (by omega)]
    simp only [errL, hx]
    exact up_none (some x) tl (fun q hq y hy => by cases hq; exact h.1 y hy) h.2
theorem in_none {n : Int} : ∀ {l : List Int}, (∀ x ∈ l, 0 ≤ x ∧ x < n) → findL (inR n) l = none
  | [], _ => rfl
  | x :: tl, h => by
    have hx := h x (by simp)
    have : inR n x = none := by unfold inR; rw [if_pos (by rw [wi_iff]; omega)]
    simp only [findL, this]
    exact in_none fun y hy => h y (by simp [hy])
theorem spk_ok {s : api_Series} (h0 : (chk s).2 = 0) (most : Int) : findL (inR s.Samples.length) (spkS s most) = none ∧ errL upE none (spkS s most) = none ∧ (spkS s most).length ≤ 20000 := by
  have hs := ser_ok h0
  have hn := hs.len
  have hfl := filtI_len sol 0 s.Samples
  obtain ⟨h1, h2, h3⟩ := (spk_loop hs most).2
  refine ⟨in_none fun x hx => ?_, up_none none _ (fun q hq => by cases hq) h3, by omega⟩
  obtain ⟨j, _, hj⟩ := h2 x hx
  obtain ⟨m, rfl, y, hy, _⟩ := filtI_get _ _ _ _ _ hj
  have := (List.getElem?_eq_some_iff.1 hy).1
  omega
theorem law_Spikes (s : api_Series) (most : Int) (l : List Int) (hl : l.length ≤ 9223372036854775807) : law5_SeriesSpikesMatchSpec s most l = some true := by
  simp only [law5_SeriesSpikesMatchSpec, Spikes_s, rSpikes_s, Option.bind_some]
  have hlen : (outSpk s most).1.length ≤ 20000 := by
    unfold outSpk
    by_cases h0 : (chk s).2 = 0
    · cases h1 : wi most 0 1125899906842624 with
      | false => simp [h0]
      | true => have := (spk_ok h0 most).2.2; simp [h0, this]
    · simp [h0]
  obtain ⟨t, ht⟩ := ints_t (outSpk s most).1 (outSpk s most).2 (by omega)
  obtain ⟨r, h1, h2, h3, _⟩ := Doubt_t s l hl
  obtain ⟨t2, ht2⟩ := told_t r.1 r.2 h3
  simp only [ht, Option.bind_some, decide_true, Bool.not_true, h1, h2, ht2, holds_s]
  by_cases he : (outSpk s most).2 = 0
  · obtain ⟨q, h4, h5, h6, h7⟩ := Doubt_t s (outSpk s most).1 (by omega)
    obtain ⟨t3, ht3⟩ := told_t q.1 q.2 h6
    have hq : q.2 = 0 := by
      unfold outSpk at he h7
      by_cases h0 : (chk s).2 = 0
      · cases hw : wi most 0 1125899906842624 with
        | false => simp [h0, hw] at he
        | true =>
          have := spk_ok h0 most
          refine h7 h0 ?_ ?_
          · simpa [h0, hw] using this.1
          · simpa [h0, hw] using this.2.1
      · simp [h0] at he
    rw [hq] at ht3
    simp [he, h4, h5, hq, ht2, ht3, h1, h2]
  · simp [he, ht2, h1, h2]
end Go.Vx
