/- A text of the proof: a verified executor of the program form, or the contracts of the functions that the law reaches. -/
import Derived.Test.YtnlmjeleocelgaaGreatDoorShT
import Derived.Test.YtnlmjeleocelgaaGreatDoorVD
import Derived.Test.YtnlmjeleocelgaaGreatDoorShLib
set_option linter.all false
namespace Go.Vx
open Go Go.RowKit
theorem lnb {α β : Type} {x : Option α} {f : α → Option β} {r : β} (h : x.bind f = some r) : ∃ a, x = some a ∧ f a = some r := Option.bind_eq_some_iff.1 h
theorem ZaV {s : List Int} {at_ : Int} {data : List Int} {power : Int} {r : Int × Bool × List Int} (h : QT s at_ data power = some r) : r.2.2.length = s.length := by
  unfold QT at h
  obtain ⟨q, hq, h⟩ := lnb h
  have hQ : Sum.elim (fun q : Int × Bool × List Int => q.2.2.length = s.length) (fun q : List Int × Int => q.1.length = s.length) q := by
    refine Ju (body := t3 (QL at_ data)) (fun x => x.1.length = s.length) (fun q => Sum.elim (fun q : Int × Bool × List Int => q.2.2.length = s.length) (fun q : List Int × Int => q.1.length = s.length) q) ?_ ?_ rfl hq
    · rintro ⟨o, p, i⟩ s' hs hb
      simp only [Zdd] at hb hs
      unfold QL at hb
      split at hb
      · obtain ⟨x, _, hb⟩ := lnb hb
        split at hb
        · obtain ⟨_, _, hb⟩ := lnb hb
          obtain ⟨_, _, hb⟩ := lnb hb
          cases hb
        · obtain ⟨_, _, hb⟩ := lnb hb
          obtain ⟨_, _, hb⟩ := lnb hb
          cases hb
          simpa using hs
      · cases hb
    · rintro ⟨o, p, i⟩ s' hs hb
      simp only [Zdd] at hb hs
      unfold QL at hb
      split at hb
      · obtain ⟨x, _, hb⟩ := lnb hb
        split at hb
        · obtain ⟨_, _, hb⟩ := lnb hb
          obtain ⟨_, _, hb⟩ := lnb hb
          cases hb
          simpa using hs
        · obtain ⟨_, _, hb⟩ := lnb hb
          obtain ⟨_, _, hb⟩ := lnb hb
          cases hb
      · cases hb; exact hs
  cases q with
  | inl q => cases h; exact hQ
  | inr q => cases h; exact hQ
theorem Zge {s : List Int} {power : Int} {r : Int × Bool × List Int} (h : QW s power = some r) : r.2.2.length = s.length := by
  unfold QW at h
  split at h
  · obtain ⟨q, _, h⟩ := lnb h
    obtain ⟨_, _, h⟩ := lnb h
    obtain ⟨o, ho, h⟩ := lnb h
    cases h
    refine Ju (body := t2 (Qq q)) (fun x => x.1.length = s.length) (fun o => o.length = s.length) ?_ ?_ rfl ho
    · rintro ⟨o, i⟩ s' hs hb
      simp only [Q2] at hb hs
      unfold Qq at hb
      split at hb
      · obtain ⟨_, _, hb⟩ := lnb hb
        obtain ⟨_, _, hb⟩ := lnb hb
        cases hb
        simpa using hs
      · cases hb
    · rintro ⟨o, i⟩ s' hs hb
      simp only [Q2] at hb hs
      unfold Qq at hb
      split at hb
      · obtain ⟨_, _, hb⟩ := lnb hb
        obtain ⟨_, _, hb⟩ := lnb hb
        cases hb
      · cases hb; exact hs
  · obtain ⟨o, ho, h⟩ := lnb h
    cases h
    refine Ju (body := t2 (Qr s)) (fun x => x.1.length = s.length) (fun o => o.length = s.length) ?_ ?_ rfl ho
    · rintro ⟨o, i⟩ s' hs hb
      simp only [Q2] at hb hs
      unfold Qr at hb
      split at hb
      · obtain ⟨_, _, hb⟩ := lnb hb
        cases hb
        simpa using hs
      · cases hb
    · rintro ⟨o, i⟩ s' hs hb
      simp only [Q2] at hb hs
      unfold Qr at hb
      split at hb
      · obtain ⟨_, _, hb⟩ := lnb hb
        cases hb
      · cases hb; exact hs
theorem Qz {data : List Int} {a b : Int} {cmp : Int → Int → Option Int} {r : List Int} (h : Zy data a b cmp = some r) : r.length = data.length := by
  unfold Zy at h
  refine Ju (body := t2 (Zs a b cmp)) (fun x => x.1.length = data.length) (fun o => o.length = data.length) ?_ ?_ rfl h
  · rintro ⟨o, i⟩ s' hs hb
    simp only [Q2] at hb hs
    unfold Zs at hb
    split at hb
    · obtain ⟨o2, h2, hb⟩ := lnb hb
      cases hb
      refine Ju (body := t2 (Zx a cmp)) (fun x => x.1.length = data.length) (fun o => o.length = data.length) ?_ ?_ hs h2
      · rintro ⟨o, j⟩ s' hs hb
        simp only [Q2] at hb hs
        unfold Zx at hb
        obtain ⟨_, _, hb⟩ := lnb hb
        obtain ⟨_, _, hb⟩ := lnb hb
        obtain ⟨_, _, hb⟩ := lnb hb
        split at hb
        · obtain ⟨_, _, hb⟩ := lnb hb
          obtain ⟨_, _, hb⟩ := lnb hb
          obtain ⟨_, _, hb⟩ := lnb hb
          obtain ⟨_, _, hb⟩ := lnb hb
          cases hb
          simpa using hs
        · cases hb
      · rintro ⟨o, j⟩ s' hs hb
        simp only [Q2] at hb hs
        unfold Zx at hb
        obtain ⟨_, _, hb⟩ := lnb hb
        obtain ⟨_, _, hb⟩ := lnb hb
        obtain ⟨_, _, hb⟩ := lnb hb
        split at hb
        · obtain ⟨_, _, hb⟩ := lnb hb
          obtain ⟨_, _, hb⟩ := lnb hb
          obtain ⟨_, _, hb⟩ := lnb hb
          obtain ⟨_, _, hb⟩ := lnb hb
          cases hb
        · cases hb; exact hs
    · cases hb
  · rintro ⟨o, i⟩ s' hs hb
    simp only [Q2] at hb hs
    unfold Zs at hb
    split at hb
    · obtain ⟨o2, h2, hb⟩ := lnb hb
      cases hb
    · cases hb; exact hs
theorem Qt {data : List Int} {a b n : Int} {cmp : Int → Int → Option Int} {r : List Int} (h : ZJ data a b n cmp = some r) : r.length = data.length := by
  unfold ZJ at h
  refine Ju (body := t2 (ZW a b n)) (fun x => x.1.length = data.length) (fun o => o.length = data.length) ?_ ?_ rfl h
  · rintro ⟨o, i⟩ s' hs hb
    simp only [Q2] at hb hs
    unfold ZW at hb
    split at hb
    · obtain ⟨_, _, hb⟩ := lnb hb
      obtain ⟨_, _, hb⟩ := lnb hb
      obtain ⟨_, _, hb⟩ := lnb hb
      obtain ⟨_, _, hb⟩ := lnb hb
      cases hb
      simpa using hs
    · cases hb
  · rintro ⟨o, i⟩ s' hs hb
    simp only [Q2] at hb hs
    unfold ZW at hb
    split at hb
    · obtain ⟨_, _, hb⟩ := lnb hb
      obtain ⟨_, _, hb⟩ := lnb hb
      obtain ⟨_, _, hb⟩ := lnb hb
      obtain ⟨_, _, hb⟩ := lnb hb
      cases hb
    · cases hb; exact hs
theorem Zaw {data : List Int} {a m b : Int} {cmp : Int → Int → Option Int} {r : List Int} (h : Qd data a m b cmp = some r) : r.length = data.length := by
  unfold Qd at h
  obtain ⟨⟨o, i⟩, ho, h⟩ := lnb h
  simp only [Q2] at h
  obtain ⟨y, hy, h⟩ := lnb h
  cases h
  refine (Qt hy).trans ?_
  refine Ju (body := t3 (Qa m cmp)) (fun x => x.1.length = data.length) (fun o => o.1.length = data.length) ?_ ?_ rfl ho
  · rintro ⟨o, i, j⟩ s' hs hb
    simp only [Zdd] at hb hs
    unfold Qa at hb
    split at hb
    · split at hb
      · obtain ⟨z, hz, hb⟩ := lnb hb
        cases hb
        exact (Qt hz).trans hs
      · obtain ⟨z, hz, hb⟩ := lnb hb
        cases hb
        exact (Qt hz).trans hs
    · cases hb
  · rintro ⟨o, i, j⟩ s' hs hb
    simp only [Zdd] at hb hs
    unfold Qa at hb
    split at hb
    · split at hb
      · obtain ⟨z, hz, hb⟩ := lnb hb
        cases hb
      · obtain ⟨z, hz, hb⟩ := lnb hb
        cases hb
    · cases hb; exact hs
theorem ZmW {rec_ : List Int → Int → Int → Int → (Int → Int → Option Int) → Option (List Int)} {data : List Int} {a m b : Int} {cmp : Int → Int → Option Int} {r : List Int}
    (hr : ∀ {data : List Int} {a m b : Int} {cmp : Int → Int → Option Int} {r : List Int}, rec_ data a m b cmp = some r → r.length = data.length) (h : Z7 rec_ data a m b cmp = some r) : r.length = data.length := by
  unfold Z7 at h
  split at h
  · obtain ⟨i, _, h⟩ := lnb h
    simp only [XL] at h
    obtain ⟨o, ho, h⟩ := lnb h
    cases h
    refine Ju (body := t2 (ZL i)) (fun x => x.1.length = data.length) (fun o => o.length = data.length) ?_ ?_ rfl ho
    · rintro ⟨o, k⟩ s' hs hb
      simp only [Q2] at hb hs
      unfold ZL at hb
      split at hb
      · obtain ⟨_, _, hb⟩ := lnb hb
        obtain ⟨_, _, hb⟩ := lnb hb
        obtain ⟨_, _, hb⟩ := lnb hb
        obtain ⟨_, _, hb⟩ := lnb hb
        cases hb
        simpa using hs
      · cases hb
    · rintro ⟨o, k⟩ s' hs hb
      simp only [Q2] at hb hs
      unfold ZL at hb
      split at hb
      · obtain ⟨_, _, hb⟩ := lnb hb
        obtain ⟨_, _, hb⟩ := lnb hb
        obtain ⟨_, _, hb⟩ := lnb hb
        obtain ⟨_, _, hb⟩ := lnb hb
        cases hb
      · cases hb; exact hs
  · split at h
    · obtain ⟨i, _, h⟩ := lnb h
      simp only [XL] at h
      obtain ⟨o, ho, h⟩ := lnb h
      cases h
      refine Ju (body := t2 (ZM i)) (fun x => x.1.length = data.length) (fun o => o.length = data.length) ?_ ?_ rfl ho
      · rintro ⟨o, k⟩ s' hs hb
        simp only [Q2] at hb hs
        unfold ZM at hb
        split at hb
        · obtain ⟨_, _, hb⟩ := lnb hb
          obtain ⟨_, _, hb⟩ := lnb hb
          obtain ⟨_, _, hb⟩ := lnb hb
          obtain ⟨_, _, hb⟩ := lnb hb
          cases hb
          simpa using hs
        · cases hb
      · rintro ⟨o, k⟩ s' hs hb
        simp only [Q2] at hb hs
        unfold ZM at hb
        split at hb
        · obtain ⟨_, _, hb⟩ := lnb hb
          obtain ⟨_, _, hb⟩ := lnb hb
          obtain ⟨_, _, hb⟩ := lnb hb
          obtain ⟨_, _, hb⟩ := lnb hb
          cases hb
        · cases hb; exact hs
    · obtain ⟨q3, _, h⟩ := lnb h
      obtain ⟨⟨st, rr⟩, _, h⟩ := lnb h
      simp only [Q2] at h
      obtain ⟨s2, _, h⟩ := lnb h
      simp only [XL] at h
      obtain ⟨o5, h5, h⟩ := lnb h
      simp only [XL] at h
      obtain ⟨o6, h6, h⟩ := lnb h
      simp only [XL] at h
      have l5 : o5.length = data.length := by
        split at h5
        · obtain ⟨z, hz, h5⟩ := lnb h5
          cases h5
          exact Zaw hz
        · cases h5; rfl
      have l6 : o6.length = data.length := by
        split at h6
        · obtain ⟨z, hz, h6⟩ := lnb h6
          cases h6
          exact (hr hz).trans l5
        · cases h6; exact l5
      split at h
      · obtain ⟨z, hz, h⟩ := lnb h
        cases h
        exact (hr hz).trans l6
      · cases h; exact l6
theorem Qu {n_ : Nat} {data : List Int} {a m b : Int} {cmp : Int → Int → Option Int} {r : List Int} (h : ZI n_ data a m b cmp = some r) : r.length = data.length := by
  induction n_ generalizing data a m b cmp r with
  | zero => cases h
  | succ n ih => exact ZmW (rec_ := ZI n) (fun h => ih h) h
theorem ZdA {data : List Int} {n : Int} {cmp : Int → Int → Option Int} {r : List Int} (hy : Qe data n cmp = some r) : r.length = data.length := by
  unfold Qe at hy
  obtain ⟨⟨o, a⟩, ho, hy⟩ := lnb hy
  simp only [Q2] at hy
  obtain ⟨y2, hy2, hy⟩ := lnb hy
  have h1 : o.length = data.length := by
    refine Ju (body := t3 (ZK n cmp)) (fun s => s.1.length = data.length) (fun q => q.1.length = data.length) ?_ ?_ rfl ho
    · rintro ⟨o, a, b⟩ s' hs hb
      simp only [Zdd] at hb hs
      unfold ZK at hb
      split at hb
      · obtain ⟨z, hz, hb⟩ := lnb hb
        cases hb
        exact (Qz hz).trans hs
      · cases hb
    · rintro ⟨o, a, b⟩ s' hs hb
      simp only [Zdd] at hb hs
      unfold ZK at hb
      split at hb
      · obtain ⟨z, hz, hb⟩ := lnb hb
        cases hb
      · cases hb; exact hs
  have h2 : y2.length = data.length := (Qz hy2).trans h1
  have inner : ∀ (bs : Int) (s : List Int) (q : List Int × Int), s.length = data.length → loop (t3 (ZE n cmp bs)) (s, 0, i64 (2 * bs)) = some q → q.1.length = data.length := by
    intro bs s q hs hq
    refine Ju (body := t3 (ZE n cmp bs)) (fun s => s.1.length = data.length) (fun q => q.1.length = data.length) ?_ ?_ hs hq
    · rintro ⟨o, a, b⟩ s' hs hb
      simp only [Zdd] at hb hs
      unfold ZE at hb
      split at hb
      · obtain ⟨z, hz, hb⟩ := lnb hb
        cases hb
        exact (Qu hz).trans hs
      · cases hb
    · rintro ⟨o, a, b⟩ s' hs hb
      simp only [Zdd] at hb hs
      unfold ZE at hb
      split at hb
      · obtain ⟨z, hz, hb⟩ := lnb hb
        cases hb
      · cases hb; exact hs
  refine Ju (body := t2 (ZD n cmp)) (fun s => s.1.length = data.length) (fun q => q.length = data.length) ?_ ?_ h2 hy
  · rintro ⟨o, bs⟩ s' hs hb
    simp only [Q2] at hb hs
    unfold ZD at hb
    split at hb
    · obtain ⟨⟨o4, a3⟩, h4, hb⟩ := lnb hb
      simp only [Q2] at hb
      have l4 := inner bs o _ hs h4
      split at hb
      · obtain ⟨z, hz, hb⟩ := lnb hb
        cases hb
        exact (Qu hz).trans l4
      · cases hb; exact l4
    · cases hb
  · rintro ⟨o, bs⟩ s' hs hb
    simp only [Q2] at hb hs
    unfold ZD at hb
    split at hb
    · obtain ⟨⟨o4, a3⟩, h4, hb⟩ := lnb hb
      simp only [Q2] at hb
      split at hb
      · obtain ⟨z, hz, hb⟩ := lnb hb
        cases hb
      · cases hb
    · cases hb; exact hs
theorem Zb5 {x : List Int} {cmp : Int → Int → Option Int} {r : List Int} (h : ZO x cmp = some r) : r.length = x.length := by
  unfold ZO at h
  obtain ⟨y, hy, h⟩ := lnb h
  cases h
  exact ZdA hy
end Go.Vx

namespace Go.Vx
open Go Go.RowKit
theorem ZeG {σ ρ : Type} {body : σ → Option (σ ⊕ ρ)} {s s' : σ} {r : ρ} (h : body s = some (.inl s')) (k : loop body s' = some r) : loop body s = some r := by
  rw [ZiL, h]; exact k
theorem ZbQ {σ ρ : Type} {body : σ → Option (σ ⊕ ρ)} {s : σ} {r : ρ} (h : body s = some (.inr r)) : loop body s = some r := by
  rw [ZiL, h]; rfl
theorem Zkg {body : Int → Int → Option ((Int × Int) ⊕ Int)} (P : Nat → Bool) {lo hi : Nat} (hle : lo ≤ hi)
    (hst : ∀ i j : Nat, lo ≤ i → i < j → j ≤ hi → body i j = some (.inl (if P ((i + j) / 2) = true then ((((i + j) / 2 + 1 : Nat) : Int), (j : Int)) else ((i : Int), (((i + j) / 2 : Nat) : Int)))))
    (hend : ∀ i : Nat, lo ≤ i → i ≤ hi → body i i = some (.inr (i : Int))) :
    ∃ s, lo ≤ s ∧ s ≤ hi ∧ loop (t2 body) ((lo : Int), (hi : Int)) = some (s : Int) ∧ (lo < s → P (s - 1) = true) ∧ (s < hi → P s = false) := by
  suffices H : ∀ n i j : Nat, j - i = n → lo ≤ i → i ≤ j → j ≤ hi → (lo < i → P (i - 1) = true) → (j < hi → P j = false) →
      ∃ s, lo ≤ s ∧ s ≤ hi ∧ loop (t2 body) ((i : Int), (j : Int)) = some (s : Int) ∧ (lo < s → P (s - 1) = true) ∧ (s < hi → P s = false) from
    H _ lo hi rfl (Nat.le_refl _) hle (Nat.le_refl _) (fun h => absurd h (Nat.lt_irrefl _)) (fun h => absurd h (Nat.lt_irrefl _))
  intro n
  induction n using Nat.strongRecOn with
  | _ n ih =>
    intro i j hn h1 h2 h3 h4 h5
    rcases Nat.lt_or_ge i j with h | h
    · by_cases hP : P ((i + j) / 2) = true
      · obtain ⟨s, a1, a2, a3, a4, a5⟩ := ih (j - ((i + j) / 2 + 1)) (by omega) ((i + j) / 2 + 1) j rfl (by omega) (by omega) h3 (fun _ => by simpa using hP) h5
        exact ⟨s, a1, a2, ZeG (by simp only [Q2]; rw [hst i j h1 h h3, if_pos hP]) a3, a4, a5⟩
      · obtain ⟨s, a1, a2, a3, a4, a5⟩ := ih ((i + j) / 2 - i) (by omega) i ((i + j) / 2) rfl h1 (by omega) (by omega) h4 (fun _ => by simpa using hP)
        exact ⟨s, a1, a2, ZeG (by simp only [Q2]; rw [hst i j h1 h h3, if_neg hP]) a3, a4, a5⟩
    · have : i = j := by omega
      subst this
      exact ⟨i, h1, h3, ZbQ (by simp only [Q2]; exact hend i h1 h3), h4, h5⟩
def LtK (key : Int → Int) (x y : Int) : Prop := key x < key y ∨ (key x = key y ∧ x < y)
theorem LtK.trans {key : Int → Int} {x y z : Int} (h : LtK key x y) (h2 : LtK key y z) : LtK key x z := by unfold LtK at *; omega
theorem LtK.of_not {key : Int → Int} {x y : Int} (h : ¬ LtK key x y) (hne : x ≠ y) : LtK key y x := by unfold LtK at *; omega
theorem LtK.of_lt {key : Int → Int} {x y : Int} (h : y < x) : LtK key x y ↔ key x < key y := by unfold LtK; omega
abbrev Srt (key : Int → Int) (l : List Int) : Prop := l.Pairwise (LtK key)
theorem Srt.app {key : Int → Int} {l m : List Int} (hl : Srt key l) (hm : Srt key m) (h : ∀ x ∈ l, ∀ y ∈ m, LtK key x y) : Srt key (l ++ m) := List.pairwise_append.2 ⟨hl, hm, h⟩
theorem Srt.fst {key : Int → Int} {l m : List Int} (h : Srt key (l ++ m)) : Srt key l := (List.pairwise_append.1 h).1
theorem Srt.snd {key : Int → Int} {l m : List Int} (h : Srt key (l ++ m)) : Srt key m := (List.pairwise_append.1 h).2.1
theorem Srt.mid {key : Int → Int} {l m : List Int} (h : Srt key (l ++ m)) : ∀ x ∈ l, ∀ y ∈ m, LtK key x y := (List.pairwise_append.1 h).2.2
theorem below {key : Int → Int} {l m : List Int} {x y : Int} (hl : Srt key (l ++ [x])) (hm : Srt key (y :: m)) (h : LtK key x y) : ∀ a ∈ l ++ [x], ∀ b ∈ y :: m, LtK key a b := by
  have h1 : ∀ a ∈ l ++ [x], a = x ∨ LtK key a x := by
    intro a ha
    rcases List.mem_append.1 ha with q | q
    · exact .inr (hl.mid a q x (List.mem_singleton.2 rfl))
    · exact .inl (List.mem_singleton.1 q)
  have h2 : ∀ b ∈ y :: m, b = y ∨ LtK key y b := by
    intro b hb
    rcases List.mem_cons.1 hb with q | q
    · exact .inl q
    · exact .inr ((List.pairwise_cons.1 hm).1 b q)
  intro a ha b hb
  rcases h1 a ha with rfl | q <;> rcases h2 b hb with rfl | q2
  · exact h
  · exact h.trans q2
  · exact q.trans h
  · exact q.trans (h.trans q2)
theorem ZnA {α : Type} {l : List α} (h : l ≠ []) : ∃ m x, l = m ++ [x] := by
  rcases List.eq_nil_or_concat l with rfl | ⟨l', x, rfl⟩
  · exact absurd rfl h
  · exact ⟨l', x, List.concat_eq_append ..⟩
theorem Zf2 {key : Int → Int} {l m : List Int} (hl : Srt key l) (hm : Srt key m) (h : ∀ x y, l.getLast? = some x → m.head? = some y → LtK key x y) : ∀ a ∈ l, ∀ b ∈ m, LtK key a b := by
  rcases List.eq_nil_or_concat l with rfl | ⟨l', x, rfl⟩
  · intro a ha; cases ha
  · cases m with
    | nil => intro a _ b hb; cases hb
    | cons y m =>
      rw [List.concat_eq_append] at hl h ⊢
      exact below hl hm (h x y (by simp) rfl)
theorem ZpF {α : Type} {L X R : List α} {i : Nat} (h : i < X.length) : (L ++ X ++ R)[L.length + i]? = X[i]? := by
  rw [List.append_assoc, List.getElem?_append_right (by omega), List.getElem?_append_left (by omega)]
  congr 1; omega
theorem Zna {α : Type} {L R : List α} {x y : α} : (L ++ x :: R).set L.length y = L ++ y :: R := by
  rw [List.set_append, if_neg (Nat.lt_irrefl _), Nat.sub_self]; rfl
end Go.Vx

namespace Go.Vx
open Go Go.RowKit
theorem ZiN {L M R : List Int} {x y : Int} : ((L ++ x :: M ++ y :: R).set L.length y).set (L.length + 1 + M.length) x = L ++ y :: M ++ x :: R := by
  have h1 : (L ++ x :: M ++ y :: R).set L.length y = L ++ y :: M ++ y :: R := by
    rw [List.append_assoc, List.cons_append, Zna, List.append_assoc, List.cons_append]
  have h2 : (L ++ y :: M).length = L.length + 1 + M.length := by simp; omega
  rw [h1, ← h2, Zna]
theorem ZqT {body : List Int → Int → Option ((List Int × Int) ⊕ List Int)} {n a b : Nat}
    (hst : ∀ (L M R : List Int) (x y : Int) (i : Nat), i < n → L.length = a + i → L.length + 1 + M.length = b + i → body (L ++ x :: M ++ y :: R) i = some (.inl (L ++ y :: M ++ x :: R, (i : Int) + 1)))
    (hend : ∀ d, body d n = some (.inr d)) :
    ∀ (A B L M R : List Int) (i : Nat), A.length = B.length → i + A.length = n → L.length = a + i → L.length + A.length + M.length = b + i →
      loop (t2 body) (L ++ A ++ M ++ B ++ R, (i : Int)) = some (L ++ B ++ M ++ A ++ R) := by
  intro A
  induction A with
  | nil =>
    intro B L M R i h1 h2 h3 h4
    have : B = [] := List.length_eq_zero_iff.1 h1.symm
    subst this
    simp only [List.length_nil, Nat.add_zero] at h2
    subst h2
    exact ZbQ (by simp only [Q2]; exact hend _)
  | cons x A ih =>
    intro B L M R i h1 h2 h3 h4
    cases B with
    | nil => cases h1
    | cons y B =>
      simp only [List.length_cons] at h1 h2 h4
      have e := hst L (A ++ M) (B ++ R) x y i (by omega) h3 (by rw [List.length_append]; omega)
      have k := ih B (L ++ [y]) (M ++ [x]) R (i + 1) (by omega) (by omega) (by simp; omega) (by simp; omega)
      refine ZeG (s' := (L ++ [y] ++ A ++ (M ++ [x]) ++ B ++ R, ((i + 1 : Nat) : Int))) ?_ ?_
      · simp only [Q2]
        rw [show L ++ x :: A ++ M ++ y :: B ++ R = L ++ x :: (A ++ M) ++ y :: (B ++ R) by simp, e]
        simp
      · rw [k]; simp
theorem Zqu {body : List Int → Int → Option ((List Int × Int) ⊕ List Int)} {e : Nat}
    (hst : ∀ (L R : List Int) (x y : Int), L.length < e → body (L ++ x :: y :: R) L.length = some (.inl (L ++ y :: x :: R, (L.length : Int) + 1)))
    (hend : ∀ d, body d e = some (.inr d)) :
    ∀ (A L R : List Int) (x : Int), L.length + A.length = e → loop (t2 body) (L ++ x :: (A ++ R), (L.length : Int)) = some (L ++ A ++ x :: R) := by
  intro A
  induction A with
  | nil =>
    intro L R x h
    simp only [List.length_nil, Nat.add_zero] at h
    rw [List.append_nil]
    exact ZbQ (by simp only [Q2]; rw [h]; exact hend _)
  | cons y A ih =>
    intro L R x h
    simp only [List.length_cons] at h
    have k := ih (L ++ [y]) R x (by simp; omega)
    refine ZeG (s' := (L ++ [y] ++ x :: (A ++ R), (((L ++ [y]).length : Nat) : Int))) ?_ ?_
    · simp only [Q2]
      rw [List.cons_append, hst L (A ++ R) x y (by omega)]
      simp
    · rw [k]; simp
theorem ZqO {body : List Int → Int → Option ((List Int × Int) ⊕ List Int)} {e N : Nat}
    (hst : ∀ (L R : List Int) (x y : Int), e < L.length + 1 → L.length < N → body (L ++ x :: y :: R) ((L.length : Int) + 1) = some (.inl (L ++ y :: x :: R, (L.length : Int))))
    (hend : ∀ d, body d e = some (.inr d)) :
    ∀ (n : Nat) (A L R : List Int) (y : Int), A.length = n → L.length = e → L.length + A.length ≤ N → loop (t2 body) (L ++ A ++ y :: R, (L.length : Int) + A.length) = some (L ++ y :: (A ++ R)) := by
  intro n
  induction n with
  | zero =>
    intro A L R y hn h hN
    have : A = [] := List.length_eq_zero_iff.1 hn
    subst this
    rw [List.append_nil]
    exact ZbQ (by simp only [Q2, List.length_nil]; rw [h]; simpa using hend _)
  | succ n ih =>
    intro A L R y hn h hN
    obtain ⟨A, x, rfl⟩ := ZnA (l := A) (by intro q; rw [q] at hn; cases hn)
    have hA : A.length = n := by simpa using hn
    rw [List.length_append] at hN
    simp only [List.length_cons, List.length_nil] at hN
    have k := ih A L (x :: R) y hA h (by omega)
    refine ZeG (s' := (L ++ A ++ y :: x :: R, (L.length : Int) + A.length)) ?_ ?_
    · simp only [Q2]
      have := hst (L ++ A) R x y (by simp; omega) (by rw [List.length_append]; omega)
      rw [show L ++ (A ++ [x]) ++ y :: R = L ++ A ++ x :: y :: R by simp]
      rw [List.length_append] at this
      simp only [List.length_append, List.length_cons, List.length_nil]
      rw [show (L.length : Int) + ((A.length + (0 + 1) : Nat) : Int) = ((L.length + A.length : Nat) : Int) + 1 by omega, this]
      rw [show ((L.length + A.length : Nat) : Int) = (L.length : Int) + A.length by omega]
    · rw [k]; simp
end Go.Vx

namespace Go.Vx
open Go Go.RowKit
theorem Zq6 {body : List Int → Int → Int → Option ((List Int × Int × Int) ⊕ (List Int × Int))} {sr : List Int → Int → Int → Int → Option (List Int)} {m N : Nat}
    (hsr : ∀ (L A M B R : List Int), A.length = B.length → L.length + A.length + M.length + B.length + R.length = N → sr (L ++ A ++ M ++ B ++ R) (L.length : Int) ((L.length + A.length + M.length : Nat) : Int) (A.length : Int) = some (L ++ B ++ M ++ A ++ R))
    (hb : ∀ (o : List Int) (i j : Nat), i ≤ m → m + j ≤ N → body o i j = if i = j then some (.inr (o, (i : Int))) else if j < i then (sr o ((m - i : Nat) : Int) (m : Int) (j : Int)).bind fun y => some (.inl (y, ((i - j : Nat) : Int), (j : Int)))
      else (sr o ((m - i : Nat) : Int) ((m + j - i : Nat) : Int) (i : Int)).bind fun y => some (.inl (y, (i : Int), ((j - i : Nat) : Int)))) :
    ∀ (n : Nat) (X Y L R : List Int), X.length + Y.length = n → X ≠ [] → Y ≠ [] → L.length + X.length = m → L.length + X.length + Y.length + R.length = N →
      ∃ (o' : List Int) (i' : Nat), loop (t3 body) (L ++ X ++ Y ++ R, (X.length : Int), (Y.length : Int)) = some (o', (i' : Int)) ∧ i' ≤ m ∧ sr o' ((m - i' : Nat) : Int) (m : Int) (i' : Int) = some (L ++ Y ++ X ++ R) := by
  intro n
  induction n using Nat.strongRecOn with
  | _ n ih =>
    intro X Y L R hn hX hY hm hN
    have pX := List.length_pos_iff.2 hX
    have pY := List.length_pos_iff.2 hY
    have hb' := hb (L ++ X ++ Y ++ R) X.length Y.length (by omega) (by omega)
    rcases Nat.lt_trichotomy X.length Y.length with h | h | h
    · rw [if_neg (by omega), if_neg (by omega)] at hb'
      have e1 : (Y.take (Y.length - X.length)).length = Y.length - X.length := by rw [List.length_take]; omega
      have e2 : (Y.drop (Y.length - X.length)).length = X.length := by rw [List.length_drop]; omega
      have hs := hsr L X (Y.take (Y.length - X.length)) (Y.drop (Y.length - X.length)) R e2.symm (by omega)
      rw [e1] at hs
      rw [show L ++ X ++ Y.take (Y.length - X.length) ++ Y.drop (Y.length - X.length) ++ R = L ++ X ++ Y ++ R by rw [List.append_assoc (L ++ X), List.take_append_drop],
        show (L.length : Int) = ((m - X.length : Nat) : Int) by omega, show L.length + X.length + (Y.length - X.length) = m + Y.length - X.length by omega] at hs
      rw [hs, Option.bind_some] at hb'
      obtain ⟨o', i', h1, h2, h3⟩ := ih Y.length (by omega) (Y.drop (Y.length - X.length)) (Y.take (Y.length - X.length)) L (X ++ R) (by omega) (by intro q; rw [q] at e2; simp at e2; omega) (by intro q; rw [q] at e1; simp at e1; omega) (by omega) (by rw [List.length_append]; omega)
      refine ⟨o', i', ZeG (by simp only [Zdd]; exact hb') ?_, h2, ?_⟩
      · rw [e1, e2] at h1
        rw [← h1]; congr 2; simp
      · rw [h3]; congr 1
        rw [List.append_assoc L, List.take_append_drop]; simp
    · rw [if_pos h] at hb'
      refine ⟨L ++ X ++ Y ++ R, X.length, ZbQ (by simp only [Zdd]; exact hb'), by omega, ?_⟩
      have hs := hsr L X [] Y R h (by simp; omega)
      simp only [List.append_nil, List.length_nil, Nat.add_zero] at hs
      rw [show ((m - X.length : Nat) : Int) = (L.length : Int) by omega, show (m : Int) = ((L.length + X.length : Nat) : Int) by omega]
      exact hs
    · rw [if_neg (by omega), if_pos h] at hb'
      have e1 : (X.take Y.length).length = Y.length := by rw [List.length_take]; omega
      have e2 : (X.drop Y.length).length = X.length - Y.length := by rw [List.length_drop]
      have hs := hsr L (X.take Y.length) (X.drop Y.length) Y R e1 (by omega)
      rw [e1, e2] at hs
      rw [show L ++ X.take Y.length ++ X.drop Y.length ++ Y ++ R = L ++ X ++ Y ++ R by rw [List.append_assoc L, List.take_append_drop],
        show (L.length : Int) = ((m - X.length : Nat) : Int) by omega, show L.length + Y.length + (X.length - Y.length) = m by omega] at hs
      rw [hs, Option.bind_some] at hb'
      obtain ⟨o', i', h1, h2, h3⟩ := ih X.length (by omega) (X.drop Y.length) (X.take Y.length) (L ++ Y) R (by omega) (by intro q; rw [q] at e2; simp at e2; omega) (by intro q; rw [q] at e1; simp at e1; omega) (by rw [List.length_append]; omega) (by rw [List.length_append]; omega)
      refine ⟨o', i', ZeG (by simp only [Zdd]; exact hb') ?_, h2, ?_⟩
      · rw [e1, e2] at h1; exact h1
      · rw [h3]; congr 1
        rw [List.append_assoc (L ++ Y), List.take_append_drop]
theorem ZpH {key : Int → Int} {X Y : List Int} {a m b s : Nat} (ha : a + X.length = m) (hb : m + Y.length = b) (hX : Srt key X) (hY : Srt key Y) (mid : Nat) (hmid : mid = (a + b) / 2)
    (lo hi : Nat) (hlo : lo = if mid < m then mid + m - b else a) (hhi : hi = if mid < m then mid else m) (h1 : lo ≤ s) (h2 : s ≤ hi)
    (p1 : lo < s → ∀ x y, X[s - 1 - a]? = some x → Y[mid - s]? = some y → LtK key x y) (p2 : s < hi → ∀ x y, X[s - a]? = some x → Y[mid - s - 1]? = some y → LtK key y x) :
    (∀ x ∈ X.take (s - a), ∀ y ∈ Y.drop (mid - s), LtK key x y) ∧ (∀ y ∈ Y.take (mid - s), ∀ x ∈ X.drop (s - a), LtK key y x) := by
  have hsX : Srt key (X.take (s - a)) := hX.sublist (List.take_sublist ..)
  have hdX : Srt key (X.drop (s - a)) := hX.sublist (List.drop_sublist ..)
  have hsY : Srt key (Y.take (mid - s)) := hY.sublist (List.take_sublist ..)
  have hdY : Srt key (Y.drop (mid - s)) := hY.sublist (List.drop_sublist ..)
  constructor
  · refine Zf2 hsX hdY fun x y hx hy => ?_
    rw [List.head?_drop] at hy
    rw [List.getLast?_eq_getElem?, List.length_take] at hx
    have l1 := (List.getElem?_eq_some_iff.1 hy).1
    have l2 := (List.getElem?_eq_some_iff.1 hx).1
    rw [List.length_take] at l2
    have hl : lo < s := by
      split at hlo <;> omega
    rw [List.getElem?_take_of_lt (by omega)] at hx
    refine p1 hl x y ?_ hy
    rw [← hx]; congr 1
    split at hhi <;> omega
  · refine Zf2 hsY hdX fun x y hx hy => ?_
    rw [List.head?_drop] at hy
    rw [List.getLast?_eq_getElem?, List.length_take] at hx
    have l1 := (List.getElem?_eq_some_iff.1 hy).1
    have l2 := (List.getElem?_eq_some_iff.1 hx).1
    rw [List.length_take] at l2
    have hl : s < hi := by
      split at hhi <;> omega
    rw [List.getElem?_take_of_lt (by omega)] at hx
    refine p2 hl y x hy ?_
    rw [← hx]; congr 1
    split at hlo <;> omega
end Go.Vx

namespace Go.Vx
open Go Go.RowKit
theorem Zq8 {key : Int → Int} {D : Int → Prop} {body : List Int → Int → Option ((List Int × Int) ⊕ List Int)} {a N : Nat}
    (hst : ∀ (P Q : List Int) (x y : Int), D x → D y → a ≤ P.length → P.length < N → body (P ++ y :: x :: Q) ((P.length : Int) + 1) = some (if key x < key y then .inl (P ++ x :: y :: Q, (P.length : Int)) else .inr (P ++ y :: x :: Q)))
    (hend : ∀ d, body d a = some (.inr d)) {L : List Int} (hL : L.length = a) (R : List Int) {x : Int} (hx : D x) :
    ∀ (n : Nat) (S1 S2 : List Int), S1.length = n → L.length + S1.length ≤ N → Srt key (S1 ++ S2) → (∀ y ∈ S1, D y ∧ y < x) → (∀ z ∈ S2, LtK key x z) →
      ∃ S', loop (t2 body) (L ++ S1 ++ x :: (S2 ++ R), ((L.length + S1.length : Nat) : Int)) = some (L ++ S' ++ R) ∧ S'.Perm (S1 ++ x :: S2) ∧ Srt key S' := by
  intro n
  induction n with
  | zero =>
    intro S1 S2 hn hN hs h1 h2
    have : S1 = [] := List.length_eq_zero_iff.1 hn
    subst this
    refine ⟨x :: S2, ZbQ ?_, by simp, List.pairwise_cons.2 ⟨h2, hs⟩⟩
    simp only [Q2, List.append_nil, List.length_nil, Nat.add_zero]
    rw [hL, hend]; simp
  | succ n ih =>
    intro S1 S2 hn hN hs h1 h2
    obtain ⟨S1, y, rfl⟩ := ZnA (l := S1) (by intro q; rw [q] at hn; cases hn)
    have hy := h1 y (by simp)
    rw [List.length_append] at hN
    simp only [List.length_cons, List.length_nil] at hN
    have e := hst (L ++ S1) (S2 ++ R) x y hx hy.1 (by simp; omega) (by rw [List.length_append]; omega)
    have ee : L ++ (S1 ++ [y]) ++ x :: (S2 ++ R) = L ++ S1 ++ y :: x :: (S2 ++ R) := by simp
    have el : ((L.length + (S1 ++ [y]).length : Nat) : Int) = (((L ++ S1).length : Nat) : Int) + 1 := by simp; omega
    rw [ee, el]
    by_cases hk : key x < key y
    · rw [if_pos hk] at e
      obtain ⟨S', k1, k2, k3⟩ := ih S1 (y :: S2) (by simpa using hn) (by omega) (by simpa using hs) (fun z hz => h1 z (by simp [hz])) (fun z hz => by
        rcases List.mem_cons.1 hz with rfl | q
        · exact .inl hk
        · exact h2 z q)
      refine ⟨S', ZeG (by simp only [Q2]; exact e) ?_, k2.trans ?_, k3⟩
      · rw [List.length_append]; exact k1
      · simp only [List.append_assoc, List.cons_append, List.nil_append]
        exact List.Perm.append_left _ (List.Perm.swap ..)
    · rw [if_neg hk] at e
      refine ⟨S1 ++ [y] ++ x :: S2, ZbQ (by simp only [Q2]; rw [e]; simp), .refl _, ?_⟩
      have hyx : LtK key y x := LtK.of_not (fun q => hk ((LtK.of_lt hy.2).1 q)) (by omega)
      have hs1 := hs.fst
      refine hs1.app (List.pairwise_cons.2 ⟨h2, hs.snd⟩) fun p hp q hq => ?_
      have hpx : LtK key p x := by
        rcases List.mem_append.1 hp with w | w
        · exact (hs1.mid p w y (by simp)).trans hyx
        · rw [List.mem_singleton.1 w]; exact hyx
      rcases List.mem_cons.1 hq with rfl | w
      · exact hpx
      · exact hpx.trans (h2 q w)
theorem Zrh {key : Int → Int} {D : Int → Prop} {body1 body2 : List Int → Int → Option ((List Int × Int) ⊕ List Int)} {a b : Nat}
    (hst : ∀ (P Q : List Int) (x y : Int), D x → D y → a ≤ P.length → P.length < b → body2 (P ++ y :: x :: Q) ((P.length : Int) + 1) = some (if key x < key y then .inl (P ++ x :: y :: Q, (P.length : Int)) else .inr (P ++ y :: x :: Q)))
    (hend : ∀ d, body2 d a = some (.inr d))
    (h1 : ∀ o (i : Nat), i < b → body1 o i = (loop (t2 body2) (o, (i : Int))).bind (fun o2 => some (.inl (o2, (i : Int) + 1))))
    (h2 : ∀ o (i : Nat), b ≤ i → body1 o i = some (.inr o)) {L : List Int} (hL : L.length = a) (R : List Int) :
    ∀ (T S : List Int), L.length + S.length + T.length = b → Srt key S → (∀ y ∈ S ++ T, D y) → (∀ x ∈ S, ∀ y ∈ T, x < y) → T.Pairwise (· < ·) →
      ∃ S', loop (t2 body1) (L ++ S ++ (T ++ R), ((L.length + S.length : Nat) : Int)) = some (L ++ S' ++ R) ∧ S'.Perm (S ++ T) ∧ Srt key S' := by
  intro T
  induction T with
  | nil =>
    intro S hb hs hD _ _
    refine ⟨S, ZbQ ?_, by simp, hs⟩
    simp only [Q2]
    rw [h2 _ _ (by simp at hb; omega)]; simp
  | cons x T ih =>
    intro S hb hs hD hlt hT
    simp only [List.length_cons] at hb
    obtain ⟨S', k1, k2, k3⟩ := Zq8 (D := D) hst hend hL (T ++ R) (hD x (by simp)) S.length S [] rfl (by omega) (by simpa using hs) (fun y hy => ⟨hD y (by simp [hy]), hlt y hy x (by simp)⟩) (fun z hz => by cases hz)
    have hT' := List.pairwise_cons.1 hT
    have hl : S'.length = S.length + 1 := by rw [k2.length_eq]; simp
    have hm : ∀ y, y ∈ S' → y ∈ S ∨ y = x := fun y hy => by have := k2.mem_iff.1 hy; simpa using this
    obtain ⟨S'', m1, m2, m3⟩ := ih S' (by omega) k3 (fun y hy => by
      rcases List.mem_append.1 hy with q | q
      · rcases hm y q with q | rfl
        · exact hD y (by simp [q])
        · exact hD y (by simp)
      · exact hD y (by simp [q])) (fun y hy z hz => by
      rcases hm y hy with q | rfl
      · exact hlt y q z (by simp [hz])
      · exact hT'.1 z hz) hT'.2
    refine ⟨S'', ZeG (s' := (L ++ S' ++ (T ++ R), ((L.length + S'.length : Nat) : Int))) ?_ m1, m2.trans ?_, m3⟩
    · simp only [Q2]
      rw [h1 _ _ (by omega), List.cons_append, show L ++ S ++ x :: (T ++ R) = L ++ S ++ x :: ([] ++ (T ++ R)) by simp, k1, Option.bind_some]
      congr 3; omega
    · refine (k2.append_right T).trans ?_
      simp
inductive Bl (key : Int → Int) (s : Nat) : List Int → Prop
  | last (l) : l.length ≤ s → Srt key l → Bl key s l
  | cons (B r) : B.length = s → Srt key B → (∀ x ∈ B, ∀ y ∈ r, x < y) → Bl key s r → Bl key s (B ++ r)
theorem ZqA {key : Int → Int} {D : Int → Prop} {sm : List Int → Int → Int → Int → Option (List Int)} {s n : Nat} (hs0 : 0 < s)
    (hsm : ∀ L X Y R : List Int, X ≠ [] → Y ≠ [] → L.length + X.length + Y.length + R.length = n → Srt key X → Srt key Y → (∀ x ∈ X, ∀ y ∈ Y, x < y) → (∀ x ∈ X ++ Y, D x) →
      ∃ Z, sm (L ++ X ++ Y ++ R) (L.length : Int) ((L.length + X.length : Nat) : Int) ((L.length + X.length + Y.length : Nat) : Int) = some (L ++ Z ++ R) ∧ Z.Perm (X ++ Y) ∧ Srt key Z)
    {body : List Int → Int → Int → Option ((List Int × Int × Int) ⊕ (List Int × Int))}
    (hb : ∀ o (a : Nat), a ≤ n → body o a ((a + 2 * s : Nat) : Int) = if a + 2 * s ≤ n then (sm o (a : Int) ((a + s : Nat) : Int) ((a + 2 * s : Nat) : Int)).bind fun y => some (.inl (y, ((a + 2 * s : Nat) : Int), ((a + 2 * s + 2 * s : Nat) : Int))) else some (.inr (o, (a : Int)))) :
    ∀ (k : Nat) (L l : List Int), l.length = k → L.length + l.length = n → Bl key s l → (∀ x ∈ l, D x) →
      ∃ (o : List Int) (a : Nat) (l' : List Int), loop (t3 body) (L ++ l, (L.length : Int), ((L.length + 2 * s : Nat) : Int)) = some (o, (a : Int)) ∧
        a ≤ n ∧ (if a + s < n then sm o (a : Int) ((a + s : Nat) : Int) (n : Int) else some o) = some (L ++ l') ∧ l'.Perm l ∧ Bl key (2 * s) l' := by
  intro k
  induction k using Nat.strongRecOn with
  | _ k ih =>
    intro L l hk hn hB hD
    rcases Nat.lt_or_ge l.length (2 * s) with h | h
    · have hex : loop (t3 body) (L ++ l, (L.length : Int), ((L.length + 2 * s : Nat) : Int)) = some (L ++ l, (L.length : Int)) := ZbQ (by
        simp only [Zdd]
        rw [hb _ _ (by omega), if_neg (by omega)])
      refine ⟨L ++ l, L.length, ?_⟩
      cases hB with
      | last _ h1 h2 =>
        exact ⟨l, hex, by omega, by rw [if_neg (by omega)], .refl _, .last l (by omega) h2⟩
      | cons B r h1 h2 h3 h4 =>
        rw [List.length_append] at h hn
        have hr : Srt key r := by
          cases h4 with
          | last _ q1 q2 => exact q2
          | cons B' r' q1 q2 q3 q4 =>
            rw [List.length_append] at h
            omega
        by_cases he : r = []
        · subst he
          exact ⟨B ++ [], hex, by omega, by rw [if_neg (by simp at hn; omega)], .refl _, .last _ (by simp; omega) (by simpa using h2)⟩
        · have pr := List.length_pos_iff.2 he
          obtain ⟨Z, e1, e2, e3⟩ := hsm L B r [] (by intro q; rw [q] at h1; simp at h1; omega) he (by simp; omega) h2 hr h3 hD
          refine ⟨Z, hex, by omega, ?_, e2, .last _ (by rw [e2.length_eq, List.length_append]; omega) e3⟩
          rw [if_pos (by omega)]
          simp only [List.append_nil] at e1
          rw [h1, show L.length + s + r.length = n by omega] at e1
          rw [← List.append_assoc]; exact e1
    · cases hB with
      | last _ h1 h2 => omega
      | cons B r h1 h2 h3 h4 =>
        rw [List.length_append] at h hn hk
        have key2 : ∃ B2 r2, r = B2 ++ r2 ∧ B2.length = s ∧ Srt key B2 ∧ (∀ x ∈ B2, ∀ y ∈ r2, x < y) ∧ Bl key s r2 := by
          cases h4 with
          | last _ q1 q2 => exact ⟨r, [], by simp, by omega, q2, (fun x _ y hy => by cases hy), Bl.last [] (by simp) List.Pairwise.nil⟩
          | cons B' r' q1 q2 q3 q4 => exact ⟨B', r', rfl, q1, q2, q3, q4⟩
        obtain ⟨B2, r2, rfl, g1, g2, g3, g4⟩ := key2
        rw [List.length_append] at h hn hk
        obtain ⟨Z, e1, e2, e3⟩ := hsm L B B2 r2 (by intro q; rw [q] at h1; simp at h1; omega) (by intro q; rw [q] at g1; simp at g1; omega) (by omega) h2 g2 (fun x hx y hy => h3 x hx y (by simp [hy])) (fun x hx => hD x (by
          rcases List.mem_append.1 hx with q | q <;> simp [q]))
        have hZ : Z.length = 2 * s := by rw [e2.length_eq, List.length_append]; omega
        obtain ⟨o, a, l', f1, fa, f2, f3, f4⟩ := ih r2.length (by omega) (L ++ Z) r2 rfl (by rw [List.length_append]; omega) g4 (fun x hx => hD x (by simp [hx]))
        refine ⟨o, a, Z ++ l', ?_, fa, by rw [f2]; simp, ?_, ?_⟩
        · refine ZeG (s' := (L ++ Z ++ r2, (((L ++ Z).length : Nat) : Int), (((L ++ Z).length + 2 * s : Nat) : Int))) ?_ f1
          simp only [Zdd]
          rw [hb _ _ (by omega), if_pos (by omega)]
          rw [h1, g1, show L.length + s + s = L.length + 2 * s by omega] at e1
          rw [show L ++ (B ++ (B2 ++ r2)) = L ++ B ++ B2 ++ r2 by simp, e1, Option.bind_some, List.length_append, hZ]
        · rw [← List.append_assoc]
          exact e2.append f3
        · refine .cons Z l' hZ e3 (fun x hx y hy => ?_) f4
          have hy' := f3.mem_iff.1 hy
          rcases List.mem_append.1 (e2.mem_iff.1 hx) with q | q
          · exact h3 x q y (by simp [hy'])
          · exact g3 x q y hy'
end Go.Vx

namespace Go.Vx
open Go Go.RowKit
theorem Zrf {key : Int → Int} {D : Int → Prop} {ins : List Int → Int → Int → Option (List Int)} {s n : Nat} (hs0 : 0 < s)
    (hin : ∀ L X R : List Int, L.length + X.length + R.length = n → X.Pairwise (· < ·) → (∀ x ∈ X, D x) →
      ∃ Z, ins (L ++ X ++ R) (L.length : Int) ((L.length + X.length : Nat) : Int) = some (L ++ Z ++ R) ∧ Z.Perm X ∧ Srt key Z)
    {body : List Int → Int → Int → Option ((List Int × Int × Int) ⊕ (List Int × Int))}
    (hb : ∀ o (a : Nat), a ≤ n → body o a ((a + s : Nat) : Int) = if a + s ≤ n then (ins o (a : Int) ((a + s : Nat) : Int)).bind fun y => some (.inl (y, ((a + s : Nat) : Int), ((a + s + s : Nat) : Int))) else some (.inr (o, (a : Int)))) :
    ∀ (k : Nat) (L l : List Int), l.length = k → L.length + l.length = n → l.Pairwise (· < ·) → (∀ x ∈ l, D x) →
      ∃ (o : List Int) (a : Nat) (l' : List Int), loop (t3 body) (L ++ l, (L.length : Int), ((L.length + s : Nat) : Int)) = some (o, (a : Int)) ∧ ins o (a : Int) (n : Int) = some (L ++ l') ∧ l'.Perm l ∧ Bl key s l' := by
  intro k
  induction k using Nat.strongRecOn with
  | _ k ih =>
    intro L l hk hn hl hD
    rcases Nat.lt_or_ge l.length s with h | h
    · obtain ⟨Z, e1, e2, e3⟩ := hin L l [] (by simpa using hn) hl hD
      rw [List.append_nil, List.append_nil, hn] at e1
      refine ⟨L ++ l, L.length, Z, ZbQ (by simp only [Zdd]; rw [hb _ _ (by omega), if_neg (by omega)]), e1, e2, .last Z (by rw [e2.length_eq]; omega) e3⟩
    · have ht : (l.take s).length = s := by rw [List.length_take]; omega
      have hd : (l.drop s).length = l.length - s := List.length_drop ..
      have hp := hl
      rw [← List.take_append_drop s l] at hp
      obtain ⟨hp1, hp2, hp3⟩ := List.pairwise_append.1 hp
      obtain ⟨Z, e1, e2, e3⟩ := hin L (l.take s) (l.drop s) (by omega) hp1 (fun x hx => hD x (List.mem_of_mem_take hx))
      have hZ : Z.length = s := by rw [e2.length_eq]; omega
      obtain ⟨o, a, l', f1, f2, f3, f4⟩ := ih (l.drop s).length (by omega) (L ++ Z) (l.drop s) rfl (by rw [List.length_append]; omega) hp2 (fun x hx => hD x (List.mem_of_mem_drop hx))
      refine ⟨o, a, Z ++ l', ?_, by rw [f2]; simp, ?_, ?_⟩
      · refine ZeG (s' := (L ++ Z ++ l.drop s, (((L ++ Z).length : Nat) : Int), (((L ++ Z).length + s : Nat) : Int))) ?_ f1
        simp only [Zdd]
        rw [hb _ _ (by omega), if_pos (by omega)]
        rw [ht, List.append_assoc, List.take_append_drop] at e1
        rw [e1, Option.bind_some, List.length_append, hZ]
      · have := e2.append f3
        rw [List.take_append_drop] at this
        exact this
      · refine .cons Z l' hZ e3 (fun x hx y hy => ?_) f4
        exact hp3 x (e2.mem_iff.1 hx) y (f3.mem_iff.1 hy)
theorem Bl.one {key : Int → Int} {s : Nat} {l : List Int} (h : Bl key s l) (hl : l.length ≤ s) : Srt key l := by
  cases h with
  | last _ h1 h2 => exact h2
  | cons B r h1 h2 h3 h4 =>
    rw [List.length_append] at hl
    have : r = [] := List.length_eq_zero_iff.1 (by omega)
    subst this
    simpa using h2
theorem Zq4 {key : Int → Int} {D : Int → Prop} {n : Nat} {body : List Int → Int → Option ((List Int × Int) ⊕ List Int)} 
    (hb : ∀ (o : List Int) (s : Nat), 0 < s → s ≤ 2 * n + 20 → o.length = n → Bl key s o → (∀ x ∈ o, D x) → if s < n then ∃ o', body o s = some (.inl (o', ((2 * s : Nat) : Int))) ∧ o'.Perm o ∧ Bl key (2 * s) o' else body o s = some (.inr o)) :
    ∀ (k : Nat) (o : List Int) (s : Nat), n - s = k → 0 < s → s ≤ 2 * n + 20 → o.length = n → Bl key s o → (∀ x ∈ o, D x) → ∃ o', loop (t2 body) (o, (s : Int)) = some o' ∧ o'.Perm o ∧ Srt key o' := by
  intro k
  induction k using Nat.strongRecOn with
  | _ k ih =>
    intro o s hk h0 h2 hn hB hD
    have e := hb o s h0 h2 hn hB hD
    split at e
    · obtain ⟨o', e1, e2, e3⟩ := e
      obtain ⟨o'', f1, f2, f3⟩ := ih (n - 2 * s) (by omega) o' (2 * s) rfl (by omega) (by omega) (by rw [e2.length_eq]; exact hn) e3 (fun x hx => hD x (e2.mem_iff.1 hx))
      exact ⟨o'', ZeG (by simp only [Q2]; exact e1) f1, f2.trans e2, f3⟩
    · exact ⟨o, ZbQ (by simp only [Q2]; exact e), .refl _, hB.one (by omega)⟩
theorem Zjg {key : Int → Int} : ∀ {l m : List Int}, l.Perm m → Srt key l → Srt key m → l = m
  | [], m, h, _, _ => h.nil_eq
  | x :: l, m, h, h1, h2 => by
    cases m with
    | nil => exact absurd h.length_eq (by simp)
    | cons y m =>
      have a1 := List.pairwise_cons.1 h1
      have a2 := List.pairwise_cons.1 h2
      have e : x = y := by
        have hx := h.mem_iff.1 (List.mem_cons_self ..)
        have hy := h.mem_iff.2 (List.mem_cons_self ..)
        rcases List.mem_cons.1 hx with q | q
        · exact q
        · rcases List.mem_cons.1 hy with q2 | q2
          · exact q2.symm
          · have c1 := a2.1 x q
            have c2 := a1.1 y q2
            unfold LtK at c1 c2; omega
      subst e
      rw [Zjg (List.Perm.cons_inv h) a1.2 a2.2]
end Go.Vx

namespace Go.Vx
open Go Go.RowKit
theorem Zo {z : Int} (h1 : -9223372036854775808 ≤ z) (h2 : z ≤ 9223372036854775807) : IntKind.i64.wrap z = z := w64 h1 h2
theorem ZpB {z : Int} (h1 : 0 ≤ z) (h2 : z < 18446744073709551616) : IntKind.u64.wrap z = z := ZqZ h1 h2
@[simp] theorem Zrl {α : Type} {d : α} {o : Option α} : gd true d o = o := rfl
@[simp] theorem Zrr {α : Type} {d : α} {o : Option α} : gd false d o = some d := rfl
@[simp] theorem Zqy {α : Type} {d : α} {o : Option α} : gd (true == true) d o = o := rfl
theorem ZG {α : Type} {xs : List α} {k : Nat} {x : α} (h : xs[k]? = some x) : idx xs (k : Int) = some x := by simp [idx, h]
theorem Zmp {α : Type} {xs : List α} {k : Nat} {x : α} (h : xs[k]? = some x) : (k : Int) < (xs.length : Int) := by
  have := (List.getElem?_eq_some_iff.1 h).1; omega
theorem Za6 {α : Type} {xs : List α} {k : Nat} (h : k < xs.length) : ∃ x, xs[k]? = some x := ⟨xs[k], List.getElem?_eq_getElem h⟩
theorem ZdG {α : Type} {xs : List α} {k : Nat} {x : α} (h : xs[k]? = some x) : xs.drop k = x :: xs.drop (k + 1) := by
  obtain ⟨hk, rfl⟩ := List.getElem?_eq_some_iff.1 h
  exact List.drop_eq_getElem_cons hk
theorem ZdV {α : Type} {xs ys : List α} (h : xs.length + ys.length ≤ 4294967296) : app xs ys = some (xs ++ ys) := by unfold app apz; rw [if_pos (by omega)]

section loops
variable {σ ρ : Type}
theorem Zf8 {body : σ → Option (σ ⊕ ρ)} (I : σ → Prop) (μ : σ → Nat) (F : σ → ρ) (step : ∀ s, I s → (∃ s', body s = some (.inl s') ∧ I s' ∧ μ s' < μ s ∧ F s = F s') ∨ body s = some (.inr (F s))) :
    ∀ s, I s → loop body s = some (F s) := by
  intro s hs
  obtain ⟨r, h1, h2⟩ := ZeP (body := body) (fun s' => I s' ∧ F s = F s') μ (fun r => r = F s) (fun s' ⟨h1, h2⟩ => by
    rcases step s' h1 with ⟨s2, e1, e2, e3, e4⟩ | e
    · exact .inl ⟨s2, e1, ⟨e2, h2.trans e4⟩, e3⟩
    · exact .inr ⟨_, e, h2.symm⟩) s ⟨hs, rfl⟩
  rw [h1, h2]
variable {α : Type} {xs : List α}
theorem Zlf {body : Int → Option (Int ⊕ ρ)} (F : Nat → ρ)
    (hstep : ∀ (k : Nat) x, xs[k]? = some x → (body k = some (.inl ((k : Int) + 1)) ∧ F k = F (k + 1)) ∨ body k = some (.inr (F k)))
    (hend : body xs.length = some (.inr (F xs.length))) : loop (t1 body) 0 = some (F 0) := by
  refine Zf8 (body := t1 body) (fun i => ∃ k : Nat, i = k ∧ k ≤ xs.length) (fun i => xs.length - i.toNat) (fun i => F i.toNat) ?_ 0 ⟨0, rfl, Nat.zero_le _⟩
  rintro i ⟨k, rfl, hk⟩
  simp only [Int.toNat_natCast, XL]
  rcases Nat.lt_or_ge k xs.length with h | h
  · obtain ⟨x, hx⟩ := Za6 h
    rcases hstep k x hx with ⟨h1, h2⟩ | h1
    · exact .inl ⟨_, h1, ⟨k + 1, by push_cast; rfl, h⟩, by omega, by rw [h2]; rfl⟩
    · exact .inr h1
  · have : k = xs.length := by omega
    subst this
    exact .inr hend
end loops
end Go.Vx

namespace Go.Vx
open Go Go.RowKit
section err
variable {α ε : Type}
def Zo4 {ρ : Type} (A : ε → ρ) (Z : ρ) : Option ε → ρ
  | some e => A e
  | none => Z
@[simp] theorem Zp9 {ρ : Type} (A : ε → ρ) (Z : ρ) (e : ε) : Zo4 A Z (some e) = A e := rfl
@[simp] theorem Zp5 {ρ : Type} (A : ε → ρ) (Z : ρ) : Zo4 A Z none = Z := rfl
end err
theorem Znd {α β : Type} {xs : List α} {body : List β → Int → Option ((List β × Int) ⊕ (List β))} (g : α → β)
    (hstep : ∀ (k : Nat) x acc, xs[k]? = some x → acc.length = k → body acc k = some (.inl (acc ++ [g x], (k : Int) + 1)))
    (hend : ∀ acc, body acc xs.length = some (.inr acc)) : loop (t2 body) ([], 0) = some (xs.map g) := by
  refine (Zf8 (body := t2 body) (fun p => ∃ k : Nat, p.2 = k ∧ k ≤ xs.length ∧ p.1.length = k) (fun p => xs.length - p.2.toNat) (fun p => p.1 ++ (xs.drop p.2.toNat).map g) ?_ ([], 0) ⟨0, rfl, Nat.zero_le _, rfl⟩).trans (by simp)
  rintro ⟨acc, i⟩ ⟨k, hi, hk, ha⟩
  simp only at hi ha
  subst hi
  simp only [Q2, Int.toNat_natCast]
  rcases Nat.lt_or_ge k xs.length with h | h
  · obtain ⟨x, hx⟩ := Za6 h
    left
    refine ⟨_, hstep k x acc hx ha, ⟨k + 1, by push_cast; rfl, h, by simp [ha]⟩, by simp only; omega, ?_⟩
    rw [ZdG hx]
    simp
  · have : k = xs.length := by omega
    subst this
    right
    rw [hend]; simp
end Go.Vx

namespace Go.Vx
open Go Go.RowKit
def QV {σ ρ : Type} (b : σ → Option (σ ⊕ ρ)) (s : σ) : Option ρ :=
  Nat.rec (motive := fun _ => σ → Option ρ) (fun _ => none) (fun _ ih s => match b s with | none => none | some (.inl s') => ih s' | some (.inr r) => some r) 1000000 s
def Le {α : Type} (a b : Option α) : Prop := ∀ r, a = some r → b = some r
theorem Le.refl {α : Type} (a : Option α) : Le a a := fun _ h => h
section
variable {α β γ δ ε ζ η θ ι κ σ ρ : Type}
theorem Le.bind {a b : Option α} {f g : α → Option β} (h : Le a b) (hf : ∀ x, Le (f x) (g x)) : Le (a.bind f) (b.bind g) := by
  intro r hr
  cases ha : a with
  | none => rw [ha] at hr; cases hr
  | some x => rw [ha] at hr; rw [h x ha]; exact hf x r hr
theorem Le.ite {c : Prop} [Decidable c] {a b a' b' : Option α} (h1 : Le a a') (h2 : Le b b') : Le (if c then a else b) (if c then a' else b') := by
  split
  · exact h1
  · exact h2
theorem Le.gd {g : Bool} {d : α} {a b : Option α} (h : Le a b) : Le (gd g d a) (gd g d b) := by
  cases g
  · exact fun r hr => hr
  · exact h
theorem Le.loop {b b' : σ → Option (σ ⊕ ρ)} {s : σ} (h : ∀ s, Le (b s) (b' s)) : Le (QV b s) (loop b' s) := by
  have key : ∀ n s r, Nat.rec (motive := fun _ => σ → Option ρ) (fun _ => none) (fun _ ih s => match b s with | none => none | some (.inl s') => ih s' | some (.inr r) => some r) n s = some r → ZaO b' n s = some r := by
    intro n
    induction n with
    | zero => intro s r hr; cases hr
    | succ n ih =>
      intro s r hr
      simp only at hr
      cases hb : b s with
      | none => rw [hb] at hr; cases hr
      | some o =>
        rw [hb] at hr
        simp only [ZaO, h s o hb, Option.bind_some]
        cases o with
        | inl s' => exact ih s' r hr
        | inr r' => exact hr
  intro r hr
  exact ZeR (key 1000000 s r hr)
theorem Le.t0 {f g : Option κ} {p : Unit} (h : Le f g) : Le (t0 f p) (t0 g p) := h
theorem Le.t1 {f g : α → Option κ} {p : α} (h : ∀ a, Le (f a) (g a)) : Le (t1 f p) (t1 g p) := h _
theorem Le.t2 {f g : α → β → Option κ} {p : α × β} (h : ∀ a b, Le (f a b) (g a b)) : Le (t2 f p) (t2 g p) := h _ _
theorem Le.t3 {f g : α → β → γ → Option κ} {p : α × β × γ} (h : ∀ a b c, Le (f a b c) (g a b c)) : Le (t3 f p) (t3 g p) := h _ _ _
theorem Le.t4 {f g : α → β → γ → δ → Option κ} {p : α × β × γ × δ} (h : ∀ a b c d, Le (f a b c d) (g a b c d)) : Le (t4 f p) (t4 g p) := h _ _ _ _
theorem Le.t5 {f g : α → β → γ → δ → ε → Option κ} {p : α × β × γ × δ × ε} (h : ∀ a b c d e, Le (f a b c d e) (g a b c d e)) : Le (t5 f p) (t5 g p) := h _ _ _ _ _
theorem Le.t6 {f g : α → β → γ → δ → ε → ζ → Option κ} {p : α × β × γ × δ × ε × ζ} (h : ∀ a b c d e x, Le (f a b c d e x) (g a b c d e x)) : Le (t6 f p) (t6 g p) := h _ _ _ _ _ _
theorem Le.t7 {f g : α → β → γ → δ → ε → ζ → η → Option κ} {p : α × β × γ × δ × ε × ζ × η} (h : ∀ a b c d e x y, Le (f a b c d e x y) (g a b c d e x y)) : Le (t7 f p) (t7 g p) := h _ _ _ _ _ _ _
theorem Le.t8 {f g : α → β → γ → δ → ε → ζ → η → θ → Option κ} {p : α × β × γ × δ × ε × ζ × η × θ} (h : ∀ a b c d e x y z, Le (f a b c d e x y z) (g a b c d e x y z)) : Le (t8 f p) (t8 g p) := h _ _ _ _ _ _ _ _
theorem Le.t9 {ι : Type} {f g : α → β → γ → δ → ε → ζ → η → θ → ι → Option κ} {p : α × β × γ × δ × ε × ζ × η × θ × ι} (h : ∀ a b c d e x y z w, Le (f a b c d e x y z w) (g a b c d e x y z w)) : Le (t9 f p) (t9 g p) := h _ _ _ _ _ _ _ _ _
theorem Le.elim {f f' : α → Option κ} {g g' : β → Option κ} {s : α ⊕ β} (h1 : ∀ a, Le (f a) (f' a)) (h2 : ∀ b, Le (g b) (g' b)) : Le (Sum.elim f g s) (Sum.elim f' g' s) := by
  cases s with
  | inl a => exact h1 a
  | inr b => exact h2 b
end
end Go.Vx

namespace Go.Vx
open Go Go.RowKit
def Zo2 : List Int → Option (List Int)
  | [x] => some [x]
  | _ => none
theorem ZnQ (xs : List Int) : Le (Zo2 xs) (Zic xs) := by
  intro r h
  match xs, h with
  | [x], h => cases h; unfold Zic; rw [if_pos (by simp), List.mergeSort_singleton]
end Go.Vx
