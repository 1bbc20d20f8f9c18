/- A text of the proof: a verified executor of the program form, or the contracts of the functions that the law reaches. -/
import Derived.Test.YtjfoenlooacoiabGreatDoorShT
import Derived.Test.YtjfoenlooacoiabGreatDoorVD
import Derived.Test.YtjfoenlooacoiabGreatDoorShLib
set_option linter.all false
namespace Go.Vx
open Go Go.RowKit
theorem lnb {α β : Type} {x : Option α} {f : α → Option β} {r : β} (h : x.bind f = some r) : ∃ a, x = some a ∧ f a = some r := Option.bind_eq_some_iff.1 h
theorem Zan {s : List Int} {at_ : Int} {data : List Int} {power : Int} {r : Int × Bool × List Int} (h : Q7 s at_ data power = some r) : r.2.2.length = s.length := by
  unfold Q7 at h
  obtain ⟨q, hq, h⟩ := lnb h
  have hQ : Sum.elim (fun q : Int × Bool × List Int => q.2.2.length = s.length) (fun q : List Int × Int => q.1.length = s.length) q := by
    refine XV (body := t3 (Q3 at_ data)) (fun x => x.1.length = s.length) (fun q => Sum.elim (fun q : Int × Bool × List Int => q.2.2.length = s.length) (fun q : List Int × Int => q.1.length = s.length) q) ?_ ?_ rfl hq
    · rintro ⟨o, p, i⟩ s' hs hb
      simp only [Zbz] at hb hs
      unfold Q3 at hb
      split at hb
      · obtain ⟨x, _, hb⟩ := lnb hb
        split at hb
        · obtain ⟨_, _, hb⟩ := lnb hb
          obtain ⟨_, _, hb⟩ := lnb hb
          cases hb
        · obtain ⟨_, _, hb⟩ := lnb hb
          obtain ⟨_, _, hb⟩ := lnb hb
          cases hb
          simpa using hs
      · cases hb
    · rintro ⟨o, p, i⟩ s' hs hb
      simp only [Zbz] at hb hs
      unfold Q3 at hb
      split at hb
      · obtain ⟨x, _, hb⟩ := lnb hb
        split at hb
        · obtain ⟨_, _, hb⟩ := lnb hb
          obtain ⟨_, _, hb⟩ := lnb hb
          cases hb
          simpa using hs
        · obtain ⟨_, _, hb⟩ := lnb hb
          obtain ⟨_, _, hb⟩ := lnb hb
          cases hb
      · cases hb; exact hs
  cases q with
  | inl q => cases h; exact hQ
  | inr q => cases h; exact hQ
theorem ZeJ {s : List Int} {power : Int} {r : Int × Bool × List Int} (h : Xk s power = some r) : r.2.2.length = s.length := by
  unfold Xk at h
  split at h
  · obtain ⟨q, _, h⟩ := lnb h
    obtain ⟨_, _, h⟩ := lnb h
    obtain ⟨o, ho, h⟩ := lnb h
    cases h
    refine XV (body := t2 (QL q)) (fun x => x.1.length = s.length) (fun o => o.length = s.length) ?_ ?_ rfl ho
    · rintro ⟨o, i⟩ s' hs hb
      simp only [Qy] at hb hs
      unfold QL at hb
      split at hb
      · obtain ⟨_, _, hb⟩ := lnb hb
        obtain ⟨_, _, hb⟩ := lnb hb
        cases hb
        simpa using hs
      · cases hb
    · rintro ⟨o, i⟩ s' hs hb
      simp only [Qy] at hb hs
      unfold QL at hb
      split at hb
      · obtain ⟨_, _, hb⟩ := lnb hb
        obtain ⟨_, _, hb⟩ := lnb hb
        cases hb
      · cases hb; exact hs
  · obtain ⟨o, ho, h⟩ := lnb h
    cases h
    refine XV (body := t2 (QM s)) (fun x => x.1.length = s.length) (fun o => o.length = s.length) ?_ ?_ rfl ho
    · rintro ⟨o, i⟩ s' hs hb
      simp only [Qy] at hb hs
      unfold QM at hb
      split at hb
      · obtain ⟨_, _, hb⟩ := lnb hb
        cases hb
        simpa using hs
      · cases hb
    · rintro ⟨o, i⟩ s' hs hb
      simp only [Qy] at hb hs
      unfold QM at hb
      split at hb
      · obtain ⟨_, _, hb⟩ := lnb hb
        cases hb
      · cases hb; exact hs
theorem Qm {data : List Int} {a b : Int} {cmp : Int → Int → Option Int} {r : List Int} (h : Zu data a b cmp = some r) : r.length = data.length := by
  unfold Zu at h
  refine XV (body := t2 (Zt a b cmp)) (fun x => x.1.length = data.length) (fun o => o.length = data.length) ?_ ?_ rfl h
  · rintro ⟨o, i⟩ s' hs hb
    simp only [Qy] at hb hs
    unfold Zt at hb
    split at hb
    · obtain ⟨o2, h2, hb⟩ := lnb hb
      cases hb
      refine XV (body := t2 (Zv a cmp)) (fun x => x.1.length = data.length) (fun o => o.length = data.length) ?_ ?_ hs h2
      · rintro ⟨o, j⟩ s' hs hb
        simp only [Qy] at hb hs
        unfold Zv at hb
        obtain ⟨_, _, hb⟩ := lnb hb
        obtain ⟨_, _, hb⟩ := lnb hb
        obtain ⟨_, _, hb⟩ := lnb hb
        split at hb
        · obtain ⟨_, _, hb⟩ := lnb hb
          obtain ⟨_, _, hb⟩ := lnb hb
          obtain ⟨_, _, hb⟩ := lnb hb
          obtain ⟨_, _, hb⟩ := lnb hb
          cases hb
          simpa using hs
        · cases hb
      · rintro ⟨o, j⟩ s' hs hb
        simp only [Qy] at hb hs
        unfold Zv at hb
        obtain ⟨_, _, hb⟩ := lnb hb
        obtain ⟨_, _, hb⟩ := lnb hb
        obtain ⟨_, _, hb⟩ := lnb hb
        split at hb
        · obtain ⟨_, _, hb⟩ := lnb hb
          obtain ⟨_, _, hb⟩ := lnb hb
          obtain ⟨_, _, hb⟩ := lnb hb
          obtain ⟨_, _, hb⟩ := lnb hb
          cases hb
        · cases hb; exact hs
    · cases hb
  · rintro ⟨o, i⟩ s' hs hb
    simp only [Qy] at hb hs
    unfold Zt at hb
    split at hb
    · obtain ⟨o2, h2, hb⟩ := lnb hb
      cases hb
    · cases hb; exact hs
theorem Qd {data : List Int} {a b n : Int} {cmp : Int → Int → Option Int} {r : List Int} (h : Zx data a b n cmp = some r) : r.length = data.length := by
  unfold Zx at h
  refine XV (body := t2 (ZQ a b n)) (fun x => x.1.length = data.length) (fun o => o.length = data.length) ?_ ?_ rfl h
  · rintro ⟨o, i⟩ s' hs hb
    simp only [Qy] at hb hs
    unfold ZQ at hb
    split at hb
    · obtain ⟨_, _, hb⟩ := lnb hb
      obtain ⟨_, _, hb⟩ := lnb hb
      obtain ⟨_, _, hb⟩ := lnb hb
      obtain ⟨_, _, hb⟩ := lnb hb
      cases hb
      simpa using hs
    · cases hb
  · rintro ⟨o, i⟩ s' hs hb
    simp only [Qy] at hb hs
    unfold ZQ at hb
    split at hb
    · obtain ⟨_, _, hb⟩ := lnb hb
      obtain ⟨_, _, hb⟩ := lnb hb
      obtain ⟨_, _, hb⟩ := lnb hb
      obtain ⟨_, _, hb⟩ := lnb hb
      cases hb
    · cases hb; exact hs
theorem Zaa {data : List Int} {a m b : Int} {cmp : Int → Int → Option Int} {r : List Int} (h : Z0 data a m b cmp = some r) : r.length = data.length := by
  unfold Z0 at h
  obtain ⟨⟨o, i⟩, ho, h⟩ := lnb h
  simp only [Qy] at h
  obtain ⟨y, hy, h⟩ := lnb h
  cases h
  refine (Qd hy).trans ?_
  refine XV (body := t3 (ZZ m cmp)) (fun x => x.1.length = data.length) (fun o => o.1.length = data.length) ?_ ?_ rfl ho
  · rintro ⟨o, i, j⟩ s' hs hb
    simp only [Zbz] at hb hs
    unfold ZZ at hb
    split at hb
    · split at hb
      · obtain ⟨z, hz, hb⟩ := lnb hb
        cases hb
        exact (Qd hz).trans hs
      · obtain ⟨z, hz, hb⟩ := lnb hb
        cases hb
        exact (Qd hz).trans hs
    · cases hb
  · rintro ⟨o, i, j⟩ s' hs hb
    simp only [Zbz] at hb hs
    unfold ZZ at hb
    split at hb
    · split at hb
      · obtain ⟨z, hz, hb⟩ := lnb hb
        cases hb
      · obtain ⟨z, hz, hb⟩ := lnb hb
        cases hb
    · cases hb; exact hs
theorem ZlA {rec_ : List Int → Int → Int → Int → (Int → Int → Option Int) → Option (List Int)} {data : List Int} {a m b : Int} {cmp : Int → Int → Option Int} {r : List Int}
    (hr : ∀ {data : List Int} {a m b : Int} {cmp : Int → Int → Option Int} {r : List Int}, rec_ data a m b cmp = some r → r.length = data.length) (h : ZW rec_ data a m b cmp = some r) : r.length = data.length := by
  unfold ZW at h
  split at h
  · obtain ⟨i, _, h⟩ := lnb h
    simp only [Qx] at h
    obtain ⟨o, ho, h⟩ := lnb h
    cases h
    refine XV (body := t2 (Zz i)) (fun x => x.1.length = data.length) (fun o => o.length = data.length) ?_ ?_ rfl ho
    · rintro ⟨o, k⟩ s' hs hb
      simp only [Qy] at hb hs
      unfold Zz at hb
      split at hb
      · obtain ⟨_, _, hb⟩ := lnb hb
        obtain ⟨_, _, hb⟩ := lnb hb
        obtain ⟨_, _, hb⟩ := lnb hb
        obtain ⟨_, _, hb⟩ := lnb hb
        cases hb
        simpa using hs
      · cases hb
    · rintro ⟨o, k⟩ s' hs hb
      simp only [Qy] at hb hs
      unfold Zz at hb
      split at hb
      · obtain ⟨_, _, hb⟩ := lnb hb
        obtain ⟨_, _, hb⟩ := lnb hb
        obtain ⟨_, _, hb⟩ := lnb hb
        obtain ⟨_, _, hb⟩ := lnb hb
        cases hb
      · cases hb; exact hs
  · split at h
    · obtain ⟨i, _, h⟩ := lnb h
      simp only [Qx] at h
      obtain ⟨o, ho, h⟩ := lnb h
      cases h
      refine XV (body := t2 (ZA i)) (fun x => x.1.length = data.length) (fun o => o.length = data.length) ?_ ?_ rfl ho
      · rintro ⟨o, k⟩ s' hs hb
        simp only [Qy] at hb hs
        unfold ZA at hb
        split at hb
        · obtain ⟨_, _, hb⟩ := lnb hb
          obtain ⟨_, _, hb⟩ := lnb hb
          obtain ⟨_, _, hb⟩ := lnb hb
          obtain ⟨_, _, hb⟩ := lnb hb
          cases hb
          simpa using hs
        · cases hb
      · rintro ⟨o, k⟩ s' hs hb
        simp only [Qy] at hb hs
        unfold ZA at hb
        split at hb
        · obtain ⟨_, _, hb⟩ := lnb hb
          obtain ⟨_, _, hb⟩ := lnb hb
          obtain ⟨_, _, hb⟩ := lnb hb
          obtain ⟨_, _, hb⟩ := lnb hb
          cases hb
        · cases hb; exact hs
    · obtain ⟨q3, _, h⟩ := lnb h
      obtain ⟨⟨st, rr⟩, _, h⟩ := lnb h
      simp only [Qy] at h
      obtain ⟨s2, _, h⟩ := lnb h
      simp only [Qx] at h
      obtain ⟨o5, h5, h⟩ := lnb h
      simp only [Qx] at h
      obtain ⟨o6, h6, h⟩ := lnb h
      simp only [Qx] at h
      have l5 : o5.length = data.length := by
        split at h5
        · obtain ⟨z, hz, h5⟩ := lnb h5
          cases h5
          exact Zaa hz
        · cases h5; rfl
      have l6 : o6.length = data.length := by
        split at h6
        · obtain ⟨z, hz, h6⟩ := lnb h6
          cases h6
          exact (hr hz).trans l5
        · cases h6; exact l5
      split at h
      · obtain ⟨z, hz, h⟩ := lnb h
        cases h
        exact (hr hz).trans l6
      · cases h; exact l6
theorem Qi {n_ : Nat} {data : List Int} {a m b : Int} {cmp : Int → Int → Option Int} {r : List Int} (h : ZC n_ data a m b cmp = some r) : r.length = data.length := by
  induction n_ generalizing data a m b cmp r with
  | zero => cases h
  | succ n ih => exact ZlA (rec_ := ZC n) (fun h => ih h) h
theorem Zcr {data : List Int} {n : Int} {cmp : Int → Int → Option Int} {r : List Int} (hy : Qt data n cmp = some r) : r.length = data.length := by
  unfold Qt at hy
  obtain ⟨⟨o, a⟩, ho, hy⟩ := lnb hy
  simp only [Qy] at hy
  obtain ⟨y2, hy2, hy⟩ := lnb hy
  have h1 : o.length = data.length := by
    refine XV (body := t3 (ZO n cmp)) (fun s => s.1.length = data.length) (fun q => q.1.length = data.length) ?_ ?_ rfl ho
    · rintro ⟨o, a, b⟩ s' hs hb
      simp only [Zbz] at hb hs
      unfold ZO at hb
      split at hb
      · obtain ⟨z, hz, hb⟩ := lnb hb
        cases hb
        exact (Qm hz).trans hs
      · cases hb
    · rintro ⟨o, a, b⟩ s' hs hb
      simp only [Zbz] at hb hs
      unfold ZO at hb
      split at hb
      · obtain ⟨z, hz, hb⟩ := lnb hb
        cases hb
      · cases hb; exact hs
  have h2 : y2.length = data.length := (Qm hy2).trans h1
  have inner : ∀ (bs : Int) (s : List Int) (q : List Int × Int), s.length = data.length → loop (t3 (ZI n cmp bs)) (s, 0, i64 (2 * bs)) = some q → q.1.length = data.length := by
    intro bs s q hs hq
    refine XV (body := t3 (ZI n cmp bs)) (fun s => s.1.length = data.length) (fun q => q.1.length = data.length) ?_ ?_ hs hq
    · rintro ⟨o, a, b⟩ s' hs hb
      simp only [Zbz] at hb hs
      unfold ZI at hb
      split at hb
      · obtain ⟨z, hz, hb⟩ := lnb hb
        cases hb
        exact (Qi hz).trans hs
      · cases hb
    · rintro ⟨o, a, b⟩ s' hs hb
      simp only [Zbz] at hb hs
      unfold ZI at hb
      split at hb
      · obtain ⟨z, hz, hb⟩ := lnb hb
        cases hb
      · cases hb; exact hs
  refine XV (body := t2 (ZJ n cmp)) (fun s => s.1.length = data.length) (fun q => q.length = data.length) ?_ ?_ h2 hy
  · rintro ⟨o, bs⟩ s' hs hb
    simp only [Qy] at hb hs
    unfold ZJ at hb
    split at hb
    · obtain ⟨⟨o4, a3⟩, h4, hb⟩ := lnb hb
      simp only [Qy] at hb
      have l4 := inner bs o _ hs h4
      split at hb
      · obtain ⟨z, hz, hb⟩ := lnb hb
        cases hb
        exact (Qi hz).trans l4
      · cases hb; exact l4
    · cases hb
  · rintro ⟨o, bs⟩ s' hs hb
    simp only [Qy] at hb hs
    unfold ZJ at hb
    split at hb
    · obtain ⟨⟨o4, a3⟩, h4, hb⟩ := lnb hb
      simp only [Qy] at hb
      split at hb
      · obtain ⟨z, hz, hb⟩ := lnb hb
        cases hb
      · cases hb
    · cases hb; exact hs
theorem ZbK {x : List Int} {cmp : Int → Int → Option Int} {r : List Int} (h : ZU x cmp = some r) : r.length = x.length := by
  unfold ZU at h
  obtain ⟨y, hy, h⟩ := lnb h
  cases h
  exact Zcr hy
end Go.Vx

namespace Go.Vx
open Go Go.RowKit
theorem Zdr {σ ρ : Type} {body : σ → Option (σ ⊕ ρ)} {s s' : σ} {r : ρ} (h : body s = some (.inl s')) (k : loop body s' = some r) : loop body s = some r := by
  rw [Zev, h]; exact k
theorem ZaA {σ ρ : Type} {body : σ → Option (σ ⊕ ρ)} {s : σ} {r : ρ} (h : body s = some (.inr r)) : loop body s = some r := by
  rw [Zev, h]; rfl
theorem ZiO {body : Int → Int → Option ((Int × Int) ⊕ Int)} (P : Nat → Bool) {lo hi : Nat} (hle : lo ≤ hi)
    (hst : ∀ i j : Nat, lo ≤ i → i < j → j ≤ hi → body i j = some (.inl (if P ((i + j) / 2) = true then ((((i + j) / 2 + 1 : Nat) : Int), (j : Int)) else ((i : Int), (((i + j) / 2 : Nat) : Int)))))
    (hend : ∀ i : Nat, lo ≤ i → i ≤ hi → body i i = some (.inr (i : Int))) :
    ∃ s, lo ≤ s ∧ s ≤ hi ∧ loop (t2 body) ((lo : Int), (hi : Int)) = some (s : Int) ∧ (lo < s → P (s - 1) = true) ∧ (s < hi → P s = false) := by
  suffices H : ∀ n i j : Nat, j - i = n → lo ≤ i → i ≤ j → j ≤ hi → (lo < i → P (i - 1) = true) → (j < hi → P j = false) →
      ∃ s, lo ≤ s ∧ s ≤ hi ∧ loop (t2 body) ((i : Int), (j : Int)) = some (s : Int) ∧ (lo < s → P (s - 1) = true) ∧ (s < hi → P s = false) from
    H _ lo hi rfl (Nat.le_refl _) hle (Nat.le_refl _) (fun h => absurd h (Nat.lt_irrefl _)) (fun h => absurd h (Nat.lt_irrefl _))
  intro n
  induction n using Nat.strongRecOn with
  | _ n ih =>
    intro i j hn h1 h2 h3 h4 h5
    rcases Nat.lt_or_ge i j with h | h
    · by_cases hP : P ((i + j) / 2) = true
      · obtain ⟨s, a1, a2, a3, a4, a5⟩ := ih (j - ((i + j) / 2 + 1)) (by omega) ((i + j) / 2 + 1) j rfl (by omega) (by omega) h3 (fun _ => by simpa using hP) h5
        exact ⟨s, a1, a2, Zdr (by simp only [Qy]; rw [hst i j h1 h h3, if_pos hP]) a3, a4, a5⟩
      · obtain ⟨s, a1, a2, a3, a4, a5⟩ := ih ((i + j) / 2 - i) (by omega) i ((i + j) / 2) rfl h1 (by omega) (by omega) h4 (fun _ => by simpa using hP)
        exact ⟨s, a1, a2, Zdr (by simp only [Qy]; rw [hst i j h1 h h3, if_neg hP]) a3, a4, a5⟩
    · have : i = j := by omega
      subst this
      exact ⟨i, h1, h3, ZaA (by simp only [Qy]; exact hend i h1 h3), h4, h5⟩
def LtK (key : Int → Int) (x y : Int) : Prop := key x < key y ∨ (key x = key y ∧ x < y)
theorem LtK.trans {key : Int → Int} {x y z : Int} (h : LtK key x y) (h2 : LtK key y z) : LtK key x z := by unfold LtK at *; omega
theorem LtK.of_not {key : Int → Int} {x y : Int} (h : ¬ LtK key x y) (hne : x ≠ y) : LtK key y x := by unfold LtK at *; omega
theorem LtK.of_lt {key : Int → Int} {x y : Int} (h : y < x) : LtK key x y ↔ key x < key y := by unfold LtK; omega
abbrev Srt (key : Int → Int) (l : List Int) : Prop := l.Pairwise (LtK key)
theorem Srt.app {key : Int → Int} {l m : List Int} (hl : Srt key l) (hm : Srt key m) (h : ∀ x ∈ l, ∀ y ∈ m, LtK key x y) : Srt key (l ++ m) := List.pairwise_append.2 ⟨hl, hm, h⟩
theorem Srt.fst {key : Int → Int} {l m : List Int} (h : Srt key (l ++ m)) : Srt key l := (List.pairwise_append.1 h).1
theorem Srt.snd {key : Int → Int} {l m : List Int} (h : Srt key (l ++ m)) : Srt key m := (List.pairwise_append.1 h).2.1
theorem Srt.mid {key : Int → Int} {l m : List Int} (h : Srt key (l ++ m)) : ∀ x ∈ l, ∀ y ∈ m, LtK key x y := (List.pairwise_append.1 h).2.2
theorem below {key : Int → Int} {l m : List Int} {x y : Int} (hl : Srt key (l ++ [x])) (hm : Srt key (y :: m)) (h : LtK key x y) : ∀ a ∈ l ++ [x], ∀ b ∈ y :: m, LtK key a b := by
  have h1 : ∀ a ∈ l ++ [x], a = x ∨ LtK key a x := by
    intro a ha
    rcases List.mem_append.1 ha with q | q
    · exact .inr (hl.mid a q x (List.mem_singleton.2 rfl))
    · exact .inl (List.mem_singleton.1 q)
  have h2 : ∀ b ∈ y :: m, b = y ∨ LtK key y b := by
    intro b hb
    rcases List.mem_cons.1 hb with q | q
    · exact .inl q
    · exact .inr ((List.pairwise_cons.1 hm).1 b q)
  intro a ha b hb
  rcases h1 a ha with rfl | q <;> rcases h2 b hb with rfl | q2
  · exact h
  · exact h.trans q2
  · exact q.trans h
  · exact q.trans (h.trans q2)
theorem Zml {α : Type} {l : List α} (h : l ≠ []) : ∃ m x, l = m ++ [x] := by
  rcases List.eq_nil_or_concat l with rfl | ⟨l', x, rfl⟩
  · exact absurd rfl h
  · exact ⟨l', x, List.concat_eq_append ..⟩
theorem Zed {key : Int → Int} {l m : List Int} (hl : Srt key l) (hm : Srt key m) (h : ∀ x y, l.getLast? = some x → m.head? = some y → LtK key x y) : ∀ a ∈ l, ∀ b ∈ m, LtK key a b := by
  rcases List.eq_nil_or_concat l with rfl | ⟨l', x, rfl⟩
  · intro a ha; cases ha
  · cases m with
    | nil => intro a _ b hb; cases hb
    | cons y m =>
      rw [List.concat_eq_append] at hl h ⊢
      exact below hl hm (h x y (by simp) rfl)
theorem ZoA {α : Type} {L X R : List α} {i : Nat} (h : i < X.length) : (L ++ X ++ R)[L.length + i]? = X[i]? := by
  rw [List.append_assoc, List.getElem?_append_right (by omega), List.getElem?_append_left (by omega)]
  congr 1; omega
theorem ZlF {α : Type} {L R : List α} {x y : α} : (L ++ x :: R).set L.length y = L ++ y :: R := by
  rw [List.set_append, if_neg (Nat.lt_irrefl _), Nat.sub_self]; rfl
end Go.Vx

namespace Go.Vx
open Go Go.RowKit
theorem Zgz {L M R : List Int} {x y : Int} : ((L ++ x :: M ++ y :: R).set L.length y).set (L.length + 1 + M.length) x = L ++ y :: M ++ x :: R := by
  have h1 : (L ++ x :: M ++ y :: R).set L.length y = L ++ y :: M ++ y :: R := by
    rw [List.append_assoc, List.cons_append, ZlF, List.append_assoc, List.cons_append]
  have h2 : (L ++ y :: M).length = L.length + 1 + M.length := by simp; omega
  rw [h1, ← h2, ZlF]
theorem Zpi {body : List Int → Int → Option ((List Int × Int) ⊕ List Int)} {n a b : Nat}
    (hst : ∀ (L M R : List Int) (x y : Int) (i : Nat), i < n → L.length = a + i → L.length + 1 + M.length = b + i → body (L ++ x :: M ++ y :: R) i = some (.inl (L ++ y :: M ++ x :: R, (i : Int) + 1)))
    (hend : ∀ d, body d n = some (.inr d)) :
    ∀ (A B L M R : List Int) (i : Nat), A.length = B.length → i + A.length = n → L.length = a + i → L.length + A.length + M.length = b + i →
      loop (t2 body) (L ++ A ++ M ++ B ++ R, (i : Int)) = some (L ++ B ++ M ++ A ++ R) := by
  intro A
  induction A with
  | nil =>
    intro B L M R i h1 h2 h3 h4
    have : B = [] := List.length_eq_zero_iff.1 h1.symm
    subst this
    simp only [List.length_nil, Nat.add_zero] at h2
    subst h2
    exact ZaA (by simp only [Qy]; exact hend _)
  | cons x A ih =>
    intro B L M R i h1 h2 h3 h4
    cases B with
    | nil => cases h1
    | cons y B =>
      simp only [List.length_cons] at h1 h2 h4
      have e := hst L (A ++ M) (B ++ R) x y i (by omega) h3 (by rw [List.length_append]; omega)
      have k := ih B (L ++ [y]) (M ++ [x]) R (i + 1) (by omega) (by omega) (by simp; omega) (by simp; omega)
      refine Zdr (s' := (L ++ [y] ++ A ++ (M ++ [x]) ++ B ++ R, ((i + 1 : Nat) : Int))) ?_ ?_
      · simp only [Qy]
        rw [show L ++ x :: A ++ M ++ y :: B ++ R = L ++ x :: (A ++ M) ++ y :: (B ++ R) by simp, e]
        simp
      · rw [k]; simp
theorem Zpw {body : List Int → Int → Option ((List Int × Int) ⊕ List Int)} {e : Nat}
    (hst : ∀ (L R : List Int) (x y : Int), L.length < e → body (L ++ x :: y :: R) L.length = some (.inl (L ++ y :: x :: R, (L.length : Int) + 1)))
    (hend : ∀ d, body d e = some (.inr d)) :
    ∀ (A L R : List Int) (x : Int), L.length + A.length = e → loop (t2 body) (L ++ x :: (A ++ R), (L.length : Int)) = some (L ++ A ++ x :: R) := by
  intro A
  induction A with
  | nil =>
    intro L R x h
    simp only [List.length_nil, Nat.add_zero] at h
    rw [List.append_nil]
    exact ZaA (by simp only [Qy]; rw [h]; exact hend _)
  | cons y A ih =>
    intro L R x h
    simp only [List.length_cons] at h
    have k := ih (L ++ [y]) R x (by simp; omega)
    refine Zdr (s' := (L ++ [y] ++ x :: (A ++ R), (((L ++ [y]).length : Nat) : Int))) ?_ ?_
    · simp only [Qy]
      rw [List.cons_append, hst L (A ++ R) x y (by omega)]
      simp
    · rw [k]; simp
theorem Zpb {body : List Int → Int → Option ((List Int × Int) ⊕ List Int)} {e N : Nat}
    (hst : ∀ (L R : List Int) (x y : Int), e < L.length + 1 → L.length < N → body (L ++ x :: y :: R) ((L.length : Int) + 1) = some (.inl (L ++ y :: x :: R, (L.length : Int))))
    (hend : ∀ d, body d e = some (.inr d)) :
    ∀ (n : Nat) (A L R : List Int) (y : Int), A.length = n → L.length = e → L.length + A.length ≤ N → loop (t2 body) (L ++ A ++ y :: R, (L.length : Int) + A.length) = some (L ++ y :: (A ++ R)) := by
  intro n
  induction n with
  | zero =>
    intro A L R y hn h hN
    have : A = [] := List.length_eq_zero_iff.1 hn
    subst this
    rw [List.append_nil]
    exact ZaA (by simp only [Qy, List.length_nil]; rw [h]; simpa using hend _)
  | succ n ih =>
    intro A L R y hn h hN
    obtain ⟨A, x, rfl⟩ := Zml (l := A) (by intro q; rw [q] at hn; cases hn)
    have hA : A.length = n := by simpa using hn
    rw [List.length_append] at hN
    simp only [List.length_cons, List.length_nil] at hN
    have k := ih A L (x :: R) y hA h (by omega)
    refine Zdr (s' := (L ++ A ++ y :: x :: R, (L.length : Int) + A.length)) ?_ ?_
    · simp only [Qy]
      have := hst (L ++ A) R x y (by simp; omega) (by rw [List.length_append]; omega)
      rw [show L ++ (A ++ [x]) ++ y :: R = L ++ A ++ x :: y :: R by simp]
      rw [List.length_append] at this
      simp only [List.length_append, List.length_cons, List.length_nil]
      rw [show (L.length : Int) + ((A.length + (0 + 1) : Nat) : Int) = ((L.length + A.length : Nat) : Int) + 1 by omega, this]
      rw [show ((L.length + A.length : Nat) : Int) = (L.length : Int) + A.length by omega]
    · rw [k]; simp
end Go.Vx

namespace Go.Vx
open Go Go.RowKit
theorem Zp5 {body : List Int → Int → Int → Option ((List Int × Int × Int) ⊕ (List Int × Int))} {sr : List Int → Int → Int → Int → Option (List Int)} {m N : Nat}
    (hsr : ∀ (L A M B R : List Int), A.length = B.length → L.length + A.length + M.length + B.length + R.length = N → sr (L ++ A ++ M ++ B ++ R) (L.length : Int) ((L.length + A.length + M.length : Nat) : Int) (A.length : Int) = some (L ++ B ++ M ++ A ++ R))
    (hb : ∀ (o : List Int) (i j : Nat), i ≤ m → m + j ≤ N → body o i j = if i = j then some (.inr (o, (i : Int))) else if j < i then (sr o ((m - i : Nat) : Int) (m : Int) (j : Int)).bind fun y => some (.inl (y, ((i - j : Nat) : Int), (j : Int)))
      else (sr o ((m - i : Nat) : Int) ((m + j - i : Nat) : Int) (i : Int)).bind fun y => some (.inl (y, (i : Int), ((j - i : Nat) : Int)))) :
    ∀ (n : Nat) (X Y L R : List Int), X.length + Y.length = n → X ≠ [] → Y ≠ [] → L.length + X.length = m → L.length + X.length + Y.length + R.length = N →
      ∃ (o' : List Int) (i' : Nat), loop (t3 body) (L ++ X ++ Y ++ R, (X.length : Int), (Y.length : Int)) = some (o', (i' : Int)) ∧ i' ≤ m ∧ sr o' ((m - i' : Nat) : Int) (m : Int) (i' : Int) = some (L ++ Y ++ X ++ R) := by
  intro n
  induction n using Nat.strongRecOn with
  | _ n ih =>
    intro X Y L R hn hX hY hm hN
    have pX := List.length_pos_iff.2 hX
    have pY := List.length_pos_iff.2 hY
    have hb' := hb (L ++ X ++ Y ++ R) X.length Y.length (by omega) (by omega)
    rcases Nat.lt_trichotomy X.length Y.length with h | h | h
    · rw [if_neg (by omega), if_neg (by omega)] at hb'
      have e1 : (Y.take (Y.length - X.length)).length = Y.length - X.length := by rw [List.length_take]; omega
      have e2 : (Y.drop (Y.length - X.length)).length = X.length := by rw [List.length_drop]; omega
      have hs := hsr L X (Y.take (Y.length - X.length)) (Y.drop (Y.length - X.length)) R e2.symm (by omega)
      rw [e1] at hs
      rw [show L ++ X ++ Y.take (Y.length - X.length) ++ Y.drop (Y.length - X.length) ++ R = L ++ X ++ Y ++ R by rw [List.append_assoc (L ++ X), List.take_append_drop],
        show (L.length : Int) = ((m - X.length : Nat) : Int) by omega, show L.length + X.length + (Y.length - X.length) = m + Y.length - X.length by omega] at hs
      rw [hs, Option.bind_some] at hb'
      obtain ⟨o', i', h1, h2, h3⟩ := ih Y.length (by omega) (Y.drop (Y.length - X.length)) (Y.take (Y.length - X.length)) L (X ++ R) (by omega) (by intro q; rw [q] at e2; simp at e2; omega) (by intro q; rw [q] at e1; simp at e1; omega) (by omega) (by rw [List.length_append]; omega)
      refine ⟨o', i', Zdr (by simp only [Zbz]; exact hb') ?_, h2, ?_⟩
      · rw [e1, e2] at h1
        rw [← h1]; congr 2; simp
      · rw [h3]; congr 1
        rw [List.append_assoc L, List.take_append_drop]; simp
    · rw [if_pos h] at hb'
      refine ⟨L ++ X ++ Y ++ R, X.length, ZaA (by simp only [Zbz]; exact hb'), by omega, ?_⟩
      have hs := hsr L X [] Y R h (by simp; omega)
      simp only [List.append_nil, List.length_nil, Nat.add_zero] at hs
      rw [show ((m - X.length : Nat) : Int) = (L.length : Int) by omega, show (m : Int) = ((L.length + X.length : Nat) : Int) by omega]
      exact hs
    · rw [if_neg (by omega), if_pos h] at hb'
      have e1 : (X.take Y.length).length = Y.length := by rw [List.length_take]; omega
      have e2 : (X.drop Y.length).length = X.length - Y.length := by rw [List.length_drop]
      have hs := hsr L (X.take Y.length) (X.drop Y.length) Y R e1 (by omega)
      rw [e1, e2] at hs
      rw [show L ++ X.take Y.length ++ X.drop Y.length ++ Y ++ R = L ++ X ++ Y ++ R by rw [List.append_assoc L, List.take_append_drop],
        show (L.length : Int) = ((m - X.length : Nat) : Int) by omega, show L.length + Y.length + (X.length - Y.length) = m by omega] at hs
      rw [hs, Option.bind_some] at hb'
      obtain ⟨o', i', h1, h2, h3⟩ := ih X.length (by omega) (X.drop Y.length) (X.take Y.length) (L ++ Y) R (by omega) (by intro q; rw [q] at e2; simp at e2; omega) (by intro q; rw [q] at e1; simp at e1; omega) (by rw [List.length_append]; omega) (by rw [List.length_append]; omega)
      refine ⟨o', i', Zdr (by simp only [Zbz]; exact hb') ?_, h2, ?_⟩
      · rw [e1, e2] at h1; exact h1
      · rw [h3]; congr 1
        rw [List.append_assoc (L ++ Y), List.take_append_drop]
theorem Zo4 {key : Int → Int} {X Y : List Int} {a m b s : Nat} (ha : a + X.length = m) (hb : m + Y.length = b) (hX : Srt key X) (hY : Srt key Y) (mid : Nat) (hmid : mid = (a + b) / 2)
    (lo hi : Nat) (hlo : lo = if mid < m then mid + m - b else a) (hhi : hi = if mid < m then mid else m) (h1 : lo ≤ s) (h2 : s ≤ hi)
    (p1 : lo < s → ∀ x y, X[s - 1 - a]? = some x → Y[mid - s]? = some y → LtK key x y) (p2 : s < hi → ∀ x y, X[s - a]? = some x → Y[mid - s - 1]? = some y → LtK key y x) :
    (∀ x ∈ X.take (s - a), ∀ y ∈ Y.drop (mid - s), LtK key x y) ∧ (∀ y ∈ Y.take (mid - s), ∀ x ∈ X.drop (s - a), LtK key y x) := by
  have hsX : Srt key (X.take (s - a)) := hX.sublist (List.take_sublist ..)
  have hdX : Srt key (X.drop (s - a)) := hX.sublist (List.drop_sublist ..)
  have hsY : Srt key (Y.take (mid - s)) := hY.sublist (List.take_sublist ..)
  have hdY : Srt key (Y.drop (mid - s)) := hY.sublist (List.drop_sublist ..)
  constructor
  · refine Zed hsX hdY fun x y hx hy => ?_
    rw [List.head?_drop] at hy
    rw [List.getLast?_eq_getElem?, List.length_take] at hx
    have l1 := (List.getElem?_eq_some_iff.1 hy).1
    have l2 := (List.getElem?_eq_some_iff.1 hx).1
    rw [List.length_take] at l2
    have hl : lo < s := by
      split at hlo <;> omega
    rw [List.getElem?_take_of_lt (by omega)] at hx
    refine p1 hl x y ?_ hy
    rw [← hx]; congr 1
    split at hhi <;> omega
  · refine Zed hsY hdX fun x y hx hy => ?_
    rw [List.head?_drop] at hy
    rw [List.getLast?_eq_getElem?, List.length_take] at hx
    have l1 := (List.getElem?_eq_some_iff.1 hy).1
    have l2 := (List.getElem?_eq_some_iff.1 hx).1
    rw [List.length_take] at l2
    have hl : s < hi := by
      split at hhi <;> omega
    rw [List.getElem?_take_of_lt (by omega)] at hx
    refine p2 hl y x hy ?_
    rw [← hx]; congr 1
    split at hlo <;> omega
end Go.Vx

namespace Go.Vx
open Go Go.RowKit
theorem Zp3 {key : Int → Int} {D : Int → Prop} {body : List Int → Int → Option ((List Int × Int) ⊕ List Int)} {a N : Nat}
    (hst : ∀ (P Q : List Int) (x y : Int), D x → D y → a ≤ P.length → P.length < N → body (P ++ y :: x :: Q) ((P.length : Int) + 1) = some (if key x < key y then .inl (P ++ x :: y :: Q, (P.length : Int)) else .inr (P ++ y :: x :: Q)))
    (hend : ∀ d, body d a = some (.inr d)) {L : List Int} (hL : L.length = a) (R : List Int) {x : Int} (hx : D x) :
    ∀ (n : Nat) (S1 S2 : List Int), S1.length = n → L.length + S1.length ≤ N → Srt key (S1 ++ S2) → (∀ y ∈ S1, D y ∧ y < x) → (∀ z ∈ S2, LtK key x z) →
      ∃ S', loop (t2 body) (L ++ S1 ++ x :: (S2 ++ R), ((L.length + S1.length : Nat) : Int)) = some (L ++ S' ++ R) ∧ S'.Perm (S1 ++ x :: S2) ∧ Srt key S' := by
  intro n
  induction n with
  | zero =>
    intro S1 S2 hn hN hs h1 h2
    have : S1 = [] := List.length_eq_zero_iff.1 hn
    subst this
    refine ⟨x :: S2, ZaA ?_, by simp, List.pairwise_cons.2 ⟨h2, hs⟩⟩
    simp only [Qy, List.append_nil, List.length_nil, Nat.add_zero]
    rw [hL, hend]; simp
  | succ n ih =>
    intro S1 S2 hn hN hs h1 h2
    obtain ⟨S1, y, rfl⟩ := Zml (l := S1) (by intro q; rw [q] at hn; cases hn)
    have hy := h1 y (by simp)
    rw [List.length_append] at hN
    simp only [List.length_cons, List.length_nil] at hN
    have e := hst (L ++ S1) (S2 ++ R) x y hx hy.1 (by simp; omega) (by rw [List.length_append]; omega)
    have ee : L ++ (S1 ++ [y]) ++ x :: (S2 ++ R) = L ++ S1 ++ y :: x :: (S2 ++ R) := by simp
    have el : ((L.length + (S1 ++ [y]).length : Nat) : Int) = (((L ++ S1).length : Nat) : Int) + 1 := by simp; omega
    rw [ee, el]
    by_cases hk : key x < key y
    · rw [if_pos hk] at e
      obtain ⟨S', k1, k2, k3⟩ := ih S1 (y :: S2) (by simpa using hn) (by omega) (by simpa using hs) (fun z hz => h1 z (by simp [hz])) (fun z hz => by
        rcases List.mem_cons.1 hz with rfl | q
        · exact .inl hk
        · exact h2 z q)
      refine ⟨S', Zdr (by simp only [Qy]; exact e) ?_, k2.trans ?_, k3⟩
      · rw [List.length_append]; exact k1
      · simp only [List.append_assoc, List.cons_append, List.nil_append]
        exact List.Perm.append_left _ (List.Perm.swap ..)
    · rw [if_neg hk] at e
      refine ⟨S1 ++ [y] ++ x :: S2, ZaA (by simp only [Qy]; rw [e]; simp), .refl _, ?_⟩
      have hyx : LtK key y x := LtK.of_not (fun q => hk ((LtK.of_lt hy.2).1 q)) (by omega)
      have hs1 := hs.fst
      refine hs1.app (List.pairwise_cons.2 ⟨h2, hs.snd⟩) fun p hp q hq => ?_
      have hpx : LtK key p x := by
        rcases List.mem_append.1 hp with w | w
        · exact (hs1.mid p w y (by simp)).trans hyx
        · rw [List.mem_singleton.1 w]; exact hyx
      rcases List.mem_cons.1 hq with rfl | w
      · exact hpx
      · exact hpx.trans (h2 q w)
theorem ZpU {key : Int → Int} {D : Int → Prop} {body1 body2 : List Int → Int → Option ((List Int × Int) ⊕ List Int)} {a b : Nat}
    (hst : ∀ (P Q : List Int) (x y : Int), D x → D y → a ≤ P.length → P.length < b → body2 (P ++ y :: x :: Q) ((P.length : Int) + 1) = some (if key x < key y then .inl (P ++ x :: y :: Q, (P.length : Int)) else .inr (P ++ y :: x :: Q)))
    (hend : ∀ d, body2 d a = some (.inr d))
    (h1 : ∀ o (i : Nat), i < b → body1 o i = (loop (t2 body2) (o, (i : Int))).bind (fun o2 => some (.inl (o2, (i : Int) + 1))))
    (h2 : ∀ o (i : Nat), b ≤ i → body1 o i = some (.inr o)) {L : List Int} (hL : L.length = a) (R : List Int) :
    ∀ (T S : List Int), L.length + S.length + T.length = b → Srt key S → (∀ y ∈ S ++ T, D y) → (∀ x ∈ S, ∀ y ∈ T, x < y) → T.Pairwise (· < ·) →
      ∃ S', loop (t2 body1) (L ++ S ++ (T ++ R), ((L.length + S.length : Nat) : Int)) = some (L ++ S' ++ R) ∧ S'.Perm (S ++ T) ∧ Srt key S' := by
  intro T
  induction T with
  | nil =>
    intro S hb hs hD _ _
    refine ⟨S, ZaA ?_, by simp, hs⟩
    simp only [Qy]
    rw [h2 _ _ (by simp at hb; omega)]; simp
  | cons x T ih =>
    intro S hb hs hD hlt hT
    simp only [List.length_cons] at hb
    obtain ⟨S', k1, k2, k3⟩ := Zp3 (D := D) hst hend hL (T ++ R) (hD x (by simp)) S.length S [] rfl (by omega) (by simpa using hs) (fun y hy => ⟨hD y (by simp [hy]), hlt y hy x (by simp)⟩) (fun z hz => by cases hz)
    have hT' := List.pairwise_cons.1 hT
    have hl : S'.length = S.length + 1 := by rw [k2.length_eq]; simp
    have hm : ∀ y, y ∈ S' → y ∈ S ∨ y = x := fun y hy => by have := k2.mem_iff.1 hy; simpa using this
    obtain ⟨S'', m1, m2, m3⟩ := ih S' (by omega) k3 (fun y hy => by
      rcases List.mem_append.1 hy with q | q
      · rcases hm y q with q | rfl
        · exact hD y (by simp [q])
        · exact hD y (by simp)
      · exact hD y (by simp [q])) (fun y hy z hz => by
      rcases hm y hy with q | rfl
      · exact hlt y q z (by simp [hz])
      · exact hT'.1 z hz) hT'.2
    refine ⟨S'', Zdr (s' := (L ++ S' ++ (T ++ R), ((L.length + S'.length : Nat) : Int))) ?_ m1, m2.trans ?_, m3⟩
    · simp only [Qy]
      rw [h1 _ _ (by omega), List.cons_append, show L ++ S ++ x :: (T ++ R) = L ++ S ++ x :: ([] ++ (T ++ R)) by simp, k1, Option.bind_some]
      congr 3; omega
    · refine (k2.append_right T).trans ?_
      simp
inductive Bl (key : Int → Int) (s : Nat) : List Int → Prop
  | last (l) : l.length ≤ s → Srt key l → Bl key s l
  | cons (B r) : B.length = s → Srt key B → (∀ x ∈ B, ∀ y ∈ r, x < y) → Bl key s r → Bl key s (B ++ r)
theorem ZpC {key : Int → Int} {D : Int → Prop} {sm : List Int → Int → Int → Int → Option (List Int)} {s n : Nat} (hs0 : 0 < s)
    (hsm : ∀ L X Y R : List Int, X ≠ [] → Y ≠ [] → L.length + X.length + Y.length + R.length = n → Srt key X → Srt key Y → (∀ x ∈ X, ∀ y ∈ Y, x < y) → (∀ x ∈ X ++ Y, D x) →
      ∃ Z, sm (L ++ X ++ Y ++ R) (L.length : Int) ((L.length + X.length : Nat) : Int) ((L.length + X.length + Y.length : Nat) : Int) = some (L ++ Z ++ R) ∧ Z.Perm (X ++ Y) ∧ Srt key Z)
    {body : List Int → Int → Int → Option ((List Int × Int × Int) ⊕ (List Int × Int))}
    (hb : ∀ o (a : Nat), a ≤ n → body o a ((a + 2 * s : Nat) : Int) = if a + 2 * s ≤ n then (sm o (a : Int) ((a + s : Nat) : Int) ((a + 2 * s : Nat) : Int)).bind fun y => some (.inl (y, ((a + 2 * s : Nat) : Int), ((a + 2 * s + 2 * s : Nat) : Int))) else some (.inr (o, (a : Int)))) :
    ∀ (k : Nat) (L l : List Int), l.length = k → L.length + l.length = n → Bl key s l → (∀ x ∈ l, D x) →
      ∃ (o : List Int) (a : Nat) (l' : List Int), loop (t3 body) (L ++ l, (L.length : Int), ((L.length + 2 * s : Nat) : Int)) = some (o, (a : Int)) ∧
        a ≤ n ∧ (if a + s < n then sm o (a : Int) ((a + s : Nat) : Int) (n : Int) else some o) = some (L ++ l') ∧ l'.Perm l ∧ Bl key (2 * s) l' := by
  intro k
  induction k using Nat.strongRecOn with
  | _ k ih =>
    intro L l hk hn hB hD
    rcases Nat.lt_or_ge l.length (2 * s) with h | h
    · have hex : loop (t3 body) (L ++ l, (L.length : Int), ((L.length + 2 * s : Nat) : Int)) = some (L ++ l, (L.length : Int)) := ZaA (by
        simp only [Zbz]
        rw [hb _ _ (by omega), if_neg (by omega)])
      refine ⟨L ++ l, L.length, ?_⟩
      cases hB with
      | last _ h1 h2 =>
        exact ⟨l, hex, by omega, by rw [if_neg (by omega)], .refl _, .last l (by omega) h2⟩
      | cons B r h1 h2 h3 h4 =>
        rw [List.length_append] at h hn
        have hr : Srt key r := by
          cases h4 with
          | last _ q1 q2 => exact q2
          | cons B' r' q1 q2 q3 q4 =>
            rw [List.length_append] at h
            omega
        by_cases he : r = []
        · subst he
          exact ⟨B ++ [], hex, by omega, by rw [if_neg (by simp at hn; omega)], .refl _, .last _ (by simp; omega) (by simpa using h2)⟩
        · have pr := List.length_pos_iff.2 he
          obtain ⟨Z, e1, e2, e3⟩ := hsm L B r [] (by intro q; rw [q] at h1; simp at h1; omega) he (by simp; omega) h2 hr h3 hD
          refine ⟨Z, hex, by omega, ?_, e2, .last _ (by rw [e2.length_eq, List.length_append]; omega) e3⟩
          rw [if_pos (by omega)]
          simp only [List.append_nil] at e1
          rw [h1, show L.length + s + r.length = n by omega] at e1
          rw [← List.append_assoc]; exact e1
    · cases hB with
      | last _ h1 h2 => omega
      | cons B r h1 h2 h3 h4 =>
        rw [List.length_append] at h hn hk
        have key2 : ∃ B2 r2, r = B2 ++ r2 ∧ B2.length = s ∧ Srt key B2 ∧ (∀ x ∈ B2, ∀ y ∈ r2, x < y) ∧ Bl key s r2 := by
          cases h4 with
          | last _ q1 q2 => exact ⟨r, [], by simp, by omega, q2, (fun x _ y hy => by cases hy), Bl.last [] (by simp) List.Pairwise.nil⟩
          | cons B' r' q1 q2 q3 q4 => exact ⟨B', r', rfl, q1, q2, q3, q4⟩
        obtain ⟨B2, r2, rfl, g1, g2, g3, g4⟩ := key2
        rw [List.length_append] at h hn hk
        obtain ⟨Z, e1, e2, e3⟩ := hsm L B B2 r2 (by intro q; rw [q] at h1; simp at h1; omega) (by intro q; rw [q] at g1; simp at g1; omega) (by omega) h2 g2 (fun x hx y hy => h3 x hx y (by simp [hy])) (fun x hx => hD x (by
          rcases List.mem_append.1 hx with q | q <;> simp [q]))
        have hZ : Z.length = 2 * s := by rw [e2.length_eq, List.length_append]; omega
        obtain ⟨o, a, l', f1, fa, f2, f3, f4⟩ := ih r2.length (by omega) (L ++ Z) r2 rfl (by rw [List.length_append]; omega) g4 (fun x hx => hD x (by simp [hx]))
        refine ⟨o, a, Z ++ l', ?_, fa, by rw [f2]; simp, ?_, ?_⟩
        · refine Zdr (s' := (L ++ Z ++ r2, (((L ++ Z).length : Nat) : Int), (((L ++ Z).length + 2 * s : Nat) : Int))) ?_ f1
          simp only [Zbz]
          rw [hb _ _ (by omega), if_pos (by omega)]
          rw [h1, g1, show L.length + s + s = L.length + 2 * s by omega] at e1
          rw [show L ++ (B ++ (B2 ++ r2)) = L ++ B ++ B2 ++ r2 by simp, e1, Option.bind_some, List.length_append, hZ]
        · rw [← List.append_assoc]
          exact e2.append f3
        · refine .cons Z l' hZ e3 (fun x hx y hy => ?_) f4
          have hy' := f3.mem_iff.1 hy
          rcases List.mem_append.1 (e2.mem_iff.1 hx) with q | q
          · exact h3 x q y (by simp [hy'])
          · exact g3 x q y hy'
end Go.Vx

namespace Go.Vx
open Go Go.RowKit
theorem Zqb {key : Int → Int} {D : Int → Prop} {ins : List Int → Int → Int → Option (List Int)} {s n : Nat} (hs0 : 0 < s)
    (hin : ∀ L X R : List Int, L.length + X.length + R.length = n → X.Pairwise (· < ·) → (∀ x ∈ X, D x) →
      ∃ Z, ins (L ++ X ++ R) (L.length : Int) ((L.length + X.length : Nat) : Int) = some (L ++ Z ++ R) ∧ Z.Perm X ∧ Srt key Z)
    {body : List Int → Int → Int → Option ((List Int × Int × Int) ⊕ (List Int × Int))}
    (hb : ∀ o (a : Nat), a ≤ n → body o a ((a + s : Nat) : Int) = if a + s ≤ n then (ins o (a : Int) ((a + s : Nat) : Int)).bind fun y => some (.inl (y, ((a + s : Nat) : Int), ((a + s + s : Nat) : Int))) else some (.inr (o, (a : Int)))) :
    ∀ (k : Nat) (L l : List Int), l.length = k → L.length + l.length = n → l.Pairwise (· < ·) → (∀ x ∈ l, D x) →
      ∃ (o : List Int) (a : Nat) (l' : List Int), loop (t3 body) (L ++ l, (L.length : Int), ((L.length + s : Nat) : Int)) = some (o, (a : Int)) ∧ ins o (a : Int) (n : Int) = some (L ++ l') ∧ l'.Perm l ∧ Bl key s l' := by
  intro k
  induction k using Nat.strongRecOn with
  | _ k ih =>
    intro L l hk hn hl hD
    rcases Nat.lt_or_ge l.length s with h | h
    · obtain ⟨Z, e1, e2, e3⟩ := hin L l [] (by simpa using hn) hl hD
      rw [List.append_nil, List.append_nil, hn] at e1
      refine ⟨L ++ l, L.length, Z, ZaA (by simp only [Zbz]; rw [hb _ _ (by omega), if_neg (by omega)]), e1, e2, .last Z (by rw [e2.length_eq]; omega) e3⟩
    · have ht : (l.take s).length = s := by rw [List.length_take]; omega
      have hd : (l.drop s).length = l.length - s := List.length_drop ..
      have hp := hl
      rw [← List.take_append_drop s l] at hp
      obtain ⟨hp1, hp2, hp3⟩ := List.pairwise_append.1 hp
      obtain ⟨Z, e1, e2, e3⟩ := hin L (l.take s) (l.drop s) (by omega) hp1 (fun x hx => hD x (List.mem_of_mem_take hx))
      have hZ : Z.length = s := by rw [e2.length_eq]; omega
      obtain ⟨o, a, l', f1, f2, f3, f4⟩ := ih (l.drop s).length (by omega) (L ++ Z) (l.drop s) rfl (by rw [List.length_append]; omega) hp2 (fun x hx => hD x (List.mem_of_mem_drop hx))
      refine ⟨o, a, Z ++ l', ?_, by rw [f2]; simp, ?_, ?_⟩
      · refine Zdr (s' := (L ++ Z ++ l.drop s, (((L ++ Z).length : Nat) : Int), (((L ++ Z).length + s : Nat) : Int))) ?_ f1
        simp only [Zbz]
        rw [hb _ _ (by omega), if_pos (by omega)]
        rw [ht, List.append_assoc, List.take_append_drop] at e1
        rw [e1, Option.bind_some, List.length_append, hZ]
      · have := e2.append f3
        rw [List.take_append_drop] at this
        exact this
      · refine .cons Z l' hZ e3 (fun x hx y hy => ?_) f4
        exact hp3 x (e2.mem_iff.1 hx) y (f3.mem_iff.1 hy)
theorem Bl.one {key : Int → Int} {s : Nat} {l : List Int} (h : Bl key s l) (hl : l.length ≤ s) : Srt key l := by
  cases h with
  | last _ h1 h2 => exact h2
  | cons B r h1 h2 h3 h4 =>
    rw [List.length_append] at hl
    have : r = [] := List.length_eq_zero_iff.1 (by omega)
    subst this
    simpa using h2
theorem Zqf {key : Int → Int} {D : Int → Prop} {n : Nat} {body : List Int → Int → Option ((List Int × Int) ⊕ List Int)} 
    (hb : ∀ (o : List Int) (s : Nat), 0 < s → s ≤ 2 * n + 20 → o.length = n → Bl key s o → (∀ x ∈ o, D x) → if s < n then ∃ o', body o s = some (.inl (o', ((2 * s : Nat) : Int))) ∧ o'.Perm o ∧ Bl key (2 * s) o' else body o s = some (.inr o)) :
    ∀ (k : Nat) (o : List Int) (s : Nat), n - s = k → 0 < s → s ≤ 2 * n + 20 → o.length = n → Bl key s o → (∀ x ∈ o, D x) → ∃ o', loop (t2 body) (o, (s : Int)) = some o' ∧ o'.Perm o ∧ Srt key o' := by
  intro k
  induction k using Nat.strongRecOn with
  | _ k ih =>
    intro o s hk h0 h2 hn hB hD
    have e := hb o s h0 h2 hn hB hD
    split at e
    · obtain ⟨o', e1, e2, e3⟩ := e
      obtain ⟨o'', f1, f2, f3⟩ := ih (n - 2 * s) (by omega) o' (2 * s) rfl (by omega) (by omega) (by rw [e2.length_eq]; exact hn) e3 (fun x hx => hD x (e2.mem_iff.1 hx))
      exact ⟨o'', Zdr (by simp only [Qy]; exact e1) f1, f2.trans e2, f3⟩
    · exact ⟨o, ZaA (by simp only [Qy]; exact e), .refl _, hB.one (by omega)⟩
theorem ZeZ {key : Int → Int} : ∀ {l m : List Int}, l.Perm m → Srt key l → Srt key m → l = m
  | [], m, h, _, _ => h.nil_eq
  | x :: l, m, h, h1, h2 => by
    cases m with
    | nil => exact absurd h.length_eq (by simp)
    | cons y m =>
      have a1 := List.pairwise_cons.1 h1
      have a2 := List.pairwise_cons.1 h2
      have e : x = y := by
        have hx := h.mem_iff.1 (List.mem_cons_self ..)
        have hy := h.mem_iff.2 (List.mem_cons_self ..)
        rcases List.mem_cons.1 hx with q | q
        · exact q
        · rcases List.mem_cons.1 hy with q2 | q2
          · exact q2.symm
          · have c1 := a2.1 x q
            have c2 := a1.1 y q2
            unfold LtK at c1 c2; omega
      subst e
      rw [ZeZ (List.Perm.cons_inv h) a1.2 a2.2]
end Go.Vx

namespace Go.Vx
open Go Go.RowKit
theorem Zh {z : Int} (h1 : -9223372036854775808 ≤ z) (h2 : z ≤ 9223372036854775807) : IntKind.i64.wrap z = z := w64 h1 h2
theorem ZoY {z : Int} (h1 : 0 ≤ z) (h2 : z < 18446744073709551616) : IntKind.u64.wrap z = z := Zp0 h1 h2
@[simp] theorem ZpB {α : Type} {d : α} {o : Option α} : gd true d o = o := rfl
@[simp] theorem Zql {α : Type} {d : α} {o : Option α} : gd false d o = some d := rfl
@[simp] theorem ZlG {α : Type} {d : α} {o : Option α} : gd (true == true) d o = o := rfl
theorem Zm {α : Type} {xs : List α} {k : Nat} {x : α} (h : xs[k]? = some x) : idx xs (k : Int) = some x := by simp [idx, h]
theorem Zn0 {α : Type} {xs : List α} {k : Nat} {x : α} (h : xs[k]? = some x) : (k : Int) < (xs.length : Int) := by
  have := (List.getElem?_eq_some_iff.1 h).1; omega
theorem Xz {α : Type} {xs : List α} {k : Nat} (h : k < xs.length) : ∃ x, xs[k]? = some x := ⟨xs[k], List.getElem?_eq_getElem h⟩
theorem JX {α : Type} {xs : List α} {k : Nat} {x : α} (h : xs[k]? = some x) : xs.drop k = x :: xs.drop (k + 1) := by
  obtain ⟨hk, rfl⟩ := List.getElem?_eq_some_iff.1 h
  exact List.drop_eq_getElem_cons hk
theorem Zcg {α : Type} {xs ys : List α} (h : xs.length + ys.length ≤ 4294967296) : app xs ys = some (xs ++ ys) := by unfold app apz; rw [if_pos (by omega)]

section loops
variable {σ ρ : Type}
theorem ZdM {body : σ → Option (σ ⊕ ρ)} (I : σ → Prop) (μ : σ → Nat) (F : σ → ρ) (step : ∀ s, I s → (∃ s', body s = some (.inl s') ∧ I s' ∧ μ s' < μ s ∧ F s = F s') ∨ body s = some (.inr (F s))) :
    ∀ s, I s → loop body s = some (F s) := by
  intro s hs
  obtain ⟨r, h1, h2⟩ := ZaE (body := body) (fun s' => I s' ∧ F s = F s') μ (fun r => r = F s) (fun s' ⟨h1, h2⟩ => by
    rcases step s' h1 with ⟨s2, e1, e2, e3, e4⟩ | e
    · exact .inl ⟨s2, e1, ⟨e2, h2.trans e4⟩, e3⟩
    · exact .inr ⟨_, e, h2.symm⟩) s ⟨hs, rfl⟩
  rw [h1, h2]
variable {α : Type} {xs : List α}
theorem Zg0 {body : Int → Option (Int ⊕ ρ)} (F : Nat → ρ)
    (hstep : ∀ (k : Nat) x, xs[k]? = some x → (body k = some (.inl ((k : Int) + 1)) ∧ F k = F (k + 1)) ∨ body k = some (.inr (F k)))
    (hend : body xs.length = some (.inr (F xs.length))) : loop (t1 body) 0 = some (F 0) := by
  refine ZdM (body := t1 body) (fun i => ∃ k : Nat, i = k ∧ k ≤ xs.length) (fun i => xs.length - i.toNat) (fun i => F i.toNat) ?_ 0 ⟨0, rfl, Nat.zero_le _⟩
  rintro i ⟨k, rfl, hk⟩
  simp only [Int.toNat_natCast, Qx]
  rcases Nat.lt_or_ge k xs.length with h | h
  · obtain ⟨x, hx⟩ := Xz h
    rcases hstep k x hx with ⟨h1, h2⟩ | h1
    · exact .inl ⟨_, h1, ⟨k + 1, by push_cast; rfl, h⟩, by omega, by rw [h2]; rfl⟩
    · exact .inr h1
  · have : k = xs.length := by omega
    subst this
    exact .inr hend
end loops
end Go.Vx

namespace Go.Vx
open Go Go.RowKit
section err
variable {α ε : Type}
def Zkr {ρ : Type} (A : ε → ρ) (Z : ρ) : Option ε → ρ
  | some e => A e
  | none => Z
@[simp] theorem Zok {ρ : Type} (A : ε → ρ) (Z : ρ) (e : ε) : Zkr A Z (some e) = A e := rfl
@[simp] theorem ZoM {ρ : Type} (A : ε → ρ) (Z : ρ) : Zkr A Z none = Z := rfl
def Zgg (g : α → Option ε) : List α → Option ε
  | [] => none
  | x :: tl => match g x with | some e => some e | none => Zgg g tl
theorem Zk3 {ρ : Type} {xs : List α} (g : α → Option ε) (A : ε → ρ) (Z : ρ) {body : Int → Option (Int ⊕ ρ)}
    (h : ∀ (k : Nat) x, xs[k]? = some x → body k = match g x with | some e => some (.inr (A e)) | none => some (.inl ((k : Int) + 1)))
    (hend : body xs.length = some (.inr Z)) : loop (t1 body) 0 = some (Zkr A Z (Zgg g xs)) := by
  refine Zg0 (xs := xs) (fun k => Zkr A Z (Zgg g (xs.drop k))) (fun k x hx => ?_) ?_
  · rw [h k x hx, JX hx]
    simp only [Zgg]
    cases hg : g x with
    | some e => right; rfl
    | none => left; exact ⟨rfl, rfl⟩
  · rw [hend]; simp [Zgg]
end err
theorem Zmo {α β : Type} {xs : List α} {body : List β → Int → Option ((List β × Int) ⊕ (List β))} (g : α → β)
    (hstep : ∀ (k : Nat) x acc, xs[k]? = some x → acc.length = k → body acc k = some (.inl (acc ++ [g x], (k : Int) + 1)))
    (hend : ∀ acc, body acc xs.length = some (.inr acc)) : loop (t2 body) ([], 0) = some (xs.map g) := by
  refine (ZdM (body := t2 body) (fun p => ∃ k : Nat, p.2 = k ∧ k ≤ xs.length ∧ p.1.length = k) (fun p => xs.length - p.2.toNat) (fun p => p.1 ++ (xs.drop p.2.toNat).map g) ?_ ([], 0) ⟨0, rfl, Nat.zero_le _, rfl⟩).trans (by simp)
  rintro ⟨acc, i⟩ ⟨k, hi, hk, ha⟩
  simp only at hi ha
  subst hi
  simp only [Qy, Int.toNat_natCast]
  rcases Nat.lt_or_ge k xs.length with h | h
  · obtain ⟨x, hx⟩ := Xz h
    left
    refine ⟨_, hstep k x acc hx ha, ⟨k + 1, by push_cast; rfl, h, by simp [ha]⟩, by simp only; omega, ?_⟩
    rw [JX hx]
    simp
  · have : k = xs.length := by omega
    subst this
    right
    rw [hend]; simp
end Go.Vx

namespace Go.Vx
open Go Go.RowKit
def Zic {σ ρ : Type} (b : σ → Option (σ ⊕ ρ)) (s : σ) : Option ρ :=
  Nat.rec (motive := fun _ => σ → Option ρ) (fun _ => none) (fun _ ih s => match b s with | none => none | some (.inl s') => ih s' | some (.inr r) => some r) 1000000 s
def Le {α : Type} (a b : Option α) : Prop := ∀ r, a = some r → b = some r
theorem Le.refl {α : Type} (a : Option α) : Le a a := fun _ h => h
section
variable {α β γ δ ε ζ η θ ι κ σ ρ : Type}
theorem Le.bind {a b : Option α} {f g : α → Option β} (h : Le a b) (hf : ∀ x, Le (f x) (g x)) : Le (a.bind f) (b.bind g) := by
  intro r hr
  cases ha : a with
  | none => rw [ha] at hr; cases hr
  | some x => rw [ha] at hr; rw [h x ha]; exact hf x r hr
theorem Le.ite {c : Prop} [Decidable c] {a b a' b' : Option α} (h1 : Le a a') (h2 : Le b b') : Le (if c then a else b) (if c then a' else b') := by
  split
  · exact h1
  · exact h2
theorem Le.gd {g : Bool} {d : α} {a b : Option α} (h : Le a b) : Le (gd g d a) (gd g d b) := by
  cases g
  · exact fun r hr => hr
  · exact h
theorem Le.loop {b b' : σ → Option (σ ⊕ ρ)} {s : σ} (h : ∀ s, Le (b s) (b' s)) : Le (Zic b s) (loop b' s) := by
  have key : ∀ n s r, Nat.rec (motive := fun _ => σ → Option ρ) (fun _ => none) (fun _ ih s => match b s with | none => none | some (.inl s') => ih s' | some (.inr r) => some r) n s = some r → Zat b' n s = some r := by
    intro n
    induction n with
    | zero => intro s r hr; cases hr
    | succ n ih =>
      intro s r hr
      simp only at hr
      cases hb : b s with
      | none => rw [hb] at hr; cases hr
      | some o =>
        rw [hb] at hr
        simp only [Zat, h s o hb, Option.bind_some]
        cases o with
        | inl s' => exact ih s' r hr
        | inr r' => exact hr
  intro r hr
  exact Zdw (key 1000000 s r hr)
theorem Le.t0 {f g : Option κ} {p : Unit} (h : Le f g) : Le (t0 f p) (t0 g p) := h
theorem Le.t1 {f g : α → Option κ} {p : α} (h : ∀ a, Le (f a) (g a)) : Le (t1 f p) (t1 g p) := h _
theorem Le.t2 {f g : α → β → Option κ} {p : α × β} (h : ∀ a b, Le (f a b) (g a b)) : Le (t2 f p) (t2 g p) := h _ _
theorem Le.t3 {f g : α → β → γ → Option κ} {p : α × β × γ} (h : ∀ a b c, Le (f a b c) (g a b c)) : Le (t3 f p) (t3 g p) := h _ _ _
theorem Le.t4 {f g : α → β → γ → δ → Option κ} {p : α × β × γ × δ} (h : ∀ a b c d, Le (f a b c d) (g a b c d)) : Le (t4 f p) (t4 g p) := h _ _ _ _
theorem Le.t5 {f g : α → β → γ → δ → ε → Option κ} {p : α × β × γ × δ × ε} (h : ∀ a b c d e, Le (f a b c d e) (g a b c d e)) : Le (t5 f p) (t5 g p) := h _ _ _ _ _
theorem Le.t6 {f g : α → β → γ → δ → ε → ζ → Option κ} {p : α × β × γ × δ × ε × ζ} (h : ∀ a b c d e x, Le (f a b c d e x) (g a b c d e x)) : Le (t6 f p) (t6 g p) := h _ _ _ _ _ _
theorem Le.t7 {f g : α → β → γ → δ → ε → ζ → η → Option κ} {p : α × β × γ × δ × ε × ζ × η} (h : ∀ a b c d e x y, Le (f a b c d e x y) (g a b c d e x y)) : Le (t7 f p) (t7 g p) := h _ _ _ _ _ _ _
theorem Le.t8 {f g : α → β → γ → δ → ε → ζ → η → θ → Option κ} {p : α × β × γ × δ × ε × ζ × η × θ} (h : ∀ a b c d e x y z, Le (f a b c d e x y z) (g a b c d e x y z)) : Le (t8 f p) (t8 g p) := h _ _ _ _ _ _ _ _
theorem Le.t9 {ι : Type} {f g : α → β → γ → δ → ε → ζ → η → θ → ι → Option κ} {p : α × β × γ × δ × ε × ζ × η × θ × ι} (h : ∀ a b c d e x y z w, Le (f a b c d e x y z w) (g a b c d e x y z w)) : Le (t9 f p) (t9 g p) := h _ _ _ _ _ _ _ _ _
theorem Le.elim {f f' : α → Option κ} {g g' : β → Option κ} {s : α ⊕ β} (h1 : ∀ a, Le (f a) (f' a)) (h2 : ∀ b, Le (g b) (g' b)) : Le (Sum.elim f g s) (Sum.elim f' g' s) := by
  cases s with
  | inl a => exact h1 a
  | inr b => exact h2 b
end
end Go.Vx

namespace Go.Vx
open Go Go.RowKit
end Go.Vx

namespace Go.Vx
open Go Go.RowKit
set_option linter.unusedVariables false

noncomputable def Zdb (n2 : Int) (ones2 : Int) : Option ((Int × Int) ⊕ (Int)) :=
  if (decide (0 < n2)) = true then
  (rem n2 2).bind fun q =>
  (quo .i64 n2 2).bind fun q2 =>
  some (.inl (q2, (i64 (ones2 + q))))
  else
  some (.inr ones2)
theorem Zhs (n2 : Int) (ones2 : Int) : Le (Zdb n2 ones2) (Zc4 n2 ones2) := by
  unfold Zdb Zc4
  with_reducible repeat' (first | exact Le.refl _ | apply Le.bind | apply Le.ite | intro _)

noncomputable def ZcJ (n : Int) : Option Bool :=
  ((Zic (t2 (Zdb)) (n, 0)) : Option ((Int))).bind (t1 fun (ones : Int) =>
  (rem ones 2).bind fun q3 =>
  some (decide (q3 = 1)))
theorem Zje (n : Int) : Le (ZcJ n) (ZbY n) := by
  unfold ZcJ ZbY
  with_reducible repeat' (first | exact Le.refl _ | apply Le.bind | apply Le.loop | apply Le.t1 | apply Le.t2 | apply Zhs | intro _)

noncomputable def Zbt (w : Int) : Option Int :=
  some (i64 (QJ .u16 w 2047))
theorem ZeR (w : Int) : Le (Zbt w) (Xw w) := by
  unfold Zbt Xw
  with_reducible repeat' (first | exact Le.refl _ | apply Le.bind | intro _)

noncomputable def ZbP (f : Vector Int 64) : Option Int :=
  (ZM f 1).bind fun x =>
  (Zbt x).bind fun y =>
  (ZM f 2).bind fun x2 =>
  (Zbt x2).bind fun y2 =>
  (shl .i64 y2 11).bind fun q =>
  some (bor .i64 y q)
theorem Zfu (f : Vector Int 64) : Le (ZbP f) (Xa f) := by
  unfold ZbP Xa
  with_reducible repeat' (first | exact Le.refl _ | apply Le.bind | apply ZeR | intro _)

noncomputable def Zbc (x : Int) : Option Int :=
  (shr .u16 x 8).bind fun q =>
  (ZkS [0, 1, 1, 2, 1, 2, 2, 3, 1, 2, 2, 3, 2, 3, 3, 4, 1, 2, 2, 3, 2, 3, 3, 4, 2, 3, 3, 4, 3, 4, 4, 5, 1, 2, 2, 3, 2, 3, 3, 4, 2, 3, 3, 4, 3, 4, 4, 5, 2, 3, 3, 4, 3, 4, 4, 5, 3, 4, 4, 5, 4, 5, 5, 6, 1, 2, 2, 3, 2, 3, 3, 4, 2, 3, 3, 4, 3, 4, 4, 5, 2, 3, 3, 4, 3, 4, 4, 5, 3, 4, 4, 5, 4, 5, 5, 6, 2, 3, 3, 4, 3, 4, 4, 5, 3, 4, 4, 5, 4, 5, 5, 6, 3, 4, 4, 5, 4, 5, 5, 6, 4, 5, 5, 6, 5, 6, 6, 7, 1, 2, 2, 3, 2, 3, 3, 4, 2, 3, 3, 4, 3, 4, 4, 5, 2, 3, 3, 4, 3, 4, 4, 5, 3, 4, 4, 5, 4, 5, 5, 6, 2, 3, 3, 4, 3, 4, 4, 5, 3, 4, 4, 5, 4, 5, 5, 6, 3, 4, 4, 5, 4, 5, 5, 6, 4, 5, 5, 6, 5, 6, 6, 7, 2, 3, 3, 4, 3, 4, 4, 5, 3, 4, 4, 5, 4, 5, 5, 6, 3, 4, 4, 5, 4, 5, 5, 6, 4, 5, 5, 6, 5, 6, 6, 7, 3, 4, 4, 5, 4, 5, 5, 6, 4, 5, 5, 6, 5, 6, 6, 7, 4, 5, 5, 6, 5, 6, 6, 7, 5, 6, 6, 7, 6, 7, 7, 8] q).bind fun b =>
  (ZkS [0, 1, 1, 2, 1, 2, 2, 3, 1, 2, 2, 3, 2, 3, 3, 4, 1, 2, 2, 3, 2, 3, 3, 4, 2, 3, 3, 4, 3, 4, 4, 5, 1, 2, 2, 3, 2, 3, 3, 4, 2, 3, 3, 4, 3, 4, 4, 5, 2, 3, 3, 4, 3, 4, 4, 5, 3, 4, 4, 5, 4, 5, 5, 6, 1, 2, 2, 3, 2, 3, 3, 4, 2, 3, 3, 4, 3, 4, 4, 5, 2, 3, 3, 4, 3, 4, 4, 5, 3, 4, 4, 5, 4, 5, 5, 6, 2, 3, 3, 4, 3, 4, 4, 5, 3, 4, 4, 5, 4, 5, 5, 6, 3, 4, 4, 5, 4, 5, 5, 6, 4, 5, 5, 6, 5, 6, 6, 7, 1, 2, 2, 3, 2, 3, 3, 4, 2, 3, 3, 4, 3, 4, 4, 5, 2, 3, 3, 4, 3, 4, 4, 5, 3, 4, 4, 5, 4, 5, 5, 6, 2, 3, 3, 4, 3, 4, 4, 5, 3, 4, 4, 5, 4, 5, 5, 6, 3, 4, 4, 5, 4, 5, 5, 6, 4, 5, 5, 6, 5, 6, 6, 7, 2, 3, 3, 4, 3, 4, 4, 5, 3, 4, 4, 5, 4, 5, 5, 6, 3, 4, 4, 5, 4, 5, 5, 6, 4, 5, 5, 6, 5, 6, 6, 7, 3, 4, 4, 5, 4, 5, 5, 6, 4, 5, 5, 6, 5, 6, 6, 7, 4, 5, 5, 6, 5, 6, 6, 7, 5, 6, 6, 7, 6, 7, 7, 8] (QJ .u16 x 255)).bind fun b2 =>
  some (i64 (u8 (b + b2)))
theorem ZeF (x : Int) : Le (Zbc x) (Jo x) := by
  unfold Zbc Jo
  with_reducible repeat' (first | exact Le.refl _ | apply Le.bind | intro _)

noncomputable def Zei (w : Int) : Option Bool :=
  (gd ((decide (w ≤ 4095)) == true) 0 (Zbc w)).bind fun y =>
  (gd ((decide (w ≤ 4095)) == true) 0 (rem y 2)).bind fun q =>
  some ((decide (w ≤ 4095)) && (decide (q = 1)))
theorem Zil (w : Int) : Le (Zei w) (JU w) := by
  unfold Zei JU
  with_reducible repeat' (first | exact Le.refl _ | apply Le.bind | apply Le.gd | apply ZeF | intro _)

noncomputable def ZbU (f : Vector Int 64) (n2 : Int) (i : Int) : Option ((Int × Int) ⊕ (Int)) :=
  if (decide (i < 60)) = true then
  (ZM f (i64 (i + 1))).bind fun x =>
  (Zbt x).bind fun y =>
  some (.inl ((Zb7 .i64 n2 y), (i64 (i + 1))))
  else
  some (.inr n2)
theorem Zff (f : Vector Int 64) (n2 : Int) (i : Int) : Le (ZbU f n2 i) (XK f n2 i) := by
  unfold ZbU XK
  with_reducible repeat' (first | exact Le.refl _ | apply Le.bind | apply Le.ite | apply ZeR | intro _)

noncomputable def Zdd (f : Vector Int 64) : Option Int :=
  ((Zic (t2 (ZbU f)) (0, 0)) : Option ((Int))).bind (t1 fun (n : Int) =>
  some n)
theorem Zhm (f : Vector Int 64) : Le (Zdd f) (Jt f) := by
  unfold Zdd Jt
  with_reducible repeat' (first | exact Le.refl _ | apply Le.bind | apply Le.loop | apply Le.t1 | apply Le.t2 | apply Zff | intro _)

noncomputable def Zbj (f : Vector Int 64) (i : Int) (n4 : Int) (k : Int) : Option ((Int × Int) ⊕ (Int)) :=
  if (decide (0 ≤ k)) = true then
  (shl .i64 n4 1).bind fun q =>
  (ZM f i).bind fun x =>
  (shr .u16 x k).bind fun q2 =>
  if (!((!decide ((QJ .i64 n4 2097152) = 0)) == (decide ((QJ .u16 q2 1) = 1)))) = true then
  some (.inl ((Zb7 .i64 (QJ .i64 q 4194303) 2097167), (i64 (k - 1))))
  else
  some (.inl ((QJ .i64 q 4194303), (i64 (k - 1))))
  else
  some (.inr n4)
theorem ZeI (f : Vector Int 64) (i : Int) (n4 : Int) (k : Int) : Le (Zbj f i n4 k) (Q4 f i n4 k) := by
  unfold Zbj Q4
  with_reducible repeat' (first | exact Le.refl _ | apply Le.bind | apply Le.ite | intro _)

noncomputable def Za9 (f : Vector Int 64) (n2 : Int) (i : Int) : Option ((Int × Int) ⊕ (Int)) :=
  if (decide (i < 62)) = true then
  ((Zic (t2 (Zbj f i)) (n2, 11)) : Option ((Int))).bind (t1 fun (n3 : Int) =>
  some (.inl (n3, (i64 (i + 1)))))
  else
  some (.inr n2)
theorem ZeN (f : Vector Int 64) (n2 : Int) (i : Int) : Le (Za9 f n2 i) (Xi f n2 i) := by
  unfold Za9 Xi
  with_reducible repeat' (first | exact Le.refl _ | apply Le.bind | apply Le.ite | apply Le.loop | apply Le.t1 | apply Le.t2 | apply ZeI | intro _)

noncomputable def Zce (f : Vector Int 64) : Option Int :=
  ((Zic (t2 (Za9 f)) (0, 0)) : Option ((Int))).bind (t1 fun (n : Int) =>
  some n)
theorem Zf4 (f : Vector Int 64) : Le (Zce f) (XB f) := by
  unfold Zce XB
  with_reducible repeat' (first | exact Le.refl _ | apply Le.bind | apply Le.loop | apply Le.t1 | apply Le.t2 | apply ZeN | intro _)

noncomputable def X6 (data : Int) : Option Int :=
  (Zei (u16 data)).bind fun y =>
  if (!y) = true then
  some (bor .u16 (u16 data) 2048)
  else
  some (u16 data)
theorem Zda (data : Int) : Le (X6 data) (Q8 data) := by
  unfold X6 Q8
  with_reducible repeat' (first | exact Le.refl _ | apply Le.bind | apply Le.ite | apply Zil | intro _)

noncomputable def ZcN (data : List Int) (f2 : Vector Int 64) (i : Int) : Option (((Vector Int 64) × Int) ⊕ ((Vector Int 64) × Int) ⊕ ((Vector Int 64))) :=
  if (decide (i < (data.length : Int))) = true then
  (idx data i).bind fun x3 =>
  if ((decide (x3 < 0)) || (decide (2047 < x3))) = true then
  some (.inr (.inl ((#v[0, 0, 0, 0, 0, 0, 0, 0, 0, 0, 0, 0, 0, 0, 0, 0, 0, 0, 0, 0, 0, 0, 0, 0, 0, 0, 0, 0, 0, 0, 0, 0, 0, 0, 0, 0, 0, 0, 0, 0, 0, 0, 0, 0, 0, 0, 0, 0, 0, 0, 0, 0, 0, 0, 0, 0, 0, 0, 0, 0, 0, 0, 0, 0] : Vector Int 64), 9)))
  else
  (X6 x3).bind fun y3 =>
  (ZM f2 (i64 (3 + i))).bind fun x4 =>
  some (.inl ((Qz f2 (i64 (3 + i)) y3), (i64 (i + 1))))
  else
  some (.inr (.inr f2))
theorem Zgs (data : List Int) (f2 : Vector Int 64) (i : Int) : Le (ZcN data f2 i) (X5 data f2 i) := by
  unfold ZcN X5
  with_reducible repeat' (first | exact Le.refl _ | apply Le.bind | apply Le.ite | apply Zda | intro _)

noncomputable def ZcC (f : Vector Int 64) : Option (Vector Int 64) :=
  (ZbP f).bind fun y =>
  (rem y 4).bind fun q =>
  (ZM gv_frame_syncs q).bind fun x =>
  (ZM f 0).bind fun x2 =>
  (Zdd (Qz f 0 x)).bind fun y2 =>
  (X6 y2).bind fun y3 =>
  (ZM (Qz f 0 x) 61).bind fun x3 =>
  (Zce (Qz (Qz f 0 x) 61 y3)).bind fun y4 =>
  (shr .i64 y4 11).bind fun q2 =>
  (X6 q2).bind fun y5 =>
  (X6 (QJ .i64 y4 2047)).bind fun y6 =>
  (ZM (Qz (Qz f 0 x) 61 y3) 62).bind fun x4 =>
  (ZM (Qz (Qz (Qz f 0 x) 61 y3) 62 y5) 63).bind fun x5 =>
  some (Qz (Qz (Qz (Qz f 0 x) 61 y3) 62 y5) 63 y6)
theorem Zgu (f : Vector Int 64) : Le (ZcC f) (JA f) := by
  unfold ZcC JA
  with_reducible repeat' (first | exact Le.refl _ | apply Le.bind | apply Zfu | apply Zhm | apply Zda | apply Zf4 | intro _)

noncomputable def Zd1 (number : Int) (data : List Int) : Option ((Vector Int 64) × Int) :=
  if ((decide (number < 0)) || (decide (4194304 ≤ number))) = true then
  some ((#v[0, 0, 0, 0, 0, 0, 0, 0, 0, 0, 0, 0, 0, 0, 0, 0, 0, 0, 0, 0, 0, 0, 0, 0, 0, 0, 0, 0, 0, 0, 0, 0, 0, 0, 0, 0, 0, 0, 0, 0, 0, 0, 0, 0, 0, 0, 0, 0, 0, 0, 0, 0, 0, 0, 0, 0, 0, 0, 0, 0, 0, 0, 0, 0] : Vector Int 64), 9)
  else
  if (!decide ((data.length : Int) = 58)) = true then
  some ((#v[0, 0, 0, 0, 0, 0, 0, 0, 0, 0, 0, 0, 0, 0, 0, 0, 0, 0, 0, 0, 0, 0, 0, 0, 0, 0, 0, 0, 0, 0, 0, 0, 0, 0, 0, 0, 0, 0, 0, 0, 0, 0, 0, 0, 0, 0, 0, 0, 0, 0, 0, 0, 0, 0, 0, 0, 0, 0, 0, 0, 0, 0, 0, 0] : Vector Int 64), 3)
  else
  (X6 (QJ .i64 number 2047)).bind fun y =>
  (shr .i64 number 11).bind fun q =>
  (X6 q).bind fun y2 =>
  (ZM (Vector.replicate 64 (0 : Int)) 1).bind fun x =>
  (ZM (Qz (Vector.replicate 64 0) 1 y) 2).bind fun x2 =>
  ((Zic (t2 (ZcN data)) ((Qz (Qz (Vector.replicate 64 0) 1 y) 2 y2), 0)) : Option (((Vector Int 64) × Int) ⊕ ((Vector Int 64)))).bind (Sum.elim (fun q' => some q') (t1 fun (f : Vector Int 64) =>
  (ZcC f).bind fun y4 =>
  some (y4, 0)))
theorem Zio (number : Int) (data : List Int) : Le (Zd1 number data) (XX number data) := by
  unfold Zd1 XX
  with_reducible repeat' (first | exact Le.refl _ | apply Le.bind | apply Le.ite | apply Le.loop | apply Le.t1 | apply Le.t2 | apply Le.elim | apply Zda | apply Zgs | apply Zgu | intro _)

noncomputable def Zes : Option Bool :=
  (mks 58 0).bind fun l =>
  (idx l 0).bind fun x =>
  (Zd1 2050 (l.set (Int.toNat 0) 5)).bind fun y =>
  (gd ((decide (y.2 = 0)) == true) 0 (ZM y.1 0)).bind fun x2 =>
  (gd (((decide (y.2 = 0)) && (decide (x2 = 2631))) == true) 0 (ZM y.1 1)).bind fun x3 =>
  (gd ((((decide (y.2 = 0)) && (decide (x2 = 2631))) && (decide (x3 = 2))) == true) 0 (ZM y.1 2)).bind fun x4 =>
  (gd (((((decide (y.2 = 0)) && (decide (x2 = 2631))) && (decide (x3 = 2))) && (decide (x4 = 1))) == true) 0 (ZM y.1 3)).bind fun x5 =>
  some (((((decide (y.2 = 0)) && (decide (x2 = 2631))) && (decide (x3 = 2))) && (decide (x4 = 1))) && (decide (x5 = 2053)))
theorem Ziu : Le (Zes ) (Zcu ) := by
  unfold Zes Zcu
  with_reducible repeat' (first | exact Le.refl _ | apply Le.bind | apply Le.gd | apply Zio | intro _)
end Go.Vx

namespace Go.Vx
open Go Go.RowKit
end Go.Vx

namespace Go.Vx
open Go Go.RowKit
theorem J4 {α : Type} {s : Nat} {xs ys : List α} (h : xs.length + ys.length ≤ 140737488355328 / s) : apz s xs ys = some (xs ++ ys) := by unfold apz; rw [if_pos h]
theorem ixr {n k x : Nat} (h : (List.range n)[k]? = some x) : x = k ∧ k < n := by
  have hl := (List.getElem?_eq_some_iff.1 h).1
  rw [List.length_range] at hl
  rw [List.getElem?_range hl] at h
  cases h; exact ⟨rfl, hl⟩
theorem Zmm {β : Type} {n : Nat} {body : List β → Int → Option ((List β × Int) ⊕ List β)} (g : Nat → β)
    (hstep : ∀ (k : Nat) acc, k < n → acc.length = k → body acc k = some (.inl (acc ++ [g k], (k : Int) + 1)))
    (hend : ∀ acc, body acc n = some (.inr acc)) : loop (t2 body) ([], 0) = some ((List.range n).map g) :=
  Zmo g (fun k x acc hx ha => by obtain ⟨rfl, h⟩ := ixr hx; exact hstep _ acc h ha) (fun acc => by rw [List.length_range]; exact hend acc)
theorem ZmT {α : Type} [DecidableEq α] {a b : List α} {body : Int → Option (Int ⊕ (Bool ⊕ Unit))} (hl : a.length = b.length)
    (h : ∀ (k : Nat) x y, a[k]? = some x → b[k]? = some y → body k = if x = y then some (.inl ((k : Int) + 1)) else some (.inr (.inl false)))
    (hend : body a.length = some (.inr (.inr ()))) : loop (t1 body) 0 = some (if a = b then .inr () else .inl false) := by
  refine (Zg0 (xs := a) (fun k => if a.drop k = b.drop k then (.inr () : Bool ⊕ Unit) else .inl false) (fun k x hx => ?_) ?_).trans (by simp)
  · have hk := (List.getElem?_eq_some_iff.1 hx).1
    obtain ⟨y, hy⟩ := Xz (xs := b) (k := k) (by omega)
    rw [h k x y hx hy, JX hx, JX hy]
    by_cases e : x = y
    · left; subst e; refine ⟨by rw [if_pos rfl], ?_⟩
      simp
    · right; rw [if_neg e, if_neg (by simp [e])]
  · rw [hend, if_pos (by rw [List.drop_length, hl, List.drop_length])]
theorem eqY {a b : List Int} (ha : a.length ≤ 9223372036854775807) : Xb a b = some (decide (a = b)) := by
  unfold Xb
  by_cases hl : a.length = b.length
  · rw [if_neg (by simp [hl]), ZmT (a := a) (b := b) hl (fun k x y hx hy => ?_) (by simp [Xd])]
    · by_cases e : a = b <;> simp [e]
    · have hlt := Zn0 hx
      simp only [Xd, hlt, decide_true, if_true, Zm hx, Zm hy, Option.bind_some]
      rw [show i64 ((k : Int) + 1) = (k : Int) + 1 from Zh (by omega) (by omega)]
      by_cases e : x = y <;> simp [e]
  · rw [if_pos (by simpa using fun e => hl (by omega))]
    rw [decide_eq_false (fun e => hl (by rw [e]))]
theorem Zp1 {number memories copies : Int} (h1 : 0 ≤ number ∧ number ≤ 4194303) (h2 : 1 ≤ memories ∧ memories ≤ 8) (h3 : 1 ≤ copies ∧ copies ≤ memories) :
    loop (t2 (JP number memories copies)) ([], 0) = some ((List.range copies.toNat).map fun (k : Nat) => (number + (k : Int)).tmod memories) := by
  refine Zmm (fun (k : Nat) => (number + (k : Int)).tmod memories) (fun k acc hk ha => ?_) (fun acc => ?_)
  · unfold JP
    rw [if_pos (by simp; omega), show i64 (number + (k : Int)) = number + k from Zh (by omega) (by omega), show i64 ((k : Int) + 1) = (k : Int) + 1 from Zh (by omega) (by omega)]
    unfold rem
    rw [if_neg (by omega), Option.bind_some, J4 (by simp; omega)]; rfl
  · unfold JP
    rw [if_neg (by simp; omega)]
end Go.Vx

namespace Go.Vx
open Go Go.RowKit
end Go.Vx

namespace Go.Vx
open Go Go.RowKit
def Qr (s : List Int) (a : Nat) : List Int → Int → Int × Bool × List Int
  | [], p => (p, true, s)
  | b :: tl, p => if p = 0 then (0, false, s.set a (QJ .u8 (s.getD a 0) (bor .u8 b 15))) else Qr (s.set a (QJ .u8 (s.getD a 0) b)) (a + 1) tl (p - 1)
theorem ZbD : ∀ (d : List Int) (s : List Int) (a : Nat) (p : Int), (Qr s a d p).2.2.length = s.length
  | [], s, a, p => rfl
  | b :: tl, s, a, p => by
    unfold Qr
    split
    · simp
    · rw [ZbD tl]; simp
theorem Zfo : ∀ (d : List Int) (s : List Int) (a : Nat) (p : Int), 0 ≤ p → 0 ≤ (Qr s a d p).1 ∧ (Qr s a d p).1 ≤ p
  | [], s, a, p, h => ⟨h, Int.le_refl _⟩
  | b :: tl, s, a, p, h => by
    unfold Qr
    split
    · exact ⟨Int.le_refl _, h⟩
    · have := Zfo tl (s.set a (QJ .u8 (s.getD a 0) b)) (a + 1) (p - 1) (by omega)
      omega
def ZoI (r : Int × Bool × List Int) : (Int × Bool × List Int) ⊕ (List Int × Int) := if r.2.1 = true then .inr (r.2.2, r.1) else .inl r
theorem Qv {α : Type} {s : List α} {k : Nat} (h : k < s.length) (d : α) : s[k]? = some (s.getD k d) := by
  rw [List.getD_eq_getElem?_getD, List.getElem?_eq_getElem h]; rfl
theorem Zlv {s d : List Int} {a : Nat} {p : Int} (hs : s.length ≤ 140737488355328) (ha : a + d.length ≤ s.length) (hp : 0 ≤ p ∧ p ≤ 1000000000) : Q7 s (a : Int) d p = some (Qr s a d p) := by
  have key : loop (t3 (Q3 (a : Int) d)) (s, p, 0) = some (ZoI (Qr s a d p)) := by
    refine (ZdM (body := t3 (Q3 (a : Int) d)) (fun q => ∃ k : Nat, q.2.2 = k ∧ k ≤ d.length ∧ q.1.length = s.length ∧ 0 ≤ q.2.1 ∧ q.2.1 ≤ 1000000000) (fun q => d.length - q.2.2.toNat)
      (fun q => ZoI (Qr q.1 (a + q.2.2.toNat) (d.drop q.2.2.toNat) q.2.1)) ?_ (s, p, 0) ⟨0, rfl, Nat.zero_le _, rfl, hp⟩).trans (by simp)
    rintro ⟨o, p, i⟩ ⟨k, hi, hk, hl, hp0, hp1⟩
    simp only at hi hl hp0 hp1
    subst hi
    simp only [Zbz, Int.toNat_natCast]
    unfold Q3
    rcases Nat.lt_or_ge k d.length with h | h
    · obtain ⟨b, hb⟩ := Xz h
      rw [if_pos (by simpa using h), Zm hb, Option.bind_some, JX hb]
      have e1 : i64 ((a : Int) + (k : Int)) = ((a + k : Nat) : Int) := (Zh (by omega) (by omega)).trans (by push_cast; rfl)
      have hx : o[a + k]? = some (o.getD (a + k) 0) := Qv (by omega) 0
      rw [e1]
      simp only [Zm hx, Option.bind_some, Int.toNat_natCast]
      by_cases h0 : p = 0
      · right
        rw [if_pos (by simpa using h0)]
        subst h0
        rfl
      · left
        rw [if_neg (by simpa using h0)]
        rw [show i64 (p - 1) = p - 1 from Zh (by omega) (by omega), show i64 ((k : Int) + 1) = ((k + 1 : Nat) : Int) from (Zh (by omega) (by omega)).trans (by push_cast; rfl)]
        refine ⟨_, rfl, ⟨k + 1, rfl, h, by simp [hl], by simp only; omega, by simp only; omega⟩, by simp only [Int.toNat_natCast]; omega, ?_⟩
        simp only [Int.toNat_natCast]
        rw [Qr, if_neg h0]; rfl
    · right
      rw [if_neg (by simpa using h), List.drop_of_length_le h]; rfl
  unfold Q7
  rw [key, Option.bind_some]
  unfold ZoI
  split
  · rename_i h
    simp only [Sum.elim_inr, Qy]
    congr 1
    generalize Qr s a d p = q at h
    obtain ⟨x, y, z⟩ := q
    simp only at h
    subst h; rfl
  · simp only [Sum.elim_inl]
theorem ZoT (w : Nat) (X : BitVec w) : BitVec.ofInt w (X.toNat : Int) = X := by
  apply BitVec.eq_of_toNat_eq; simp [BitVec.toNat_ofInt]
theorem ZnS (X : BitVec 8) : IntKind.u8.wrap (X.toNat : Int) = (X.toNat : Int) := by
  have h := X.isLt
  have : ∀ n : Nat, n < 256 → IntKind.u8.wrap (n : Int) = (n : Int) := by
    intro n hn
    show ((n : Int) % 256) = n
    omega
  exact this _ h
theorem ZnP (a b : Int) : QJ .u8 a b = ((BitVec.ofInt 8 a &&& BitVec.ofInt 8 b).toNat : Int) := ZnS _
theorem ZmM (a b : Int) : Zi0 .u8 a b = ((BitVec.ofInt 8 a &&& ~~~ BitVec.ofInt 8 b).toNat : Int) := ZnS _
theorem ZjQ (a : Int) : Zi0 .u8 a a = 0 := by
  rw [ZmM]; simp
theorem ZjR {x y b : Int} (h : Zi0 .u8 x y = 0) : Zi0 .u8 (QJ .u8 x b) y = 0 := by
  rw [ZmM] at h ⊢
  rw [ZnP, ZoT]
  have h' : (BitVec.ofInt 8 x &&& ~~~ BitVec.ofInt 8 y) = 0#8 := by
    apply BitVec.eq_of_toNat_eq; simpa using h
  have : (BitVec.ofInt 8 x &&& BitVec.ofInt 8 b) &&& ~~~ BitVec.ofInt 8 y = (BitVec.ofInt 8 x &&& ~~~ BitVec.ofInt 8 y) &&& BitVec.ofInt 8 b := by
    rw [BitVec.and_assoc, BitVec.and_comm (BitVec.ofInt 8 b), ← BitVec.and_assoc]
  rw [this, h']; simp
def SubB (t s : List Int) : Prop := ∀ (k : Nat) x y, t[k]? = some x → s[k]? = some y → Zi0 .u8 x y = 0
theorem SubB.refl (s : List Int) : SubB s s := fun k x y hx hy => by rw [hx] at hy; cases hy; exact ZjQ x
theorem SubB.set {t s : List Int} (h : SubB t s) (a : Nat) (b : Int) : SubB (t.set a (QJ .u8 (t.getD a 0) b)) s := by
  intro k x y hx hy
  rw [List.getElem?_set] at hx
  split at hx
  · rename_i e
    subst e
    split at hx
    · rename_i hl
      cases hx
      exact ZjR (h a _ y (Qv hl 0) hy)
    · cases hx
  · exact h k x y hx hy
end Go.Vx

namespace Go.Vx
open Go Go.RowKit
section
variable {σ ρ : Type} {body : σ → Option (σ ⊕ ρ)} {s s' : σ} {r : ρ}
theorem Xq (h : body s = some (.inl s')) (k : loop body s' = some r) : loop body s = some r := by
  obtain ⟨n, hn⟩ := ZbT k
  exact Zdw (n := n + 1) (by simp only [Zat, h, Option.bind_some]; exact hn)
theorem Zdp (h : body s = some (.inr r)) : loop body s = some r := Zdw (n := 1) (by simp only [Zat, h, Option.bind_some]; rfl)
end
def u8R (l : List Int) : Prop := ∀ x ∈ l, 0 ≤ x ∧ x ≤ 255
theorem Zoa {l : List Int} (h : u8R l) {k : Nat} {x : Int} (hx : l[k]? = some x) : 0 ≤ x ∧ x ≤ 255 := h x (List.mem_of_getElem? hx)
theorem Zai {l : List Int} (h : u8R l) (k : Nat) : 0 ≤ l.getD k 0 ∧ l.getD k 0 ≤ 255 := by
  by_cases hk : k < l.length
  · exact Zoa h (Qv hk 0)
  · rw [List.getD_eq_getElem?_getD, List.getElem?_eq_none (by omega)]; decide
theorem Zo5 {a b s : Nat} (hb : b < 2 ^ s) (h : a * 2 ^ s + b < 2 ^ 62) : bor .i64 ((a * 2 ^ s : Nat) : Int) (b : Int) = ((a * 2 ^ s + b : Nat) : Int) := by
  unfold bor
  have e : (BitVec.ofInt IntKind.i64.bits ((a * 2 ^ s : Nat) : Int) ||| BitVec.ofInt IntKind.i64.bits (b : Int)).toNat = a * 2 ^ s + b := by
    have h1 : ∀ n : Nat, BitVec.ofInt IntKind.i64.bits (n : Int) = BitVec.ofNat 64 n := fun n => BitVec.ofInt_natCast ..
    rw [h1, h1]
    show (BitVec.ofNat 64 (a * 2 ^ s) ||| BitVec.ofNat 64 b).toNat = _
    rw [BitVec.toNat_or, BitVec.toNat_ofNat, BitVec.toNat_ofNat, Nat.mod_eq_of_lt (by omega), Nat.mod_eq_of_lt (by omega), ← Nat.shiftLeft_eq, ← Nat.shiftLeft_add_eq_or_of_lt hb]
  rw [e]
  exact Zh (by omega) (by omega)
def Zhc (a b c d : Int) : Int := a * 16777216 + b * 65536 + c * 256 + d
theorem ZoQ {n j : Nat} (h1 : n ≤ 255) (h2 : j ≤ 24) : shl .i64 (n : Int) (j : Int) = some ((n * 2 ^ j : Nat) : Int) := by
  unfold shl
  rw [if_neg (by omega)]
  have e1 : min (Int.toNat (j : Int)) IntKind.i64.bits = j := by
    show min (Int.toNat (j : Int)) 64 = j
    simp; omega
  have e2 : (2 : Nat) ^ j ≤ 2 ^ 24 := Nat.pow_le_pow_right (by omega) h2
  have e3 : n * 2 ^ j ≤ 255 * 2 ^ 24 := Nat.mul_le_mul h1 e2
  rw [e1]
  have e4 : ((n : Int) * 2 ^ j) = ((n * 2 ^ j : Nat) : Int) := by push_cast; rfl
  rw [e4, Zh (by omega) (by omega)]
theorem Zpc {m n : Nat} (h : m = n) : (m : Int) = (n : Int) := congrArg _ h
theorem Zo6 {a b c d : Int} (ha : 0 ≤ a ∧ a ≤ 255) (hb : 0 ≤ b ∧ b ≤ 255) (hc : 0 ≤ c ∧ c ≤ 255) (hd : 0 ≤ d ∧ d ≤ 255) :
    ∃ q q2 q3, shl .i64 (i64 a) 24 = some q ∧ shl .i64 (i64 b) 16 = some q2 ∧ shl .i64 (i64 c) 8 = some q3 ∧ bor .i64 (bor .i64 (bor .i64 q q2) q3) (i64 d) = Zhc a b c d := by
  obtain ⟨a, rfl⟩ := Int.eq_ofNat_of_zero_le ha.1
  obtain ⟨b, rfl⟩ := Int.eq_ofNat_of_zero_le hb.1
  obtain ⟨c, rfl⟩ := Int.eq_ofNat_of_zero_le hc.1
  obtain ⟨d, rfl⟩ := Int.eq_ofNat_of_zero_le hd.1
  have e : ∀ n : Nat, n ≤ 255 → i64 (n : Int) = n := fun n h => Zh (by omega) (by omega)
  rw [e a (by omega), e b (by omega), e c (by omega), e d (by omega)]
  refine ⟨_, _, _, ZoQ (j := 24) (by omega) (by omega), ZoQ (j := 16) (by omega) (by omega), ZoQ (j := 8) (by omega) (by omega), ?_⟩
  have b1 : bor .i64 ((a * 2 ^ 24 : Nat) : Int) ((b * 2 ^ 16 : Nat) : Int) = (((a * 2 ^ 8 + b) * 2 ^ 16 : Nat) : Int) :=
    (Zo5 (s := 24) (by omega) (by omega)).trans (Zpc (by omega))
  have b2 : bor .i64 (((a * 2 ^ 8 + b) * 2 ^ 16 : Nat) : Int) ((c * 2 ^ 8 : Nat) : Int) = ((((a * 2 ^ 8 + b) * 2 ^ 8 + c) * 2 ^ 8 : Nat) : Int) :=
    (Zo5 (s := 16) (by omega) (by omega)).trans (Zpc (by omega))
  rw [b1, b2]
  refine (Zo5 (s := 8) (by omega) (by omega)).trans ?_
  unfold Zhc; omega
def hdL (n : Int) : List Int := [79, 66, n / 16777216 % 256, n / 65536 % 256, n / 256 % 256, n % 256, 255 - n / 16777216 % 256, 255 - n / 65536 % 256, 255 - n / 256 % 256, 255 - n % 256]
theorem Zl8 (n : Int) : u8R (hdL n) := by
  intro x hx
  simp only [hdL, List.mem_cons, List.not_mem_nil, or_false] at hx
  rcases hx with h | h | h | h | h | h | h | h | h | h <;> omega
theorem ZmR {k : IntKind} {n : Int} {j : Nat} (h : j ≤ k.bits) : shr k n (j : Int) = some (n / (2 : Int) ^ j) := by
  unfold shr
  rw [if_neg (by omega)]
  have e1 : min (Int.toNat (j : Int)) k.bits = j := by simp; omega
  rw [e1, Int.fdiv_eq_ediv_of_nonneg _ (Int.pow_nonneg (by decide))]
theorem u8m (z : Int) : u8 z = z % 256 := rfl
theorem Zjr {n : Int} (h : 1 ≤ n ∧ n ≤ 1073741824) : Zbn n = some (hdL n) := by
  have st : ∀ (o : List Int) (j : Nat), j ≤ 24 → o.length ≤ 10 → XH n o (j : Int) = some (.inl (o ++ [n / (2 : Int) ^ j % 256], (j : Int) - 8)) := by
    intro o j hj ho
    unfold XH
    rw [if_pos (by simp), ZmR (by show j ≤ 64; omega), Option.bind_some, J4 (by simp; omega), Option.bind_some, show i64 ((j : Int) - 8) = (j : Int) - 8 from Zh (by omega) (by omega), u8m]
  have h1 : loop (t2 (XH n)) ([79, 66], 24) = some [79, 66, n / 16777216 % 256, n / 65536 % 256, n / 256 % 256, n % 256] := by
    refine Xq (st [79, 66] 24 (by omega) (by simp)) ?_
    refine Xq (st _ 16 (by omega) (by simp)) ?_
    refine Xq (st _ 8 (by omega) (by simp)) ?_
    refine Xq (st _ 0 (by omega) (by simp)) ?_
    refine Zdp ?_
    show XH n _ (((0 : Nat) : Int) - 8) = _
    unfold XH
    rw [if_neg (by decide)]
    simp
  have bx : ∀ x : Int, 0 ≤ x → x ≤ 255 → Zb7 .u8 255 x = 255 - x := by
    have key : (List.range 256).all (fun n => decide (Zb7 .u8 255 (n : Int) = 255 - (n : Int))) = true := by decide +kernel
    intro x h0 h1
    obtain ⟨m, rfl⟩ := Int.eq_ofNat_of_zero_le h0
    exact of_decide_eq_true (List.all_eq_true.1 key m (List.mem_range.2 (by omega)))
  unfold Zbn
  rw [h1]
  simp only [Option.bind_some, Qx]
  rw [show slp [79, 66, n / 16777216 % 256, n / 65536 % 256, n / 256 % 256, n % 256] 2 6 = some () from rfl, Option.bind_some]
  have st2 : ∀ (o : List Int) (j : Nat) (x : Int), j < 4 → o.length ≤ 10 → idx [79, 66, n / 16777216 % 256, n / 65536 % 256, n / 256 % 256, n % 256] (2 + (j : Int)) = some x → 0 ≤ x → x ≤ 255 →
      XN [79, 66, n / 16777216 % 256, n / 65536 % 256, n / 256 % 256, n % 256] o (j : Int) = some (.inl (o ++ [255 - x], (j : Int) + 1)) := by
    intro o j x hj ho hx h0 h1
    unfold XN
    have e4 : (decide ((j : Int) < ((Int.toNat (6 - 2) : Nat) : Int))) = true := by simp; omega
    have e5 : (decide ((0 : Int) ≤ (j : Int))) = true := by simp
    rw [if_pos e4, e4, e5]
    simp only [Bool.and_self, ck, if_true, Option.bind_some, hx]
    rw [J4 (by simp; omega), Option.bind_some, show i64 ((j : Int) + 1) = (j : Int) + 1 from Zh (by omega) (by omega), bx x h0 h1]
  have h2 : loop (t2 (XN [79, 66, n / 16777216 % 256, n / 65536 % 256, n / 256 % 256, n % 256])) ([79, 66, n / 16777216 % 256, n / 65536 % 256, n / 256 % 256, n % 256], 0) = some (hdL n) := by
    refine Xq (st2 _ 0 (n / 16777216 % 256) (by omega) (by simp) rfl (by omega) (by omega)) ?_
    refine Xq (st2 _ 1 (n / 65536 % 256) (by omega) (by simp) rfl (by omega) (by omega)) ?_
    refine Xq (st2 _ 2 (n / 256 % 256) (by omega) (by simp) rfl (by omega) (by omega)) ?_
    refine Xq (st2 _ 3 (n % 256) (by omega) (by simp) rfl (by omega) (by omega)) ?_
    refine Zdp ?_
    show XN _ _ (((3 : Nat) : Int) + 1) = _
    unfold XN
    rw [if_neg (by decide)]
    rfl
  rw [h2]; rfl
theorem ZpO {n : Nat} (h : n < 4294967296) : Zb7 .u32 4294967295 (n : Int) = 4294967295 - (n : Int) := by
  unfold Zb7
  have e : (BitVec.ofInt IntKind.u32.bits 4294967295 ^^^ BitVec.ofInt IntKind.u32.bits (n : Int)).toNat = 4294967295 - n := by
    have h1 : BitVec.ofInt IntKind.u32.bits (n : Int) = BitVec.ofNat 32 n := BitVec.ofInt_natCast ..
    have h2 : BitVec.ofInt IntKind.u32.bits 4294967295 = BitVec.allOnes 32 := by
      show BitVec.ofInt 32 4294967295 = BitVec.allOnes 32
      decide
    rw [h1, h2]
    show (BitVec.allOnes 32 ^^^ BitVec.ofNat 32 n).toNat = _
    rw [BitVec.allOnes_xor, BitVec.toNat_not, BitVec.toNat_ofNat, Nat.mod_eq_of_lt (by omega)]
    try omega
  rw [e]
  have w : ∀ z : Int, 0 ≤ z → z < 4294967296 → IntKind.u32.wrap z = z := fun z h0 h1 => by
    show z % 4294967296 = z
    omega
  rw [w _ (by omega) (by omega)]; omega
theorem Zls {n : Int} (h : 1 ≤ n ∧ n ≤ 1073741824) : Zd5 n = some (hdL n) := by
  have eu : u32 n = n := by
    show n % 4294967296 = n
    omega
  have ex : Zb7 .u32 4294967295 (u32 n) = 4294967295 - n := by
    rw [eu]
    obtain ⟨m, rfl⟩ := Int.eq_ofNat_of_zero_le (show 0 ≤ n by omega)
    exact ZpO (by omega)
  have st : ∀ (x : Int) (o : List Int) (j : Nat), j ≤ 24 → o.length ≤ 10 → Ji x o (j : Int) = some (.inl (o ++ [x / (2 : Int) ^ j % 256], (j : Int) - 8)) := by
    intro x o j hj ho
    unfold Ji
    rw [if_pos (by simp), ZmR (by show j ≤ 32; omega), Option.bind_some, J4 (by simp; omega), Option.bind_some, show i64 ((j : Int) - 8) = (j : Int) - 8 from Zh (by omega) (by omega), u8m]
  have lp : ∀ (x : Int) (o : List Int), o.length ≤ 6 → loop (t2 (Ji x)) (o, 24) = some (o ++ [x / 16777216 % 256, x / 65536 % 256, x / 256 % 256, x % 256]) := by
    intro x o ho
    refine Xq (st x o 24 (by omega) (by omega)) ?_
    refine Xq (st x _ 16 (by omega) (by simp; omega)) ?_
    refine Xq (st x _ 8 (by omega) (by simp; omega)) ?_
    refine Xq (st x _ 0 (by omega) (by simp; omega)) ?_
    refine Zdp ?_
    show Ji x _ (((0 : Nat) : Int) - 8) = _
    unfold Ji
    rw [if_neg (by decide)]
    simp
  have st1 : ∀ (o : List Int) (j : Nat) (x : Int), j < 2 → o.length ≤ 6 → idx [n, 4294967295 - n] (j : Int) = some x → Jq n o (j : Int) = some (.inl (o ++ [x / 16777216 % 256, x / 65536 % 256, x / 256 % 256, x % 256], (j : Int) + 1)) := by
    intro o j x hj ho hx
    unfold Jq
    rw [ex, eu, if_pos (by simp; omega), hx, Option.bind_some, lp x o ho]
    simp only [Option.bind_some, Qx]
    rw [show i64 ((j : Int) + 1) = (j : Int) + 1 from Zh (by omega) (by omega)]
  have h1 : loop (t2 (Jq n)) ([79, 66], 0) = some (hdL n) := by
    refine Xq (st1 _ 0 n (by omega) (by simp) rfl) ?_
    refine Xq (st1 _ 1 (4294967295 - n) (by omega) (by simp) rfl) ?_
    refine Zdp ?_
    show Jq n _ (((1 : Nat) : Int) + 1) = _
    unfold Jq
    rw [ex, eu, if_neg (by simp)]
    unfold hdL
    congr 2
    simp only [List.append_assoc, List.cons_append, List.nil_append, List.cons.injEq, true_and, and_true]
    refine ⟨?_, ?_, ?_, ?_⟩ <;> omega
  unfold Zd5
  rw [h1]; rfl
theorem Zkg : ∀ {l m : List Int}, u8R l → u8R m → (ZdC l = ZdC m ↔ l = m)
  | [], [], _, _ => by simp
  | [], y :: m, _, _ => by simp [ZdC]
  | x :: l, [], _, _ => by simp [ZdC]
  | x :: l, y :: m, h1, h2 => by
    have hx := h1 x (List.mem_cons_self ..)
    have hy := h2 y (List.mem_cons_self ..)
    have ih := Zkg (l := l) (m := m) (fun z hz => h1 z (List.mem_cons_of_mem _ hz)) (fun z hz => h2 z (List.mem_cons_of_mem _ hz))
    unfold ZdC at ih ⊢
    simp only [List.map_cons, List.cons.injEq, ih]
    have : UInt8.ofNat x.toNat = UInt8.ofNat y.toNat ↔ x = y := by
      constructor
      · intro e
        have := congrArg UInt8.toNat e
        simp at this
        omega
      · rintro rfl; rfl
    rw [this]
def headV (s : List Int) : Int × Bool × Bool :=
  if s.length < 16 then (0, false, false) else
  let n := Zhc (s.getD 2 0) (s.getD 3 0) (s.getD 4 0) (s.getD 5 0)
  if 1 ≤ n ∧ n ≤ 1073741824 ∧ s.take 10 = hdL n then (n, !decide (s.getD 10 0 = 255), true) else (0, false, false)
theorem Zfs {α : Type} {n : Nat} {v : Vector α n} {k : Nat} {x : α} (h : v.toList[k]? = some x) : ZM v (k : Int) = some x := by
  unfold ZM; rw [if_pos (by omega)]; simpa using h
theorem Zcc {α : Type} {xs : List α} {a b : Nat} (h1 : a ≤ b) (h2 : b ≤ xs.length) : slc xs (a : Int) (b : Int) = some ((xs.take b).drop a) := by
  unfold slc; rw [if_pos ⟨by omega, by omega, by omega⟩]; simp
theorem ZjO {α : Type} {m : Nat} {xs : List α} (h : m ≤ xs.length) : ∃ v : Vector α m, tov m xs = some v ∧ v.toList = xs.take m := by
  have : tov m xs = some ⟨(xs.take m).toArray, by simp; omega⟩ := by unfold tov; rw [dif_pos h]
  exact ⟨_, this, by simp⟩
theorem Zhd {s : List Int} (hs : u8R s) : Zap s = some (headV s) := by
  unfold Zap headV
  by_cases hl : s.length < 16
  · rw [if_pos (by simp; omega), if_pos hl]
  · rw [if_neg (by simp; omega), if_neg hl]
    rw [show slc s 0 16 = some (s.take 16) from (Zcc (a := 0) (b := 16) (by omega) (by omega)).trans (by simp), Option.bind_some]
    obtain ⟨v, hv, hvl⟩ := ZjO (m := 16) (xs := s.take 16) (by simp; omega)
    rw [List.take_take, Nat.min_self] at hvl
    rw [hv, Option.bind_some]
    have hg : ∀ (z : Int) (k : Nat), z = (k : Int) → k < 16 → ZM v z = some (s.getD k 0) := fun z k hz hk => by
      subst hz
      exact Zfs (by rw [hvl, List.getElem?_take_of_lt hk]; exact Qv (by omega) 0)
    obtain ⟨q, q2, q3, e1, e2, e3, e4⟩ := Zo6 (Zai hs 2) (Zai hs 3) (Zai hs 4) (Zai hs 5)
    rw [hg 2 2 rfl (by omega), Option.bind_some, e1, Option.bind_some, hg 3 3 rfl (by omega), Option.bind_some, e2, Option.bind_some, hg 4 4 rfl (by omega), Option.bind_some, e3, Option.bind_some, hg 5 5 rfl (by omega), Option.bind_some, e4, hg 10 10 rfl (by omega)]
    generalize Zhc (s.getD 2 0) (s.getD 3 0) (s.getD 4 0) (s.getD 5 0) = n
    unfold Qu
    simp only [Option.bind_some]
    by_cases hn : 1 ≤ n ∧ n ≤ 1073741824
    · have hy : (decide (1 ≤ n) && decide (n ≤ 1073741824)) = true := by simpa using hn
      rw [hy]
      simp only [Bool.not_true, gd, beq_self_eq_true, if_true, Bool.false_or]
      rw [show slc v.toList 0 10 = some (s.take 10) from (Zcc (a := 0) (b := 10) (by omega) (by simp)).trans (by rw [hvl]; simp [List.take_take])]
      simp only [Option.bind_some, Zjr hn]
      have hlen : (s.take 10).length ≤ 10 := by rw [List.length_take]; omega
      rw [eqY (by omega), Option.bind_some]
      by_cases e : s.take 10 = hdL n
      · rw [if_neg (by simp [e]), if_pos ⟨hn.1, hn.2, e⟩]
      · rw [if_pos (by simp [e]), if_neg (fun q => e q.2.2)]
    · have hy : (decide (1 ≤ n) && decide (n ≤ 1073741824)) = false := by simpa using hn
      rw [hy]
      simp only [gd, Bool.not_false, Bool.true_eq_false, beq_iff_eq, if_false, Option.bind_some]
      rw [if_pos (by simp), if_neg (fun q => hn ⟨q.1, q.2.1⟩)]
theorem ZjF {s : List Int} (hs : u8R s) : Zdf s = some (headV s) := by
  unfold Zdf headV
  by_cases hl : s.length < 16
  · rw [if_pos (by simp; omega), if_pos hl]
  · rw [if_neg (by simp; omega), if_neg hl]
    have hg : ∀ k : Nat, k < 16 → idx s (k : Int) = some (s.getD k 0) := fun k hk => Zm (Qv (by omega) 0)
    have st : ∀ (q : Int) (k : Nat), 0 ≤ q → q ≤ 4294967295 → k < 6 → Zao s q (k : Int) = some (.inl (q * 256 + s.getD k 0, (k : Int) + 1)) := by
      intro q k h0 h1 hk
      have hb := Zai hs k
      unfold Zao
      rw [if_pos (by simp; omega), hg k (by omega), Option.bind_some, show i64 (s.getD k 0) = s.getD k 0 from Zh (by omega) (by omega), show i64 (q * 256) = q * 256 from Zh (by omega) (by omega),
        show i64 (q * 256 + s.getD k 0) = q * 256 + s.getD k 0 from Zh (by omega) (by omega), show i64 ((k : Int) + 1) = (k : Int) + 1 from Zh (by omega) (by omega)]
    have b2 := Zai hs 2
    have b3 := Zai hs 3
    have b4 := Zai hs 4
    have b5 := Zai hs 5
    have lp : loop (t2 (Zao s)) (0, 2) = some (Zhc (s.getD 2 0) (s.getD 3 0) (s.getD 4 0) (s.getD 5 0)) := by
      refine Xq (st 0 2 (by omega) (by omega) (by omega)) ?_
      refine Xq (st _ 3 (by omega) (by omega) (by omega)) ?_
      refine Xq (st _ 4 (by omega) (by omega) (by omega)) ?_
      refine Xq (st _ 5 (by omega) (by omega) (by omega)) ?_
      refine Zdp ?_
      show Zao s _ (((5 : Nat) : Int) + 1) = _
      unfold Zao
      rw [if_neg (by decide)]
      congr 2
      unfold Zhc; omega
    rw [lp]
    simp only [Option.bind_some, Qx]
    generalize Zhc (s.getD 2 0) (s.getD 3 0) (s.getD 4 0) (s.getD 5 0) = n
    unfold QT
    simp only [Option.bind_some]
    rw [show idx s 10 = some (s.getD 10 0) from hg 10 (by omega)]
    by_cases hn : 1 ≤ n ∧ n ≤ 1073741824
    · have hy : (decide (n < 1) || decide (1073741824 < n)) = false := by simp; omega
      rw [hy]
      simp only [gd, beq_self_eq_true, if_true, Bool.false_or, Zls hn]
      rw [show slc s 0 10 = some (s.take 10) from (Zcc (a := 0) (b := 10) (by omega) (by omega)).trans (by simp)]
      simp only [Option.bind_some]
      have hiff := Zkg (l := hdL n) (m := s.take 10) (Zl8 n) (fun x hx => hs x (List.mem_of_mem_take hx))
      by_cases e : s.take 10 = hdL n
      · rw [if_neg (by simp [e]), if_pos ⟨hn.1, hn.2, e⟩]
      · rw [if_pos (by simp; intro q; exact e (hiff.1 q).symm), if_neg (fun q => e q.2.2)]
    · have hy : (decide (n < 1) || decide (1073741824 < n)) = true := by simp; omega
      rw [hy]
      simp only [gd, Bool.true_eq_false, beq_iff_eq, if_false, Option.bind_some]
      rw [if_pos (by simp), if_neg (fun q => hn ⟨q.1, q.2.1⟩)]
end Go.Vx

namespace Go.Vx
open Go Go.RowKit
section
variable {key : Int → Int} {D : Int → Prop} {cmp : Int → Int → Option Int}
theorem ZiX {L A M B R : List Int} (h : A.length = B.length) (hb : (L ++ A ++ M ++ B ++ R).length ≤ 4611686018427387904) :
    Zx (L ++ A ++ M ++ B ++ R) (L.length : Int) ((L.length + A.length + M.length : Nat) : Int) (A.length : Int) cmp = some (L ++ B ++ M ++ A ++ R) := by
  unfold Zx
  have hb' : L.length + A.length + M.length + B.length + R.length ≤ 4611686018427387904 := by simpa [Nat.add_assoc] using hb
  refine Zpi (a := L.length) (b := L.length + A.length + M.length) (n := A.length) (fun L' M' R' x y i hi h1 h2 => ?_) (fun d => ?_) A B L M R 0 h (by omega) (by omega) (by omega)
  · unfold ZQ
    have e1 : i64 ((L.length : Int) + (i : Int)) = ((L'.length : Nat) : Int) := (Zh (by omega) (by omega)).trans (by omega)
    have e2 : i64 (((L.length + A.length + M.length : Nat) : Int) + (i : Int)) = ((L'.length + 1 + M'.length : Nat) : Int) := (Zh (by omega) (by omega)).trans (by omega)
    have g1 : (L' ++ x :: M' ++ y :: R')[L'.length]? = some x := by simp
    have g2 : (L' ++ x :: M' ++ y :: R')[L'.length + 1 + M'.length]? = some y := by
      rw [List.getElem?_append_right (by simp; omega)]; simp; rw [show L'.length + 1 + M'.length - (L'.length + (M'.length + 1)) = 0 by omega]; rfl
    have g3 : ((L' ++ x :: M' ++ y :: R').set L'.length y)[L'.length + 1 + M'.length]? = some y := by
      rw [List.getElem?_set_ne (by omega)]; exact g2
    rw [if_pos (by simpa using hi), e1, e2, Zm g2, Option.bind_some, Zm g1, Option.bind_some, Option.bind_some]
    simp only [Int.toNat_natCast]
    rw [Zm g3, Option.bind_some, Zgz, show i64 ((i : Int) + 1) = (i : Int) + 1 from Zh (by omega) (by omega)]
  · unfold ZQ
    rw [if_neg (by simp)]
theorem Zlj {L X Y R : List Int} (hX : X ≠ []) (hY : Y ≠ []) (hb : (L ++ X ++ Y ++ R).length ≤ 4611686018427387904) :
    Z0 (L ++ X ++ Y ++ R) (L.length : Int) ((L.length + X.length : Nat) : Int) ((L.length + X.length + Y.length : Nat) : Int) cmp = some (L ++ Y ++ X ++ R) := by
  have hb' : L.length + X.length + Y.length + R.length ≤ 4611686018427387904 := by simpa [Nat.add_assoc] using hb
  unfold Z0
  obtain ⟨o', i', h1, h2, h3⟩ := Zp5 (body := ZZ ((L.length + X.length : Nat) : Int) cmp) (sr := fun d a b n => Zx d a b n cmp)
    (m := L.length + X.length) (N := L.length + X.length + Y.length + R.length) (fun L A M B R h hN => ZiX h (by simp only [List.length_append]; omega)) (fun o i j hi hj => by
      unfold ZZ
      have e1 : i64 (((L.length + X.length : Nat) : Int) - (i : Int)) = ((L.length + X.length - i : Nat) : Int) := (Zh (by omega) (by omega)).trans (by omega)
      have e2 : i64 (((L.length + X.length : Nat) : Int) + (j : Int)) = ((L.length + X.length + j : Nat) : Int) := (Zh (by omega) (by omega)).trans (by omega)
      have e3 : i64 (((L.length + X.length + j : Nat) : Int) - (i : Int)) = ((L.length + X.length + j - i : Nat) : Int) := (Zh (by omega) (by omega)).trans (by omega)
      rw [e1, e2, e3]
      by_cases h : i = j
      · rw [if_neg (by simp [h]), if_pos h]
      · rw [if_pos (by simp; omega), if_neg h]
        by_cases h' : j < i
        · rw [if_pos (by simpa using h'), if_pos h', show i64 ((i : Int) - (j : Int)) = ((i - j : Nat) : Int) from (Zh (by omega) (by omega)).trans (by omega)]
        · rw [if_neg (by simpa using h'), if_neg h', show i64 ((j : Int) - (i : Int)) = ((j - i : Nat) : Int) from (Zh (by omega) (by omega)).trans (by omega)]) _ X Y L R rfl hX hY rfl rfl
  have f1 : i64 (((L.length + X.length : Nat) : Int) - (L.length : Int)) = (X.length : Int) := (Zh (by omega) (by omega)).trans (by omega)
  have f2 : i64 (((L.length + X.length + Y.length : Nat) : Int) - ((L.length + X.length : Nat) : Int)) = (Y.length : Int) := (Zh (by omega) (by omega)).trans (by omega)
  have f3 : i64 (((L.length + X.length : Nat) : Int) - (i' : Int)) = ((L.length + X.length - i' : Nat) : Int) := (Zh (by omega) (by omega)).trans (by omega)
  rw [f1, f2, h1]
  simp only [Option.bind_some, Qy]
  rw [f3, h3]; rfl
theorem Zin {n : Nat} (h : n ≤ 4611686018427387904) : shr .u64 (u64 (i64 (n : Int))) 1 = some ((n / 2 : Nat) : Int) := by
  rw [show i64 (n : Int) = (n : Int) from Zh (by omega) (by omega), show u64 (n : Int) = (n : Int) from ZoY (by omega) (by omega)]
  rw [show (1 : Int) = ((1 : Nat) : Int) from rfl, ZmR (by decide)]
  congr 1
end
end Go.Vx

namespace Go.Vx
open Go Go.RowKit
section
variable {key : Int → Int} {D : Int → Prop} {cmp : Int → Int → Option Int}
theorem Zir {L X R : List Int} {c : Nat} (h1 : L.length ≤ c) (h2 : c < L.length + X.length) : (L ++ X ++ R)[c]? = some (X.getD (c - L.length) 0) := by
  obtain ⟨t, rfl⟩ : ∃ t, c = L.length + t := ⟨c - L.length, by omega⟩
  rw [ZoA (by omega), show L.length + t - L.length = t by omega]
  exact Qv (by omega) 0
theorem JR {X : List Int} {t : Nat} (h : t < X.length) : X.getD t 0 ∈ X := by
  rw [List.getD_eq_getElem?_getD, List.getElem?_eq_getElem h]; exact List.getElem_mem h
theorem Zng (hc : ∀ x y, D x → D y → ∃ c, cmp x y = some c ∧ (c < 0 ↔ key x < key y)) {L Y R : List Int} {x : Int} (hN : L.length + 1 + Y.length + R.length ≤ 1000000) (hY : Srt key Y) (hlt : ∀ y ∈ Y, x < y) (hD : ∀ z ∈ x :: Y, D z) :
    ∃ Z, ((loop (t2 (Z6 (L ++ [x] ++ Y ++ R) (L.length : Int) cmp)) (((L.length + 1 : Nat) : Int), ((L.length + 1 + Y.length : Nat) : Int))) : Option Int).bind (t1 fun (i : Int) =>
      (loop (t2 (Zz i)) (L ++ [x] ++ Y ++ R, (L.length : Int))).bind (t1 fun (o : List Int) => some o)) = some (L ++ Z ++ R) ∧ Z.Perm (x :: Y) ∧ Srt key Z := by
  obtain ⟨s, h1, h2, h3, h4, h5⟩ := ZiO (body := Z6 (L ++ [x] ++ Y ++ R) (L.length : Int) cmp) (fun c => decide (key (Y.getD (c - (L.length + 1)) 0) < key x)) (lo := L.length + 1) (hi := L.length + 1 + Y.length) (by omega) (fun i j a1 a2 a3 => by
      have e1 : i64 ((i : Int) + (j : Int)) = i64 ((i + j : Nat) : Int) := by push_cast; rfl
      have e2 : i64 (((i + j) / 2 : Nat) : Int) = (((i + j) / 2 : Nat) : Int) := Zh (by omega) (by omega)
      have e3 : i64 ((((i + j) / 2 : Nat) : Int) + 1) = (((i + j) / 2 + 1 : Nat) : Int) := (Zh (by omega) (by omega)).trans (by omega)
      have g1 : (L ++ [x] ++ Y ++ R)[(i + j) / 2]? = some (Y.getD ((i + j) / 2 - (L.length + 1)) 0) := by
        have := Zir (L := L ++ [x]) (X := Y) (R := R) (c := (i + j) / 2) (by simp; omega) (by simp; omega)
        simpa using this
      have g2 : (L ++ [x] ++ Y ++ R)[L.length]? = some x := by simp
      unfold Z6
      rw [if_pos (by simpa using a2), e1, Zin (by omega), Option.bind_some, e2, Zm g1, Option.bind_some, Zm g2, Option.bind_some]
      obtain ⟨c, c1, c2⟩ := hc (Y.getD ((i + j) / 2 - (L.length + 1)) 0) x (hD _ (List.mem_cons_of_mem _ (JR (by omega)))) (hD _ (List.mem_cons_self ..))
      rw [c1, Option.bind_some, e3]
      by_cases q : key (Y.getD ((i + j) / 2 - (L.length + 1)) 0) < key x
      · rw [if_pos (by simpa using c2.2 q), if_pos (by simpa using q)]
      · rw [if_neg (by simpa using fun w => q (c2.1 w)), if_neg (by simpa using q)]) (fun i a1 a2 => by
      unfold Z6
      rw [if_neg (by simp)])
  rw [h3, Option.bind_some, Qx]
  have sU := Zpw (body := Zz (s : Int)) (e := s - 1) (fun L' R' p q hl => by
      unfold Zz
      have e1 : i64 ((s : Int) - 1) = ((s - 1 : Nat) : Int) := (Zh (by omega) (by omega)).trans (by omega)
      have e2 : i64 ((L'.length : Int) + 1) = ((L'.length + 1 : Nat) : Int) := (Zh (by omega) (by omega)).trans (by omega)
      have g1 : (L' ++ p :: q :: R')[L'.length + 1]? = some q := by
        rw [List.getElem?_append_right (by omega)]; simp
      have g2 : (L' ++ p :: q :: R')[L'.length]? = some p := by simp
      have g3 : ((L' ++ p :: q :: R').set L'.length q)[L'.length + 1]? = some q := by rw [List.getElem?_set_ne (by omega)]; exact g1
      rw [e1, e2, if_pos (by simpa using hl), Zm g1, Option.bind_some, Zm g2, Option.bind_some, Option.bind_some]
      simp only [Int.toNat_natCast]
      rw [Zm g3, Option.bind_some]
      have := Zgz (L := L') (M := []) (R := R') (x := p) (y := q)
      simp only [List.length_nil, Nat.add_zero, List.append_nil] at this
      rw [show L' ++ p :: q :: R' = L' ++ [p] ++ q :: R' by simp, this]
      simp) (fun d => by
      unfold Zz
      have e1 : i64 ((s : Int) - 1) = ((s - 1 : Nat) : Int) := (Zh (by omega) (by omega)).trans (by omega)
      rw [e1, if_neg (by simp)]) (Y.take (s - (L.length + 1))) L (Y.drop (s - (L.length + 1)) ++ R) x (by rw [List.length_take]; omega)
  have ed : L ++ [x] ++ Y ++ R = L ++ x :: (Y.take (s - (L.length + 1)) ++ (Y.drop (s - (L.length + 1)) ++ R)) := by
    rw [← List.append_assoc (Y.take _), List.take_append_drop]; simp
  rw [ed, sU]
  refine ⟨Y.take (s - (L.length + 1)) ++ x :: Y.drop (s - (L.length + 1)), by simp, ?_, ?_⟩
  · refine List.perm_middle.trans ?_
    rw [List.take_append_drop]
  · have hA : Srt key (Y.take (s - (L.length + 1))) := hY.sublist (List.take_sublist ..)
    have hB : Srt key (Y.drop (s - (L.length + 1))) := hY.sublist (List.drop_sublist ..)
    have hAx : ∀ a ∈ Y.take (s - (L.length + 1)), LtK key a x := by
      have := Zed (key := key) (m := [x]) hA (List.pairwise_singleton ..) (fun a b ha hb => by
        cases hb
        rw [List.getLast?_eq_getElem?, List.length_take] at ha
        have l2 := (List.getElem?_eq_some_iff.1 ha).1
        rw [List.length_take] at l2
        rw [List.getElem?_take_of_lt (by omega)] at ha
        have q := h4 (by omega)
        rw [show s - 1 - (L.length + 1) = min (s - (L.length + 1)) Y.length - 1 by omega, List.getD_eq_getElem?_getD, ha] at q
        exact .inl (by simpa using q))
      exact fun a ha => this a ha x (List.mem_singleton.2 rfl)
    have hxB : ∀ b ∈ Y.drop (s - (L.length + 1)), LtK key x b := by
      have := Zed (key := key) (l := [x]) (List.pairwise_singleton ..) hB (fun a b ha hb => by
        simp only [List.getLast?_singleton, Option.some.injEq] at ha
        subst ha
        rw [List.head?_drop] at hb
        have l1 := (List.getElem?_eq_some_iff.1 hb).1
        have q := h5 (by omega)
        rw [List.getD_eq_getElem?_getD, hb] at q
        simp only [Option.getD_some, decide_eq_false_iff_not] at q
        have : x < b := hlt b (List.mem_of_getElem? hb)
        unfold LtK; omega)
      exact fun b hb => this x (List.mem_singleton.2 rfl) b hb
    refine hA.app (List.pairwise_cons.2 ⟨hxB, hB⟩) fun a ha b hb => ?_
    rcases List.mem_cons.1 hb with rfl | hb
    · exact hAx a ha
    · exact (hAx a ha).trans (hxB b hb)
theorem Zl5 (hc : ∀ x y, D x → D y → ∃ c, cmp x y = some c ∧ (c < 0 ↔ key x < key y)) {L X R : List Int} {y : Int} (hN : L.length + X.length + 1 + R.length ≤ 1000000) (hX : Srt key X) (hlt : ∀ x ∈ X, x < y) (hD : ∀ z ∈ y :: X, D z) :
    ∃ Z, ((loop (t2 (Z5 (L ++ X ++ [y] ++ R) ((L.length + X.length : Nat) : Int) cmp)) ((L.length : Int), ((L.length + X.length : Nat) : Int))) : Option Int).bind (t1 fun (i : Int) =>
      (loop (t2 (ZA i)) (L ++ X ++ [y] ++ R, ((L.length + X.length : Nat) : Int))).bind (t1 fun (o : List Int) => some o)) = some (L ++ Z ++ R) ∧ Z.Perm (X ++ [y]) ∧ Srt key Z := by
  obtain ⟨s, h1, h2, h3, h4, h5⟩ := ZiO (body := Z5 (L ++ X ++ [y] ++ R) ((L.length + X.length : Nat) : Int) cmp) (fun c => !decide (key y < key (X.getD (c - L.length) 0))) (lo := L.length) (hi := L.length + X.length) (by omega) (fun i j a1 a2 a3 => by
      have e1 : i64 ((i : Int) + (j : Int)) = i64 ((i + j : Nat) : Int) := by push_cast; rfl
      have e2 : i64 (((i + j) / 2 : Nat) : Int) = (((i + j) / 2 : Nat) : Int) := Zh (by omega) (by omega)
      have e3 : i64 ((((i + j) / 2 : Nat) : Int) + 1) = (((i + j) / 2 + 1 : Nat) : Int) := (Zh (by omega) (by omega)).trans (by omega)
      have g1 : (L ++ X ++ [y] ++ R)[(i + j) / 2]? = some (X.getD ((i + j) / 2 - L.length) 0) := by
        have := Zir (L := L) (X := X) (R := [y] ++ R) (c := (i + j) / 2) (by omega) (by omega)
        simpa using this
      have g2 : (L ++ X ++ [y] ++ R)[L.length + X.length]? = some y := by
        rw [List.append_assoc, List.getElem?_append_right (by simp)]; simp
      unfold Z5
      rw [if_pos (by simpa using a2), e1, Zin (by omega), Option.bind_some, e2, Zm g2, Option.bind_some, Zm g1, Option.bind_some]
      obtain ⟨c, c1, c2⟩ := hc y (X.getD ((i + j) / 2 - L.length) 0) (hD _ (List.mem_cons_self ..)) (hD _ (List.mem_cons_of_mem _ (JR (by omega))))
      rw [c1, Option.bind_some, e3]
      by_cases q : key y < key (X.getD ((i + j) / 2 - L.length) 0)
      · rw [if_neg (by simpa using c2.2 q), if_neg (by simpa using q)]
      · rw [if_pos (by simpa using fun w => q (c2.1 w)), if_pos (by simpa using q)]) (fun i a1 a2 => by
      unfold Z5
      rw [if_neg (by simp)])
  rw [h3, Option.bind_some, Qx]
  have hdl : (X.drop (s - L.length)).length = L.length + X.length - s := by rw [List.length_drop]; omega
  have htl : (X.take (s - L.length)).length = s - L.length := by rw [List.length_take]; omega
  have sD := Zpb (body := ZA (s : Int)) (e := s) (N := 1000000) (fun L' R' p q hl hl2 => by
      unfold ZA
      have e1 : i64 ((L'.length : Int) + 1 - 1) = ((L'.length : Nat) : Int) := (Zh (by omega) (by omega)).trans (by omega)
      have e2 : (L'.length : Int) + 1 = ((L'.length + 1 : Nat) : Int) := by omega
      have g1 : (L' ++ p :: q :: R')[L'.length + 1]? = some q := by
        rw [List.getElem?_append_right (by omega)]; simp
      have g2 : (L' ++ p :: q :: R')[L'.length]? = some p := by simp
      have g3 : ((L' ++ p :: q :: R').set (L'.length + 1) p)[L'.length]? = some p := by rw [List.getElem?_set_ne (by omega)]; exact g2
      rw [e1, e2, if_pos (by simp; omega), Zm g2, Option.bind_some, Zm g1, Option.bind_some, Option.bind_some]
      simp only [Int.toNat_natCast]
      rw [Zm g3, Option.bind_some]
      have := Zgz (L := L') (M := []) (R := R') (x := p) (y := q)
      simp only [List.length_nil, Nat.add_zero, List.append_nil] at this
      rw [show L' ++ p :: q :: R' = L' ++ [p] ++ q :: R' by simp, List.set_comm _ _ (by omega), this]
      simp) (fun d => by
      unfold ZA
      rw [if_neg (by simp)]) _ (X.drop (s - L.length)) (L ++ X.take (s - L.length)) R y rfl (by rw [List.length_append]; omega) (by rw [List.length_append]; omega)
  have ed : L ++ X ++ [y] ++ R = L ++ X.take (s - L.length) ++ X.drop (s - L.length) ++ y :: R := by
    rw [List.append_assoc L (X.take _), List.take_append_drop]; simp
  have el : ((L.length + X.length : Nat) : Int) = ((L ++ X.take (s - L.length)).length : Int) + ((X.drop (s - L.length)).length : Int) := by
    rw [List.length_append]; omega
  rw [ed, el, sD]
  refine ⟨X.take (s - L.length) ++ y :: X.drop (s - L.length), by simp, ?_, ?_⟩
  · refine List.perm_middle.trans ?_
    rw [List.take_append_drop]
    exact (List.perm_append_comm (l₁ := X) (l₂ := [y])).symm
  · have hA : Srt key (X.take (s - L.length)) := hX.sublist (List.take_sublist ..)
    have hB : Srt key (X.drop (s - L.length)) := hX.sublist (List.drop_sublist ..)
    have hAy : ∀ a ∈ X.take (s - L.length), LtK key a y := by
      have := Zed (key := key) (m := [y]) hA (List.pairwise_singleton ..) (fun a b ha hb => by
        cases hb
        rw [List.getLast?_eq_getElem?, htl] at ha
        have l2 := (List.getElem?_eq_some_iff.1 ha).1
        rw [htl] at l2
        rw [List.getElem?_take_of_lt (by omega)] at ha
        have q := h4 (by omega)
        rw [show s - 1 - L.length = s - L.length - 1 by omega, List.getD_eq_getElem?_getD, ha] at q
        simp only [Option.getD_some, Bool.not_eq_true', decide_eq_false_iff_not] at q
        have : a < y := hlt a (List.mem_of_getElem? ha)
        unfold LtK; omega)
      exact fun a ha => this a ha y (List.mem_singleton.2 rfl)
    have hyB : ∀ b ∈ X.drop (s - L.length), LtK key y b := by
      have := Zed (key := key) (l := [y]) (List.pairwise_singleton ..) hB (fun a b ha hb => by
        simp only [List.getLast?_singleton, Option.some.injEq] at ha
        subst ha
        rw [List.head?_drop] at hb
        have l1 := (List.getElem?_eq_some_iff.1 hb).1
        have q := h5 (by omega)
        rw [List.getD_eq_getElem?_getD, hb] at q
        exact .inl (by simpa using q))
      exact fun b hb => this y (List.mem_singleton.2 rfl) b hb
    refine hA.app (List.pairwise_cons.2 ⟨hyB, hB⟩) fun a ha b hb => ?_
    rcases List.mem_cons.1 hb with rfl | hb
    · exact hAy a ha
    · exact (hAy a ha).trans (hyB b hb)
end
end Go.Vx

namespace Go.Vx
open Go Go.RowKit
set_option maxHeartbeats 1000000
section
variable {key : Int → Int} {D : Int → Prop} {cmp : Int → Int → Option Int}
theorem Zpo (hc : ∀ x y, D x → D y → ∃ c, cmp x y = some c ∧ (c < 0 ↔ key x < key y)) :
    ∀ (n : Nat) (L X Y R : List Int), X ≠ [] → Y ≠ [] → X.length + Y.length ≤ n → L.length + X.length + Y.length + R.length ≤ 1000000 → Srt key X → Srt key Y → (∀ x ∈ X, ∀ y ∈ Y, x < y) → (∀ x ∈ X ++ Y, D x) →
      ∃ Z, ZC n (L ++ X ++ Y ++ R) (L.length : Int) ((L.length + X.length : Nat) : Int) ((L.length + X.length + Y.length : Nat) : Int) cmp = some (L ++ Z ++ R) ∧ Z.Perm (X ++ Y) ∧ Srt key Z := by
  intro n
  induction n with
  | zero =>
    intro L X Y R hX hY hn
    have := List.length_pos_iff.2 hX
    omega
  | succ n ih =>
    intro L X Y R hX hY hn hN sX sY hlt hD
    have pX := List.length_pos_iff.2 hX
    have pY := List.length_pos_iff.2 hY
    show ∃ Z, ZW (ZC n) _ _ _ _ _ = _ ∧ _
    unfold ZW
    have e1 : i64 (((L.length + X.length : Nat) : Int) - (L.length : Int)) = (X.length : Int) := (Zh (by omega) (by omega)).trans (by omega)
    have e2 : i64 (((L.length + X.length + Y.length : Nat) : Int) - ((L.length + X.length : Nat) : Int)) = (Y.length : Int) := (Zh (by omega) (by omega)).trans (by omega)
    rw [e1, e2]
    by_cases c1 : X.length = 1
    · rw [if_pos (by simp; omega)]
      obtain ⟨x, rfl⟩ := List.length_eq_one_iff.1 c1
      have := Zng (key := key) (D := D) hc (L := L) (Y := Y) (R := R) (x := x) (by simp at hN; omega) sY (fun y hy => hlt x (by simp) y hy) (fun z hz => hD z (by simpa using hz))
      simpa using this
    · rw [if_neg (by simpa using fun q => c1 (by omega))]
      by_cases c2 : Y.length = 1
      · rw [if_pos (by simp; omega)]
        obtain ⟨y, rfl⟩ := List.length_eq_one_iff.1 c2
        have := Zl5 (key := key) (D := D) hc (L := L) (X := X) (R := R) (y := y) (by simp at hN; omega) sX (fun x hx => hlt x hx y (by simp)) (fun z hz => hD z (by
          rcases List.mem_cons.1 hz with rfl | q <;> simp_all))
        exact this
      · rw [if_neg (by simpa using fun q => c2 (by omega))]
        generalize ha : L.length = a at *
        generalize hm : a + X.length = m at *
        generalize hb : m + Y.length = b at *
        obtain ⟨mid, hmid⟩ : ∃ mid, mid = (a + b) / 2 := ⟨_, rfl⟩
        rw [show i64 ((a : Int) + (b : Int)) = i64 ((a + b : Nat) : Int) by push_cast; rfl, Zin (by omega), Option.bind_some, ← hmid]
        have f1 : i64 (mid : Int) = (mid : Int) := Zh (by omega) (by omega)
        have f2 : i64 ((mid : Int) + (m : Int)) = ((mid + m : Nat) : Int) := (Zh (by omega) (by omega)).trans (by omega)
        rw [f1, f2]
        obtain ⟨lo, hlo⟩ : ∃ lo, lo = if mid < m then mid + m - b else a := ⟨_, rfl⟩
        obtain ⟨hi, hhi⟩ : ∃ hi, hi = if mid < m then mid else m := ⟨_, rfl⟩
        have f3 : (if decide ((mid : Int) < (m : Int)) = true then some (i64 (((mid + m : Nat) : Int) - (b : Int)), (mid : Int)) else some ((a : Int), (m : Int))) = some ((lo : Int), (hi : Int)) := by
          by_cases q : mid < m
          · rw [if_pos (by simpa using q), show i64 (((mid + m : Nat) : Int) - (b : Int)) = ((mid + m - b : Nat) : Int) from (Zh (by omega) (by omega)).trans (by omega), hlo, hhi, if_pos q, if_pos q]
          · rw [if_neg (by simpa using q), hlo, hhi, if_neg q, if_neg q]
        rw [f3]
        simp only [Option.bind_some, Qy]
        have blo : a ≤ lo ∧ lo ≤ hi ∧ hi ≤ m ∧ hi ≤ mid ∧ mid + m - b ≤ lo := by
          split at hlo <;> split at hhi <;> omega
        obtain ⟨s, h1, h2, h3, h4, h5⟩ := ZiO (body := Qg (L ++ X ++ Y ++ R) (m : Int) cmp (mid : Int)) (fun c => !decide (key (Y.getD (mid - 1 - c) 0) < key (X.getD (c - a) 0))) (lo := lo) (hi := hi) (by omega) (fun i j a1 a2 a3 => by
          have g1 : i64 ((i : Int) + (j : Int)) = i64 ((i + j : Nat) : Int) := by push_cast; rfl
          have g2 : i64 (((i + j) / 2 : Nat) : Int) = (((i + j) / 2 : Nat) : Int) := Zh (by omega) (by omega)
          have g3 : i64 ((((i + j) / 2 : Nat) : Int) + 1) = (((i + j) / 2 + 1 : Nat) : Int) := (Zh (by omega) (by omega)).trans (by omega)
          have g4 : i64 (i64 (((mid + m : Nat) : Int) - 1) - (((i + j) / 2 : Nat) : Int)) = ((m + (mid - 1 - (i + j) / 2) : Nat) : Int) := by
            rw [show i64 (((mid + m : Nat) : Int) - 1) = ((mid + m - 1 : Nat) : Int) from (Zh (by omega) (by omega)).trans (by omega)]
            exact (Zh (by omega) (by omega)).trans (by omega)
          have k1 : (L ++ X ++ Y ++ R)[m + (mid - 1 - (i + j) / 2)]? = some (Y.getD (mid - 1 - (i + j) / 2) 0) := by
            have := Zir (L := L ++ X) (X := Y) (R := R) (c := m + (mid - 1 - (i + j) / 2)) (by simp; omega) (by simp; omega)
            rw [this]; congr 2; simp; omega
          have k2 : (L ++ X ++ Y ++ R)[(i + j) / 2]? = some (X.getD ((i + j) / 2 - a) 0) := by
            have := Zir (L := L) (X := X) (R := Y ++ R) (c := (i + j) / 2) (by omega) (by omega)
            rw [← ha, ← this]; simp
          unfold Qg
          rw [if_pos (by simpa using a2), g1, Zin (by omega), Option.bind_some, g2, f1, f2, g4, Zm k1, Option.bind_some, Zm k2, Option.bind_some]
          obtain ⟨c, d1, d2⟩ := hc (Y.getD (mid - 1 - (i + j) / 2) 0) (X.getD ((i + j) / 2 - a) 0) (hD _ (List.mem_append_right _ (JR (by omega)))) (hD _ (List.mem_append_left _ (JR (by omega))))
          rw [d1, Option.bind_some, g3]
          by_cases q : key (Y.getD (mid - 1 - (i + j) / 2) 0) < key (X.getD ((i + j) / 2 - a) 0)
          · rw [if_neg (by simpa using d2.2 q), if_neg (by simpa using q)]
          · rw [if_pos (by simpa using fun w => q (d2.1 w)), if_pos (by simpa using q)]) (fun i a1 a2 => by
          unfold Qg
          rw [if_neg (by simp)])
        rw [h3]
        simp only [Option.bind_some, Qx]
        have cut := Zo4 (key := key) (X := X) (Y := Y) (a := a) (m := m) (b := b) (s := s) hm hb sX sY mid hmid lo hi hlo hhi h1 h2 (fun hl x y hx hy => by
          have q := h4 hl
          rw [show mid - 1 - (s - 1) = mid - s by omega, List.getD_eq_getElem?_getD, List.getD_eq_getElem?_getD, hx, hy] at q
          simp only [Option.getD_some, Bool.not_eq_true', decide_eq_false_iff_not] at q
          have := hlt x (List.mem_of_getElem? hx) y (List.mem_of_getElem? hy)
          unfold LtK; omega) (fun hl x y hx hy => by
          have q := h5 hl
          rw [show mid - 1 - s = mid - s - 1 by omega, List.getD_eq_getElem?_getD, List.getD_eq_getElem?_getD, hx, hy] at q
          simp only [Option.getD_some, Bool.not_eq_false', decide_eq_true_eq] at q
          exact .inl q)
        have le1 : (X.take (s - a)).length = s - a := by rw [List.length_take]; omega
        have le2 : (X.drop (s - a)).length = m - s := by rw [List.length_drop]; omega
        have le3 : (Y.take (mid - s)).length = mid - s := by rw [List.length_take]; omega
        have le4 : (Y.drop (mid - s)).length = b - (mid + m - s) := by rw [List.length_drop]; omega
        have sX1 : Srt key (X.take (s - a)) := sX.sublist (List.take_sublist ..)
        have sX2 : Srt key (X.drop (s - a)) := sX.sublist (List.drop_sublist ..)
        have sY1 : Srt key (Y.take (mid - s)) := sY.sublist (List.take_sublist ..)
        have sY2 : Srt key (Y.drop (mid - s)) := sY.sublist (List.drop_sublist ..)
        have mXX : ∀ x ∈ X.take (s - a), ∀ y ∈ X.drop (s - a), LtK key x y := by
          have := sX
          rw [← List.take_append_drop (s - a) X] at this
          exact this.mid
        have mYY : ∀ x ∈ Y.take (mid - s), ∀ y ∈ Y.drop (mid - s), LtK key x y := by
          have := sY
          rw [← List.take_append_drop (mid - s) Y] at this
          exact this.mid
        have hXe : X = X.take (s - a) ++ X.drop (s - a) := (List.take_append_drop ..).symm
        have hYe : Y = Y.take (mid - s) ++ Y.drop (mid - s) := (List.take_append_drop ..).symm
        have iX1 : ∀ x ∈ X.take (s - a), x ∈ X := fun x hx => List.mem_of_mem_take hx
        have iX2 : ∀ x ∈ X.drop (s - a), x ∈ X := fun x hx => List.mem_of_mem_drop hx
        have iY1 : ∀ x ∈ Y.take (mid - s), x ∈ Y := fun x hx => List.mem_of_mem_take hx
        have iY2 : ∀ x ∈ Y.drop (mid - s), x ∈ Y := fun x hx => List.mem_of_mem_drop hx
        generalize X.take (s - a) = X1 at *
        generalize X.drop (s - a) = X2 at *
        generalize Y.take (mid - s) = Y1 at *
        generalize Y.drop (mid - s) = Y2 at *
        subst hXe hYe
        have g5 : i64 (((mid + m : Nat) : Int) - (s : Int)) = ((mid + m - s : Nat) : Int) := (Zh (by omega) (by omega)).trans (by omega)
        rw [g5]
        have rot : (if ((decide ((s : Int) < (m : Int))) && (decide ((m : Int) < ((mid + m - s : Nat) : Int)))) = true then (Z0 (L ++ (X1 ++ X2) ++ (Y1 ++ Y2) ++ R) (s : Int) (m : Int) ((mid + m - s : Nat) : Int) cmp).bind fun y4 => some y4 else some (L ++ (X1 ++ X2) ++ (Y1 ++ Y2) ++ R)) = some (L ++ X1 ++ Y1 ++ (X2 ++ Y2 ++ R)) := by
          by_cases q : s < m ∧ m < mid + m - s
          · rw [if_pos (by simp; omega)]
            have := Zlj (cmp := cmp) (L := L ++ X1) (X := X2) (Y := Y1) (R := Y2 ++ R) (by intro w; subst w; simp at le2; omega) (by intro w; subst w; simp at le3; omega) (by simp only [List.length_append] at hn hN pX pY ⊢; omega)
            rw [show (L ++ X1).length = s by rw [List.length_append]; omega, show s + X2.length = m by omega, show m + Y1.length = mid + m - s by omega] at this
            rw [show L ++ (X1 ++ X2) ++ (Y1 ++ Y2) ++ R = L ++ X1 ++ X2 ++ Y1 ++ (Y2 ++ R) by simp, this]
            simp
          · rw [if_neg (by simp; omega)]
            by_cases w : s < m
            · have : Y1 = [] := List.length_eq_zero_iff.1 (by omega)
              subst this; simp
            · have : X2 = [] := List.length_eq_zero_iff.1 (by omega)
              subst this; simp
        rw [rot]
        simp only [Option.bind_some, Qx]
        have first : ∃ Z1, (if ((decide ((a : Int) < (s : Int))) && (decide ((s : Int) < (mid : Int)))) = true then (ZC n (L ++ X1 ++ Y1 ++ (X2 ++ Y2 ++ R)) (a : Int) (s : Int) (mid : Int) cmp).bind fun y5 => some y5 else some (L ++ X1 ++ Y1 ++ (X2 ++ Y2 ++ R))) = some (L ++ Z1 ++ (X2 ++ Y2 ++ R)) ∧ Z1.Perm (X1 ++ Y1) ∧ Srt key Z1 := by
          by_cases q : a < s ∧ s < mid
          · rw [if_pos (by simp; omega)]
            obtain ⟨Z, z1, z2, z3⟩ := ih L X1 Y1 (X2 ++ Y2 ++ R) (by intro w; subst w; simp at le1; omega) (by intro w; subst w; simp at le3; omega) (by simp only [List.length_append] at hn hN pX pY c1 c2 ⊢; omega) (by simp only [List.length_append] at hn hN ⊢; omega) sX1 sY1 (fun x hx y hy => hlt x (iX1 x hx) y (iY1 y hy)) (fun x hx => hD x (by
              rcases List.mem_append.1 hx with w | w
              · exact List.mem_append_left _ (iX1 x w)
              · exact List.mem_append_right _ (iY1 x w)))
            rw [ha, show a + X1.length = s by omega, show s + Y1.length = mid by omega] at z1
            exact ⟨Z, by rw [z1]; rfl, z2, z3⟩
          · rw [if_neg (by simp; omega)]
            refine ⟨X1 ++ Y1, by simp, .refl _, ?_⟩
            by_cases w : a < s
            · have : Y1 = [] := List.length_eq_zero_iff.1 (by omega)
              subst this; simpa using sX1
            · have : X1 = [] := List.length_eq_zero_iff.1 (by omega)
              subst this; simpa using sY1
        obtain ⟨Z1, z1, z2, z3⟩ := first
        rw [z1]
        simp only [Option.bind_some, Qx]
        have hZ1 : Z1.length = mid - a := by rw [z2.length_eq, List.length_append]; omega
        have second : ∃ Z2, (if ((decide ((mid : Int) < ((mid + m - s : Nat) : Int))) && (decide (((mid + m - s : Nat) : Int) < (b : Int)))) = true then (ZC n (L ++ Z1 ++ (X2 ++ Y2 ++ R)) (mid : Int) ((mid + m - s : Nat) : Int) (b : Int) cmp).bind fun y6 => some y6 else some (L ++ Z1 ++ (X2 ++ Y2 ++ R))) = some (L ++ Z1 ++ Z2 ++ R) ∧ Z2.Perm (X2 ++ Y2) ∧ Srt key Z2 := by
          by_cases q : mid < mid + m - s ∧ mid + m - s < b
          · rw [if_pos (by simp; omega)]
            obtain ⟨Z, y1, y2, y3⟩ := ih (L ++ Z1) X2 Y2 R (by intro w; subst w; simp at le2; omega) (by intro w; subst w; simp at le4; omega) (by simp only [List.length_append] at hn hN pX pY c1 c2 ⊢; omega) (by simp only [List.length_append] at hn hN ⊢; omega) sX2 sY2 (fun x hx y hy => hlt x (iX2 x hx) y (iY2 y hy)) (fun x hx => hD x (by
              rcases List.mem_append.1 hx with w | w
              · exact List.mem_append_left _ (iX2 x w)
              · exact List.mem_append_right _ (iY2 x w)))
            rw [show (L ++ Z1).length = mid by rw [List.length_append]; omega, show mid + X2.length = mid + m - s by omega, show mid + m - s + Y2.length = b by omega] at y1
            refine ⟨Z, ?_, y2, y3⟩
            rw [show L ++ Z1 ++ (X2 ++ Y2 ++ R) = L ++ Z1 ++ X2 ++ Y2 ++ R by simp, y1]; rfl
          · rw [if_neg (by simp; omega)]
            refine ⟨X2 ++ Y2, by simp, .refl _, ?_⟩
            by_cases w : s < m
            · have : Y2 = [] := List.length_eq_zero_iff.1 (by omega)
              subst this; simpa using sX2
            · have : X2 = [] := List.length_eq_zero_iff.1 (by omega)
              subst this; simpa using sY2
        obtain ⟨Z2, y1, y2, y3⟩ := second
        refine ⟨Z1 ++ Z2, by rw [y1]; simp, ?_, ?_⟩
        · refine (z2.append y2).trans ?_
          simp only [List.append_assoc]
          refine List.Perm.append_left _ ?_
          rw [← List.append_assoc, ← List.append_assoc]
          exact List.Perm.append_right _ List.perm_append_comm
        · refine z3.app y3 fun x hx y hy => ?_
          rcases List.mem_append.1 (z2.mem_iff.1 hx) with p | p <;> rcases List.mem_append.1 (y2.mem_iff.1 hy) with q | q
          · exact mXX x p y q
          · exact cut.1 x p y q
          · exact cut.2 x p y q
          · exact mYY x p y q
end
end Go.Vx
