/- A text of the proof: a verified executor of the program form, or the contracts of the functions that the law reaches. -/
import Derived.Test.YtgohgnaapbpggaaGreatDoorShT
import Derived.Test.YtgohgnaapbpggaaGreatDoorShLib
import Derived.Test.YtgohgnaapbpggaaGreatDoorVR
set_option linter.all false
namespace Go.Vx
open Go Go.RowKit
theorem lnb {α β : Type} {x : Option α} {f : α → Option β} {r : β} (h : x.bind f = some r) : ∃ a, x = some a ∧ f a = some r := Option.bind_eq_some_iff.1 h
theorem J5 {s : List Int} {at_ : Int} {data : List Int} {power : Int} {r : Int × Bool × List Int} (h : Xo s at_ data power = some r) : r.2.2.length = s.length := by
  unfold Xo at h
  obtain ⟨q, hq, h⟩ := lnb h
  have hQ : Sum.elim (fun q : Int × Bool × List Int => q.2.2.length = s.length) (fun q : List Int × Int => q.1.length = s.length) q := by
    refine Q2 (body := t3 (Q0 at_ data)) (fun x => x.1.length = s.length) (fun q => Sum.elim (fun q : Int × Bool × List Int => q.2.2.length = s.length) (fun q : List Int × Int => q.1.length = s.length) q) ?_ ?_ rfl hq
    · rintro ⟨o, p, i⟩ s' hs hb
      simp only [Zej] at hb hs
      unfold Q0 at hb
      split at hb
      · obtain ⟨x, _, hb⟩ := lnb hb
        split at hb
        · obtain ⟨_, _, hb⟩ := lnb hb
          obtain ⟨_, _, hb⟩ := lnb hb
          cases hb
        · obtain ⟨_, _, hb⟩ := lnb hb
          obtain ⟨_, _, hb⟩ := lnb hb
          cases hb
          simpa using hs
      · cases hb
    · rintro ⟨o, p, i⟩ s' hs hb
      simp only [Zej] at hb hs
      unfold Q0 at hb
      split at hb
      · obtain ⟨x, _, hb⟩ := lnb hb
        split at hb
        · obtain ⟨_, _, hb⟩ := lnb hb
          obtain ⟨_, _, hb⟩ := lnb hb
          cases hb
          simpa using hs
        · obtain ⟨_, _, hb⟩ := lnb hb
          obtain ⟨_, _, hb⟩ := lnb hb
          cases hb
      · cases hb; exact hs
  cases q with
  | inl q => cases h; exact hQ
  | inr q => cases h; exact hQ
theorem Zfi {s : List Int} {power : Int} {r : Int × Bool × List Int} (h : QX s power = some r) : r.2.2.length = s.length := by
  unfold QX at h
  split at h
  · obtain ⟨q, _, h⟩ := lnb h
    obtain ⟨_, _, h⟩ := lnb h
    obtain ⟨o, ho, h⟩ := lnb h
    cases h
    refine Q2 (body := t2 (QD q)) (fun x => x.1.length = s.length) (fun o => o.length = s.length) ?_ ?_ rfl ho
    · rintro ⟨o, i⟩ s' hs hb
      simp only [Jb] at hb hs
      unfold QD at hb
      split at hb
      · obtain ⟨_, _, hb⟩ := lnb hb
        obtain ⟨_, _, hb⟩ := lnb hb
        cases hb
        simpa using hs
      · cases hb
    · rintro ⟨o, i⟩ s' hs hb
      simp only [Jb] at hb hs
      unfold QD at hb
      split at hb
      · obtain ⟨_, _, hb⟩ := lnb hb
        obtain ⟨_, _, hb⟩ := lnb hb
        cases hb
      · cases hb; exact hs
  · obtain ⟨o, ho, h⟩ := lnb h
    cases h
    refine Q2 (body := t2 (QB s)) (fun x => x.1.length = s.length) (fun o => o.length = s.length) ?_ ?_ rfl ho
    · rintro ⟨o, i⟩ s' hs hb
      simp only [Jb] at hb hs
      unfold QB at hb
      split at hb
      · obtain ⟨_, _, hb⟩ := lnb hb
        cases hb
        simpa using hs
      · cases hb
    · rintro ⟨o, i⟩ s' hs hb
      simp only [Jb] at hb hs
      unfold QB at hb
      split at hb
      · obtain ⟨_, _, hb⟩ := lnb hb
        cases hb
      · cases hb; exact hs
theorem Qf {data : List Int} {a b : Int} {cmp : Int → Int → Option Int} {r : List Int} (h : Zz data a b cmp = some r) : r.length = data.length := by
  unfold Zz at h
  refine Q2 (body := t2 (ZB a b cmp)) (fun x => x.1.length = data.length) (fun o => o.length = data.length) ?_ ?_ rfl h
  · rintro ⟨o, i⟩ s' hs hb
    simp only [Jb] at hb hs
    unfold ZB at hb
    split at hb
    · obtain ⟨o2, h2, hb⟩ := lnb hb
      cases hb
      refine Q2 (body := t2 (ZA a cmp)) (fun x => x.1.length = data.length) (fun o => o.length = data.length) ?_ ?_ hs h2
      · rintro ⟨o, j⟩ s' hs hb
        simp only [Jb] at hb hs
        unfold ZA at hb
        obtain ⟨_, _, hb⟩ := lnb hb
        obtain ⟨_, _, hb⟩ := lnb hb
        obtain ⟨_, _, hb⟩ := lnb hb
        split at hb
        · obtain ⟨_, _, hb⟩ := lnb hb
          obtain ⟨_, _, hb⟩ := lnb hb
          obtain ⟨_, _, hb⟩ := lnb hb
          obtain ⟨_, _, hb⟩ := lnb hb
          cases hb
          simpa using hs
        · cases hb
      · rintro ⟨o, j⟩ s' hs hb
        simp only [Jb] at hb hs
        unfold ZA at hb
        obtain ⟨_, _, hb⟩ := lnb hb
        obtain ⟨_, _, hb⟩ := lnb hb
        obtain ⟨_, _, hb⟩ := lnb hb
        split at hb
        · obtain ⟨_, _, hb⟩ := lnb hb
          obtain ⟨_, _, hb⟩ := lnb hb
          obtain ⟨_, _, hb⟩ := lnb hb
          obtain ⟨_, _, hb⟩ := lnb hb
          cases hb
        · cases hb; exact hs
    · cases hb
  · rintro ⟨o, i⟩ s' hs hb
    simp only [Jb] at hb hs
    unfold ZB at hb
    split at hb
    · obtain ⟨o2, h2, hb⟩ := lnb hb
      cases hb
    · cases hb; exact hs
theorem Z0 {data : List Int} {a b n : Int} {cmp : Int → Int → Option Int} {r : List Int} (h : ZS data a b n cmp = some r) : r.length = data.length := by
  unfold ZS at h
  refine Q2 (body := t2 (Z4 a b n)) (fun x => x.1.length = data.length) (fun o => o.length = data.length) ?_ ?_ rfl h
  · rintro ⟨o, i⟩ s' hs hb
    simp only [Jb] at hb hs
    unfold Z4 at hb
    split at hb
    · obtain ⟨_, _, hb⟩ := lnb hb
      obtain ⟨_, _, hb⟩ := lnb hb
      obtain ⟨_, _, hb⟩ := lnb hb
      obtain ⟨_, _, hb⟩ := lnb hb
      cases hb
      simpa using hs
    · cases hb
  · rintro ⟨o, i⟩ s' hs hb
    simp only [Jb] at hb hs
    unfold Z4 at hb
    split at hb
    · obtain ⟨_, _, hb⟩ := lnb hb
      obtain ⟨_, _, hb⟩ := lnb hb
      obtain ⟨_, _, hb⟩ := lnb hb
      obtain ⟨_, _, hb⟩ := lnb hb
      cases hb
    · cases hb; exact hs
theorem JH {data : List Int} {a m b : Int} {cmp : Int → Int → Option Int} {r : List Int} (h : QG data a m b cmp = some r) : r.length = data.length := by
  unfold QG at h
  obtain ⟨⟨o, i⟩, ho, h⟩ := lnb h
  simp only [Jb] at h
  obtain ⟨y, hy, h⟩ := lnb h
  cases h
  refine (Z0 hy).trans ?_
  refine Q2 (body := t3 (Qn m cmp)) (fun x => x.1.length = data.length) (fun o => o.1.length = data.length) ?_ ?_ rfl ho
  · rintro ⟨o, i, j⟩ s' hs hb
    simp only [Zej] at hb hs
    unfold Qn at hb
    split at hb
    · split at hb
      · obtain ⟨z, hz, hb⟩ := lnb hb
        cases hb
        exact (Z0 hz).trans hs
      · obtain ⟨z, hz, hb⟩ := lnb hb
        cases hb
        exact (Z0 hz).trans hs
    · cases hb
  · rintro ⟨o, i, j⟩ s' hs hb
    simp only [Zej] at hb hs
    unfold Qn at hb
    split at hb
    · split at hb
      · obtain ⟨z, hz, hb⟩ := lnb hb
        cases hb
      · obtain ⟨z, hz, hb⟩ := lnb hb
        cases hb
    · cases hb; exact hs
theorem Zk6 {rec_ : List Int → Int → Int → Int → (Int → Int → Option Int) → Option (List Int)} {data : List Int} {a m b : Int} {cmp : Int → Int → Option Int} {r : List Int}
    (hr : ∀ {data : List Int} {a m b : Int} {cmp : Int → Int → Option Int} {r : List Int}, rec_ data a m b cmp = some r → r.length = data.length) (h : Qi rec_ data a m b cmp = some r) : r.length = data.length := by
  unfold Qi at h
  split at h
  · obtain ⟨i, _, h⟩ := lnb h
    simp only [Zgq] at h
    obtain ⟨o, ho, h⟩ := lnb h
    cases h
    refine Q2 (body := t2 (Z9 i)) (fun x => x.1.length = data.length) (fun o => o.length = data.length) ?_ ?_ rfl ho
    · rintro ⟨o, k⟩ s' hs hb
      simp only [Jb] at hb hs
      unfold Z9 at hb
      split at hb
      · obtain ⟨_, _, hb⟩ := lnb hb
        obtain ⟨_, _, hb⟩ := lnb hb
        obtain ⟨_, _, hb⟩ := lnb hb
        obtain ⟨_, _, hb⟩ := lnb hb
        cases hb
        simpa using hs
      · cases hb
    · rintro ⟨o, k⟩ s' hs hb
      simp only [Jb] at hb hs
      unfold Z9 at hb
      split at hb
      · obtain ⟨_, _, hb⟩ := lnb hb
        obtain ⟨_, _, hb⟩ := lnb hb
        obtain ⟨_, _, hb⟩ := lnb hb
        obtain ⟨_, _, hb⟩ := lnb hb
        cases hb
      · cases hb; exact hs
  · split at h
    · obtain ⟨i, _, h⟩ := lnb h
      simp only [Zgq] at h
      obtain ⟨o, ho, h⟩ := lnb h
      cases h
      refine Q2 (body := t2 (Qc i)) (fun x => x.1.length = data.length) (fun o => o.length = data.length) ?_ ?_ rfl ho
      · rintro ⟨o, k⟩ s' hs hb
        simp only [Jb] at hb hs
        unfold Qc at hb
        split at hb
        · obtain ⟨_, _, hb⟩ := lnb hb
          obtain ⟨_, _, hb⟩ := lnb hb
          obtain ⟨_, _, hb⟩ := lnb hb
          obtain ⟨_, _, hb⟩ := lnb hb
          cases hb
          simpa using hs
        · cases hb
      · rintro ⟨o, k⟩ s' hs hb
        simp only [Jb] at hb hs
        unfold Qc at hb
        split at hb
        · obtain ⟨_, _, hb⟩ := lnb hb
          obtain ⟨_, _, hb⟩ := lnb hb
          obtain ⟨_, _, hb⟩ := lnb hb
          obtain ⟨_, _, hb⟩ := lnb hb
          cases hb
        · cases hb; exact hs
    · obtain ⟨q3, _, h⟩ := lnb h
      obtain ⟨⟨st, rr⟩, _, h⟩ := lnb h
      simp only [Jb] at h
      obtain ⟨s2, _, h⟩ := lnb h
      simp only [Zgq] at h
      obtain ⟨o5, h5, h⟩ := lnb h
      simp only [Zgq] at h
      obtain ⟨o6, h6, h⟩ := lnb h
      simp only [Zgq] at h
      have l5 : o5.length = data.length := by
        split at h5
        · obtain ⟨z, hz, h5⟩ := lnb h5
          cases h5
          exact JH hz
        · cases h5; rfl
      have l6 : o6.length = data.length := by
        split at h6
        · obtain ⟨z, hz, h6⟩ := lnb h6
          cases h6
          exact (hr hz).trans l5
        · cases h6; exact l5
      split at h
      · obtain ⟨z, hz, h⟩ := lnb h
        cases h
        exact (hr hz).trans l6
      · cases h; exact l6
theorem Qb {n_ : Nat} {data : List Int} {a m b : Int} {cmp : Int → Int → Option Int} {r : List Int} (h : Z2 n_ data a m b cmp = some r) : r.length = data.length := by
  induction n_ generalizing data a m b cmp r with
  | zero => cases h
  | succ n ih => exact Zk6 (rec_ := Z2 n) (fun h => ih h) h
theorem ZcH {data : List Int} {n : Int} {cmp : Int → Int → Option Int} {r : List Int} (hy : ZX data n cmp = some r) : r.length = data.length := by
  unfold ZX at hy
  obtain ⟨⟨o, a⟩, ho, hy⟩ := lnb hy
  simp only [Jb] at hy
  obtain ⟨y2, hy2, hy⟩ := lnb hy
  have h1 : o.length = data.length := by
    refine Q2 (body := t3 (ZP n cmp)) (fun s => s.1.length = data.length) (fun q => q.1.length = data.length) ?_ ?_ rfl ho
    · rintro ⟨o, a, b⟩ s' hs hb
      simp only [Zej] at hb hs
      unfold ZP at hb
      split at hb
      · obtain ⟨z, hz, hb⟩ := lnb hb
        cases hb
        exact (Qf hz).trans hs
      · cases hb
    · rintro ⟨o, a, b⟩ s' hs hb
      simp only [Zej] at hb hs
      unfold ZP at hb
      split at hb
      · obtain ⟨z, hz, hb⟩ := lnb hb
        cases hb
      · cases hb; exact hs
  have h2 : y2.length = data.length := (Qf hy2).trans h1
  have inner : ∀ (bs : Int) (s : List Int) (q : List Int × Int), s.length = data.length → loop (t3 (ZG n cmp bs)) (s, 0, i64 (2 * bs)) = some q → q.1.length = data.length := by
    intro bs s q hs hq
    refine Q2 (body := t3 (ZG n cmp bs)) (fun s => s.1.length = data.length) (fun q => q.1.length = data.length) ?_ ?_ hs hq
    · rintro ⟨o, a, b⟩ s' hs hb
      simp only [Zej] at hb hs
      unfold ZG at hb
      split at hb
      · obtain ⟨z, hz, hb⟩ := lnb hb
        cases hb
        exact (Qb hz).trans hs
      · cases hb
    · rintro ⟨o, a, b⟩ s' hs hb
      simp only [Zej] at hb hs
      unfold ZG at hb
      split at hb
      · obtain ⟨z, hz, hb⟩ := lnb hb
        cases hb
      · cases hb; exact hs
  refine Q2 (body := t2 (ZQ n cmp)) (fun s => s.1.length = data.length) (fun q => q.length = data.length) ?_ ?_ h2 hy
  · rintro ⟨o, bs⟩ s' hs hb
    simp only [Jb] at hb hs
    unfold ZQ at hb
    split at hb
    · obtain ⟨⟨o4, a3⟩, h4, hb⟩ := lnb hb
      simp only [Jb] at hb
      have l4 := inner bs o _ hs h4
      split at hb
      · obtain ⟨z, hz, hb⟩ := lnb hb
        cases hb
        exact (Qb hz).trans l4
      · cases hb; exact l4
    · cases hb
  · rintro ⟨o, bs⟩ s' hs hb
    simp only [Jb] at hb hs
    unfold ZQ at hb
    split at hb
    · obtain ⟨⟨o4, a3⟩, h4, hb⟩ := lnb hb
      simp only [Jb] at hb
      split at hb
      · obtain ⟨z, hz, hb⟩ := lnb hb
        cases hb
      · cases hb
    · cases hb; exact hs
theorem Zbv {x : List Int} {cmp : Int → Int → Option Int} {r : List Int} (h : ZK x cmp = some r) : r.length = x.length := by
  unfold ZK at h
  obtain ⟨y, hy, h⟩ := lnb h
  cases h
  exact ZcH hy
end Go.Vx

namespace Go.Vx
open Go Go.RowKit
theorem Ze0 {b : List Int} {r : List Int × (Int × Int)} (h : X9 b = some r) : slq r.1 r.2.1 r.2.2 = some () := by
  unfold X9 at h
  obtain ⟨l, _, h⟩ := lnb h
  obtain ⟨l2, _, h⟩ := lnb h
  obtain ⟨u, hu, h⟩ := lnb h
  cases h; exact hu
theorem Zfh {s : List Int} {s_p s_q at_ : Int} {data : List Int} {power : Int} {r : Int × Bool × List Int} (h : Q3 s s_p s_q at_ data power = some r) : r.2.2.length = s.length := by
  unfold Q3 at h
  obtain ⟨q, hq, h⟩ := lnb h
  have hQ : Sum.elim (fun q : Int × Bool × List Int => q.2.2.length = s.length) (fun q : List Int × Int => q.1.length = s.length) q := by
    refine Q2 (body := t3 (Qy s_p s_q at_ data)) (fun x => x.1.length = s.length) (fun q => Sum.elim (fun q : Int × Bool × List Int => q.2.2.length = s.length) (fun q : List Int × Int => q.1.length = s.length) q) ?_ ?_ rfl hq
    · rintro ⟨o, p, i⟩ s' hs hb
      simp only [Zej] at hb hs
      unfold Qy at hb
      split at hb
      · obtain ⟨x, _, hb⟩ := lnb hb
        split at hb
        · obtain ⟨_, _, hb⟩ := lnb hb
          obtain ⟨_, _, hb⟩ := lnb hb
          obtain ⟨_, _, hb⟩ := lnb hb
          obtain ⟨_, _, hb⟩ := lnb hb
          cases hb
        · obtain ⟨_, _, hb⟩ := lnb hb
          obtain ⟨_, _, hb⟩ := lnb hb
          obtain ⟨_, _, hb⟩ := lnb hb
          obtain ⟨_, _, hb⟩ := lnb hb
          cases hb
          simpa using hs
      · cases hb
    · rintro ⟨o, p, i⟩ s' hs hb
      simp only [Zej] at hb hs
      unfold Qy at hb
      split at hb
      · obtain ⟨x, _, hb⟩ := lnb hb
        split at hb
        · obtain ⟨_, _, hb⟩ := lnb hb
          obtain ⟨_, _, hb⟩ := lnb hb
          obtain ⟨_, _, hb⟩ := lnb hb
          obtain ⟨_, _, hb⟩ := lnb hb
          cases hb
          simpa using hs
        · obtain ⟨_, _, hb⟩ := lnb hb
          obtain ⟨_, _, hb⟩ := lnb hb
          obtain ⟨_, _, hb⟩ := lnb hb
          obtain ⟨_, _, hb⟩ := lnb hb
          cases hb
      · cases hb; exact hs
  cases q with
  | inl q => cases h; exact hQ
  | inr q => cases h; exact hQ
theorem Zam {s : List Int} {s_p s_q at_ : Int} {data : List Int} {power : Int} {r : Int × Bool × Int × List Int} (h : Q5 s s_p s_q at_ data power = some r) : r.2.2.2.length = s.length := by
  unfold Q5 at h
  obtain ⟨_, _, h⟩ := lnb h
  split at h
  · cases h; rfl
  · split at h
    · cases h; rfl
    · obtain ⟨y, hy, h⟩ := lnb h
      cases h
      exact Zfh hy
theorem Zd7 {s : List Int} {s_p s_q power : Int} {r : Int × Bool × List Int} (h : Qv s s_p s_q power = some r) : r.2.2.length = s.length := by
  unfold Qv at h
  split at h
  · obtain ⟨q, _, h⟩ := lnb h
    obtain ⟨_, _, h⟩ := lnb h
    obtain ⟨_, _, h⟩ := lnb h
    obtain ⟨o, ho, h⟩ := lnb h
    cases h
    refine Q2 (body := t2 (ZW s_p q)) (fun x => x.1.length = s.length) (fun o => o.length = s.length) ?_ ?_ rfl ho
    · rintro ⟨o, i⟩ s' hs hb
      simp only [Jb] at hb hs
      unfold ZW at hb
      split at hb
      · obtain ⟨_, _, hb⟩ := lnb hb
        obtain ⟨_, _, hb⟩ := lnb hb
        cases hb
        simpa using hs
      · cases hb
    · rintro ⟨o, i⟩ s' hs hb
      simp only [Jb] at hb hs
      unfold ZW at hb
      split at hb
      · obtain ⟨_, _, hb⟩ := lnb hb
        obtain ⟨_, _, hb⟩ := lnb hb
        cases hb
      · cases hb; exact hs
  · obtain ⟨o, ho, h⟩ := lnb h
    cases h
    refine Q2 (body := t2 (ZV s_p s_q)) (fun x => x.1.length = s.length) (fun o => o.length = s.length) ?_ ?_ rfl ho
    · rintro ⟨o, i⟩ s' hs hb
      simp only [Jb] at hb hs
      unfold ZV at hb
      split at hb
      · obtain ⟨_, _, hb⟩ := lnb hb
        obtain ⟨_, _, hb⟩ := lnb hb
        cases hb
        simpa using hs
      · cases hb
    · rintro ⟨o, i⟩ s' hs hb
      simp only [Jb] at hb hs
      unfold ZV at hb
      split at hb
      · obtain ⟨_, _, hb⟩ := lnb hb
        obtain ⟨_, _, hb⟩ := lnb hb
        cases hb
      · cases hb; exact hs
theorem Jm {s : List Int} {s_p s_q power : Int} {r : Int × Bool × Int × List Int} (h : Qz s s_p s_q power = some r) : r.2.2.2.length = s.length := by
  unfold Qz at h
  obtain ⟨_, _, h⟩ := lnb h
  split at h
  · cases h; rfl
  · obtain ⟨y, hy, h⟩ := lnb h
    cases h
    exact Zd7 hy
end Go.Vx

namespace Go.Vx
open Go Go.RowKit
theorem Zbg {z : Int} (h1 : -9223372036854775808 ≤ z) (h2 : z ≤ 9223372036854775807) : IntKind.i64.wrap z = z := w64 h1 h2
@[simp] theorem ZmR {α : Type} {d : α} {o : Option α} : gd true d o = o := rfl
@[simp] theorem ZmQ {α : Type} {d : α} {o : Option α} : gd false d o = some d := rfl
@[simp] theorem ZmM {α : Type} {d : α} {o : Option α} : gd (true == true) d o = o := rfl
theorem Zhu {α : Type} {xs : List α} {k : Nat} {x : α} (h : xs[k]? = some x) : idx xs (k : Int) = some x := by simp [idx, h]
theorem Zjr {α : Type} {xs : List α} {k : Nat} (h : k < xs.length) : ∃ x, xs[k]? = some x := ⟨xs[k], List.getElem?_eq_getElem h⟩
theorem ZgQ {α : Type} {xs : List α} {k : Nat} {x : α} (h : xs[k]? = some x) : xs.drop k = x :: xs.drop (k + 1) := by
  obtain ⟨hk, rfl⟩ := List.getElem?_eq_some_iff.1 h
  exact List.drop_eq_getElem_cons hk
section loops
variable {σ ρ : Type}
variable {α : Type} {xs : List α}
end loops
end Go.Vx

namespace Go.Vx
open Go Go.RowKit
def Qs {σ ρ : Type} (b : σ → Option (σ ⊕ ρ)) (s : σ) : Option ρ :=
  Nat.rec (motive := fun _ => σ → Option ρ) (fun _ => none) (fun _ ih s => match b s with | none => none | some (.inl s') => ih s' | some (.inr r) => some r) 1000000 s
def Le {α : Type} (a b : Option α) : Prop := ∀ r, a = some r → b = some r
theorem Le.refl {α : Type} (a : Option α) : Le a a := fun _ h => h
section
variable {α β γ δ ε ζ η θ ι κ σ ρ : Type}
theorem Le.bind {a b : Option α} {f g : α → Option β} (h : Le a b) (hf : ∀ x, Le (f x) (g x)) : Le (a.bind f) (b.bind g) := by
  intro r hr
  cases ha : a with
  | none => rw [ha] at hr; cases hr
  | some x => rw [ha] at hr; rw [h x ha]; exact hf x r hr
theorem Le.ite {c : Prop} [Decidable c] {a b a' b' : Option α} (h1 : Le a a') (h2 : Le b b') : Le (if c then a else b) (if c then a' else b') := by
  split
  · exact h1
  · exact h2
theorem Le.gd {g : Bool} {d : α} {a b : Option α} (h : Le a b) : Le (gd g d a) (gd g d b) := by
  cases g
  · exact fun r hr => hr
  · exact h
theorem Le.loop {b b' : σ → Option (σ ⊕ ρ)} {s : σ} (h : ∀ s, Le (b s) (b' s)) : Le (Qs b s) (loop b' s) := by
  have key : ∀ n s r, Nat.rec (motive := fun _ => σ → Option ρ) (fun _ => none) (fun _ ih s => match b s with | none => none | some (.inl s') => ih s' | some (.inr r) => some r) n s = some r → Za1 b' n s = some r := by
    intro n
    induction n with
    | zero => intro s r hr; cases hr
    | succ n ih =>
      intro s r hr
      simp only at hr
      cases hb : b s with
      | none => rw [hb] at hr; cases hr
      | some o =>
        rw [hb] at hr
        simp only [Za1, h s o hb, Option.bind_some]
        cases o with
        | inl s' => exact ih s' r hr
        | inr r' => exact hr
  intro r hr
  exact Zgr (key 1000000 s r hr)
theorem Le.t0 {f g : Option κ} {p : Unit} (h : Le f g) : Le (t0 f p) (t0 g p) := h
theorem Le.t1 {f g : α → Option κ} {p : α} (h : ∀ a, Le (f a) (g a)) : Le (t1 f p) (t1 g p) := h _
theorem Le.t2 {f g : α → β → Option κ} {p : α × β} (h : ∀ a b, Le (f a b) (g a b)) : Le (t2 f p) (t2 g p) := h _ _
theorem Le.t3 {f g : α → β → γ → Option κ} {p : α × β × γ} (h : ∀ a b c, Le (f a b c) (g a b c)) : Le (t3 f p) (t3 g p) := h _ _ _
theorem Le.t4 {f g : α → β → γ → δ → Option κ} {p : α × β × γ × δ} (h : ∀ a b c d, Le (f a b c d) (g a b c d)) : Le (t4 f p) (t4 g p) := h _ _ _ _
theorem Le.t5 {f g : α → β → γ → δ → ε → Option κ} {p : α × β × γ × δ × ε} (h : ∀ a b c d e, Le (f a b c d e) (g a b c d e)) : Le (t5 f p) (t5 g p) := h _ _ _ _ _
theorem Le.t6 {f g : α → β → γ → δ → ε → ζ → Option κ} {p : α × β × γ × δ × ε × ζ} (h : ∀ a b c d e x, Le (f a b c d e x) (g a b c d e x)) : Le (t6 f p) (t6 g p) := h _ _ _ _ _ _
theorem Le.t7 {f g : α → β → γ → δ → ε → ζ → η → Option κ} {p : α × β × γ × δ × ε × ζ × η} (h : ∀ a b c d e x y, Le (f a b c d e x y) (g a b c d e x y)) : Le (t7 f p) (t7 g p) := h _ _ _ _ _ _ _
theorem Le.t8 {f g : α → β → γ → δ → ε → ζ → η → θ → Option κ} {p : α × β × γ × δ × ε × ζ × η × θ} (h : ∀ a b c d e x y z, Le (f a b c d e x y z) (g a b c d e x y z)) : Le (t8 f p) (t8 g p) := h _ _ _ _ _ _ _ _
theorem Le.t9 {ι : Type} {f g : α → β → γ → δ → ε → ζ → η → θ → ι → Option κ} {p : α × β × γ × δ × ε × ζ × η × θ × ι} (h : ∀ a b c d e x y z w, Le (f a b c d e x y z w) (g a b c d e x y z w)) : Le (t9 f p) (t9 g p) := h _ _ _ _ _ _ _ _ _
theorem Le.elim {f f' : α → Option κ} {g g' : β → Option κ} {s : α ⊕ β} (h1 : ∀ a, Le (f a) (f' a)) (h2 : ∀ b, Le (g b) (g' b)) : Le (Sum.elim f g s) (Sum.elim f' g' s) := by
  cases s with
  | inl a => exact h1 a
  | inr b => exact h2 b
end
end Go.Vx

namespace Go.Vx
open Go Go.RowKit
def ZlH : List Int → Option (List Int)
  | [x] => some [x]
  | _ => none
theorem ZkK (xs : List Int) : Le (ZlH xs) (Zg9 xs) := by
  intro r h
  match xs, h with
  | [x], h => cases h; unfold Zg9; rw [if_pos (by simp), List.mergeSort_singleton]
end Go.Vx

namespace Go.Vx
open Go Go.RowKit
set_option linter.unusedVariables false

noncomputable def ZdC (data : List Int) (f2 : Vector Int 64) (i : Int) : Option (((Vector Int 64) × Int) ⊕ ((Vector Int 64) × Int) ⊕ ((Vector Int 64))) :=
  if (decide (i < (data.length : Int))) = true then
  (idx data i).bind fun x3 =>
  if ((decide (x3 < 0)) || (decide (2047 < x3))) = true then
  some (.inr (.inl ((#v[0, 0, 0, 0, 0, 0, 0, 0, 0, 0, 0, 0, 0, 0, 0, 0, 0, 0, 0, 0, 0, 0, 0, 0, 0, 0, 0, 0, 0, 0, 0, 0, 0, 0, 0, 0, 0, 0, 0, 0, 0, 0, 0, 0, 0, 0, 0, 0, 0, 0, 0, 0, 0, 0, 0, 0, 0, 0, 0, 0, 0, 0, 0, 0] : Vector Int 64), 9)))
  else
  (ZO f2 (i64 (3 + i))).bind fun x4 =>
  some (.inl ((X4 f2 (i64 (3 + i)) (u16 x3)), (i64 (i + 1))))
  else
  some (.inr (.inr f2))
theorem ZhA (data : List Int) (f2 : Vector Int 64) (i : Int) : Le (ZdC data f2 i) (Zdi data f2 i) := by
  unfold ZdC Zdi
  with_reducible repeat' (first | exact Le.refl _ | apply Le.bind | apply Le.ite | intro _)

noncomputable def Zdy (n2 : Int) (ones2 : Int) : Option ((Int × Int) ⊕ (Int)) :=
  if (decide (0 < n2)) = true then
  (rem n2 2).bind fun q =>
  (quo .i64 n2 2).bind fun q2 =>
  some (.inl (q2, (i64 (ones2 + q))))
  else
  some (.inr ones2)
theorem ZhZ (n2 : Int) (ones2 : Int) : Le (Zdy n2 ones2) (Zdj n2 ones2) := by
  unfold Zdy Zdj
  with_reducible repeat' (first | exact Le.refl _ | apply Le.bind | apply Le.ite | intro _)

noncomputable def ZfP (n : Int) : Option Bool :=
  ((Qs (t2 (Zdy)) (n, 0)) : Option ((Int))).bind (t1 fun (ones : Int) =>
  (rem ones 2).bind fun q3 =>
  some (decide (q3 = 1)))
theorem Zjg (n : Int) : Le (ZfP n) (ZeQ n) := by
  unfold ZfP ZeQ
  with_reducible repeat' (first | exact Le.refl _ | apply Le.bind | apply Le.loop | apply Le.t1 | apply Le.t2 | apply ZhZ | intro _)

noncomputable def ZaW (data : Int) : Option Int :=
  (ZfP data).bind fun y =>
  if y = true then
  some data
  else
  some (i64 (data + 2048))
theorem Zd5 (data : Int) : Le (ZaW data) (Za0 data) := by
  unfold ZaW Za0
  with_reducible repeat' (first | exact Le.refl _ | apply Le.bind | apply Le.ite | apply Zjg | intro _)

noncomputable def ZbX (f3 : Vector Int 64) (i : Int) : Option (((Vector Int 64) × Int) ⊕ ((Vector Int 64))) :=
  if (decide (i ≤ 60)) = true then
  (ZO f3 i).bind fun x =>
  (rem (i64 x) 2048).bind fun q =>
  (ZaW q).bind fun y =>
  (ZO f3 i).bind fun x2 =>
  some (.inl ((X4 f3 i (u16 y)), (i64 (i + 1))))
  else
  some (.inr f3)
theorem Zgs (f3 : Vector Int 64) (i : Int) : Le (ZbX f3 i) (Zbd f3 i) := by
  unfold ZbX Zbd
  with_reducible repeat' (first | exact Le.refl _ | apply Le.bind | apply Le.ite | apply Zd5 | intro _)

noncomputable def Zct (f : Vector Int 64) : Option Int :=
  (ZO f 1).bind fun x =>
  (rem (i64 x) 2048).bind fun q =>
  (ZO f 2).bind fun x2 =>
  (rem (i64 x2) 2048).bind fun q2 =>
  some (i64 (q + (i64 (q2 * 2048))))
theorem Zgx (f : Vector Int 64) : Le (Zct f) (Zat f) := by
  unfold Zct Zat
  with_reducible repeat' (first | exact Le.refl _ | apply Le.bind | intro _)

noncomputable def Zdt (number : Int) : Option Int :=
  (rem number 4).bind fun q =>
  (ZO (#v[583, 1464, 2631, 3512] : Vector Int 4) q).bind fun x =>
  some x
theorem ZhC (number : Int) : Le (Zdt number) (Zb8 number) := by
  unfold Zdt Zb8
  with_reducible repeat' (first | exact Le.refl _ | apply Le.bind | intro _)

noncomputable def Zdv (f : Vector Int 64) (x2 : Int) (i : Int) : Option ((Int × Int) ⊕ (Int)) :=
  if (decide (i ≤ 60)) = true then
  (ZO f i).bind fun x3 =>
  (rem (i64 x3) 2048).bind fun q =>
  some (.inl ((ZeH .i64 x2 q), (i64 (i + 1))))
  else
  some (.inr x2)
theorem ZhI (f : Vector Int 64) (x2 : Int) (i : Int) : Le (Zdv f x2 i) (Zdq f x2 i) := by
  unfold Zdv Zdq
  with_reducible repeat' (first | exact Le.refl _ | apply Le.bind | apply Le.ite | intro _)

noncomputable def Zfu (f : Vector Int 64) : Option Int :=
  ((Qs (t2 (Zdv f)) (0, 1)) : Option ((Int))).bind (t1 fun (x : Int) =>
  some x)
theorem ZiZ (f : Vector Int 64) : Le (Zfu f) (ZeG f) := by
  unfold Zfu ZeG
  with_reducible repeat' (first | exact Le.refl _ | apply Le.bind | apply Le.loop | apply Le.t1 | apply Le.t2 | apply ZhI | intro _)

noncomputable def Zcn (f : Vector Int 64) (rest2 : Int) (i : Int) : Option ((Int × Int) ⊕ (Int)) :=
  if (decide (i < 766)) = true then
  ((if (decide (i < 744)) = true then
  (quo .i64 i 12).bind fun q =>
  (ZO f q).bind fun x =>
  (rem i 12).bind fun q2 =>
  (shr .i64 (i64 x) (i64 (11 - q2))).bind fun q3 =>
  some (Q6 .i64 q3 1)
  else
  some 0) : Option ((Int))).bind (t1 fun (bit : Int) =>
  if (decide (4194304 ≤ (i64 ((i64 (rest2 * 2)) + bit)))) = true then
  some (.inl ((ZeH .i64 (i64 ((i64 (rest2 * 2)) + bit)) 6291471), (i64 (i + 1))))
  else
  some (.inl ((i64 ((i64 (rest2 * 2)) + bit)), (i64 (i + 1)))))
  else
  some (.inr rest2)
theorem ZgZ (f : Vector Int 64) (rest2 : Int) (i : Int) : Le (Zcn f rest2 i) (Zb6 f rest2 i) := by
  unfold Zcn Zb6
  with_reducible repeat' (first | exact Le.refl _ | apply Le.bind | apply Le.ite | apply Le.t1 | intro _)

noncomputable def Zd8 (f : Vector Int 64) : Option Int :=
  ((Qs (t2 (Zcn f)) (0, 0)) : Option ((Int))).bind (t1 fun (rest : Int) =>
  some rest)
theorem Zh7 (f : Vector Int 64) : Le (Zd8 f) (Zc7 f) := by
  unfold Zd8 Zc7
  with_reducible repeat' (first | exact Le.refl _ | apply Le.bind | apply Le.loop | apply Le.t1 | apply Le.t2 | apply ZgZ | intro _)

noncomputable def Zc9 (f : Vector Int 64) : Option (Vector Int 64) :=
  (Zd8 f).bind fun y =>
  (quo .i64 y 2048).bind fun q =>
  (ZaW q).bind fun y2 =>
  (rem y 2048).bind fun q2 =>
  (ZaW q2).bind fun y3 =>
  (ZO f 62).bind fun x =>
  (ZO (X4 f 62 (u16 y2)) 63).bind fun x2 =>
  some (X4 (X4 f 62 (u16 y2)) 63 (u16 y3))
theorem Zhb (f : Vector Int 64) : Le (Zc9 f) (Zbh f) := by
  unfold Zc9 Zbh
  with_reducible repeat' (first | exact Le.refl _ | apply Le.bind | apply Zh7 | apply Zd5 | intro _)

noncomputable def Zds (f : Vector Int 64) : Option (Vector Int 64) :=
  ((Qs (t2 (ZbX)) (f, 1)) : Option (((Vector Int 64)))).bind (t1 fun (f2 : Vector Int 64) =>
  (Zct f2).bind fun y2 =>
  (Zdt y2).bind fun y3 =>
  (ZO f2 0).bind fun x3 =>
  (Zfu (X4 f2 0 (u16 y3))).bind fun y4 =>
  (ZaW y4).bind fun y5 =>
  (ZO (X4 f2 0 (u16 y3)) 61).bind fun x4 =>
  (Zc9 (X4 (X4 f2 0 (u16 y3)) 61 (u16 y5))).bind fun y6 =>
  some y6)
theorem Zhz (f : Vector Int 64) : Le (Zds f) (Zch f) := by
  unfold Zds Zch
  with_reducible repeat' (first | exact Le.refl _ | apply Le.bind | apply Le.loop | apply Le.t1 | apply Le.t2 | apply Zgs | apply Zgx | apply ZhC | apply ZiZ | apply Zd5 | apply Zhb | intro _)

noncomputable def ZfG (number : Int) (data : List Int) : Option ((Vector Int 64) × Int) :=
  if ((decide (number < 0)) || (decide (4194304 ≤ number))) = true then
  some ((#v[0, 0, 0, 0, 0, 0, 0, 0, 0, 0, 0, 0, 0, 0, 0, 0, 0, 0, 0, 0, 0, 0, 0, 0, 0, 0, 0, 0, 0, 0, 0, 0, 0, 0, 0, 0, 0, 0, 0, 0, 0, 0, 0, 0, 0, 0, 0, 0, 0, 0, 0, 0, 0, 0, 0, 0, 0, 0, 0, 0, 0, 0, 0, 0] : Vector Int 64), 9)
  else
  if (!decide ((data.length : Int) = 58)) = true then
  some ((#v[0, 0, 0, 0, 0, 0, 0, 0, 0, 0, 0, 0, 0, 0, 0, 0, 0, 0, 0, 0, 0, 0, 0, 0, 0, 0, 0, 0, 0, 0, 0, 0, 0, 0, 0, 0, 0, 0, 0, 0, 0, 0, 0, 0, 0, 0, 0, 0, 0, 0, 0, 0, 0, 0, 0, 0, 0, 0, 0, 0, 0, 0, 0, 0] : Vector Int 64), 3)
  else
  (rem number 2048).bind fun q =>
  (quo .i64 number 2048).bind fun q2 =>
  (ZO (#v[0, 0, 0, 0, 0, 0, 0, 0, 0, 0, 0, 0, 0, 0, 0, 0, 0, 0, 0, 0, 0, 0, 0, 0, 0, 0, 0, 0, 0, 0, 0, 0, 0, 0, 0, 0, 0, 0, 0, 0, 0, 0, 0, 0, 0, 0, 0, 0, 0, 0, 0, 0, 0, 0, 0, 0, 0, 0, 0, 0, 0, 0, 0, 0] : Vector Int 64) 1).bind fun x =>
  (ZO (X4 (#v[0, 0, 0, 0, 0, 0, 0, 0, 0, 0, 0, 0, 0, 0, 0, 0, 0, 0, 0, 0, 0, 0, 0, 0, 0, 0, 0, 0, 0, 0, 0, 0, 0, 0, 0, 0, 0, 0, 0, 0, 0, 0, 0, 0, 0, 0, 0, 0, 0, 0, 0, 0, 0, 0, 0, 0, 0, 0, 0, 0, 0, 0, 0, 0] : Vector Int 64) 1 (u16 q)) 2).bind fun x2 =>
  ((Qs (t2 (ZdC data)) ((X4 (X4 (#v[0, 0, 0, 0, 0, 0, 0, 0, 0, 0, 0, 0, 0, 0, 0, 0, 0, 0, 0, 0, 0, 0, 0, 0, 0, 0, 0, 0, 0, 0, 0, 0, 0, 0, 0, 0, 0, 0, 0, 0, 0, 0, 0, 0, 0, 0, 0, 0, 0, 0, 0, 0, 0, 0, 0, 0, 0, 0, 0, 0, 0, 0, 0, 0] : Vector Int 64) 1 (u16 q)) 2 (u16 q2)), 0)) : Option (((Vector Int 64) × Int) ⊕ ((Vector Int 64)))).bind (Sum.elim (fun q' => some q') (t1 fun (f : Vector Int 64) =>
  (Zds f).bind fun y =>
  some (y, 0)))
theorem Zjm (number : Int) (data : List Int) : Le (ZfG number data) (ZeP number data) := by
  unfold ZfG ZeP
  with_reducible repeat' (first | exact Le.refl _ | apply Le.bind | apply Le.ite | apply Le.loop | apply Le.t1 | apply Le.t2 | apply Le.elim | apply ZhA | apply Zhz | intro _)

noncomputable def Qk (n : Int) (low : Int) (high : Int) : Option Bool :=
  some ((decide (low ≤ n)) && (decide (n ≤ high)))
theorem Xx (n : Int) (low : Int) (high : Int) : Le (Qk n low high) (ZF n low high) := by
  unfold Qk ZF
  with_reducible repeat' (first | exact Le.refl _ | apply Le.bind | intro _)

noncomputable def Jr (slots : Int) : Option Int :=
  some (i64 (16 + (i64 (slots * 97))))
theorem Zcz (slots : Int) : Le (Jr slots) (Xq slots) := by
  unfold Jr Xq
  with_reducible repeat' (first | exact Le.refl _ | apply Le.bind | intro _)

noncomputable def Zec (x : Int) (y : Int) : Option (Int × Int) :=
  (shr .u64 x 32).bind fun q =>
  (shr .u64 y 32).bind fun q2 =>
  (shr .u64 (u64 ((Q6 .u64 x 4294967295) * (Q6 .u64 y 4294967295))) 32).bind fun q3 =>
  (shr .u64 (u64 ((u64 (q * (Q6 .u64 y 4294967295))) + q3)) 32).bind fun q4 =>
  (shr .u64 (u64 ((Q6 .u64 (u64 ((u64 (q * (Q6 .u64 y 4294967295))) + q3)) 4294967295) + (u64 ((Q6 .u64 x 4294967295) * q2)))) 32).bind fun q5 =>
  some ((u64 ((u64 ((u64 (q * q2)) + q4)) + q5)), (u64 (x * y)))
theorem Zig (x : Int) (y : Int) : Le (Zec x y) (ZcT x y) := by
  unfold Zec ZcT
  with_reducible repeat' (first | exact Le.refl _ | apply Le.bind | intro _)

noncomputable def ZfB (x : Int) (y : Int) : Option (Int × Int) :=
  (Zec x y).bind fun y2 =>
  some (y2.1, y2.2)
theorem Zi7 (x : Int) (y : Int) : Le (ZfB x y) (ZeA x y) := by
  unfold ZfB ZeA
  with_reducible repeat' (first | exact Le.refl _ | apply Le.bind | apply Zig | intro _)

noncomputable def Xi (newslice2 : List Int) (n : Int) : Option (((List Int) × Int) ⊕ ((List Int))) :=
  if (decide (n < (newslice2.length : Int))) = true then
  (slq newslice2 n (newslice2.length : Int)).bind fun u =>
  (slq newslice2 0 n).bind fun u2 =>
  some (.inl ((cpy newslice2 n.toNat (Int.toNat ((newslice2.length : Int) - n)) (Int.toNat 0) (Int.toNat (n - 0))), (i64 (n + ((min (Int.toNat (n - 0)) (Int.toNat ((newslice2.length : Int) - n)) : Nat) : Int)))))
  else
  some (.inr newslice2)
theorem Zci (newslice2 : List Int) (n : Int) : Le (Xi newslice2 n) (QN newslice2 n) := by
  unfold Xi QN
  with_reducible repeat' (first | exact Le.refl _ | apply Le.bind | apply Le.ite | intro _)

noncomputable def XF (x : List Int) (count : Int) : Option (List Int) :=
  if (decide (count < 0)) = true then
  none
  else
  (ZfB (u64 (x.length : Int)) (u64 count)).bind fun y =>
  if ((decide (0 < y.1)) || (decide (9223372036854775807 < y.2))) = true then
  none
  else
  (mks (i64 y.2) 0).bind fun l =>
  ((Qs (t2 (Xi)) ((Zhc l x), ((min x.length l.length : Nat) : Int))) : Option (((List Int)))).bind (t1 fun (newslice : List Int) =>
  some newslice)
theorem ZcQ (x : List Int) (count : Int) : Le (XF x count) (QI x count) := by
  unfold XF QI
  with_reducible repeat' (first | exact Le.refl _ | apply Le.bind | apply Le.ite | apply Le.loop | apply Le.t1 | apply Le.t2 | apply Zi7 | apply Zci | intro _)

noncomputable def Zal (sectors : Int) (slots : Int) (Sectors2 : List (List Int)) (i : Int) : Option (((List (List Int)) × Int) ⊕ ((List (List Int)))) :=
  if (decide (i < sectors)) = true then
  (((Jr slots).bind fun y4 =>
  (XF ([255] : List Int) y4).bind fun y5 =>
  (apz 24 Sectors2 [y5]).bind fun l3 =>
  some l3) : Option (((List (List Int))))).bind (t1 fun (Sectors3 : List (List Int)) =>
  some (.inl (Sectors3, (i64 (i + 1)))))
  else
  some (.inr Sectors2)
theorem Ze1 (sectors : Int) (slots : Int) (Sectors2 : List (List Int)) (i : Int) : Le (Zal sectors slots Sectors2 i) (JI sectors slots Sectors2 i) := by
  unfold Zal JI
  with_reducible repeat' (first | exact Le.refl _ | apply Le.bind | apply Le.ite | apply Le.t1 | apply Zcz | apply ZcQ | intro _)

noncomputable def ZbQ (sectors : Int) (slots : Int) (limit : Int) : Option (api_Memory × Int) :=
  (Qk sectors 2 64).bind fun y =>
  (gd ((!y) == false) false (Qk slots 1 64)).bind fun y2 =>
  (gd (((!y) || (!y2)) == false) false (Qk limit 1 1000000)).bind fun y3 =>
  if (((!y) || (!y2)) || (!y3)) = true then
  some ((api_Memory.mk 0 0 [] [] []), 9)
  else
  (((mkz 8 sectors 0).bind fun l =>
  (mkz 1 sectors false).bind fun l2 =>
  some (l, l2)) : Option (((List Int) × (List Bool)))).bind (t2 fun (Wear : List Int) (Bad : List Bool) =>
  ((Qs (t2 (Zal sectors slots)) ([], 0)) : Option (((List (List Int))))).bind (t1 fun (Sectors : List (List Int)) =>
  some ((api_Memory.mk slots limit Sectors Wear Bad), 0)))
theorem ZfT (sectors : Int) (slots : Int) (limit : Int) : Le (ZbQ sectors slots limit) (JW sectors slots limit) := by
  unfold ZbQ JW
  with_reducible repeat' (first | exact Le.refl _ | apply Le.bind | apply Le.ite | apply Le.gd | apply Le.loop | apply Le.t1 | apply Le.t2 | apply Xx | apply Ze1 | intro _)

noncomputable def JF (m : api_Memory) (i : Int) : Option ((Int) ⊕ (Int) ⊕ (Unit)) :=
  if (decide (i < (m.Sectors.length : Int))) = true then
  (idx m.Sectors i).bind fun x =>
  (Jr m.Slots).bind fun y4 =>
  if (!decide ((x.length : Int) = y4)) = true then
  some (.inr (.inl 3))
  else
  (idx m.Wear i).bind fun x2 =>
  (Qk x2 0 m.Limit).bind fun y5 =>
  if (!y5) = true then
  some (.inr (.inl 9))
  else
  some (.inl (i64 (i + 1)))
  else
  some (.inr (.inr ()))
theorem Zea (m : api_Memory) (i : Int) : Le (JF m i) (XZ m i) := by
  unfold JF XZ
  with_reducible repeat' (first | exact Le.refl _ | apply Le.bind | apply Le.ite | apply Zcz | apply Xx | intro _)

noncomputable def ZaN (m : api_Memory) : Option Int :=
  (Qk m.Slots 1 64).bind fun y =>
  (gd ((!y) == false) false (Qk m.Limit 1 1000000)).bind fun y2 =>
  (gd (((!y) || (!y2)) == false) false (Qk (m.Sectors.length : Int) 2 64)).bind fun y3 =>
  if (((!y) || (!y2)) || (!y3)) = true then
  some 9
  else
  if ((!decide ((m.Wear.length : Int) = (m.Sectors.length : Int))) || (!decide ((m.Bad.length : Int) = (m.Sectors.length : Int)))) = true then
  some 2
  else
  ((Qs (t1 (JF m)) 0) : Option ((Int) ⊕ (Unit))).bind (Sum.elim (fun q' => some q') (t0 (some 0)))
theorem Zfo (m : api_Memory) : Le (ZaN m) (X3 m) := by
  unfold ZaN X3
  with_reducible repeat' (first | exact Le.refl _ | apply Le.bind | apply Le.ite | apply Le.gd | apply Le.loop | apply Le.t0 | apply Le.t1 | apply Le.elim | apply Xx | apply Zea | intro _)

noncomputable def ZaQ (l : List api_Memory) (i : Int) : Option ((Int) ⊕ (Int) ⊕ (Unit)) :=
  if (decide (i < (l.length : Int))) = true then
  (idx l i).bind fun x =>
  (ZaN x).bind fun y2 =>
  if (!decide (y2 = 0)) = true then
  some (.inr (.inl y2))
  else
  some (.inl (i64 (i + 1)))
  else
  some (.inr (.inr ()))
theorem Ze9 (l : List api_Memory) (i : Int) : Le (ZaQ l i) (JY l i) := by
  unfold ZaQ JY
  with_reducible repeat' (first | exact Le.refl _ | apply Le.bind | apply Le.ite | apply Zfo | intro _)

noncomputable def ZaH (l : List api_Memory) : Option Int :=
  (Qk (l.length : Int) 1 8).bind fun y =>
  if (!y) = true then
  some 3
  else
  ((Qs (t1 (ZaQ l)) 0) : Option ((Int) ⊕ (Unit))).bind (Sum.elim (fun q' => some q') (t0 (some 0)))
theorem ZdR (l : List api_Memory) : Le (ZaH l) (JA l) := by
  unfold ZaH JA
  with_reducible repeat' (first | exact Le.refl _ | apply Le.bind | apply Le.ite | apply Le.loop | apply Le.t0 | apply Le.t1 | apply Le.elim | apply Xx | apply Ze9 | intro _)

noncomputable def JO (m : api_Memory) (sectors2 : List (List Int)) (i : Int) : Option (((List (List Int)) × Int) ⊕ ((List (List Int)))) :=
  if (decide (i < (m.Sectors.length : Int))) = true then
  (idx m.Sectors i).bind fun x =>
  (Zee 1 x).bind fun y =>
  (apz 24 sectors2 [y]).bind fun l =>
  some (.inl (l, (i64 (i + 1))))
  else
  some (.inr sectors2)
theorem Zeu (m : api_Memory) (sectors2 : List (List Int)) (i : Int) : Le (JO m sectors2 i) (Jq m sectors2 i) := by
  unfold JO Jq
  with_reducible repeat' (first | exact Le.refl _ | apply Le.bind | apply Le.ite | intro _)

noncomputable def Zbe (m : api_Memory) : Option api_Memory :=
  ((Qs (t2 (JO m)) ([], 0)) : Option (((List (List Int))))).bind (t1 fun (sectors : List (List Int)) =>
  (Zee 8 m.Wear).bind fun y2 =>
  (Zee 1 m.Bad).bind fun y3 =>
  some (api_Memory.mk m.Slots m.Limit sectors y2 y3))
theorem ZfJ (m : api_Memory) : Le (Zbe m) (Ju m) := by
  unfold Zbe Ju
  with_reducible repeat' (first | exact Le.refl _ | apply Le.bind | apply Le.loop | apply Le.t1 | apply Le.t2 | apply Zeu | intro _)

noncomputable def Zbx (l : List api_Memory) (out2 : List api_Memory) (i : Int) : Option (((List api_Memory) × Int) ⊕ ((List api_Memory))) :=
  if (decide (i < (l.length : Int))) = true then
  (idx l i).bind fun x =>
  (Zbe x).bind fun y =>
  (apz 88 out2 [y]).bind fun l2 =>
  some (.inl (l2, (i64 (i + 1))))
  else
  some (.inr out2)
theorem ZfN (l : List api_Memory) (out2 : List api_Memory) (i : Int) : Le (Zbx l out2 i) (Jx l out2 i) := by
  unfold Zbx Jx
  with_reducible repeat' (first | exact Le.refl _ | apply Le.bind | apply Le.ite | apply ZfJ | intro _)

noncomputable def Zbs (l : List api_Memory) : Option (List api_Memory) :=
  ((Qs (t2 (Zbx l)) ([], 0)) : Option (((List api_Memory)))).bind (t1 fun (out : List api_Memory) =>
  some out)
theorem Zen (l : List api_Memory) : Le (Zbs l) (XK l) := by
  unfold Zbs XK
  with_reducible repeat' (first | exact Le.refl _ | apply Le.bind | apply Le.loop | apply Le.t1 | apply Le.t2 | apply ZfN | intro _)

noncomputable def ZbP (sequence : Int) (out2 : List Int) (shift : Int) : Option (((List Int) × Int) ⊕ ((List Int))) :=
  if (decide (0 ≤ shift)) = true then
  (shr .i64 sequence shift).bind fun q =>
  (apz 1 out2 ([(u8 q)] : List Int)).bind fun l =>
  some (.inl (l, (i64 (shift - 8))))
  else
  some (.inr out2)
theorem ZfX (sequence : Int) (out2 : List Int) (shift : Int) : Le (ZbP sequence out2 shift) (Zbq sequence out2 shift) := by
  unfold ZbP Zbq
  with_reducible repeat' (first | exact Le.refl _ | apply Le.bind | apply Le.ite | intro _)

noncomputable def ZbV (out : List Int) (out4 : List Int) (i : Int) : Option (((List Int) × Int) ⊕ ((List Int))) :=
  if (decide (i < ((Int.toNat (6 - 2) : Nat) : Int))) = true then
  (ck (decide ((0 : Int) ≤ i) && decide (i < ((Int.toNat (6 - 2) : Nat) : Int)))).bind fun u2 =>
  (idx out (2 + i)).bind fun x2 =>
  (apz 1 out4 ([(ZeH .u8 255 x2)] : List Int)).bind fun l2 =>
  some (.inl (l2, (i64 (i + 1))))
  else
  some (.inr out4)
theorem Zf9 (out : List Int) (out4 : List Int) (i : Int) : Le (ZbV out out4 i) (Zbj out out4 i) := by
  unfold ZbV Zbj
  with_reducible repeat' (first | exact Le.refl _ | apply Le.bind | apply Le.ite | intro _)

noncomputable def Zb2 (sequence : Int) : Option (List Int) :=
  ((Qs (t2 (ZbP sequence)) (([79, 66] : List Int), 24)) : Option (((List Int)))).bind (t1 fun (out : List Int) =>
  (((slp out 2 6).bind fun u =>
  Qs (t2 (ZbV out)) (out, 0)) : Option (((List Int)))).bind (t1 fun (out3 : List Int) =>
  some out3))
theorem ZeF (sequence : Int) : Le (Zb2 sequence) (ZaV sequence) := by
  unfold Zb2 ZaV
  with_reducible repeat' (first | exact Le.refl _ | apply Le.bind | apply Le.loop | apply Le.t1 | apply Le.t2 | apply ZfX | apply Zf9 | intro _)

noncomputable def Xn (s1 : List Int) (s2 : List Int) (i : Int) : Option ((Int) ⊕ (Bool) ⊕ (Unit)) :=
  if (decide (i < (s1.length : Int))) = true then
  (idx s1 i).bind fun x =>
  (idx s2 i).bind fun x2 =>
  if (!decide (x = x2)) = true then
  some (.inr (.inl false))
  else
  some (.inl (i64 (i + 1)))
  else
  some (.inr (.inr ()))
theorem Zcv (s1 : List Int) (s2 : List Int) (i : Int) : Le (Xn s1 s2 i) (QV s1 s2 i) := by
  unfold Xn QV
  with_reducible repeat' (first | exact Le.refl _ | apply Le.bind | apply Le.ite | intro _)

noncomputable def XT (s1 : List Int) (s2 : List Int) : Option Bool :=
  if (!decide ((s1.length : Int) = (s2.length : Int))) = true then
  some false
  else
  ((Qs (t1 (Xn s1 s2)) 0) : Option ((Bool) ⊕ (Unit))).bind (Sum.elim (fun q' => some q') (t0 (some true)))
theorem Zdc (s1 : List Int) (s2 : List Int) : Le (XT s1 s2) (QM s1 s2) := by
  unfold XT QM
  with_reducible repeat' (first | exact Le.refl _ | apply Le.bind | apply Le.ite | apply Le.loop | apply Le.t0 | apply Le.t1 | apply Le.elim | apply Zcv | intro _)

noncomputable def JP (s : List Int) : Option (Int × Bool × Bool) :=
  if (decide ((s.length : Int) < 16)) = true then
  some (0, false, false)
  else
  (slc s 0 16).bind fun l =>
  (tov 16 l).bind fun v =>
  (ZO v 2).bind fun x =>
  (shl .i64 (i64 x) 24).bind fun q =>
  (ZO v 3).bind fun x2 =>
  (shl .i64 (i64 x2) 16).bind fun q2 =>
  (ZO v 4).bind fun x3 =>
  (shl .i64 (i64 x3) 8).bind fun q3 =>
  (ZO v 5).bind fun x4 =>
  (Qk (bor .i64 (bor .i64 (bor .i64 q q2) q3) (i64 x4)) 1 1073741824).bind fun y =>
  (gd ((!y) == false) [] (slc v.toList 0 10)).bind fun l2 =>
  (gd ((!y) == false) [] (Zb2 (bor .i64 (bor .i64 (bor .i64 q q2) q3) (i64 x4)))).bind fun y2 =>
  (gd ((!y) == false) false (XT l2 y2)).bind fun y3 =>
  if ((!y) || (!y3)) = true then
  some (0, false, false)
  else
  (ZO v 10).bind fun x5 =>
  some ((bor .i64 (bor .i64 (bor .i64 q q2) q3) (i64 x4)), (!decide (x5 = 255)), true)
theorem Zbf (s : List Int) : Le (JP s) (J7 s) := by
  unfold JP J7
  with_reducible repeat' (first | exact Le.refl _ | apply Le.bind | apply Le.ite | apply Le.gd | apply Xx | apply ZeF | apply Zdc | intro _)

noncomputable def Zbr (m : api_Memory) (out2 : List Int) (i : Int) : Option (((List Int) × Int) ⊕ ((List Int))) :=
  if (decide (i < (m.Sectors.length : Int))) = true then
  (idx m.Sectors i).bind fun x =>
  (JP x).bind fun y =>
  (gd (y.2.2 == true) false (idx m.Bad i)).bind fun x2 =>
  if (y.2.2 && (!x2)) = true then
  (apz 8 out2 ([i] : List Int)).bind fun l =>
  some (.inl (l, (i64 (i + 1))))
  else
  some (.inl (out2, (i64 (i + 1))))
  else
  some (.inr out2)
theorem ZfH (m : api_Memory) (out2 : List Int) (i : Int) : Le (Zbr m out2 i) (ZaG m out2 i) := by
  unfold Zbr ZaG
  with_reducible repeat' (first | exact Le.refl _ | apply Le.bind | apply Le.ite | apply Le.gd | apply Zbf | intro _)

noncomputable def QC (a : Int) (cmp : Int → Int → Option Int) (o3 : List Int) (j : Int) : Option (((List Int) × Int) ⊕ ((List Int))) :=
  (gd ((decide (a < j)) == true) 0 (idx o3 j)).bind fun x =>
  (gd ((decide (a < j)) == true) 0 (idx o3 (i64 (j - 1)))).bind fun x2 =>
  (gd ((decide (a < j)) == true) 0 (cmp x x2)).bind fun y =>
  if ((decide (a < j)) && (decide (y < 0))) = true then
  (idx o3 (i64 (j - 1))).bind fun x3 =>
  (idx o3 j).bind fun x4 =>
  (idx o3 j).bind fun x5 =>
  (idx (o3.set j.toNat x3) (i64 (j - 1))).bind fun x6 =>
  some (.inl (((o3.set j.toNat x3).set (i64 (j - 1)).toNat x4), (i64 (j - 1))))
  else
  some (.inr o3)
theorem Zah (a : Int) (cmp : Int → Int → Option Int) (o3 : List Int) (j : Int) (cmp' : Int → Int → Option Int) (h_cmp : ∀ z0 z1, Le (cmp z0 z1) (cmp' z0 z1)) : Le (QC a cmp o3 j) (ZA a cmp' o3 j) := by
  unfold QC ZA
  with_reducible repeat' (first | exact Le.refl _ | apply Le.bind | apply Le.ite | apply Le.gd | apply h_cmp | intro _)

noncomputable def QA (a : Int) (b : Int) (cmp : Int → Int → Option Int) (o : List Int) (i : Int) : Option (((List Int) × Int) ⊕ ((List Int))) :=
  if (decide (i < b)) = true then
  ((Qs (t2 (QC a cmp)) (o, i)) : Option (((List Int)))).bind (t1 fun (o2 : List Int) =>
  some (.inl (o2, (i64 (i + 1)))))
  else
  some (.inr o)
theorem J9 (a : Int) (b : Int) (cmp : Int → Int → Option Int) (o : List Int) (i : Int) (cmp' : Int → Int → Option Int) (h_cmp : ∀ z0 z1, Le (cmp z0 z1) (cmp' z0 z1)) : Le (QA a b cmp o i) (ZB a b cmp' o i) := by
  unfold QA ZB
  with_reducible repeat' (first | exact Le.refl _ | apply Le.bind | apply Le.ite | apply Le.loop | apply Le.t1 | apply Le.t2 | apply Zah | apply h_cmp | intro _)

noncomputable def Qj (data : List Int) (a : Int) (b : Int) (cmp : Int → Int → Option Int) : Option (List Int) :=
  Qs (t2 (QA a b cmp)) (data, (i64 (a + 1)))
theorem XA (data : List Int) (a : Int) (b : Int) (cmp : Int → Int → Option Int) (cmp' : Int → Int → Option Int) (h_cmp : ∀ z0 z1, Le (cmp z0 z1) (cmp' z0 z1)) : Le (Qj data a b cmp) (Zz data a b cmp') := by
  unfold Qj Zz
  with_reducible repeat' (first | exact Le.refl _ | apply Le.bind | apply Le.loop | apply Le.t2 | apply J9 | apply h_cmp | intro _)

noncomputable def Xc (n : Int) (cmp : Int → Int → Option Int) (o2 : List Int) (a2 : Int) (b : Int) : Option (((List Int) × Int × Int) ⊕ ((List Int) × Int)) :=
  if (decide (b ≤ n)) = true then
  (Qj o2 a2 b cmp).bind fun y =>
  some (.inl (y, b, (i64 (b + 20))))
  else
  some (.inr (o2, a2))
theorem ZbU (n : Int) (cmp : Int → Int → Option Int) (o2 : List Int) (a2 : Int) (b : Int) (cmp' : Int → Int → Option Int) (h_cmp : ∀ z0 z1, Le (cmp z0 z1) (cmp' z0 z1)) : Le (Xc n cmp o2 a2 b) (ZP n cmp' o2 a2 b) := by
  unfold Xc ZP
  with_reducible repeat' (first | exact Le.refl _ | apply Le.bind | apply Le.ite | apply XA | apply h_cmp | intro _)

noncomputable def Xj (n_ : Nat) : List Int → Int → Int → Int → (Int → Int → Option Int) → Option (List Int) := fun _ _ _ _ _ => none
theorem Ja (n_ : Nat) {z0 : List Int} {z1 : Int} {z2 : Int} {z3 : Int} {z4 : (Int → Int → Option Int)} {z4' : (Int → Int → Option Int)} : Le (Xj n_ z0 z1 z2 z3 z4) (Z2 n_ z0 z1 z2 z3 z4') := fun r h => by cases h

noncomputable def Q9 (n : Int) (cmp : Int → Int → Option Int) (blockSize : Int) (o5 : List Int) (a4 : Int) (b2 : Int) : Option (((List Int) × Int × Int) ⊕ ((List Int) × Int)) :=
  if (decide (b2 ≤ n)) = true then
  (Xj 100 o5 a4 (i64 (a4 + blockSize)) b2 cmp).bind fun y3 =>
  some (.inl (y3, b2, (i64 (b2 + (i64 (2 * blockSize))))))
  else
  some (.inr (o5, a4))
theorem ZbL (n : Int) (cmp : Int → Int → Option Int) (blockSize : Int) (o5 : List Int) (a4 : Int) (b2 : Int) (cmp' : Int → Int → Option Int) (h_cmp : ∀ z0 z1, Le (cmp z0 z1) (cmp' z0 z1)) : Le (Q9 n cmp blockSize o5 a4 b2) (ZG n cmp' blockSize o5 a4 b2) := by
  unfold Q9 ZG
  with_reducible repeat' (first | exact Le.refl _ | apply Le.bind | apply Le.ite | apply Ja | apply h_cmp | intro _)

noncomputable def Xd (n : Int) (cmp : Int → Int → Option Int) (o3 : List Int) (blockSize : Int) : Option (((List Int) × Int) ⊕ ((List Int))) :=
  if (decide (blockSize < n)) = true then
  ((Qs (t3 (Q9 n cmp blockSize)) (o3, 0, (i64 (2 * blockSize)))) : Option (((List Int) × Int))).bind (t2 fun (o4 : List Int) (a3 : Int) =>
  if (decide ((i64 (a3 + blockSize)) < n)) = true then
  (Xj 100 o4 a3 (i64 (a3 + blockSize)) n cmp).bind fun y4 =>
  some (.inl (y4, (i64 (blockSize * 2))))
  else
  some (.inl (o4, (i64 (blockSize * 2)))))
  else
  some (.inr o3)
theorem ZbT (n : Int) (cmp : Int → Int → Option Int) (o3 : List Int) (blockSize : Int) (cmp' : Int → Int → Option Int) (h_cmp : ∀ z0 z1, Le (cmp z0 z1) (cmp' z0 z1)) : Le (Xd n cmp o3 blockSize) (ZQ n cmp' o3 blockSize) := by
  unfold Xd ZQ
  with_reducible repeat' (first | exact Le.refl _ | apply Le.bind | apply Le.ite | apply Le.loop | apply Le.t2 | apply Le.t3 | apply ZbL | apply Ja | apply h_cmp | intro _)

noncomputable def Xt (data : List Int) (n : Int) (cmp : Int → Int → Option Int) : Option (List Int) :=
  ((Qs (t3 (Xc n cmp)) (data, 0, 20)) : Option (((List Int) × Int))).bind (t2 fun (o : List Int) (a : Int) =>
  (Qj o a n cmp).bind fun y2 =>
  Qs (t2 (Xd n cmp)) (y2, 20))
theorem ZcB (data : List Int) (n : Int) (cmp : Int → Int → Option Int) (cmp' : Int → Int → Option Int) (h_cmp : ∀ z0 z1, Le (cmp z0 z1) (cmp' z0 z1)) : Le (Xt data n cmp) (ZX data n cmp') := by
  unfold Xt ZX
  with_reducible repeat' (first | exact Le.refl _ | apply Le.bind | apply Le.loop | apply Le.t2 | apply Le.t3 | apply ZbU | apply XA | apply ZbT | apply h_cmp | intro _)

noncomputable def QR (x : List Int) (cmp : Int → Int → Option Int) : Option (List Int) :=
  (Xt x (x.length : Int) cmp).bind fun y =>
  some y
theorem Za9 (x : List Int) (cmp : Int → Int → Option Int) (cmp' : Int → Int → Option Int) (h_cmp : ∀ z0 z1, Le (cmp z0 z1) (cmp' z0 z1)) : Le (QR x cmp) (ZK x cmp') := by
  unfold QR ZK
  with_reducible repeat' (first | exact Le.refl _ | apply Le.bind | apply ZcB | apply h_cmp | intro _)

noncomputable def J6 (i : Int) (c0 : api_Memory) : Option Int :=
  (idx c0.Sectors i).bind fun x =>
  (JP x).bind fun y =>
  some y.1
theorem Zgt (i : Int) (c0 : api_Memory) : Le (J6 i c0) (X7 i c0) := by
  unfold J6 X7
  with_reducible repeat' (first | exact Le.refl _ | apply Le.bind | apply Zbf | intro _)

noncomputable def ZbS (a : Int) (b : Int) (k : api_Memory) : Option Int :=
  (J6 a k).bind fun y =>
  (J6 b k).bind fun y2 =>
  some (i64 (y - y2))
theorem Zf4 (a : Int) (b : Int) (k : api_Memory) : Le (ZbS a b k) (JQ a b k) := by
  unfold ZbS JQ
  with_reducible repeat' (first | exact Le.refl _ | apply Le.bind | apply Zgt | intro _)

noncomputable def Za8 (m : api_Memory) : Option (List Int) :=
  ((Qs (t2 (Zbr m)) ([], 0)) : Option (((List Int)))).bind (t1 fun (out : List Int) =>
  (QR out (fun z0 z1 => ZbS z0 z1 m)).bind fun y2 =>
  some y2)
theorem Zeq (m : api_Memory) : Le (Za8 m) (Zaa m) := by
  unfold Za8 Zaa
  with_reducible repeat' (first | exact Le.refl _ | apply Le.bind | apply Le.loop | apply Le.t1 | apply Le.t2 | apply ZfH | apply Za9 | apply Zf4 | intro _)

noncomputable def Zb4 (s : List Int) (i : Int) : Option (Vector Int 97) :=
  (slc s (i64 (16 + (i64 (i * 97)))) (i64 ((i64 (16 + (i64 (i * 97)))) + 97))).bind fun l =>
  (tov 97 l).bind fun v =>
  some v
theorem ZeC (s : List Int) (i : Int) : Le (Zb4 s i) (ZaY s i) := by
  unfold Zb4 ZaY
  with_reducible repeat' (first | exact Le.refl _ | apply Le.bind | intro _)

noncomputable def QT (s : List Int) (f : Int → Option Bool) (i : Int) : Option ((Int) ⊕ (Int) ⊕ (Unit)) :=
  if (decide (i < (s.length : Int))) = true then
  (idx s i).bind fun x =>
  (f x).bind fun y =>
  if y = true then
  some (.inr (.inl i))
  else
  some (.inl (i64 (i + 1)))
  else
  some (.inr (.inr ()))
theorem Zbw (s : List Int) (f : Int → Option Bool) (i : Int) (f' : Int → Option Bool) (h_f : ∀ z0, Le (f z0) (f' z0)) : Le (QT s f i) (QF s f' i) := by
  unfold QT QF
  with_reducible repeat' (first | exact Le.refl _ | apply Le.bind | apply Le.ite | apply h_f | intro _)

noncomputable def Xh (s : List Int) (f : Int → Option Bool) : Option Int :=
  ((Qs (t1 (QT s f)) 0) : Option ((Int) ⊕ (Unit))).bind (Sum.elim (fun q' => some q') (t0 (some (-1))))
theorem Zcf (s : List Int) (f : Int → Option Bool) (f' : Int → Option Bool) (h_f : ∀ z0, Le (f z0) (f' z0)) : Le (Xh s f) (Qq s f') := by
  unfold Xh Qq
  with_reducible repeat' (first | exact Le.refl _ | apply Le.bind | apply Le.loop | apply Le.t0 | apply Le.t1 | apply Le.elim | apply Zbw | apply h_f | intro _)

noncomputable def QU (s : List Int) (f : Int → Option Bool) : Option Bool :=
  (Xh s f).bind fun y =>
  some (decide (0 ≤ y))
theorem Zbm (s : List Int) (f : Int → Option Bool) (f' : Int → Option Bool) (h_f : ∀ z0, Le (f z0) (f' z0)) : Le (QU s f) (Qa s f') := by
  unfold QU Qa
  with_reducible repeat' (first | exact Le.refl _ | apply Le.bind | apply Zcf | apply h_f | intro _)

noncomputable def ZbR (b : Int) : Option Bool :=
  some (!decide (b = 255))
theorem Zgk (b : Int) : Le (ZbR b) (JX b) := by
  unfold ZbR JX
  with_reducible repeat' (first | exact Le.refl _ | apply Le.bind | intro _)

noncomputable def ZbH (p : Vector Int 97) : Option Int :=
  (ZO p 96).bind fun x =>
  if (decide (x = 0)) = true then
  some 1
  else
  (slc p.toList 0 (97 : Int)).bind fun l =>
  (QU l (fun z0 => ZbR z0)).bind fun y =>
  if y = true then
  some 2
  else
  some 0
theorem Zep (p : Vector Int 97) : Le (ZbH p) (Zad p) := by
  unfold ZbH Zad
  with_reducible repeat' (first | exact Le.refl _ | apply Le.bind | apply Le.ite | apply Zbm | apply Zgk | intro _)

noncomputable def ZaO (m : api_Memory) (x : Int) (slot2 : Int) (i : Int) : Option ((Int × Int) ⊕ (Int)) :=
  if (decide (i < m.Slots)) = true then
  (idx m.Sectors x).bind fun x2 =>
  (Zb4 x2 i).bind fun y2 =>
  (ZbH y2).bind fun y3 =>
  if (!decide (y3 = 0)) = true then
  some (.inl ((i64 (i + 1)), (i64 (i + 1))))
  else
  some (.inl (slot2, (i64 (i + 1))))
  else
  some (.inr slot2)
theorem Zfj (m : api_Memory) (x : Int) (slot2 : Int) (i : Int) : Le (ZaO m x slot2 i) (Zaf m x slot2 i) := by
  unfold ZaO Zaf
  with_reducible repeat' (first | exact Le.refl _ | apply Le.bind | apply Le.ite | apply ZeC | apply Zep | intro _)

noncomputable def Zco (m : api_Memory) : Option ring_spot :=
  (Za8 m).bind fun y =>
  if (decide ((y.length : Int) = 0)) = true then
  some (ring_spot.mk (-1) 0)
  else
  (idx y (i64 ((y.length : Int) - 1))).bind fun x =>
  ((Qs (t2 (ZaO m x)) (0, 0)) : Option ((Int))).bind (t1 fun (slot : Int) =>
  some (ring_spot.mk x slot))
theorem ZgL (m : api_Memory) : Le (Zco m) (Zas m) := by
  unfold Zco Zas
  with_reducible repeat' (first | exact Le.refl _ | apply Le.bind | apply Le.ite | apply Le.loop | apply Le.t1 | apply Le.t2 | apply Zeq | apply Zfj | intro _)

noncomputable def Zcr (y3 : (List api_Memory)) (spots2 : List ring_spot) (frozen2 : Bool) (i : Int) : Option (((List ring_spot) × Bool × Int) ⊕ ((List ring_spot) × Bool)) :=
  if (decide (i < (y3.length : Int))) = true then
  (idx y3 i).bind fun x =>
  (Zco x).bind fun y4 =>
  (apz 16 spots2 ([y4] : List ring_spot)).bind fun l2 =>
  if (decide (0 ≤ y4.sector)) = true then
  (idx x.Sectors y4.sector).bind fun x2 =>
  (JP x2).bind fun y5 =>
  some (.inl (l2, (frozen2 || y5.2.1), (i64 (i + 1))))
  else
  some (.inl (l2, frozen2, (i64 (i + 1))))
  else
  some (.inr (spots2, frozen2))
theorem Zgu (y3 : (List api_Memory)) (spots2 : List ring_spot) (frozen2 : Bool) (i : Int) : Le (Zcr y3 spots2 frozen2 i) (Zb1 y3 spots2 frozen2 i) := by
  unfold Zcr Zb1
  with_reducible repeat' (first | exact Le.refl _ | apply Le.bind | apply Le.ite | apply ZgL | apply Zbf | intro _)

noncomputable def Zd4 (l : List api_Memory) (copies : Int) : Option ((Int) ⊕ (ring_Recorder × Int)) :=
  (ZaH l).bind fun y =>
  if (!decide (y = 0)) = true then
  some (Sum.inl y)
  else
  (Qk copies 1 (l.length : Int)).bind fun y2 =>
  if (!y2) = true then
  some (Sum.inl 9)
  else
  (Zbs l).bind fun y3 =>
  ((Qs (t3 (Zcr y3)) ([], false, 0)) : Option (((List ring_spot) × Bool))).bind (t2 fun (spots : List ring_spot) (frozen : Bool) =>
  some (Sum.inr ((ring_Recorder.mk (ring_bank.mk y3 spots) copies frozen false 0 false), 0)))
theorem Zh8 (l : List api_Memory) (copies : Int) : Le (Zd4 l copies) (ZaM l copies) := by
  unfold Zd4 ZaM
  with_reducible repeat' (first | exact Le.refl _ | apply Le.bind | apply Le.ite | apply Le.loop | apply Le.t2 | apply Le.t3 | apply Le.elim | apply ZdR | apply Xx | apply Zen | apply Zgu | intro _)

noncomputable def JS (r_ : ring_Recorder) (power : Int) : Option Int :=
  if r_.stopped = true then
  some 15
  else
  if r_.frozen = true then
  some 11
  else
  (Qk power 0 1000000000).bind fun y =>
  if (!y) = true then
  some 9
  else
  some 0
theorem Zew (r_ : ring_Recorder) (power : Int) : Le (JS r_ power) (Xu r_ power) := by
  unfold JS Xu
  with_reducible repeat' (first | exact Le.refl _ | apply Le.bind | apply Le.ite | apply Xx | intro _)

noncomputable def ZbN (f : Vector Int 64) (out2 : List api_Flaw) (i : Int) : Option (((List api_Flaw) × Int) ⊕ ((List api_Flaw))) :=
  if (decide (i < 64)) = true then
  (ZO f i).bind fun x =>
  if (decide (4095 < x)) = true then
  (app out2 ([(api_Flaw.mk i 5)] : List api_Flaw)).bind fun l =>
  some (.inl (l, (i64 (i + 1))))
  else
  some (.inl (out2, (i64 (i + 1))))
  else
  some (.inr out2)
theorem Zgl (f : Vector Int 64) (out2 : List api_Flaw) (i : Int) : Le (ZbN f out2 i) (Za4 f out2 i) := by
  unfold ZbN Za4
  with_reducible repeat' (first | exact Le.refl _ | apply Le.bind | apply Le.ite | intro _)

noncomputable def XJ (w : Int) : Option Int :=
  some (i64 (Q6 .u16 w 2047))
theorem Zdz (w : Int) : Le (XJ w) (XS w) := by
  unfold XJ XS
  with_reducible repeat' (first | exact Le.refl _ | apply Le.bind | intro _)

noncomputable def Zag (f : Vector Int 64) : Option Int :=
  (ZO f 1).bind fun x =>
  (XJ x).bind fun y =>
  (ZO f 2).bind fun x2 =>
  (XJ x2).bind fun y2 =>
  (shl .i64 y2 11).bind fun q =>
  some (bor .i64 y q)
theorem Zdg (f : Vector Int 64) : Le (Zag f) (X1 f) := by
  unfold Zag X1
  with_reducible repeat' (first | exact Le.refl _ | apply Le.bind | apply Zdz | intro _)

noncomputable def ZaS (x : Int) : Option Int :=
  (shr .u16 x 8).bind fun q =>
  (Zkb [0, 1, 1, 2, 1, 2, 2, 3, 1, 2, 2, 3, 2, 3, 3, 4, 1, 2, 2, 3, 2, 3, 3, 4, 2, 3, 3, 4, 3, 4, 4, 5, 1, 2, 2, 3, 2, 3, 3, 4, 2, 3, 3, 4, 3, 4, 4, 5, 2, 3, 3, 4, 3, 4, 4, 5, 3, 4, 4, 5, 4, 5, 5, 6, 1, 2, 2, 3, 2, 3, 3, 4, 2, 3, 3, 4, 3, 4, 4, 5, 2, 3, 3, 4, 3, 4, 4, 5, 3, 4, 4, 5, 4, 5, 5, 6, 2, 3, 3, 4, 3, 4, 4, 5, 3, 4, 4, 5, 4, 5, 5, 6, 3, 4, 4, 5, 4, 5, 5, 6, 4, 5, 5, 6, 5, 6, 6, 7, 1, 2, 2, 3, 2, 3, 3, 4, 2, 3, 3, 4, 3, 4, 4, 5, 2, 3, 3, 4, 3, 4, 4, 5, 3, 4, 4, 5, 4, 5, 5, 6, 2, 3, 3, 4, 3, 4, 4, 5, 3, 4, 4, 5, 4, 5, 5, 6, 3, 4, 4, 5, 4, 5, 5, 6, 4, 5, 5, 6, 5, 6, 6, 7, 2, 3, 3, 4, 3, 4, 4, 5, 3, 4, 4, 5, 4, 5, 5, 6, 3, 4, 4, 5, 4, 5, 5, 6, 4, 5, 5, 6, 5, 6, 6, 7, 3, 4, 4, 5, 4, 5, 5, 6, 4, 5, 5, 6, 5, 6, 6, 7, 4, 5, 5, 6, 5, 6, 6, 7, 5, 6, 6, 7, 6, 7, 7, 8] q).bind fun b =>
  (Zkb [0, 1, 1, 2, 1, 2, 2, 3, 1, 2, 2, 3, 2, 3, 3, 4, 1, 2, 2, 3, 2, 3, 3, 4, 2, 3, 3, 4, 3, 4, 4, 5, 1, 2, 2, 3, 2, 3, 3, 4, 2, 3, 3, 4, 3, 4, 4, 5, 2, 3, 3, 4, 3, 4, 4, 5, 3, 4, 4, 5, 4, 5, 5, 6, 1, 2, 2, 3, 2, 3, 3, 4, 2, 3, 3, 4, 3, 4, 4, 5, 2, 3, 3, 4, 3, 4, 4, 5, 3, 4, 4, 5, 4, 5, 5, 6, 2, 3, 3, 4, 3, 4, 4, 5, 3, 4, 4, 5, 4, 5, 5, 6, 3, 4, 4, 5, 4, 5, 5, 6, 4, 5, 5, 6, 5, 6, 6, 7, 1, 2, 2, 3, 2, 3, 3, 4, 2, 3, 3, 4, 3, 4, 4, 5, 2, 3, 3, 4, 3, 4, 4, 5, 3, 4, 4, 5, 4, 5, 5, 6, 2, 3, 3, 4, 3, 4, 4, 5, 3, 4, 4, 5, 4, 5, 5, 6, 3, 4, 4, 5, 4, 5, 5, 6, 4, 5, 5, 6, 5, 6, 6, 7, 2, 3, 3, 4, 3, 4, 4, 5, 3, 4, 4, 5, 4, 5, 5, 6, 3, 4, 4, 5, 4, 5, 5, 6, 4, 5, 5, 6, 5, 6, 6, 7, 3, 4, 4, 5, 4, 5, 5, 6, 4, 5, 5, 6, 5, 6, 6, 7, 4, 5, 5, 6, 5, 6, 6, 7, 5, 6, 6, 7, 6, 7, 7, 8] (Q6 .u16 x 255)).bind fun b2 =>
  some (i64 (u8 (b + b2)))
theorem Zfb (x : Int) : Le (ZaS x) (X6 x) := by
  unfold ZaS X6
  with_reducible repeat' (first | exact Le.refl _ | apply Le.bind | intro _)

noncomputable def Zcc (w : Int) : Option Bool :=
  (gd ((decide (w ≤ 4095)) == true) 0 (ZaS w)).bind fun y =>
  (gd ((decide (w ≤ 4095)) == true) 0 (rem y 2)).bind fun q =>
  some ((decide (w ≤ 4095)) && (decide (q = 1)))
theorem ZfU (w : Int) : Le (Zcc w) (ZbW w) := by
  unfold Zcc ZbW
  with_reducible repeat' (first | exact Le.refl _ | apply Le.bind | apply Le.gd | apply Zfb | intro _)

noncomputable def ZbM (f : Vector Int 64) (out5 : List api_Flaw) (i2 : Int) : Option (((List api_Flaw) × Int) ⊕ ((List api_Flaw))) :=
  if (decide (i2 < 64)) = true then
  (ZO f i2).bind fun x4 =>
  (Zcc x4).bind fun y2 =>
  if (!y2) = true then
  (app out5 ([(api_Flaw.mk i2 2)] : List api_Flaw)).bind fun l3 =>
  some (.inl (l3, (i64 (i2 + 1))))
  else
  some (.inl (out5, (i64 (i2 + 1))))
  else
  some (.inr out5)
theorem Zgg (f : Vector Int 64) (out5 : List api_Flaw) (i2 : Int) : Le (ZbM f out5 i2) (Zba f out5 i2) := by
  unfold ZbM Zba
  with_reducible repeat' (first | exact Le.refl _ | apply Le.bind | apply Le.ite | apply ZfU | intro _)

noncomputable def ZbO (f : Vector Int 64) (n2 : Int) (i : Int) : Option ((Int × Int) ⊕ (Int)) :=
  if (decide (i < 60)) = true then
  (ZO f (i64 (i + 1))).bind fun x =>
  (XJ x).bind fun y =>
  some (.inl ((ZeH .i64 n2 y), (i64 (i + 1))))
  else
  some (.inr n2)
theorem Zf3 (f : Vector Int 64) (n2 : Int) (i : Int) : Le (ZbO f n2 i) (ZbD f n2 i) := by
  unfold ZbO ZbD
  with_reducible repeat' (first | exact Le.refl _ | apply Le.bind | apply Le.ite | apply Zdz | intro _)

noncomputable def ZdB (f : Vector Int 64) : Option Int :=
  ((Qs (t2 (ZbO f)) (0, 0)) : Option ((Int))).bind (t1 fun (n : Int) =>
  some n)
theorem ZhM (f : Vector Int 64) : Le (ZdB f) (Zcb f) := by
  unfold ZdB Zcb
  with_reducible repeat' (first | exact Le.refl _ | apply Le.bind | apply Le.loop | apply Le.t1 | apply Le.t2 | apply Zf3 | intro _)

noncomputable def ZaL (f : Vector Int 64) (i : Int) (n4 : Int) (k : Int) : Option ((Int × Int) ⊕ (Int)) :=
  if (decide (0 ≤ k)) = true then
  (shl .i64 n4 1).bind fun q =>
  (ZO f i).bind fun x =>
  (shr .u16 x k).bind fun q2 =>
  if (!((!decide ((Q6 .i64 n4 2097152) = 0)) == (decide ((Q6 .u16 q2 1) = 1)))) = true then
  some (.inl ((ZeH .i64 (Q6 .i64 q 4194303) 2097167), (i64 (k - 1))))
  else
  some (.inl ((Q6 .i64 q 4194303), (i64 (k - 1))))
  else
  some (.inr n4)
theorem Zfl (f : Vector Int 64) (i : Int) (n4 : Int) (k : Int) : Le (ZaL f i n4 k) (J4 f i n4 k) := by
  unfold ZaL J4
  with_reducible repeat' (first | exact Le.refl _ | apply Le.bind | apply Le.ite | intro _)

noncomputable def ZaJ (f : Vector Int 64) (n2 : Int) (i : Int) : Option ((Int × Int) ⊕ (Int)) :=
  if (decide (i < 62)) = true then
  ((Qs (t2 (ZaL f i)) (n2, 11)) : Option ((Int))).bind (t1 fun (n3 : Int) =>
  some (.inl (n3, (i64 (i + 1)))))
  else
  some (.inr n2)
theorem Zfm (f : Vector Int 64) (n2 : Int) (i : Int) : Le (ZaJ f n2 i) (Zae f n2 i) := by
  unfold ZaJ Zae
  with_reducible repeat' (first | exact Le.refl _ | apply Le.bind | apply Le.ite | apply Le.loop | apply Le.t1 | apply Le.t2 | apply Zfl | intro _)

noncomputable def Zcm (f : Vector Int 64) : Option Int :=
  ((Qs (t2 (ZaJ f)) (0, 0)) : Option ((Int))).bind (t1 fun (n : Int) =>
  some n)
theorem ZgM (f : Vector Int 64) : Le (Zcm f) (Zaz f) := by
  unfold Zcm Zaz
  with_reducible repeat' (first | exact Le.refl _ | apply Le.bind | apply Le.loop | apply Le.t1 | apply Le.t2 | apply Zfm | intro _)

noncomputable def Zb3 (f : Vector Int 64) : Option (List api_Flaw) :=
  ((Qs (t2 (ZbN f)) ([], 0)) : Option (((List api_Flaw)))).bind (t1 fun (out : List api_Flaw) =>
  if (decide (0 < (out.length : Int))) = true then
  some out
  else
  (((ZO f 0).bind fun x2 =>
  (Zag f).bind fun y =>
  (rem y 4).bind fun q =>
  (ZO gv_frame_syncs q).bind fun x3 =>
  if (!decide (x2 = x3)) = true then
  (app out ([(api_Flaw.mk 0 1)] : List api_Flaw)).bind fun l2 =>
  some l2
  else
  some out) : Option (((List api_Flaw)))).bind (t1 fun (out3 : List api_Flaw) =>
  ((Qs (t2 (ZbM f)) (out3, 1)) : Option (((List api_Flaw)))).bind (t1 fun (out4 : List api_Flaw) =>
  (((ZO f 61).bind fun x5 =>
  (XJ x5).bind fun y3 =>
  (ZdB f).bind fun y4 =>
  if (!decide (y3 = y4)) = true then
  (app out4 ([(api_Flaw.mk 61 3)] : List api_Flaw)).bind fun l4 =>
  some l4
  else
  some out4) : Option (((List api_Flaw)))).bind (t1 fun (out6 : List api_Flaw) =>
  (ZO f 62).bind fun x6 =>
  (XJ x6).bind fun y5 =>
  (shl .i64 y5 11).bind fun q2 =>
  (ZO f 63).bind fun x7 =>
  (XJ x7).bind fun y6 =>
  (Zcm f).bind fun y7 =>
  if (!decide ((bor .i64 q2 y6) = y7)) = true then
  (app out6 ([(api_Flaw.mk 62 4)] : List api_Flaw)).bind fun l5 =>
  some l5
  else
  some out6))))
theorem ZeX (f : Vector Int 64) : Le (Zb3 f) (ZaZ f) := by
  unfold Zb3 ZaZ
  with_reducible repeat' (first | exact Le.refl _ | apply Le.bind | apply Le.ite | apply Le.loop | apply Le.t1 | apply Le.t2 | apply Zgl | apply Zdg | apply Zgg | apply Zdz | apply ZhM | apply ZgM | intro _)

noncomputable def Za3 (f : Vector Int 64) : Option (Int × Bool) :=
  (ZO f 1).bind fun x =>
  (Zcc x).bind fun y =>
  (gd ((!y) == false) 0 (ZO f 2)).bind fun x2 =>
  (gd ((!y) == false) false (Zcc x2)).bind fun y2 =>
  if ((!y) || (!y2)) = true then
  some (0, false)
  else
  (Zag f).bind fun y3 =>
  some (y3, true)
theorem Zer (f : Vector Int 64) : Le (Za3 f) (JZ f) := by
  unfold Za3 JZ
  with_reducible repeat' (first | exact Le.refl _ | apply Le.bind | apply Le.ite | apply Le.gd | apply ZfU | apply Zdg | intro _)

noncomputable def ZbC (number : Int) (memories : Int) (copies : Int) (out2 : List Int) (i : Int) : Option (((List Int) × Int) ⊕ ((List Int))) :=
  if (decide (i < copies)) = true then
  (rem (i64 (number + i)) memories).bind fun q =>
  (apz 8 out2 ([q] : List Int)).bind fun l =>
  some (.inl (l, (i64 (i + 1))))
  else
  some (.inr out2)
theorem ZfI (number : Int) (memories : Int) (copies : Int) (out2 : List Int) (i : Int) : Le (ZbC number memories copies out2 i) (ZaE number memories copies out2 i) := by
  unfold ZbC ZaE
  with_reducible repeat' (first | exact Le.refl _ | apply Le.bind | apply Le.ite | intro _)

noncomputable def ZcS (number : Int) (memories : Int) (copies : Int) : Option (List Int) :=
  ((Qs (t2 (ZbC number memories copies)) ([], 0)) : Option (((List Int)))).bind (t1 fun (out : List Int) =>
  some out)
theorem Zhd (number : Int) (memories : Int) (copies : Int) : Le (ZcS number memories copies) (Zby number memories copies) := by
  unfold ZcS Zby
  with_reducible repeat' (first | exact Le.refl _ | apply Le.bind | apply Le.loop | apply Le.t1 | apply Le.t2 | apply ZfI | intro _)

noncomputable def Xv (b : ring_bank) (k : Int) : Option Bool :=
  (idx b.spots k).bind fun x =>
  (gd ((decide (x.sector < 0)) == false) (ring_spot.mk 0 0) (idx b.spots k)).bind fun x2 =>
  (gd ((decide (x.sector < 0)) == false) (api_Memory.mk 0 0 [] [] []) (idx b.memories k)).bind fun x3 =>
  some ((decide (x.sector < 0)) || (decide (x2.slot = x3.Slots)))
theorem Zar (b : ring_bank) (k : Int) : Le (Xv b k) (Q1 b k) := by
  unfold Xv Q1
  with_reducible repeat' (first | exact Le.refl _ | apply Le.bind | apply Le.gd | intro _)

noncomputable def Zak (b : ring_bank) (k : Int) (x : api_Memory) (i : Int) : Option ((Int) ⊕ (Int) ⊕ (Unit)) :=
  if (decide (i < (x.Sectors.length : Int))) = true then
  (idx b.spots k).bind fun x2 =>
  (rem (i64 ((i64 (x2.sector + 1)) + i)) (x.Sectors.length : Int)).bind fun q =>
  (idx x.Bad q).bind fun x3 =>
  (gd ((!x3) == true) 0 (idx x.Wear q)).bind fun x4 =>
  if ((!x3) && (decide (x4 < x.Limit))) = true then
  some (.inr (.inl q))
  else
  some (.inl (i64 (i + 1)))
  else
  some (.inr (.inr ()))
theorem ZeO (b : ring_bank) (k : Int) (x : api_Memory) (i : Int) : Le (Zak b k x i) (JJ b k x i) := by
  unfold Zak JJ
  with_reducible repeat' (first | exact Le.refl _ | apply Le.bind | apply Le.ite | apply Le.gd | intro _)

noncomputable def X2 (b : ring_bank) (k : Int) : Option Int :=
  (idx b.memories k).bind fun x =>
  ((Qs (t1 (Zak b k x)) 0) : Option ((Int) ⊕ (Unit))).bind (Sum.elim (fun q' => some q') (t0 (some (-1))))
theorem ZbB (b : ring_bank) (k : Int) : Le (X2 b k) (Xr b k) := by
  unfold X2 Xr
  with_reducible repeat' (first | exact Le.refl _ | apply Le.bind | apply Le.loop | apply Le.t0 | apply Le.t1 | apply Le.elim | apply ZeO | intro _)

noncomputable def JM (b : ring_bank) (l : List Int) (i : Int) : Option ((Int) ⊕ (Int) ⊕ (Unit)) :=
  if (decide (i < (l.length : Int))) = true then
  (idx l i).bind fun x =>
  (Xv b x).bind fun y =>
  (gd (y == true) 0 (X2 b x)).bind fun y2 =>
  if (y && (decide (y2 < 0))) = true then
  some (.inr (.inl 4))
  else
  some (.inl (i64 (i + 1)))
  else
  some (.inr (.inr ()))
theorem Zet (b : ring_bank) (l : List Int) (i : Int) : Le (JM b l i) (Jp b l i) := by
  unfold JM Jp
  with_reducible repeat' (first | exact Le.refl _ | apply Le.bind | apply Le.ite | apply Le.gd | apply Zar | apply ZbB | intro _)

noncomputable def X5 (sector : Int) (x : api_Memory) (most2 : Int) (i : Int) : Option ((Int × Int) ⊕ (Int)) :=
  if (decide (i < (x.Sectors.length : Int))) = true then
  (idx x.Sectors i).bind fun x2 =>
  (JP x2).bind fun y =>
  if (y.2.2 && (!decide (i = sector))) = true then
  some (.inl ((max most2 y.1), (i64 (i + 1))))
  else
  some (.inl (most2, (i64 (i + 1))))
  else
  some (.inr most2)
theorem Zdr (sector : Int) (x : api_Memory) (most2 : Int) (i : Int) : Le (X5 sector x most2 i) (XB sector x most2 i) := by
  unfold X5 XB
  with_reducible repeat' (first | exact Le.refl _ | apply Le.bind | apply Le.ite | apply Zbf | intro _)

noncomputable def XL (b : ring_bank) (k : Int) (sector : Int) : Option Int :=
  (((idx b.memories k).bind fun x =>
  Qs (t2 (X5 sector x)) (0, 0)) : Option ((Int))).bind (t1 fun (most : Int) =>
  some (i64 (most + 1)))
theorem ZbJ (b : ring_bank) (k : Int) (sector : Int) : Le (XL b k sector) (QZ b k sector) := by
  unfold XL QZ
  with_reducible repeat' (first | exact Le.refl _ | apply Le.bind | apply Le.loop | apply Le.t1 | apply Le.t2 | apply Zdr | intro _)

noncomputable def JT (b : ring_bank) (l : List Int) (i2 : Int) : Option ((Int) ⊕ (Int) ⊕ (Unit)) :=
  if (decide (i2 < (l.length : Int))) = true then
  (idx l i2).bind fun x2 =>
  (Xv b x2).bind fun y3 =>
  (gd (y3 == true) 0 (X2 b x2)).bind fun y4 =>
  (gd (y3 == true) 0 (XL b x2 y4)).bind fun y5 =>
  if (y3 && (decide (1073741824 < y5))) = true then
  some (.inr (.inl 3))
  else
  some (.inl (i64 (i2 + 1)))
  else
  some (.inr (.inr ()))
theorem Zev (b : ring_bank) (l : List Int) (i2 : Int) : Le (JT b l i2) (Ji b l i2) := by
  unfold JT Ji
  with_reducible repeat' (first | exact Le.refl _ | apply Le.bind | apply Le.ite | apply Le.gd | apply Zar | apply ZbB | apply ZbJ | intro _)

noncomputable def Zbl (b : ring_bank) (l : List Int) : Option Int :=
  ((Qs (t1 (JM b l)) 0) : Option ((Int) ⊕ (Unit))).bind (Sum.elim (fun q' => some q') (t0 (((Qs (t1 (JT b l)) 0) : Option ((Int) ⊕ (Unit))).bind (Sum.elim (fun q' => some q') (t0 (some 0))))))
theorem ZfA (b : ring_bank) (l : List Int) : Le (Zbl b l) (Jw b l) := by
  unfold Zbl Jw
  with_reducible repeat' (first | exact Le.refl _ | apply Le.bind | apply Le.loop | apply Le.t0 | apply Le.t1 | apply Le.elim | apply Zet | apply Zev | intro _)

noncomputable def Zcp (f : Vector Int 64) (i : Int) : Option ((Int) ⊕ (Bool) ⊕ (Unit)) :=
  if (decide (i < 64)) = true then
  (ZO f i).bind fun x =>
  if (decide (4095 < x)) = true then
  some (.inr (.inl true))
  else
  some (.inl (i64 (i + 1)))
  else
  some (.inr (.inr ()))
theorem ZgT (f : Vector Int 64) (i : Int) : Le (Zcp f i) (Zb5 f i) := by
  unfold Zcp Zb5
  with_reducible repeat' (first | exact Le.refl _ | apply Le.bind | apply Le.ite | intro _)

noncomputable def Zd6 (f : Vector Int 64) : Option Bool :=
  ((Qs (t1 (Zcp f)) 0) : Option ((Bool) ⊕ (Unit))).bind (Sum.elim (fun q' => some q') (t0 (some false)))
theorem Zih (f : Vector Int 64) : Le (Zd6 f) (ZcW f) := by
  unfold Zd6 ZcW
  with_reducible repeat' (first | exact Le.refl _ | apply Le.bind | apply Le.loop | apply Le.t0 | apply Le.t1 | apply Le.elim | apply ZgT | intro _)

noncomputable def Za5 (p : Vector Int 96) (i : Int) (w : Int) : Option (Vector Int 96) :=
  (quo .i64 i 2).bind fun q =>
  (rem i 2).bind fun q2 =>
  if (decide (q2 = 0)) = true then
  (shr .u16 w 4).bind fun q3 =>
  (ZO p (i64 ((i64 (q * 3)) + 1))).bind fun x =>
  (ZO p (i64 (q * 3))).bind fun x2 =>
  (shl .u16 (Q6 .u16 w 15) 4).bind fun q4 =>
  (ZO (X4 p (i64 (q * 3)) (u8 q3)) (i64 ((i64 (q * 3)) + 1))).bind fun x3 =>
  some (X4 (X4 p (i64 (q * 3)) (u8 q3)) (i64 ((i64 (q * 3)) + 1)) (bor .u8 (u8 q4) (Q6 .u8 x 15)))
  else
  (ZO p (i64 ((i64 (q * 3)) + 1))).bind fun x4 =>
  (shr .u16 w 8).bind fun q5 =>
  (ZO p (i64 ((i64 (q * 3)) + 1))).bind fun x5 =>
  (ZO (X4 p (i64 ((i64 (q * 3)) + 1)) (bor .u8 (Q6 .u8 x4 240) (u8 q5))) (i64 ((i64 (q * 3)) + 2))).bind fun x6 =>
  some (X4 (X4 p (i64 ((i64 (q * 3)) + 1)) (bor .u8 (Q6 .u8 x4 240) (u8 q5))) (i64 ((i64 (q * 3)) + 2)) (u8 w))
theorem ZfS (p : Vector Int 96) (i : Int) (w : Int) : Le (Za5 p i w) (Jy p i w) := by
  unfold Za5 Jy
  with_reducible repeat' (first | exact Le.refl _ | apply Le.bind | apply Le.ite | intro _)

noncomputable def Zcq (f : Vector Int 64) (o : Vector Int 96) (i : Int) : Option (((Vector Int 96) × Int) ⊕ ((Vector Int 96))) :=
  if (decide (i < 64)) = true then
  (ZO f i).bind fun x =>
  (Za5 o i x).bind fun y =>
  some (.inl (y, (i64 (i + 1))))
  else
  some (.inr o)
theorem Zgv (f : Vector Int 64) (o : Vector Int 96) (i : Int) : Le (Zcq f o i) (Zb7 f o i) := by
  unfold Zcq Zb7
  with_reducible repeat' (first | exact Le.refl _ | apply Le.bind | apply Le.ite | apply ZfS | intro _)

noncomputable def ZdS (p : Vector Int 96) (f : Vector Int 64) : Option (Vector Int 96) :=
  Qs (t2 (Zcq f)) (p, 0)
theorem Zif (p : Vector Int 96) (f : Vector Int 64) : Le (ZdS p f) (Zc6 p f) := by
  unfold ZdS Zc6
  with_reducible repeat' (first | exact Le.refl _ | apply Le.bind | apply Le.loop | apply Le.t2 | apply Zgv | intro _)

noncomputable def Zcs (f : Vector Int 64) : Option ((List Int) × Int) :=
  (Zd6 f).bind fun y =>
  if y = true then
  some ([], 9)
  else
  (ZdS (Vector.replicate 96 0) f).bind fun y2 =>
  (slc y2.toList 0 (96 : Int)).bind fun l =>
  some (l, 0)
theorem Zgy (f : Vector Int 64) : Le (Zcs f) (Zav f) := by
  unfold Zcs Zav
  with_reducible repeat' (first | exact Le.refl _ | apply Le.bind | apply Le.ite | apply Zih | apply Zif | intro _)

noncomputable def JE (q : Int) (o2 : List Int) (i : Int) : Option (((List Int) × Int) ⊕ ((List Int))) :=
  if (decide (i < ((Int.toNat (q - 0) : Nat) : Int))) = true then
  (ck (decide ((0 : Int) ≤ i) && decide (i < ((Int.toNat (q - 0) : Nat) : Int)))).bind fun u2 =>
  (idx o2 (0 + i)).bind fun x2 =>
  some (.inl ((o2.set (0 + i).toNat 255), (i64 (i + 1))))
  else
  some (.inr o2)
theorem Zed (q : Int) (o2 : List Int) (i : Int) : Le (JE q o2 i) (QD q o2 i) := by
  unfold JE QD
  with_reducible repeat' (first | exact Le.refl _ | apply Le.bind | apply Le.ite | intro _)

noncomputable def JD (s : List Int) (o4 : List Int) (i2 : Int) : Option (((List Int) × Int) ⊕ ((List Int))) :=
  if (decide (i2 < (s.length : Int))) = true then
  (idx o4 i2).bind fun x3 =>
  some (.inl ((o4.set i2.toNat 255), (i64 (i2 + 1))))
  else
  some (.inr o4)
theorem ZdT (s : List Int) (o4 : List Int) (i2 : Int) : Le (JD s o4 i2) (QB s o4 i2) := by
  unfold JD QB
  with_reducible repeat' (first | exact Le.refl _ | apply Le.bind | apply Le.ite | intro _)

noncomputable def ZaR (s : List Int) (power : Int) : Option (Int × Bool × (List Int)) :=
  if (decide (power = 0)) = true then
  (quo .i64 (s.length : Int) 2).bind fun q =>
  (slp s 0 q).bind fun u =>
  ((Qs (t2 (JE q)) (s, 0)) : Option (((List Int)))).bind (t1 fun (o : List Int) =>
  some ((max (i64 (power - 1)) 0), (decide (0 < power)), o))
  else
  ((Qs (t2 (JD s)) (s, 0)) : Option (((List Int)))).bind (t1 fun (o3 : List Int) =>
  some ((max (i64 (power - 1)) 0), (decide (0 < power)), o3))
theorem Zfn (s : List Int) (power : Int) : Le (ZaR s power) (QX s power) := by
  unfold ZaR QX
  with_reducible repeat' (first | exact Le.refl _ | apply Le.bind | apply Le.ite | apply Le.loop | apply Le.t1 | apply Le.t2 | apply Zed | apply ZdT | intro _)

noncomputable def ZaK (at_ : Int) (data : List Int) (o2 : List Int) (power3 : Int) (i : Int) : Option (((List Int) × Int × Int) ⊕ (Int × Bool × (List Int)) ⊕ ((List Int) × Int)) :=
  if (decide (i < (data.length : Int))) = true then
  (idx data i).bind fun x =>
  if (decide (power3 = 0)) = true then
  (idx o2 (i64 (at_ + i))).bind fun x2 =>
  (idx o2 (i64 (at_ + i))).bind fun x3 =>
  some (.inr (.inl (0, false, (o2.set (i64 (at_ + i)).toNat (Q6 .u8 x2 (bor .u8 x 15))))))
  else
  (idx o2 (i64 (at_ + i))).bind fun x4 =>
  (idx o2 (i64 (at_ + i))).bind fun x5 =>
  some (.inl ((o2.set (i64 (at_ + i)).toNat (Q6 .u8 x4 x)), (i64 (power3 - 1)), (i64 (i + 1))))
  else
  some (.inr (.inr (o2, power3)))
theorem Zfc (at_ : Int) (data : List Int) (o2 : List Int) (power3 : Int) (i : Int) : Le (ZaK at_ data o2 power3 i) (Q0 at_ data o2 power3 i) := by
  unfold ZaK Q0
  with_reducible repeat' (first | exact Le.refl _ | apply Le.bind | apply Le.ite | intro _)

noncomputable def ZaC (s : List Int) (at_ : Int) (data : List Int) (power : Int) : Option (Int × Bool × (List Int)) :=
  ((Qs (t3 (ZaK at_ data)) (s, power, 0)) : Option ((Int × Bool × (List Int)) ⊕ ((List Int) × Int))).bind (Sum.elim (fun q' => some q') (t2 fun (o : List Int) (power2 : Int) =>
  some (power2, true, o)))
theorem ZdI (s : List Int) (at_ : Int) (data : List Int) (power : Int) : Le (ZaC s at_ data power) (Xo s at_ data power) := by
  unfold ZaC Xo
  with_reducible repeat' (first | exact Le.refl _ | apply Le.bind | apply Le.loop | apply Le.t2 | apply Le.t3 | apply Le.elim | apply Zfc | intro _)

noncomputable def Zaj (b : ring_Recorder) (k : Int) (power : Int) : Option (Int × Bool × ring_Recorder) :=
  (idx b.bank.memories k).bind fun x =>
  (X2 b.bank k).bind fun y =>
  (XL b.bank k y).bind fun y2 =>
  (idx x.Wear y).bind fun x2 =>
  (idx x.Wear y).bind fun x3 =>
  (idx x.Sectors y).bind fun x8 =>
  (ZaR x8 power).bind fun y3 =>
  if (!y3.2.1) = true then
  some (y3.1, false, (ring_Recorder.mk (ring_bank.mk ((b.bank.memories.set k.toNat (api_Memory.mk x.Slots x.Limit x.Sectors (x.Wear.set y.toNat (i64 (x2 + 1))) x.Bad)).set k.toNat (api_Memory.mk x.Slots x.Limit (x.Sectors.set y.toNat y3.2.2) (x.Wear.set y.toNat (i64 (x2 + 1))) x.Bad)) b.bank.spots) b.copies b.frozen b.stopped b.last b.some_))
  else
  (((idx ((b.bank.memories.set k.toNat (api_Memory.mk x.Slots x.Limit x.Sectors (x.Wear.set y.toNat (i64 (x2 + 1))) x.Bad)).set k.toNat (api_Memory.mk x.Slots x.Limit (x.Sectors.set y.toNat y3.2.2) (x.Wear.set y.toNat (i64 (x2 + 1))) x.Bad)) k).bind fun x14 =>
  (idx x14.Sectors y).bind fun x15 =>
  (idx x14.Sectors y).bind fun x16 =>
  (Zb2 y2).bind fun y4 =>
  (ZaC x15 0 y4 y3.1).bind fun y5 =>
  if y5.2.1 = true then
  (idx b.bank.spots k).bind fun x22 =>
  some ((((b.bank.memories.set k.toNat (api_Memory.mk x.Slots x.Limit x.Sectors (x.Wear.set y.toNat (i64 (x2 + 1))) x.Bad)).set k.toNat (api_Memory.mk x.Slots x.Limit (x.Sectors.set y.toNat y3.2.2) (x.Wear.set y.toNat (i64 (x2 + 1))) x.Bad)).set k.toNat (api_Memory.mk x14.Slots x14.Limit (x14.Sectors.set y.toNat y5.2.2) x14.Wear x14.Bad)), (b.bank.spots.set k.toNat (ring_spot.mk y 0)), y5.1, y5.2.1)
  else
  some ((((b.bank.memories.set k.toNat (api_Memory.mk x.Slots x.Limit x.Sectors (x.Wear.set y.toNat (i64 (x2 + 1))) x.Bad)).set k.toNat (api_Memory.mk x.Slots x.Limit (x.Sectors.set y.toNat y3.2.2) (x.Wear.set y.toNat (i64 (x2 + 1))) x.Bad)).set k.toNat (api_Memory.mk x14.Slots x14.Limit (x14.Sectors.set y.toNat y5.2.2) x14.Wear x14.Bad)), b.bank.spots, y5.1, y5.2.1)) : Option (((List api_Memory) × (List ring_spot) × Int × Bool))).bind (t4 fun (memories : List api_Memory) (spots : List ring_spot) (power2 : Int) (all : Bool) =>
  some (power2, all, (ring_Recorder.mk (ring_bank.mk memories spots) b.copies b.frozen b.stopped b.last b.some_)))
theorem ZeV (b : ring_Recorder) (k : Int) (power : Int) : Le (Zaj b k power) (XO b k power) := by
  unfold Zaj XO
  with_reducible repeat' (first | exact Le.refl _ | apply Le.bind | apply Le.ite | apply Le.t4 | apply ZbB | apply ZbJ | apply Zfn | apply ZeF | apply ZdI | intro _)

noncomputable def Zbo (b : ring_Recorder) (k : Int) (data : List Int) (power : Int) : Option (Int × Bool × ring_Recorder) :=
  (((Xv b.bank k).bind fun y =>
  if y = true then
  (Zaj b k power).bind fun y2 =>
  if (!y2.2.1) = true then
  some (.inl (y2.1, false, y2.2.2))
  else
  some (.inr (y2.2.2.bank.memories, y2.2.2.bank.spots, y2.2.2.copies, y2.2.2.frozen, y2.2.2.stopped, y2.2.2.last, y2.2.2.some_, y2.1))
  else
  some (.inr (b.bank.memories, b.bank.spots, b.copies, b.frozen, b.stopped, b.last, b.some_, power))) : Option ((Int × Bool × ring_Recorder) ⊕ ((List api_Memory) × (List ring_spot) × Int × Bool × Bool × Int × Bool × Int))).bind (Sum.elim (fun q' => some q') (t8 fun (memories : List api_Memory) (spots : List ring_spot) (copies : Int) (frozen : Bool) (stopped : Bool) (last : Int) (some_ : Bool) (power2 : Int) =>
  (idx spots k).bind fun x =>
  (idx memories k).bind fun x2 =>
  (idx x2.Sectors x.sector).bind fun x3 =>
  (idx memories k).bind fun x4 =>
  (idx x2.Sectors x.sector).bind fun x5 =>
  (apz 1 data ([0] : List Int)).bind fun l =>
  (ZaC x3 (i64 (16 + (i64 (x.slot * 97)))) l power2).bind fun y3 =>
  some (y3.1, y3.2.1, (ring_Recorder.mk (ring_bank.mk (memories.set k.toNat (api_Memory.mk x2.Slots x2.Limit (x2.Sectors.set x.sector.toNat y3.2.2) x2.Wear x2.Bad)) (spots.set k.toNat (ring_spot.mk x.sector (i64 (x.slot + 1))))) copies frozen stopped last some_))))
theorem Zfw (b : ring_Recorder) (k : Int) (data : List Int) (power : Int) : Le (Zbo b k data power) (Jz b k data power) := by
  unfold Zbo Jz
  with_reducible repeat' (first | exact Le.refl _ | apply Le.bind | apply Le.ite | apply Le.t8 | apply Le.elim | apply Zar | apply ZeV | apply ZdI | intro _)

noncomputable def XG (y4 : (List Int)) (y6 : (List Int) × Int) (memories2 : List api_Memory) (spots2 : List ring_spot) (copies2 : Int) (frozen2 : Bool) (stopped2 : Bool) (last2 : Int) (some_2 : Bool) (power3 : Int) (i : Int) : Option (((List api_Memory) × (List ring_spot) × Int × Bool × Bool × Int × Bool × Int × Int) ⊕ (Int × Bool × Int × ring_Recorder) ⊕ ((List api_Memory) × (List ring_spot) × Int × Bool × Bool × Int × Bool × Int)) :=
  if (decide (i < (y4.length : Int))) = true then
  (idx y4 i).bind fun x =>
  (slc y6.1 0 (y6.1.length : Int)).bind fun l =>
  (Zbo (ring_Recorder.mk (ring_bank.mk memories2 spots2) copies2 frozen2 stopped2 last2 some_2) x l power3).bind fun y7 =>
  if (!y7.2.1) = true then
  some (.inr (.inl (y7.1, false, 0, (ring_Recorder.mk y7.2.2.bank y7.2.2.copies y7.2.2.frozen true y7.2.2.last y7.2.2.some_))))
  else
  some (.inl (y7.2.2.bank.memories, y7.2.2.bank.spots, y7.2.2.copies, y7.2.2.frozen, y7.2.2.stopped, y7.2.2.last, y7.2.2.some_, y7.1, (i64 (i + 1))))
  else
  some (.inr (.inr (memories2, spots2, copies2, frozen2, stopped2, last2, some_2, power3)))
theorem ZcY (y4 : (List Int)) (y6 : (List Int) × Int) (memories2 : List api_Memory) (spots2 : List ring_spot) (copies2 : Int) (frozen2 : Bool) (stopped2 : Bool) (last2 : Int) (some_2 : Bool) (power3 : Int) (i : Int) : Le (XG y4 y6 memories2 spots2 copies2 frozen2 stopped2 last2 some_2 power3 i) (Xe y4 y6 memories2 spots2 copies2 frozen2 stopped2 last2 some_2 power3 i) := by
  unfold XG Xe
  with_reducible repeat' (first | exact Le.refl _ | apply Le.bind | apply Le.ite | apply Zfw | intro _)

noncomputable def Jo (r_ : ring_Recorder) (f : Vector Int 64) (power : Int) : Option (Int × Bool × Int × ring_Recorder) :=
  (JS r_ power).bind fun y =>
  if (!decide (y = 0)) = true then
  some (0, false, y, r_)
  else
  (Zb3 f).bind fun y2 =>
  if (decide (0 < (y2.length : Int))) = true then
  some (0, false, 2, r_)
  else
  (Za3 f).bind fun y3 =>
  (ZcS y3.1 (r_.bank.memories.length : Int) r_.copies).bind fun y4 =>
  (Zbl r_.bank y4).bind fun y5 =>
  if (!decide (y5 = 0)) = true then
  some (0, false, y5, r_)
  else
  (Zcs f).bind fun y6 =>
  ((Qs (t9 (XG y4 y6)) (r_.bank.memories, r_.bank.spots, r_.copies, r_.frozen, r_.stopped, r_.last, r_.some_, power, 0)) : Option ((Int × Bool × Int × ring_Recorder) ⊕ ((List api_Memory) × (List ring_spot) × Int × Bool × Bool × Int × Bool × Int))).bind (Sum.elim (fun q' => some q') (t8 fun (memories : List api_Memory) (spots : List ring_spot) (copies : Int) (frozen : Bool) (stopped : Bool) (last : Int) (some_ : Bool) (power2 : Int) =>
  some (power2, true, 0, (ring_Recorder.mk (ring_bank.mk memories spots) copies frozen stopped y3.1 true))))
theorem ZdF (r_ : ring_Recorder) (f : Vector Int 64) (power : Int) : Le (Jo r_ f power) (Xb r_ f power) := by
  unfold Jo Xb
  with_reducible repeat' (first | exact Le.refl _ | apply Le.bind | apply Le.ite | apply Le.loop | apply Le.t8 | apply Le.t9 | apply Le.elim | apply Zew | apply ZeX | apply Zer | apply Zhd | apply ZfA | apply Zgy | apply ZcY | intro _)

noncomputable def XV (r_ : ring_Recorder) : Option (List api_Memory) :=
  (Zbs r_.bank.memories).bind fun y =>
  some y
theorem Zdf (r_ : ring_Recorder) : Le (XV r_) (QO r_) := by
  unfold XV QO
  with_reducible repeat' (first | exact Le.refl _ | apply Le.bind | apply Zen | intro _)

noncomputable def Zc1 (p : Vector Int 96) (i : Int) : Option Int :=
  (quo .i64 i 2).bind fun q =>
  (rem i 2).bind fun q2 =>
  if (decide (q2 = 0)) = true then
  (ZO p (i64 (q * 3))).bind fun x =>
  (shl .u16 (u16 x) 4).bind fun q3 =>
  (ZO p (i64 ((i64 (q * 3)) + 1))).bind fun x2 =>
  (shr .u16 (u16 x2) 4).bind fun q4 =>
  some (bor .u16 q3 q4)
  else
  (ZO p (i64 ((i64 (q * 3)) + 1))).bind fun x3 =>
  (shl .u16 (Q6 .u16 (u16 x3) 15) 8).bind fun q5 =>
  (ZO p (i64 ((i64 (q * 3)) + 2))).bind fun x4 =>
  some (bor .u16 q5 (u16 x4))
theorem Zhe (p : Vector Int 96) (i : Int) : Le (Zc1 p i) (Za7 p i) := by
  unfold Zc1 Za7
  with_reducible repeat' (first | exact Le.refl _ | apply Le.bind | apply Le.ite | intro _)

noncomputable def Zcw (p : Vector Int 96) (f2 : Vector Int 64) (i : Int) : Option (((Vector Int 64) × Int) ⊕ ((Vector Int 64))) :=
  if (decide (i < 64)) = true then
  (Zc1 p i).bind fun y =>
  (ZO f2 i).bind fun x =>
  some (.inl ((X4 f2 i y), (i64 (i + 1))))
  else
  some (.inr f2)
theorem Zgw (p : Vector Int 96) (f2 : Vector Int 64) (i : Int) : Le (Zcw p f2 i) (Zb0 p f2 i) := by
  unfold Zcw Zb0
  with_reducible repeat' (first | exact Le.refl _ | apply Le.bind | apply Le.ite | apply Zhe | intro _)

noncomputable def Zd1 (p : Vector Int 96) : Option (Vector Int 64) :=
  ((Qs (t2 (Zcw p)) ((Vector.replicate 64 0), 0)) : Option (((Vector Int 64)))).bind (t1 fun (f : Vector Int 64) =>
  some f)
theorem Zh9 (p : Vector Int 96) : Le (Zd1 p) (Zc8 p) := by
  unfold Zd1 Zc8
  with_reducible repeat' (first | exact Le.refl _ | apply Le.bind | apply Le.loop | apply Le.t1 | apply Le.t2 | apply Zgw | intro _)

noncomputable def Zbt (b : List Int) : Option ((Vector Int 64) × Int) :=
  if (decide ((b.length : Int) < 96)) = true then
  some ((#v[0, 0, 0, 0, 0, 0, 0, 0, 0, 0, 0, 0, 0, 0, 0, 0, 0, 0, 0, 0, 0, 0, 0, 0, 0, 0, 0, 0, 0, 0, 0, 0, 0, 0, 0, 0, 0, 0, 0, 0, 0, 0, 0, 0, 0, 0, 0, 0, 0, 0, 0, 0, 0, 0, 0, 0, 0, 0, 0, 0, 0, 0, 0, 0] : Vector Int 64), 3)
  else
  (slc b 0 96).bind fun l =>
  (tov 96 l).bind fun v =>
  (Zd1 v).bind fun y =>
  some (y, 0)
theorem Zfx (b : List Int) : Le (Zbt b) (Js b) := by
  unfold Zbt Js
  with_reducible repeat' (first | exact Le.refl _ | apply Le.bind | apply Le.ite | apply Zh9 | intro _)

noncomputable def Zbc (i : Int) (x : api_Memory) (x2 : Int) (y3 : Int × Bool × Bool) (out6 : List api_Kept) (i3 : Int) : Option (((List api_Kept) × Int) ⊕ ((List api_Kept))) :=
  if (decide (i3 < x.Slots)) = true then
  (idx x.Sectors x2).bind fun x4 =>
  (Zb4 x4 i3).bind fun y4 =>
  (ZbH y4).bind fun y5 =>
  if (decide (y5 = 1)) = true then
  (slc y4.toList 0 (97 : Int)).bind fun l2 =>
  (Zbt l2).bind fun y6 =>
  (apz 160 out6 ([(api_Kept.mk i x2 y3.1 i3 y6.1)] : List api_Kept)).bind fun l3 =>
  some (.inl (l3, (i64 (i3 + 1))))
  else
  some (.inl (out6, (i64 (i3 + 1))))
  else
  some (.inr out6)
theorem ZfR (i : Int) (x : api_Memory) (x2 : Int) (y3 : Int × Bool × Bool) (out6 : List api_Kept) (i3 : Int) : Le (Zbc i x x2 y3 out6 i3) (ZaF i x x2 y3 out6 i3) := by
  unfold Zbc ZaF
  with_reducible repeat' (first | exact Le.refl _ | apply Le.bind | apply Le.ite | apply ZeC | apply Zep | apply Zfx | intro _)

noncomputable def ZbE (i : Int) (x : api_Memory) (y2 : (List Int)) (out4 : List api_Kept) (i2 : Int) : Option (((List api_Kept) × Int) ⊕ ((List api_Kept))) :=
  if (decide (i2 < (y2.length : Int))) = true then
  (((idx y2 i2).bind fun x2 =>
  (idx x.Sectors x2).bind fun x3 =>
  (JP x3).bind fun y3 =>
  Qs (t2 (Zbc i x x2 y3)) (out4, 0)) : Option (((List api_Kept)))).bind (t1 fun (out5 : List api_Kept) =>
  some (.inl (out5, (i64 (i2 + 1)))))
  else
  some (.inr out4)
theorem ZfM (i : Int) (x : api_Memory) (y2 : (List Int)) (out4 : List api_Kept) (i2 : Int) : Le (ZbE i x y2 out4 i2) (ZaD i x y2 out4 i2) := by
  unfold ZbE ZaD
  with_reducible repeat' (first | exact Le.refl _ | apply Le.bind | apply Le.ite | apply Le.loop | apply Le.t1 | apply Le.t2 | apply Zbf | apply ZfR | intro _)

noncomputable def Zbk (l : List api_Memory) (out2 : List api_Kept) (i : Int) : Option (((List api_Kept) × Int) ⊕ ((List api_Kept))) :=
  if (decide (i < (l.length : Int))) = true then
  (((idx l i).bind fun x =>
  (Za8 x).bind fun y2 =>
  Qs (t2 (ZbE i x y2)) (out2, 0)) : Option (((List api_Kept)))).bind (t1 fun (out3 : List api_Kept) =>
  some (.inl (out3, (i64 (i + 1)))))
  else
  some (.inr out2)
theorem ZfE (l : List api_Memory) (out2 : List api_Kept) (i : Int) : Le (Zbk l out2 i) (ZaI l out2 i) := by
  unfold Zbk ZaI
  with_reducible repeat' (first | exact Le.refl _ | apply Le.bind | apply Le.ite | apply Le.loop | apply Le.t1 | apply Le.t2 | apply Zeq | apply ZfM | intro _)

noncomputable def ZcV (l : List api_Memory) : Option ((List api_Kept) × Int) :=
  (ZaH l).bind fun y =>
  if (!decide (y = 0)) = true then
  some ([], y)
  else
  ((Qs (t2 (Zbk l)) ([], 0)) : Option (((List api_Kept)))).bind (t1 fun (out : List api_Kept) =>
  some (out, 0))
theorem Zha (l : List api_Memory) : Le (ZcV l) (Za6 l) := by
  unfold ZcV Za6
  with_reducible repeat' (first | exact Le.refl _ | apply Le.bind | apply Le.ite | apply Le.loop | apply Le.t1 | apply Le.t2 | apply ZdR | apply ZfE | intro _)

noncomputable def ZbY (y : (List api_Kept) × Int) (best2 : List (Int × api_Kept)) (numbers2 : List Int) (i : Int) : Option (((List (Int × api_Kept)) × (List Int) × Int) ⊕ ((List (Int × api_Kept)) × (List Int))) :=
  if (decide (i < (y.1.length : Int))) = true then
  (idx y.1 i).bind fun x =>
  (Zb3 x.Frame).bind fun y2 =>
  if (decide (0 < (y2.length : Int))) = true then
  some (.inl (best2, numbers2, (i64 (i + 1))))
  else
  (Za3 x.Frame).bind fun y3 =>
  (some (Zf2 kqI best2 y3.1)).bind fun o =>
  ((if (!o.isSome) = true then
  (apz 8 numbers2 ([y3.1] : List Int)).bind fun l2 =>
  some l2
  else
  some numbers2) : Option (((List Int)))).bind (t1 fun (numbers3 : List Int) =>
  if ((!o.isSome) || (decide (((o.getD (api_Kept.mk 0 0 0 0 (Vector.replicate 64 0))).Sequence) < x.Sequence))) = true then
  some (.inl ((ZiY kqI best2 y3.1 x), numbers3, (i64 (i + 1))))
  else
  some (.inl (best2, numbers3, (i64 (i + 1)))))
  else
  some (.inr (best2, numbers2))
theorem Zf6 (y : (List api_Kept) × Int) (best2 : List (Int × api_Kept)) (numbers2 : List Int) (i : Int) : Le (ZbY y best2 numbers2 i) (Zbp y best2 numbers2 i) := by
  unfold ZbY Zbp
  with_reducible repeat' (first | exact Le.refl _ | apply Le.bind | apply Le.ite | apply Le.t1 | apply ZeX | apply Zer | intro _)

noncomputable def ZbZ (best : List (Int × api_Kept)) (y4 : List Int) (out2 : List (Vector Int 64)) (i2 : Int) : Option (((List (Vector Int 64)) × Int) ⊕ ((List (Vector Int 64)))) :=
  if (decide (i2 < (y4.length : Int))) = true then
  (idx y4 i2).bind fun x2 =>
  (some ((Zf2 kqI best x2).getD (api_Kept.mk 0 0 0 0 (Vector.replicate 64 0)))).bind fun o2 =>
  (apz 128 out2 ([o2.Frame] : List (Vector Int 64))).bind fun l3 =>
  some (.inl (l3, (i64 (i2 + 1))))
  else
  some (.inr out2)
theorem Zf1 (best : List (Int × api_Kept)) (y4 : List Int) (out2 : List (Vector Int 64)) (i2 : Int) : Le (ZbZ best y4 out2 i2) (ZbA best y4 out2 i2) := by
  unfold ZbZ ZbA
  with_reducible repeat' (first | exact Le.refl _ | apply Le.bind | apply Le.ite | intro _)

noncomputable def ZdD (l : List api_Memory) : Option ((List (Vector Int 64)) × Int) :=
  (ZcV l).bind fun y =>
  if (!decide (y.2 = 0)) = true then
  some ([], y.2)
  else
  ((Qs (t3 (ZbY y)) (([] : List (Int × api_Kept)), [], 0)) : Option (((List (Int × api_Kept)) × (List Int)))).bind (t2 fun (best : List (Int × api_Kept)) (numbers : List Int) =>
  (ZlH numbers).bind fun y4 =>
  ((Qs (t2 (ZbZ best y4)) ([], 0)) : Option (((List (Vector Int 64))))).bind (t1 fun (out : List (Vector Int 64)) =>
  some (out, 0)))
theorem ZhH (l : List api_Memory) : Le (ZdD l) (Zcd l) := by
  unfold ZdD Zcd
  with_reducible repeat' (first | exact Le.refl _ | apply Le.bind | apply Le.ite | apply Le.loop | apply Le.t1 | apply Le.t2 | apply Le.t3 | apply Zha | apply Zf6 | apply Zf1 | apply ZkK | intro _)

noncomputable def ZeI : Option Bool :=
  (mkz 8 58 0).bind fun l =>
  (ZfG 4 l).bind fun y =>
  (ZbQ 2 1 3).bind fun y2 =>
  if (!decide (y2.2 = 0)) = true then
  some false
  else
  (Zd4 ([y2.1] : List api_Memory) 1).bind (Sum.elim (fun y3 =>
  if (!decide (y3 = 0)) = true then
  some false
  else
  none) (fun y3 =>
  if (!decide (y3.2 = 0)) = true then
  some false
  else
  (Jo y3.1 y.1 109).bind fun y4 =>
  (XV y4.2.2.2).bind fun y5 =>
  (ZdD y5).bind fun y6 =>
  (gd ((((((decide (y4.1 = 1)) && y4.2.1) && (decide (y4.2.2.1 = 0))) && (decide (y6.2 = 0))) && (decide ((y6.1.length : Int) = 1))) == true) (Vector.replicate 64 0) (idx y6.1 0)).bind fun x =>
  some ((((((decide (y4.1 = 1)) && y4.2.1) && (decide (y4.2.2.1 = 0))) && (decide (y6.2 = 0))) && (decide ((y6.1.length : Int) = 1))) && (decide (x = y.1)))))
theorem ZiA : Le (ZeI ) (ZcO ) := by
  unfold ZeI ZcO
  with_reducible repeat' (first | exact Le.refl _ | apply Le.bind | apply Le.ite | apply Le.gd | apply Le.elim | apply Zjm | apply ZfT | apply Zh8 | apply ZdF | apply Zdf | apply ZhH | intro _)
end Go.Vx

namespace Go.Vx
open Go Go.RowKit
theorem Zl7 : ZeI = some true := by decide +kernel
theorem Zl0 : ZcO = some true := ZiA true Zl7
end Go.Vx

namespace Go.Vx
open Go Go.RowKit
theorem ZjM {σ ρ : Type} {body : σ → Int → Option ((σ × Int) ⊕ ρ)} {N : Nat} (I : Nat → σ → Prop) (Q : ρ → Prop)
    (hstep : ∀ (k : Nat) s, k < N → I k s → (∃ s', body s (k : Int) = some (.inl (s', (k : Int) + 1)) ∧ I (k + 1) s') ∨ ∃ r, body s (k : Int) = some (.inr r) ∧ Q r)
    (hend : ∀ s, I N s → ∃ r, body s (N : Int) = some (.inr r) ∧ Q r) {s0 : σ} (h0 : I 0 s0) : ∃ r, loop (t2 body) (s0, 0) = some r ∧ Q r := by
  refine ZhQ (body := t2 body) (fun p => ∃ k : Nat, p.2 = k ∧ k ≤ N ∧ I k p.1) (fun p => N - p.2.toNat) Q ?_ (s0, 0) ⟨0, rfl, Nat.zero_le _, h0⟩
  rintro ⟨s, i⟩ ⟨k, hi, hk, hI⟩
  simp only at hi hI
  subst hi
  simp only [Int.toNat_natCast, Jb]
  rcases Nat.lt_or_ge k N with h | h
  · rcases hstep k s h hI with ⟨s', h1, h2⟩ | ⟨r, h1, h2⟩
    · exact .inl ⟨_, h1, ⟨k + 1, by push_cast; rfl, h, h2⟩, by simp only; omega⟩
    · exact .inr ⟨r, h1, h2⟩
  · have : k = N := by omega
    subst this
    exact .inr (hend s hI)
end Go.Vx

namespace Go.Vx
open Go Go.RowKit
theorem ZjG {α : Type} {s : Nat} {xs ys : List α} (h : xs.length + ys.length ≤ 140737488355328 / s) : apz s xs ys = some (xs ++ ys) := by unfold apz; rw [if_pos h]
theorem ZkL {α : Type} {xs ys : List α} (h : xs.length + ys.length ≤ 140737489403904) : apy xs ys = some (xs ++ ys) := by unfold apy; rw [if_pos h]
theorem Zl5 {α : Type} {s n : Nat} (h : n ≤ 140737488355328 / s) (z : α) : mkz s (n : Int) z = some (List.replicate n z) := by
  unfold mkz; rw [if_pos ⟨by omega, by simpa using h⟩]; simp
def QQ (o : List Int) : List Int := ([1, 2, 3] : List Int) ++ (o ++ [9, 8, 7, 6, 5])
theorem ZcL (o : List Int) : (QQ o).length = o.length + 8 := by simp [QQ]
theorem Ze4 {o : List Int} {j : Nat} (h : j < o.length) : idx (QQ o) (3 + (j : Int)) = some o[j] := by
  have e : (3 : Int) + (j : Int) = ((3 + j : Nat) : Int) := by omega
  rw [e]
  refine Zhu ?_
  unfold QQ
  rw [List.getElem?_append_right (by simp)]
  simp only [List.length_cons, List.length_nil, Nat.zero_add, Nat.reduceAdd, Nat.add_sub_cancel_left]
  rw [List.getElem?_append_left h, List.getElem?_eq_getElem h]
theorem Ze6 {o : List Int} {j : Nat} (h : j < o.length) (v : Int) : (QQ o).set (3 + (j : Int)).toNat v = QQ (o.set j v) := by
  have e : ((3 : Int) + (j : Int)).toNat = j + 1 + 1 + 1 := by omega
  rw [e]
  unfold QQ
  simp only [List.cons_append, List.nil_append, List.set_cons_succ]
  rw [List.set_append_left _ _ h]
theorem Ziv (o : List Int) {n : Nat} (h : o.length = n) : List.take (Int.toNat (3 + (n : Int) - 3)) (List.drop (Int.toNat 3) (QQ o)) = o := by
  have e : Int.toNat (3 + (n : Int) - 3) = o.length := by omega
  rw [e]
  unfold QQ
  simp
theorem Zj7 {s : List Int} (h : s.length ≤ 140737488355328) : X9 s = some (QQ s, (3, 3 + (s.length : Int))) := by
  unfold X9
  have e : i64 (3 + (s.length : Int)) = 3 + (s.length : Int) := Zbg (by omega) (by omega)
  rw [ZkL (by simp; omega), Option.bind_some, ZkL (by simp; omega), Option.bind_some, e]
  have : slq ([1, 2, 3] ++ s ++ [9, 8, 7, 6, 5]) 3 (3 + (s.length : Int)) = some () := by
    unfold slq ck
    rw [if_pos (by simp; omega)]
  rw [this, Option.bind_some]
  simp [QQ]
theorem Zit {o : List Int} (h : o.length ≤ 140737488355328) : ZaX (QQ o) = some true := by
  unfold ZaX
  have e : i64 (((QQ o).length : Int) - 5) = ((QQ o).length : Int) - 5 := Zbg (by rw [ZcL]; omega) (by rw [ZcL]; omega)
  rw [e]
  have h1 : slc (QQ o) 0 3 = some [1, 2, 3] := by
    unfold slc
    rw [if_pos (by rw [ZcL]; omega)]
    simp [QQ]
  have h2 : slc (QQ o) (((QQ o).length : Int) - 5) ((QQ o).length : Int) = some [9, 8, 7, 6, 5] := by
    unfold slc
    rw [if_pos (by rw [ZcL]; omega)]
    have e1 : (((QQ o).length : Int) - 5).toNat = o.length + 3 := by rw [ZcL]; omega
    rw [e1, Int.toNat_natCast, List.take_length]
    simp [QQ]
  simp [h1, h2, XH, gd]
def ZdL : List Int → Int → Nat → List Int → List Int × Int × Bool
  | o, p, _, [] => (o, p, true)
  | o, p, j, x :: r => if p = 0 then (o.set j (Q6 .u8 (o[j]?.getD 0) (bor .u8 x 15)), 0, false) else ZdL (o.set j (Q6 .u8 (o[j]?.getD 0) x)) (i64 (p - 1)) (j + 1) r
theorem Zi9 : ∀ (r : List Int) (o : List Int) (p : Int) (j : Nat), (ZdL o p j r).1.length = o.length
  | [], _, _, _ => rfl
  | x :: r, o, p, j => by
    unfold ZdL
    split
    · simp
    · rw [Zi9 r]; simp
theorem Zl2 {s data : List Int} {a : Nat} {power : Int} (hs : s.length ≤ 140737488355328) (hd : data.length ≤ 140737488355328) (ha : a + data.length ≤ s.length) :
    Q3 (QQ s) 3 (3 + (s.length : Int)) (a : Int) data power = some ((ZdL s power a data).2.1, (ZdL s power a data).2.2, QQ (ZdL s power a data).1) := by
  unfold Q3
  obtain ⟨r, h1, h2⟩ := ZhQ (body := t3 (Qy 3 (3 + (s.length : Int)) (a : Int) data))
    (fun st => ∃ (o : List Int) (k : Nat), st.1 = QQ o ∧ st.2.2 = (k : Int) ∧ o.length = s.length ∧ k ≤ data.length ∧ ZdL o st.2.1 (a + k) (data.drop k) = ZdL s power a data)
    (fun st => data.length - st.2.2.toNat)
    (fun r => (Sum.elim (fun q' => some q') (t2 fun (o : List Int) (power2 : Int) => some (power2, true, o)) r : Option (Int × Bool × List Int)) = some ((ZdL s power a data).2.1, (ZdL s power a data).2.2, QQ (ZdL s power a data).1))
    (fun st hst => by
      obtain ⟨o', p, i⟩ := st
      obtain ⟨o, k, ho, hi, hl, hk, hT⟩ := hst
      simp only at ho hi hT
      subst ho hi
      simp only [Zej, Qy]
      rcases Nat.lt_or_ge k data.length with h | h
      · obtain ⟨x, hx⟩ := Zjr h
        have e : i64 ((a : Int) + (k : Int)) = ((a + k : Nat) : Int) := by rw [show i64 ((a : Int) + (k : Int)) = (a : Int) + (k : Int) from Zbg (by omega) (by omega)]; omega
        have e2 : i64 ((k : Int) + 1) = (k : Int) + 1 := Zbg (by omega) (by omega)
        have hj : a + k < o.length := by omega
        have hc : ck (decide ((0 : Int) ≤ ((a + k : Nat) : Int)) && decide (((a + k : Nat) : Int) < ((Int.toNat (3 + (s.length : Int) - 3) : Nat) : Int))) = some () := by
          unfold ck; rw [if_pos (by simp; omega)]
        rw [ZgQ hx] at hT
        have hg : o[a + k]?.getD 0 = o[a + k] := by rw [List.getElem?_eq_getElem hj]; rfl
        simp only [ZdL, hg] at hT
        rw [if_pos (by simpa using h), Zhu hx, Option.bind_some, e, e2]
        by_cases hp : p = 0
        · subst hp
          right
          rw [if_pos rfl] at hT
          simp only [decide_true, if_true, hc, Option.bind_some, Ze4 hj, Ze6 hj]
          refine ⟨_, rfl, ?_⟩
          rw [← hT]; rfl
        · left
          rw [if_neg hp] at hT
          simp only [hp, decide_false, Bool.false_eq_true, if_false, hc, Option.bind_some, Ze4 hj, Ze6 hj]
          refine ⟨_, rfl, ⟨_, k + 1, rfl, by push_cast; rfl, by simpa using hl, h, hT⟩, ?_⟩
          simp only; omega
      · right
        have : k = data.length := by omega
        subst this
        rw [if_neg (by simp)]
        refine ⟨_, rfl, ?_⟩
        rw [List.drop_length] at hT
        rw [← hT]; rfl)
    (QQ s, power, 0) ⟨s, 0, rfl, rfl, rfl, Nat.zero_le _, rfl⟩
  rw [h1, Option.bind_some]
  exact h2
theorem Zle {s data : List Int} {a : Nat} {power : Int} (hs : s.length ≤ 140737488355328) (hd : data.length ≤ 140737488355328) (ha : a + data.length ≤ s.length) :
    ZeD s (a : Int) data power = some (ZdL s power a data) := by
  unfold ZeD
  rw [ZjG (by simpa using hs), Option.bind_some, List.nil_append]
  obtain ⟨r, h1, h2⟩ := ZhQ (body := t3 (Zdo (a : Int) data))
    (fun st => ∃ (k : Nat), st.2.2 = (k : Int) ∧ st.2.1.length = s.length ∧ k ≤ data.length ∧ ZdL st.2.1 st.1 (a + k) (data.drop k) = ZdL s power a data)
    (fun st => data.length - st.2.2.toNat)
    (fun r => (Sum.elim (fun q' => some q') (t2 fun (power2 : Int) (out : List Int) => some (out, power2, true)) r : Option (List Int × Int × Bool)) = some (ZdL s power a data))
    (fun st hst => by
      obtain ⟨p, o, i⟩ := st
      obtain ⟨k, hi, hl, hk, hT⟩ := hst
      simp only at hl hi hT
      subst hi
      simp only [Zej, Zdo]
      rcases Nat.lt_or_ge k data.length with h | h
      · obtain ⟨x, hx⟩ := Zjr h
        have e : i64 ((a : Int) + (k : Int)) = ((a + k : Nat) : Int) := by rw [show i64 ((a : Int) + (k : Int)) = (a : Int) + (k : Int) from Zbg (by omega) (by omega)]; omega
        have e2 : i64 ((k : Int) + 1) = (k : Int) + 1 := Zbg (by omega) (by omega)
        have hj : a + k < o.length := by omega
        rw [ZgQ hx] at hT
        have hg : o[a + k]?.getD 0 = o[a + k] := by rw [List.getElem?_eq_getElem hj]; rfl
        simp only [ZdL, hg] at hT
        rw [if_pos (by simpa using h), Zhu hx, Option.bind_some, e, e2]
        have hix : idx o ((a + k : Nat) : Int) = some o[a + k] := Zhu (List.getElem?_eq_getElem hj)
        by_cases hp : p = 0
        · subst hp
          right
          rw [if_pos rfl] at hT
          simp only [decide_true, if_true, hix, Option.bind_some, Int.toNat_natCast]
          refine ⟨_, rfl, ?_⟩
          rw [← hT]; rfl
        · left
          rw [if_neg hp] at hT
          simp only [hp, decide_false, Bool.false_eq_true, if_false, hix, Option.bind_some, Int.toNat_natCast]
          refine ⟨_, rfl, ⟨k + 1, by push_cast; rfl, by simpa using hl, h, hT⟩, ?_⟩
          simp only; omega
      · right
        have : k = data.length := by omega
        subst this
        rw [if_neg (by simp)]
        refine ⟨_, rfl, ?_⟩
        rw [List.drop_length] at hT
        rw [← hT]; rfl)
    (power, s, 0) ⟨0, rfl, rfl, Nat.zero_le _, rfl⟩
  rw [h1, Option.bind_some]
  exact h2
theorem Zlg {s data : List Int} {at_ power : Int} (hs : s.length ≤ 140737488355328) (hd : data.length ≤ 140737488355328) :
    ∃ (p : Int) (b : Bool) (e : Int) (o : List Int), o.length = s.length ∧ Q5 (QQ s) 3 (3 + (s.length : Int)) at_ data power = some (p, b, e, QQ o) ∧ Zay s at_ data power = some (o, p, b, e) := by
  have hn : ((Int.toNat (3 + (s.length : Int) - 3) : Nat) : Int) = (s.length : Int) := by omega
  have e1 : i64 ((s.length : Int) - (data.length : Int)) = (s.length : Int) - (data.length : Int) := Zbg (by omega) (by omega)
  unfold Q5 Zay
  rw [hn, e1]
  by_cases h0 : at_ < 0
  · exact ⟨0, false, 9, s, rfl, by simp [h0], by simp [h0]⟩
  · by_cases hw : 0 ≤ power ∧ power ≤ 1000000000
    · have w1 : ZF power 0 1000000000 = some true := by simp [ZF, hw.1, hw.2]
      have w2 : QH power 0 1000000000 = some false := by simp [QH]; omega
      by_cases h3 : (s.length : Int) - (data.length : Int) < at_
      · refine ⟨0, false, 3, s, rfl, by simp [h0, w1, h3, gd], ?_⟩
        by_cases h4 : (s.length : Int) < at_
        · simp [h0, w2, h4, gd]
        · have e2 : i64 ((s.length : Int) - at_) = (s.length : Int) - at_ := Zbg (by omega) (by omega)
          rw [e2]
          have : (s.length : Int) - at_ < (data.length : Int) := by omega
          simp [h0, w2, this, gd]
      · obtain ⟨a, rfl⟩ := Int.eq_ofNat_of_zero_le (by omega : 0 ≤ at_)
        have e2 : i64 ((s.length : Int) - (a : Int)) = (s.length : Int) - (a : Int) := Zbg (by omega) (by omega)
        have h4 : ¬ (s.length : Int) < (a : Int) := by omega
        have h5 : ¬ (s.length : Int) - (a : Int) < (data.length : Int) := by omega
        rw [e2]
        refine ⟨(ZdL s power a data).2.1, (ZdL s power a data).2.2, 0, (ZdL s power a data).1, Zi9 .., ?_, ?_⟩
        · rw [Zl2 hs hd (by omega)]
          simp [w1, h3, gd]
        · rw [Zle hs hd (by omega)]
          simp [w2, h4, h5, gd]
    · have w1 : ZF power 0 1000000000 = some false := by simp [ZF]; omega
      have w2 : QH power 0 1000000000 = some true := by simp [QH]; omega
      exact ⟨0, false, 9, s, rfl, by simp [h0, w1, gd], by simp [h0, w2, gd]⟩
theorem ZlF {s : List Int} {n : Nat} (hn : n ≤ s.length) (hs : s.length ≤ 140737488355328) {body : List Int → Int → Option ((List Int × Int) ⊕ List Int)}
    (hb : ∀ (o : List Int) (k : Nat), o.length = s.length → k < n → body (QQ o) (k : Int) = some (.inl (QQ (o.set k 255), (k : Int) + 1)))
    (he : ∀ o, body o (n : Int) = some (.inr o)) :
    loop (t2 body) (QQ s, 0) = some (QQ (List.replicate n 255 ++ s.drop n)) := by
  obtain ⟨r, h1, h2⟩ := ZjM (body := body) (N := n) (fun k o => o = QQ (List.replicate k 255 ++ s.drop k)) (fun r => r = QQ (List.replicate n 255 ++ s.drop n))
    (fun k o hk ho => by
      left
      subst ho
      refine ⟨_, hb _ k (by simp; omega) hk, ?_⟩
      obtain ⟨x, hx⟩ := Zjr (xs := s) (k := k) (by omega)
      rw [ZgQ hx, List.set_append_right _ _ (by simp)]
      simp only [List.length_replicate, Nat.sub_self, List.set_cons_zero]
      rw [List.replicate_succ', List.append_assoc]; rfl)
    (fun o ho => ⟨o, he o, ho⟩) (s0 := QQ s) (by simp)
  rw [h1, h2]
theorem Zio {n : Nat} (h : n ≤ 140737488355328) : Zce (n : Int) = some (List.replicate n 255) := by
  unfold Zce
  rw [Zl5 (by omega), Option.bind_some]
  obtain ⟨r, h1, h2⟩ := ZjM (body := JV (List.replicate n 0)) (N := n) (fun k o => o = List.replicate k 255 ++ List.replicate (n - k) 0) (fun r => r = List.replicate n 255)
    (fun k o hk ho => by
      left
      subst ho
      unfold JV
      have hg : (List.replicate k (255 : Int) ++ List.replicate (n - k) 0)[k]? = some 0 := by
        rw [List.getElem?_append_right (by simp), List.length_replicate, Nat.sub_self, List.getElem?_replicate, if_pos (by omega)]
      rw [if_pos (by simpa using hk), Zhu hg, Option.bind_some, show i64 ((k : Int) + 1) = (k : Int) + 1 from Zbg (by omega) (by omega)]
      refine ⟨_, rfl, ?_⟩
      rw [Int.toNat_natCast, List.set_append_right _ _ (by simp), List.length_replicate, Nat.sub_self, show n - k = (n - (k + 1)) + 1 by omega, List.replicate_succ, List.set_cons_zero, List.replicate_succ' (n := k), List.append_assoc]; rfl)
    (fun o ho => by
      unfold JV
      rw [if_neg (by simp)]
      exact ⟨_, rfl, by rw [ho]; simp⟩) (s0 := List.replicate n 0) (by simp)
  rw [h1, h2]; rfl
theorem ZkN {s : List Int} {power : Int} (hs : s.length ≤ 140737488355328) :
    ∃ (p : Int) (b : Bool) (e : Int) (o : List Int), o.length = s.length ∧ Qz (QQ s) 3 (3 + (s.length : Int)) power = some (p, b, e, QQ o) ∧ X0 s power = some (o, p, b, e) := by
  have hn : ((Int.toNat (3 + (s.length : Int) - 3) : Nat) : Int) = (s.length : Int) := by omega
  unfold Qz X0
  by_cases hw : 0 ≤ power ∧ power ≤ 1000000000
  · have w1 : ZF power 0 1000000000 = some true := by simp [ZF, hw.1, hw.2]
    have w2 : QH power 0 1000000000 = some false := by simp [QH]; omega
    have hsl : ∀ n : Nat, n ≤ s.length → slc s (n : Int) (s.length : Int) = some (s.drop n) := fun n h => by
      unfold slc
      rw [if_pos (by omega)]
      simp
    by_cases hp : power = 0
    · subst hp
      have hq : quo .i64 (s.length : Int) 2 = some ((s.length / 2 : Nat) : Int) := by
        unfold quo
        rw [if_neg (by decide)]
        have : (s.length : Int).tdiv 2 = ((s.length / 2 : Nat) : Int) := by simp
        rw [this]
        exact congrArg some (Zbg (by omega) (by omega))
      have hm : s.length / 2 ≤ s.length := by omega
      have hl : ((Int.toNat ((3 + ((s.length / 2 : Nat) : Int)) - (3 + 0)) : Nat) : Int) = ((s.length / 2 : Nat) : Int) := by omega
      have e0 : slq (QQ s) (3 + 0) (3 + ((s.length / 2 : Nat) : Int)) = some () := by
        unfold slq ck
        rw [if_pos (by simp [ZcL]; omega)]
      have ec : ck (decide ((0 : Int) ≤ 0) && (decide ((0 : Int) ≤ ((s.length / 2 : Nat) : Int)) && decide (((s.length / 2 : Nat) : Int) ≤ (s.length : Int)))) = some () := by
        unfold ck
        rw [if_pos (by simp; omega)]
      have lp := ZlF (s := s) hm hs (body := ZW 3 ((s.length / 2 : Nat) : Int)) (fun o k ho hk => by
          unfold ZW
          have hk2 : (k : Int) < ((s.length / 2 : Nat) : Int) := by omega
          rw [hl, if_pos (by simp only [decide_eq_true_eq]; exact hk2)]
          have : ck (decide ((0 : Int) ≤ (k : Int)) && decide ((k : Int) < ((s.length / 2 : Nat) : Int))) = some () := by unfold ck; rw [if_pos (by simp; omega)]
          rw [this, Option.bind_some, Int.add_zero, Ze4 (by omega), Option.bind_some, Ze6 (by omega), show i64 ((k : Int) + 1) = (k : Int) + 1 from Zbg (by omega) (by omega)])
        (fun o => by
          unfold ZW
          rw [hl, if_neg (by simp)])
      refine ⟨0, false, 0, List.replicate (s.length / 2) 255 ++ s.drop (s.length / 2), by simp; omega, ?_, ?_⟩
      · unfold Qv
        rw [hn]
        simp only [w1, Option.bind_some, decide_true, if_true, hq, ec, e0, lp, Zgq, Bool.not_true, Bool.false_eq_true, if_false]
        rfl
      · unfold Zcj
        simp only [w2, Option.bind_some, decide_true, if_true, hq, Zgq, hsl _ hm, Zio (n := s.length / 2) (by omega), Bool.false_eq_true, if_false]
        rw [ZjG (by simp; omega)]
        simp
    · have lp := ZlF (s := s) (Nat.le_refl _) hs (body := ZV 3 (3 + (s.length : Int))) (fun o k ho hk => by
          unfold ZV
          rw [hn, if_pos (by simpa using hk)]
          have : ck (decide ((0 : Int) ≤ (k : Int)) && decide ((k : Int) < (s.length : Int))) = some () := by unfold ck; rw [if_pos (by simp; omega)]
          rw [this, Option.bind_some, Ze4 (by omega), Option.bind_some, Ze6 (by omega), show i64 ((k : Int) + 1) = (k : Int) + 1 from Zbg (by omega) (by omega)])
        (fun o => by
          unfold ZV
          rw [hn, if_neg (by simp)])
      have ep : i64 (power - 1) = power - 1 := Zbg (by omega) (by omega)
      refine ⟨power - 1, true, 0, List.replicate s.length 255 ++ s.drop s.length, by simp, ?_, ?_⟩
      · unfold Qv
        simp only [w1, Option.bind_some, hp, decide_false, lp, Zgq, Bool.not_true, Bool.false_eq_true, if_false, ep]
        have h1 : max (power - 1) 0 = power - 1 := by omega
        have h2 : (0 : Int) < power := by omega
        rw [h1, decide_eq_true h2]
      · unfold Zcj
        simp only [w2, Option.bind_some, hp, decide_false, Zgq, hsl _ (Nat.le_refl _), Zio hs, Bool.false_eq_true, if_false, ep]
        rw [ZjG (by simp; omega)]
        simp
  · have w1 : ZF power 0 1000000000 = some false := by simp [ZF]; omega
    have w2 : QH power 0 1000000000 = some true := by simp [QH]; omega
    exact ⟨0, false, 9, s, rfl, by simp [w1], by simp [w2]⟩
theorem Zkp (s : List Int) (at_ : Int) (data : List Int) (power : Int) (hs : s.length ≤ 140737488355328) (hd : data.length ≤ 140737488355328) : Xf s at_ data power = some true := by
  obtain ⟨p, b, e, o, ho, h1, h2⟩ := Zlg (s := s) (data := data) (at_ := at_) (power := power) hs hd
  obtain ⟨p', b', e', o', ho', h1', h2'⟩ := ZkN (s := s) (power := power) hs
  unfold Xf
  have hq : ∀ l : List Int, XH l l = some true := fun l => by simp [XH]
  simp only [Zj7 hs, Option.bind_some, h1, h2, h1', h2', Ziv o ho, Ziv o' ho', hq, Zit (by omega : o.length ≤ 140737488355328), Zit (by omega : o'.length ≤ 140737488355328), Zl0]
  simp [gd]
end Go.Vx
