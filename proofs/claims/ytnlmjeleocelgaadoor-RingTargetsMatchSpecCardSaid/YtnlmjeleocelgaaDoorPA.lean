/- A text of the proof: a verified executor of the program form, or the contracts of the functions that the law reaches. -/
import Derived.Test.YtnlmjeleocelgaaDoorShT
import Derived.Test.YtnlmjeleocelgaaDoorShLib
set_option linter.all false
namespace Go.Vx
open Go Go.RowKit
theorem lnb {α β : Type} {x : Option α} {f : α → Option β} {r : β} (h : x.bind f = some r) : ∃ a, x = some a ∧ f a = some r := Option.bind_eq_some_iff.1 h
theorem Jz {s : List Int} {at_ : Int} {data : List Int} {power : Int} {r : Int × Bool × List Int} (h : QU s at_ data power = some r) : r.2.2.length = s.length := by
  unfold QU at h
  obtain ⟨q, hq, h⟩ := lnb h
  have hQ : Sum.elim (fun q : Int × Bool × List Int => q.2.2.length = s.length) (fun q : List Int × Int => q.1.length = s.length) q := by
    refine Zbg (body := t3 (Qz at_ data)) (fun x => x.1.length = s.length) (fun q => Sum.elim (fun q : Int × Bool × List Int => q.2.2.length = s.length) (fun q : List Int × Int => q.1.length = s.length) q) ?_ ?_ rfl hq
    · rintro ⟨o, p, i⟩ s' hs hb
      simp only [ZiP] at hb hs
      unfold Qz at hb
      split at hb
      · obtain ⟨x, _, hb⟩ := lnb hb
        split at hb
        · obtain ⟨_, _, hb⟩ := lnb hb
          obtain ⟨_, _, hb⟩ := lnb hb
          cases hb
        · obtain ⟨_, _, hb⟩ := lnb hb
          obtain ⟨_, _, hb⟩ := lnb hb
          cases hb
          simpa using hs
      · cases hb
    · rintro ⟨o, p, i⟩ s' hs hb
      simp only [ZiP] at hb hs
      unfold Qz at hb
      split at hb
      · obtain ⟨x, _, hb⟩ := lnb hb
        split at hb
        · obtain ⟨_, _, hb⟩ := lnb hb
          obtain ⟨_, _, hb⟩ := lnb hb
          cases hb
          simpa using hs
        · obtain ⟨_, _, hb⟩ := lnb hb
          obtain ⟨_, _, hb⟩ := lnb hb
          cases hb
      · cases hb; exact hs
  cases q with
  | inl q => cases h; exact hQ
  | inr q => cases h; exact hQ
theorem Zed {s : List Int} {power : Int} {r : Int × Bool × List Int} (h : QD s power = some r) : r.2.2.length = s.length := by
  unfold QD at h
  split at h
  · obtain ⟨q, _, h⟩ := lnb h
    obtain ⟨_, _, h⟩ := lnb h
    obtain ⟨o, ho, h⟩ := lnb h
    cases h
    refine Zbg (body := t2 (Qe q)) (fun x => x.1.length = s.length) (fun o => o.length = s.length) ?_ ?_ rfl ho
    · rintro ⟨o, i⟩ s' hs hb
      simp only [Zen] at hb hs
      unfold Qe at hb
      split at hb
      · obtain ⟨_, _, hb⟩ := lnb hb
        obtain ⟨_, _, hb⟩ := lnb hb
        cases hb
        simpa using hs
      · cases hb
    · rintro ⟨o, i⟩ s' hs hb
      simp only [Zen] at hb hs
      unfold Qe at hb
      split at hb
      · obtain ⟨_, _, hb⟩ := lnb hb
        obtain ⟨_, _, hb⟩ := lnb hb
        cases hb
      · cases hb; exact hs
  · obtain ⟨o, ho, h⟩ := lnb h
    cases h
    refine Zbg (body := t2 (Qc s)) (fun x => x.1.length = s.length) (fun o => o.length = s.length) ?_ ?_ rfl ho
    · rintro ⟨o, i⟩ s' hs hb
      simp only [Zen] at hb hs
      unfold Qc at hb
      split at hb
      · obtain ⟨_, _, hb⟩ := lnb hb
        cases hb
        simpa using hs
      · cases hb
    · rintro ⟨o, i⟩ s' hs hb
      simp only [Zen] at hb hs
      unfold Qc at hb
      split at hb
      · obtain ⟨_, _, hb⟩ := lnb hb
        cases hb
      · cases hb; exact hs
theorem ZX {data : List Int} {a b : Int} {cmp : Int → Int → Option Int} {r : List Int} (h : Zx data a b cmp = some r) : r.length = data.length := by
  unfold Zx at h
  refine Zbg (body := t2 (Zz a b cmp)) (fun x => x.1.length = data.length) (fun o => o.length = data.length) ?_ ?_ rfl h
  · rintro ⟨o, i⟩ s' hs hb
    simp only [Zen] at hb hs
    unfold Zz at hb
    split at hb
    · obtain ⟨o2, h2, hb⟩ := lnb hb
      cases hb
      refine Zbg (body := t2 (Zy a cmp)) (fun x => x.1.length = data.length) (fun o => o.length = data.length) ?_ ?_ hs h2
      · rintro ⟨o, j⟩ s' hs hb
        simp only [Zen] at hb hs
        unfold Zy at hb
        obtain ⟨_, _, hb⟩ := lnb hb
        obtain ⟨_, _, hb⟩ := lnb hb
        obtain ⟨_, _, hb⟩ := lnb hb
        split at hb
        · obtain ⟨_, _, hb⟩ := lnb hb
          obtain ⟨_, _, hb⟩ := lnb hb
          obtain ⟨_, _, hb⟩ := lnb hb
          obtain ⟨_, _, hb⟩ := lnb hb
          cases hb
          simpa using hs
        · cases hb
      · rintro ⟨o, j⟩ s' hs hb
        simp only [Zen] at hb hs
        unfold Zy at hb
        obtain ⟨_, _, hb⟩ := lnb hb
        obtain ⟨_, _, hb⟩ := lnb hb
        obtain ⟨_, _, hb⟩ := lnb hb
        split at hb
        · obtain ⟨_, _, hb⟩ := lnb hb
          obtain ⟨_, _, hb⟩ := lnb hb
          obtain ⟨_, _, hb⟩ := lnb hb
          obtain ⟨_, _, hb⟩ := lnb hb
          cases hb
        · cases hb; exact hs
    · cases hb
  · rintro ⟨o, i⟩ s' hs hb
    simp only [Zen] at hb hs
    unfold Zz at hb
    split at hb
    · obtain ⟨o2, h2, hb⟩ := lnb hb
      cases hb
    · cases hb; exact hs
theorem ZaD {x : List Int} {cmp : Int → Int → Option Int} {r : List Int} (h : ZF x cmp = some r) : r.length = x.length := by
  unfold ZF at h
  obtain ⟨y, hy, h⟩ := lnb h
  cases h
  unfold Z0 at hy
  obtain ⟨⟨o, a⟩, ho, hy⟩ := lnb hy
  simp only [Zen] at hy
  obtain ⟨y2, hy2, hy⟩ := lnb hy
  have h1 : o.length = x.length := by
    refine Zbg (body := t3 (ZI (x.length : Int) cmp)) (fun s => s.1.length = x.length) (fun q => q.1.length = x.length) ?_ ?_ rfl ho
    · rintro ⟨o, a, b⟩ s' hs hb
      simp only [ZiP] at hb hs
      unfold ZI at hb
      split at hb
      · obtain ⟨z, hz, hb⟩ := lnb hb
        cases hb
        exact (ZX hz).trans hs
      · cases hb
    · rintro ⟨o, a, b⟩ s' hs hb
      simp only [ZiP] at hb hs
      unfold ZI at hb
      split at hb
      · obtain ⟨z, hz, hb⟩ := lnb hb
        cases hb
      · cases hb; exact hs
  have h2 : y2.length = x.length := (ZX hy2).trans h1
  refine Zbg (body := t1 (ZN (x.length : Int) y2)) (fun _ => True) (fun q => q.length = x.length) (fun _ _ _ _ => trivial) ?_ trivial hy
  intro b s' _ hb
  simp only [Zkl] at hb
  unfold ZN at hb
  split at hb
  · obtain ⟨_, _, hb⟩ := lnb hb
    simp only [t0] at hb
    split at hb
    · cases hb
    · cases hb
  · cases hb; exact h2
end Go.Vx

namespace Go.Vx
open Go Go.RowKit
theorem Ziq {z : Int} (h1 : -9223372036854775808 ≤ z) (h2 : z ≤ 9223372036854775807) : IntKind.i64.wrap z = z := w64 h1 h2
@[simp] theorem ZlA {α : Type} {d : α} {o : Option α} : gd true d o = o := rfl
@[simp] theorem Zlz {α : Type} {d : α} {o : Option α} : gd false d o = some d := rfl
@[simp] theorem Zlw {α : Type} {d : α} {o : Option α} : gd (true == true) d o = o := rfl
theorem ZjO {α : Type} {xs : List α} {k : Nat} {x : α} (h : xs[k]? = some x) : idx xs (k : Int) = some x := by simp [idx, h]
theorem Zlb {α : Type} {xs : List α} {k : Nat} {x : α} (h : xs[k]? = some x) : (k : Int) < (xs.length : Int) := by
  have := (List.getElem?_eq_some_iff.1 h).1; omega
theorem Zio {α : Type} {xs : List α} {k : Nat} (h : k < xs.length) : ∃ x, xs[k]? = some x := ⟨xs[k], List.getElem?_eq_getElem h⟩
theorem ZfF {α : Type} {xs : List α} {k : Nat} {x : α} (h : xs[k]? = some x) : xs.drop k = x :: xs.drop (k + 1) := by
  obtain ⟨hk, rfl⟩ := List.getElem?_eq_some_iff.1 h
  exact List.drop_eq_getElem_cons hk
section loops
variable {σ ρ : Type}
theorem ZiC {body : σ → Option (σ ⊕ ρ)} (I : σ → Prop) (μ : σ → Nat) (F : σ → ρ) (step : ∀ s, I s → (∃ s', body s = some (.inl s') ∧ I s' ∧ μ s' < μ s ∧ F s = F s') ∨ body s = some (.inr (F s))) :
    ∀ s, I s → loop body s = some (F s) := by
  intro s hs
  obtain ⟨r, h1, h2⟩ := Zjj (body := body) (fun s' => I s' ∧ F s = F s') μ (fun r => r = F s) (fun s' ⟨h1, h2⟩ => by
    rcases step s' h1 with ⟨s2, e1, e2, e3, e4⟩ | e
    · exact .inl ⟨s2, e1, ⟨e2, h2.trans e4⟩, e3⟩
    · exact .inr ⟨_, e, h2.symm⟩) s ⟨hs, rfl⟩
  rw [h1, h2]
variable {α : Type} {xs : List α}
theorem Zjm {body : Int → Option (Int ⊕ ρ)} (F : Nat → ρ)
    (hstep : ∀ (k : Nat) x, xs[k]? = some x → (body k = some (.inl ((k : Int) + 1)) ∧ F k = F (k + 1)) ∨ body k = some (.inr (F k)))
    (hend : body xs.length = some (.inr (F xs.length))) : loop (t1 body) 0 = some (F 0) := by
  refine ZiC (body := t1 body) (fun i => ∃ k : Nat, i = k ∧ k ≤ xs.length) (fun i => xs.length - i.toNat) (fun i => F i.toNat) ?_ 0 ⟨0, rfl, Nat.zero_le _⟩
  rintro i ⟨k, rfl, hk⟩
  simp only [Int.toNat_natCast, Zkl]
  rcases Nat.lt_or_ge k xs.length with h | h
  · obtain ⟨x, hx⟩ := Zio h
    rcases hstep k x hx with ⟨h1, h2⟩ | h1
    · exact .inl ⟨_, h1, ⟨k + 1, by push_cast; rfl, h⟩, by omega, by rw [h2]; rfl⟩
    · exact .inr h1
  · have : k = xs.length := by omega
    subst this
    exact .inr hend
end loops
end Go.Vx

namespace Go.Vx
open Go Go.RowKit
section err
variable {α ε : Type}
def Zkk {ρ : Type} (A : ε → ρ) (Z : ρ) : Option ε → ρ
  | some e => A e
  | none => Z
@[simp] theorem ZkI {ρ : Type} (A : ε → ρ) (Z : ρ) (e : ε) : Zkk A Z (some e) = A e := rfl
@[simp] theorem ZkE {ρ : Type} (A : ε → ρ) (Z : ρ) : Zkk A Z none = Z := rfl
end err
theorem ZjB {α β : Type} {xs : List α} {body : List β → Int → Option ((List β × Int) ⊕ (List β))} (g : α → β)
    (hstep : ∀ (k : Nat) x acc, xs[k]? = some x → acc.length = k → body acc k = some (.inl (acc ++ [g x], (k : Int) + 1)))
    (hend : ∀ acc, body acc xs.length = some (.inr acc)) : loop (t2 body) ([], 0) = some (xs.map g) := by
  refine (ZiC (body := t2 body) (fun p => ∃ k : Nat, p.2 = k ∧ k ≤ xs.length ∧ p.1.length = k) (fun p => xs.length - p.2.toNat) (fun p => p.1 ++ (xs.drop p.2.toNat).map g) ?_ ([], 0) ⟨0, rfl, Nat.zero_le _, rfl⟩).trans (by simp)
  rintro ⟨acc, i⟩ ⟨k, hi, hk, ha⟩
  simp only at hi ha
  subst hi
  simp only [Zen, Int.toNat_natCast]
  rcases Nat.lt_or_ge k xs.length with h | h
  · obtain ⟨x, hx⟩ := Zio h
    left
    refine ⟨_, hstep k x acc hx ha, ⟨k + 1, by push_cast; rfl, h, by simp [ha]⟩, by simp only; omega, ?_⟩
    rw [ZfF hx]
    simp
  · have : k = xs.length := by omega
    subst this
    right
    rw [hend]; simp
end Go.Vx

namespace Go.Vx
open Go Go.RowKit
def Z7 {σ ρ : Type} (b : σ → Option (σ ⊕ ρ)) (s : σ) : Option ρ :=
  Nat.rec (motive := fun _ => σ → Option ρ) (fun _ => none) (fun _ ih s => match b s with | none => none | some (.inl s') => ih s' | some (.inr r) => some r) 1000000 s
def Le {α : Type} (a b : Option α) : Prop := ∀ r, a = some r → b = some r
theorem Le.refl {α : Type} (a : Option α) : Le a a := fun _ h => h
section
variable {α β γ δ ε ζ η θ ι κ σ ρ : Type}
theorem Le.bind {a b : Option α} {f g : α → Option β} (h : Le a b) (hf : ∀ x, Le (f x) (g x)) : Le (a.bind f) (b.bind g) := by
  intro r hr
  cases ha : a with
  | none => rw [ha] at hr; cases hr
  | some x => rw [ha] at hr; rw [h x ha]; exact hf x r hr
theorem Le.ite {c : Prop} [Decidable c] {a b a' b' : Option α} (h1 : Le a a') (h2 : Le b b') : Le (if c then a else b) (if c then a' else b') := by
  split
  · exact h1
  · exact h2
theorem Le.gd {g : Bool} {d : α} {a b : Option α} (h : Le a b) : Le (gd g d a) (gd g d b) := by
  cases g
  · exact fun r hr => hr
  · exact h
theorem Le.loop {b b' : σ → Option (σ ⊕ ρ)} {s : σ} (h : ∀ s, Le (b s) (b' s)) : Le (Z7 b s) (loop b' s) := by
  have key : ∀ n s r, Nat.rec (motive := fun _ => σ → Option ρ) (fun _ => none) (fun _ ih s => match b s with | none => none | some (.inl s') => ih s' | some (.inr r) => some r) n s = some r → JP b' n s = some r := by
    intro n
    induction n with
    | zero => intro s r hr; cases hr
    | succ n ih =>
      intro s r hr
      simp only at hr
      cases hb : b s with
      | none => rw [hb] at hr; cases hr
      | some o =>
        rw [hb] at hr
        simp only [JP, h s o hb, Option.bind_some]
        cases o with
        | inl s' => exact ih s' r hr
        | inr r' => exact hr
  intro r hr
  exact Zfd (key 1000000 s r hr)
theorem Le.t0 {f g : Option κ} {p : Unit} (h : Le f g) : Le (t0 f p) (t0 g p) := h
theorem Le.t1 {f g : α → Option κ} {p : α} (h : ∀ a, Le (f a) (g a)) : Le (t1 f p) (t1 g p) := h _
theorem Le.t2 {f g : α → β → Option κ} {p : α × β} (h : ∀ a b, Le (f a b) (g a b)) : Le (t2 f p) (t2 g p) := h _ _
theorem Le.t3 {f g : α → β → γ → Option κ} {p : α × β × γ} (h : ∀ a b c, Le (f a b c) (g a b c)) : Le (t3 f p) (t3 g p) := h _ _ _
theorem Le.t4 {f g : α → β → γ → δ → Option κ} {p : α × β × γ × δ} (h : ∀ a b c d, Le (f a b c d) (g a b c d)) : Le (t4 f p) (t4 g p) := h _ _ _ _
theorem Le.t5 {f g : α → β → γ → δ → ε → Option κ} {p : α × β × γ × δ × ε} (h : ∀ a b c d e, Le (f a b c d e) (g a b c d e)) : Le (t5 f p) (t5 g p) := h _ _ _ _ _
theorem Le.t6 {f g : α → β → γ → δ → ε → ζ → Option κ} {p : α × β × γ × δ × ε × ζ} (h : ∀ a b c d e x, Le (f a b c d e x) (g a b c d e x)) : Le (t6 f p) (t6 g p) := h _ _ _ _ _ _
theorem Le.t7 {f g : α → β → γ → δ → ε → ζ → η → Option κ} {p : α × β × γ × δ × ε × ζ × η} (h : ∀ a b c d e x y, Le (f a b c d e x y) (g a b c d e x y)) : Le (t7 f p) (t7 g p) := h _ _ _ _ _ _ _
theorem Le.t8 {f g : α → β → γ → δ → ε → ζ → η → θ → Option κ} {p : α × β × γ × δ × ε × ζ × η × θ} (h : ∀ a b c d e x y z, Le (f a b c d e x y z) (g a b c d e x y z)) : Le (t8 f p) (t8 g p) := h _ _ _ _ _ _ _ _
theorem Le.t9 {ι : Type} {f g : α → β → γ → δ → ε → ζ → η → θ → ι → Option κ} {p : α × β × γ × δ × ε × ζ × η × θ × ι} (h : ∀ a b c d e x y z w, Le (f a b c d e x y z w) (g a b c d e x y z w)) : Le (t9 f p) (t9 g p) := h _ _ _ _ _ _ _ _ _
theorem Le.elim {f f' : α → Option κ} {g g' : β → Option κ} {s : α ⊕ β} (h1 : ∀ a, Le (f a) (f' a)) (h2 : ∀ b, Le (g b) (g' b)) : Le (Sum.elim f g s) (Sum.elim f' g' s) := by
  cases s with
  | inl a => exact h1 a
  | inr b => exact h2 b
end
end Go.Vx

namespace Go.Vx
open Go Go.RowKit
def Zkg : List Int → Option (List Int)
  | [x] => some [x]
  | _ => none
theorem Zjp (xs : List Int) : Le (Zkg xs) (ZfT xs) := by
  intro r h
  match xs, h with
  | [x], h => cases h; unfold ZfT; rw [if_pos (by simp), List.mergeSort_singleton]
end Go.Vx

namespace Go.Vx
open Go Go.RowKit
set_option linter.unusedVariables false

noncomputable def ZcL (data : List Int) (f2 : Vector Int 64) (i : Int) : Option (((Vector Int 64) × Int) ⊕ ((Vector Int 64) × Int) ⊕ ((Vector Int 64))) :=
  if (decide (i < (data.length : Int))) = true then
  (idx data i).bind fun x3 =>
  if ((decide (x3 < 0)) || (decide (2047 < x3))) = true then
  some (.inr (.inl ((#v[0, 0, 0, 0, 0, 0, 0, 0, 0, 0, 0, 0, 0, 0, 0, 0, 0, 0, 0, 0, 0, 0, 0, 0, 0, 0, 0, 0, 0, 0, 0, 0, 0, 0, 0, 0, 0, 0, 0, 0, 0, 0, 0, 0, 0, 0, 0, 0, 0, 0, 0, 0, 0, 0, 0, 0, 0, 0, 0, 0, 0, 0, 0, 0] : Vector Int 64), 9)))
  else
  (ZH f2 (i64 (3 + i))).bind fun x4 =>
  some (.inl ((Xv f2 (i64 (3 + i)) (u16 x3)), (i64 (i + 1))))
  else
  some (.inr (.inr f2))
theorem ZgP (data : List Int) (f2 : Vector Int 64) (i : Int) : Le (ZcL data f2 i) (ZcB data f2 i) := by
  unfold ZcL ZcB
  with_reducible repeat' (first | exact Le.refl _ | apply Le.bind | apply Le.ite | intro _)

noncomputable def ZcM (n2 : Int) (ones2 : Int) : Option ((Int × Int) ⊕ (Int)) :=
  if (decide (0 < n2)) = true then
  (rem n2 2).bind fun q =>
  (quo .i64 n2 2).bind fun q2 =>
  some (.inl (q2, (i64 (ones2 + q))))
  else
  some (.inr ones2)
theorem Zgx (n2 : Int) (ones2 : Int) : Le (ZcM n2 ones2) (Zcu n2 ones2) := by
  unfold ZcM Zcu
  with_reducible repeat' (first | exact Le.refl _ | apply Le.bind | apply Le.ite | intro _)

noncomputable def Zey (n : Int) : Option Bool :=
  ((Z7 (t2 (ZcM)) (n, 0)) : Option ((Int))).bind (t1 fun (ones : Int) =>
  (rem ones 2).bind fun q3 =>
  some (decide (q3 = 1)))
theorem Zic (n : Int) : Le (Zey n) (ZdH n) := by
  unfold Zey ZdH
  with_reducible repeat' (first | exact Le.refl _ | apply Le.bind | apply Le.loop | apply Le.t1 | apply Le.t2 | apply Zgx | intro _)

noncomputable def Zaj (data : Int) : Option Int :=
  (Zey data).bind fun y =>
  if y = true then
  some data
  else
  some (i64 (data + 2048))
theorem Zc5 (data : Int) : Le (Zaj data) (Zaf data) := by
  unfold Zaj Zaf
  with_reducible repeat' (first | exact Le.refl _ | apply Le.bind | apply Le.ite | apply Zic | intro _)

noncomputable def Za5 (f3 : Vector Int 64) (i : Int) : Option (((Vector Int 64) × Int) ⊕ ((Vector Int 64))) :=
  if (decide (i ≤ 60)) = true then
  (ZH f3 i).bind fun x =>
  (rem (i64 x) 2048).bind fun q =>
  (Zaj q).bind fun y =>
  (ZH f3 i).bind fun x2 =>
  some (.inl ((Xv f3 i (u16 y)), (i64 (i + 1))))
  else
  some (.inr f3)
theorem ZeZ (f3 : Vector Int 64) (i : Int) : Le (Za5 f3 i) (ZaA f3 i) := by
  unfold Za5 ZaA
  with_reducible repeat' (first | exact Le.refl _ | apply Le.bind | apply Le.ite | apply Zc5 | intro _)

noncomputable def ZbN (f : Vector Int 64) : Option Int :=
  (ZH f 1).bind fun x =>
  (rem (i64 x) 2048).bind fun q =>
  (ZH f 2).bind fun x2 =>
  (rem (i64 x2) 2048).bind fun q2 =>
  some (i64 (q + (i64 (q2 * 2048))))
theorem Zfr (f : Vector Int 64) : Le (ZbN f) (JI f) := by
  unfold ZbN JI
  with_reducible repeat' (first | exact Le.refl _ | apply Le.bind | intro _)

noncomputable def ZcF (number : Int) : Option Int :=
  (rem number 4).bind fun q =>
  (ZH (#v[583, 1464, 2631, 3512] : Vector Int 4) q).bind fun x =>
  some x
theorem ZgN (number : Int) : Le (ZcF number) (ZbA number) := by
  unfold ZcF ZbA
  with_reducible repeat' (first | exact Le.refl _ | apply Le.bind | intro _)

noncomputable def ZcI (f : Vector Int 64) (x2 : Int) (i : Int) : Option ((Int × Int) ⊕ (Int)) :=
  if (decide (i ≤ 60)) = true then
  (ZH f i).bind fun x3 =>
  (rem (i64 x3) 2048).bind fun q =>
  some (.inl ((ZdV .i64 x2 q), (i64 (i + 1))))
  else
  some (.inr x2)
theorem Zgr (f : Vector Int 64) (x2 : Int) (i : Int) : Le (ZcI f x2 i) (ZcA f x2 i) := by
  unfold ZcI ZcA
  with_reducible repeat' (first | exact Le.refl _ | apply Le.bind | apply Le.ite | intro _)

noncomputable def ZeA (f : Vector Int 64) : Option Int :=
  ((Z7 (t2 (ZcI f)) (0, 1)) : Option ((Int))).bind (t1 fun (x : Int) =>
  some x)
theorem ZhP (f : Vector Int 64) : Le (ZeA f) (ZdY f) := by
  unfold ZeA ZdY
  with_reducible repeat' (first | exact Le.refl _ | apply Le.bind | apply Le.loop | apply Le.t1 | apply Le.t2 | apply Zgr | intro _)

noncomputable def ZbF (f : Vector Int 64) (rest2 : Int) (i : Int) : Option ((Int × Int) ⊕ (Int)) :=
  if (decide (i < 766)) = true then
  ((if (decide (i < 744)) = true then
  (quo .i64 i 12).bind fun q =>
  (ZH f q).bind fun x =>
  (rem i 12).bind fun q2 =>
  (shr .i64 (i64 x) (i64 (11 - q2))).bind fun q3 =>
  some (Xk .i64 q3 1)
  else
  some 0) : Option ((Int))).bind (t1 fun (bit : Int) =>
  if (decide (4194304 ≤ (i64 ((i64 (rest2 * 2)) + bit)))) = true then
  some (.inl ((ZdV .i64 (i64 ((i64 (rest2 * 2)) + bit)) 6291471), (i64 (i + 1))))
  else
  some (.inl ((i64 ((i64 (rest2 * 2)) + bit)), (i64 (i + 1)))))
  else
  some (.inr rest2)
theorem ZfE (f : Vector Int 64) (rest2 : Int) (i : Int) : Le (ZbF f rest2 i) (Zbm f rest2 i) := by
  unfold ZbF Zbm
  with_reducible repeat' (first | exact Le.refl _ | apply Le.bind | apply Le.ite | apply Le.t1 | intro _)

noncomputable def Zc3 (f : Vector Int 64) : Option Int :=
  ((Z7 (t2 (ZbF f)) (0, 0)) : Option ((Int))).bind (t1 fun (rest : Int) =>
  some rest)
theorem Zg6 (f : Vector Int 64) : Le (Zc3 f) (Zcd f) := by
  unfold Zc3 Zcd
  with_reducible repeat' (first | exact Le.refl _ | apply Le.bind | apply Le.loop | apply Le.t1 | apply Le.t2 | apply ZfE | intro _)

noncomputable def Zci (f : Vector Int 64) : Option (Vector Int 64) :=
  (Zc3 f).bind fun y =>
  (quo .i64 y 2048).bind fun q =>
  (Zaj q).bind fun y2 =>
  (rem y 2048).bind fun q2 =>
  (Zaj q2).bind fun y3 =>
  (ZH f 62).bind fun x =>
  (ZH (Xv f 62 (u16 y2)) 63).bind fun x2 =>
  some (Xv (Xv f 62 (u16 y2)) 63 (u16 y3))
theorem Zf3 (f : Vector Int 64) : Le (Zci f) (ZaH f) := by
  unfold Zci ZaH
  with_reducible repeat' (first | exact Le.refl _ | apply Le.bind | apply Zg6 | apply Zc5 | intro _)

noncomputable def ZcH (f : Vector Int 64) : Option (Vector Int 64) :=
  ((Z7 (t2 (Za5)) (f, 1)) : Option (((Vector Int 64)))).bind (t1 fun (f2 : Vector Int 64) =>
  (ZbN f2).bind fun y2 =>
  (ZcF y2).bind fun y3 =>
  (ZH f2 0).bind fun x3 =>
  (ZeA (Xv f2 0 (u16 y3))).bind fun y4 =>
  (Zaj y4).bind fun y5 =>
  (ZH (Xv f2 0 (u16 y3)) 61).bind fun x4 =>
  (Zci (Xv (Xv f2 0 (u16 y3)) 61 (u16 y5))).bind fun y6 =>
  some y6)
theorem ZgT (f : Vector Int 64) : Le (ZcH f) (ZbB f) := by
  unfold ZcH ZbB
  with_reducible repeat' (first | exact Le.refl _ | apply Le.bind | apply Le.loop | apply Le.t1 | apply Le.t2 | apply ZeZ | apply Zfr | apply ZgN | apply ZhP | apply Zc5 | apply Zf3 | intro _)

noncomputable def ZeG (number : Int) (data : List Int) : Option ((Vector Int 64) × Int) :=
  if ((decide (number < 0)) || (decide (4194304 ≤ number))) = true then
  some ((#v[0, 0, 0, 0, 0, 0, 0, 0, 0, 0, 0, 0, 0, 0, 0, 0, 0, 0, 0, 0, 0, 0, 0, 0, 0, 0, 0, 0, 0, 0, 0, 0, 0, 0, 0, 0, 0, 0, 0, 0, 0, 0, 0, 0, 0, 0, 0, 0, 0, 0, 0, 0, 0, 0, 0, 0, 0, 0, 0, 0, 0, 0, 0, 0] : Vector Int 64), 9)
  else
  if (!decide ((data.length : Int) = 58)) = true then
  some ((#v[0, 0, 0, 0, 0, 0, 0, 0, 0, 0, 0, 0, 0, 0, 0, 0, 0, 0, 0, 0, 0, 0, 0, 0, 0, 0, 0, 0, 0, 0, 0, 0, 0, 0, 0, 0, 0, 0, 0, 0, 0, 0, 0, 0, 0, 0, 0, 0, 0, 0, 0, 0, 0, 0, 0, 0, 0, 0, 0, 0, 0, 0, 0, 0] : Vector Int 64), 3)
  else
  (rem number 2048).bind fun q =>
  (quo .i64 number 2048).bind fun q2 =>
  (ZH (#v[0, 0, 0, 0, 0, 0, 0, 0, 0, 0, 0, 0, 0, 0, 0, 0, 0, 0, 0, 0, 0, 0, 0, 0, 0, 0, 0, 0, 0, 0, 0, 0, 0, 0, 0, 0, 0, 0, 0, 0, 0, 0, 0, 0, 0, 0, 0, 0, 0, 0, 0, 0, 0, 0, 0, 0, 0, 0, 0, 0, 0, 0, 0, 0] : Vector Int 64) 1).bind fun x =>
  (ZH (Xv (#v[0, 0, 0, 0, 0, 0, 0, 0, 0, 0, 0, 0, 0, 0, 0, 0, 0, 0, 0, 0, 0, 0, 0, 0, 0, 0, 0, 0, 0, 0, 0, 0, 0, 0, 0, 0, 0, 0, 0, 0, 0, 0, 0, 0, 0, 0, 0, 0, 0, 0, 0, 0, 0, 0, 0, 0, 0, 0, 0, 0, 0, 0, 0, 0] : Vector Int 64) 1 (u16 q)) 2).bind fun x2 =>
  ((Z7 (t2 (ZcL data)) ((Xv (Xv (#v[0, 0, 0, 0, 0, 0, 0, 0, 0, 0, 0, 0, 0, 0, 0, 0, 0, 0, 0, 0, 0, 0, 0, 0, 0, 0, 0, 0, 0, 0, 0, 0, 0, 0, 0, 0, 0, 0, 0, 0, 0, 0, 0, 0, 0, 0, 0, 0, 0, 0, 0, 0, 0, 0, 0, 0, 0, 0, 0, 0, 0, 0, 0, 0] : Vector Int 64) 1 (u16 q)) 2 (u16 q2)), 0)) : Option (((Vector Int 64) × Int) ⊕ ((Vector Int 64)))).bind (Sum.elim (fun q' => some q') (t1 fun (f : Vector Int 64) =>
  (ZcH f).bind fun y =>
  some (y, 0)))
theorem Zh9 (number : Int) (data : List Int) : Le (ZeG number data) (Zd1 number data) := by
  unfold ZeG Zd1
  with_reducible repeat' (first | exact Le.refl _ | apply Le.bind | apply Le.ite | apply Le.loop | apply Le.t1 | apply Le.t2 | apply Le.elim | apply ZgP | apply ZgT | intro _)

noncomputable def Z1 (n : Int) (low : Int) (high : Int) : Option Bool :=
  some ((decide (low ≤ n)) && (decide (n ≤ high)))
theorem QY (n : Int) (low : Int) (high : Int) : Le (Z1 n low high) (ZM n low high) := by
  unfold Z1 ZM
  with_reducible repeat' (first | exact Le.refl _ | apply Le.bind | intro _)

noncomputable def XQ (slots : Int) : Option Int :=
  some (i64 (16 + (i64 (slots * 97))))
theorem ZbS (slots : Int) : Le (XQ slots) (QX slots) := by
  unfold XQ QX
  with_reducible repeat' (first | exact Le.refl _ | apply Le.bind | intro _)

noncomputable def Zc1 (x : Int) (y : Int) : Option (Int × Int) :=
  (shr .u64 x 32).bind fun q =>
  (shr .u64 y 32).bind fun q2 =>
  (shr .u64 (u64 ((Xk .u64 x 4294967295) * (Xk .u64 y 4294967295))) 32).bind fun q3 =>
  (shr .u64 (u64 ((u64 (q * (Xk .u64 y 4294967295))) + q3)) 32).bind fun q4 =>
  (shr .u64 (u64 ((Xk .u64 (u64 ((u64 (q * (Xk .u64 y 4294967295))) + q3)) 4294967295) + (u64 ((Xk .u64 x 4294967295) * q2)))) 32).bind fun q5 =>
  some ((u64 ((u64 ((u64 (q * q2)) + q4)) + q5)), (u64 (x * y)))
theorem ZgU (x : Int) (y : Int) : Le (Zc1 x y) (Zck x y) := by
  unfold Zc1 Zck
  with_reducible repeat' (first | exact Le.refl _ | apply Le.bind | intro _)

noncomputable def ZeN (x : Int) (y : Int) : Option (Int × Int) :=
  (Zc1 x y).bind fun y2 =>
  some (y2.1, y2.2)
theorem ZhO (x : Int) (y : Int) : Le (ZeN x y) (ZdB x y) := by
  unfold ZeN ZdB
  with_reducible repeat' (first | exact Le.refl _ | apply Le.bind | apply ZgU | intro _)

noncomputable def QP (newslice2 : List Int) (n : Int) : Option (((List Int) × Int) ⊕ ((List Int))) :=
  if (decide (n < (newslice2.length : Int))) = true then
  (slq newslice2 n (newslice2.length : Int)).bind fun u =>
  (slq newslice2 0 n).bind fun u2 =>
  some (.inl ((cpy newslice2 n.toNat (Int.toNat ((newslice2.length : Int) - n)) (Int.toNat 0) (Int.toNat (n - 0))), (i64 (n + ((min (Int.toNat (n - 0)) (Int.toNat ((newslice2.length : Int) - n)) : Nat) : Int)))))
  else
  some (.inr newslice2)
theorem Zbx (newslice2 : List Int) (n : Int) : Le (QP newslice2 n) (Qq newslice2 n) := by
  unfold QP Qq
  with_reducible repeat' (first | exact Le.refl _ | apply Le.bind | apply Le.ite | intro _)

noncomputable def Xa (x : List Int) (count : Int) : Option (List Int) :=
  if (decide (count < 0)) = true then
  none
  else
  (ZeN (u64 (x.length : Int)) (u64 count)).bind fun y =>
  if ((decide (0 < y.1)) || (decide (9223372036854775807 < y.2))) = true then
  none
  else
  (mks (i64 y.2) 0).bind fun l =>
  ((Z7 (t2 (QP)) ((Zgf l x), ((min x.length l.length : Nat) : Int))) : Option (((List Int)))).bind (t1 fun (newslice : List Int) =>
  some newslice)
theorem Zb9 (x : List Int) (count : Int) : Le (Xa x count) (Qj x count) := by
  unfold Xa Qj
  with_reducible repeat' (first | exact Le.refl _ | apply Le.bind | apply Le.ite | apply Le.loop | apply Le.t1 | apply Le.t2 | apply ZhO | apply Zbx | intro _)

noncomputable def JE (sectors : Int) (slots : Int) (Sectors2 : List (List Int)) (i : Int) : Option (((List (List Int)) × Int) ⊕ ((List (List Int)))) :=
  if (decide (i < sectors)) = true then
  (((XQ slots).bind fun y4 =>
  (Xa ([255] : List Int) y4).bind fun y5 =>
  (app Sectors2 [y5]).bind fun l3 =>
  some l3) : Option (((List (List Int))))).bind (t1 fun (Sectors3 : List (List Int)) =>
  some (.inl (Sectors3, (i64 (i + 1)))))
  else
  some (.inr Sectors2)
theorem Zd2 (sectors : Int) (slots : Int) (Sectors2 : List (List Int)) (i : Int) : Le (JE sectors slots Sectors2 i) (X9 sectors slots Sectors2 i) := by
  unfold JE X9
  with_reducible repeat' (first | exact Le.refl _ | apply Le.bind | apply Le.ite | apply Le.t1 | apply ZbS | apply Zb9 | intro _)

noncomputable def Zba (sectors : Int) (slots : Int) (limit : Int) : Option (api_Memory × Int) :=
  (Z1 sectors 2 64).bind fun y =>
  (gd ((!y) == false) false (Z1 slots 1 64)).bind fun y2 =>
  (gd (((!y) || (!y2)) == false) false (Z1 limit 1 1000000)).bind fun y3 =>
  if (((!y) || (!y2)) || (!y3)) = true then
  some ((api_Memory.mk 0 0 [] [] []), 9)
  else
  (((mkz 8 sectors 0).bind fun l =>
  (mkz 1 sectors false).bind fun l2 =>
  some (l, l2)) : Option (((List Int) × (List Bool)))).bind (t2 fun (Wear : List Int) (Bad : List Bool) =>
  ((Z7 (t2 (JE sectors slots)) ([], 0)) : Option (((List (List Int))))).bind (t1 fun (Sectors : List (List Int)) =>
  some ((api_Memory.mk slots limit Sectors Wear Bad), 0)))
theorem Zfe (sectors : Int) (slots : Int) (limit : Int) : Le (Zba sectors slots limit) (Ji sectors slots limit) := by
  unfold Zba Ji
  with_reducible repeat' (first | exact Le.refl _ | apply Le.bind | apply Le.ite | apply Le.gd | apply Le.loop | apply Le.t1 | apply Le.t2 | apply QY | apply Zd2 | intro _)

noncomputable def X4 (m : api_Memory) (i : Int) : Option ((Int) ⊕ (Int) ⊕ (Unit)) :=
  if (decide (i < (m.Sectors.length : Int))) = true then
  (idx m.Sectors i).bind fun x =>
  (XQ m.Slots).bind fun y4 =>
  if (!decide ((x.length : Int) = y4)) = true then
  some (.inr (.inl 3))
  else
  (idx m.Wear i).bind fun x2 =>
  (Z1 x2 0 m.Limit).bind fun y5 =>
  if (!y5) = true then
  some (.inr (.inl 9))
  else
  some (.inl (i64 (i + 1)))
  else
  some (.inr (.inr ()))
theorem Zc7 (m : api_Memory) (i : Int) : Le (X4 m i) (Xs m i) := by
  unfold X4 Xs
  with_reducible repeat' (first | exact Le.refl _ | apply Le.bind | apply Le.ite | apply ZbS | apply QY | intro _)

noncomputable def Zab (m : api_Memory) : Option Int :=
  (Z1 m.Slots 1 64).bind fun y =>
  (gd ((!y) == false) false (Z1 m.Limit 1 1000000)).bind fun y2 =>
  (gd (((!y) || (!y2)) == false) false (Z1 (m.Sectors.length : Int) 2 64)).bind fun y3 =>
  if (((!y) || (!y2)) || (!y3)) = true then
  some 9
  else
  if ((!decide ((m.Wear.length : Int) = (m.Sectors.length : Int))) || (!decide ((m.Bad.length : Int) = (m.Sectors.length : Int)))) = true then
  some 2
  else
  ((Z7 (t1 (X4 m)) 0) : Option ((Int) ⊕ (Unit))).bind (Sum.elim (fun q' => some q') (t0 (some 0)))
theorem Zel (m : api_Memory) : Le (Zab m) (Xz m) := by
  unfold Zab Xz
  with_reducible repeat' (first | exact Le.refl _ | apply Le.bind | apply Le.ite | apply Le.gd | apply Le.loop | apply Le.t0 | apply Le.t1 | apply Le.elim | apply QY | apply Zc7 | intro _)

noncomputable def J7 (l : List api_Memory) (i : Int) : Option ((Int) ⊕ (Int) ⊕ (Unit)) :=
  if (decide (i < (l.length : Int))) = true then
  (idx l i).bind fun x =>
  (Zab x).bind fun y2 =>
  if (!decide (y2 = 0)) = true then
  some (.inr (.inl y2))
  else
  some (.inl (i64 (i + 1)))
  else
  some (.inr (.inr ()))
theorem Zd8 (l : List api_Memory) (i : Int) : Le (J7 l i) (JA l i) := by
  unfold J7 JA
  with_reducible repeat' (first | exact Le.refl _ | apply Le.bind | apply Le.ite | apply Zel | intro _)

noncomputable def JW (l : List api_Memory) : Option Int :=
  (Z1 (l.length : Int) 1 8).bind fun y =>
  if (!y) = true then
  some 3
  else
  ((Z7 (t1 (J7 l)) 0) : Option ((Int) ⊕ (Unit))).bind (Sum.elim (fun q' => some q') (t0 (some 0)))
theorem ZcW (l : List api_Memory) : Le (JW l) (X3 l) := by
  unfold JW X3
  with_reducible repeat' (first | exact Le.refl _ | apply Le.bind | apply Le.ite | apply Le.loop | apply Le.t0 | apply Le.t1 | apply Le.elim | apply QY | apply Zd8 | intro _)

noncomputable def Je (m : api_Memory) (sectors2 : List (List Int)) (i : Int) : Option (((List (List Int)) × Int) ⊕ ((List (List Int)))) :=
  if (decide (i < (m.Sectors.length : Int))) = true then
  (idx m.Sectors i).bind fun x =>
  (Zdf 1 x).bind fun y =>
  (app sectors2 [y]).bind fun l =>
  some (.inl (l, (i64 (i + 1))))
  else
  some (.inr sectors2)
theorem Zdw (m : api_Memory) (sectors2 : List (List Int)) (i : Int) : Le (Je m sectors2 i) (XK m sectors2 i) := by
  unfold Je XK
  with_reducible repeat' (first | exact Le.refl _ | apply Le.bind | apply Le.ite | intro _)

noncomputable def ZaS (m : api_Memory) : Option api_Memory :=
  ((Z7 (t2 (Je m)) ([], 0)) : Option (((List (List Int))))).bind (t1 fun (sectors : List (List Int)) =>
  (Zdf 8 m.Wear).bind fun y2 =>
  (Zdf 1 m.Bad).bind fun y3 =>
  some (api_Memory.mk m.Slots m.Limit sectors y2 y3))
theorem Zeq (m : api_Memory) : Le (ZaS m) (X1 m) := by
  unfold ZaS X1
  with_reducible repeat' (first | exact Le.refl _ | apply Le.bind | apply Le.loop | apply Le.t1 | apply Le.t2 | apply Zdw | intro _)

noncomputable def Zan (l : List api_Memory) (out2 : List api_Memory) (i : Int) : Option (((List api_Memory) × Int) ⊕ ((List api_Memory))) :=
  if (decide (i < (l.length : Int))) = true then
  (idx l i).bind fun x =>
  (ZaS x).bind fun y =>
  (app out2 [y]).bind fun l2 =>
  some (.inl (l2, (i64 (i + 1))))
  else
  some (.inr out2)
theorem ZeI (l : List api_Memory) (out2 : List api_Memory) (i : Int) : Le (Zan l out2 i) (XX l out2 i) := by
  unfold Zan XX
  with_reducible repeat' (first | exact Le.refl _ | apply Le.bind | apply Le.ite | apply Zeq | intro _)

noncomputable def Zam (l : List api_Memory) : Option (List api_Memory) :=
  ((Z7 (t2 (Zan l)) ([], 0)) : Option (((List api_Memory)))).bind (t1 fun (out : List api_Memory) =>
  some out)
theorem Zdk (l : List api_Memory) : Le (Zam l) (Xf l) := by
  unfold Zam Xf
  with_reducible repeat' (first | exact Le.refl _ | apply Le.bind | apply Le.loop | apply Le.t1 | apply Le.t2 | apply ZeI | intro _)

noncomputable def Zbc (sequence : Int) (out2 : List Int) (shift : Int) : Option (((List Int) × Int) ⊕ ((List Int))) :=
  if (decide (0 ≤ shift)) = true then
  (shr .i64 sequence shift).bind fun q =>
  (apz 1 out2 ([(u8 q)] : List Int)).bind fun l =>
  some (.inl (l, (i64 (shift - 8))))
  else
  some (.inr out2)
theorem ZeO (sequence : Int) (out2 : List Int) (shift : Int) : Le (Zbc sequence out2 shift) (ZaU sequence out2 shift) := by
  unfold Zbc ZaU
  with_reducible repeat' (first | exact Le.refl _ | apply Le.bind | apply Le.ite | intro _)

noncomputable def Za9 (out : List Int) (out4 : List Int) (i : Int) : Option (((List Int) × Int) ⊕ ((List Int))) :=
  if (decide (i < ((Int.toNat (6 - 2) : Nat) : Int))) = true then
  (ck (decide ((0 : Int) ≤ i) && decide (i < ((Int.toNat (6 - 2) : Nat) : Int)))).bind fun u2 =>
  (idx out (2 + i)).bind fun x2 =>
  (apz 1 out4 ([(ZdV .u8 255 x2)] : List Int)).bind fun l2 =>
  some (.inl (l2, (i64 (i + 1))))
  else
  some (.inr out4)
theorem ZeP (out : List Int) (out4 : List Int) (i : Int) : Le (Za9 out out4 i) (ZaE out out4 i) := by
  unfold Za9 ZaE
  with_reducible repeat' (first | exact Le.refl _ | apply Le.bind | apply Le.ite | intro _)

noncomputable def Zbj (sequence : Int) : Option (List Int) :=
  ((Z7 (t2 (Zbc sequence)) (([79, 66] : List Int), 24)) : Option (((List Int)))).bind (t1 fun (out : List Int) =>
  (((slp out 2 6).bind fun u =>
  Z7 (t2 (Za9 out)) (out, 0)) : Option (((List Int)))).bind (t1 fun (out3 : List Int) =>
  some out3))
theorem ZdT (sequence : Int) : Le (Zbj sequence) (Zah sequence) := by
  unfold Zbj Zah
  with_reducible repeat' (first | exact Le.refl _ | apply Le.bind | apply Le.loop | apply Le.t1 | apply Le.t2 | apply ZeO | apply ZeP | intro _)

noncomputable def QT (s1 : List Int) (s2 : List Int) (i : Int) : Option ((Int) ⊕ (Bool) ⊕ (Unit)) :=
  if (decide (i < (s1.length : Int))) = true then
  (idx s1 i).bind fun x =>
  (idx s2 i).bind fun x2 =>
  if (!decide (x = x2)) = true then
  some (.inr (.inl false))
  else
  some (.inl (i64 (i + 1)))
  else
  some (.inr (.inr ()))
theorem ZbM (s1 : List Int) (s2 : List Int) (i : Int) : Le (QT s1 s2 i) (Qv s1 s2 i) := by
  unfold QT Qv
  with_reducible repeat' (first | exact Le.refl _ | apply Le.bind | apply Le.ite | intro _)

noncomputable def Xr (s1 : List Int) (s2 : List Int) : Option Bool :=
  if (!decide ((s1.length : Int) = (s2.length : Int))) = true then
  some false
  else
  ((Z7 (t1 (QT s1 s2)) 0) : Option ((Bool) ⊕ (Unit))).bind (Sum.elim (fun q' => some q') (t0 (some true)))
theorem Zcr (s1 : List Int) (s2 : List Int) : Le (Xr s1 s2) (Qn s1 s2) := by
  unfold Xr Qn
  with_reducible repeat' (first | exact Le.refl _ | apply Le.bind | apply Le.ite | apply Le.loop | apply Le.t0 | apply Le.t1 | apply Le.elim | apply ZbM | intro _)

noncomputable def Jk (s : List Int) : Option (Int × Bool × Bool) :=
  if (decide ((s.length : Int) < 16)) = true then
  some (0, false, false)
  else
  (slc s 0 16).bind fun l =>
  (tov 16 l).bind fun v =>
  (ZH v 2).bind fun x =>
  (shl .i64 (i64 x) 24).bind fun q =>
  (ZH v 3).bind fun x2 =>
  (shl .i64 (i64 x2) 16).bind fun q2 =>
  (ZH v 4).bind fun x3 =>
  (shl .i64 (i64 x3) 8).bind fun q3 =>
  (ZH v 5).bind fun x4 =>
  (Z1 (bor .i64 (bor .i64 (bor .i64 q q2) q3) (i64 x4)) 1 1073741824).bind fun y =>
  (gd ((!y) == false) [] (slc v.toList 0 10)).bind fun l2 =>
  (gd ((!y) == false) [] (Zbj (bor .i64 (bor .i64 (bor .i64 q q2) q3) (i64 x4)))).bind fun y2 =>
  (gd ((!y) == false) false (Xr l2 y2)).bind fun y3 =>
  if ((!y) || (!y3)) = true then
  some (0, false, false)
  else
  (ZH v 10).bind fun x5 =>
  some ((bor .i64 (bor .i64 (bor .i64 q q2) q3) (i64 x4)), (!decide (x5 = 255)), true)
theorem ZaK (s : List Int) : Le (Jk s) (Ju s) := by
  unfold Jk Ju
  with_reducible repeat' (first | exact Le.refl _ | apply Le.bind | apply Le.ite | apply Le.gd | apply QY | apply ZdT | apply Zcr | intro _)

noncomputable def Zas (m : api_Memory) (out2 : List Int) (i : Int) : Option (((List Int) × Int) ⊕ ((List Int))) :=
  if (decide (i < (m.Sectors.length : Int))) = true then
  (idx m.Sectors i).bind fun x =>
  (Jk x).bind fun y =>
  (gd (y.2.2 == true) false (idx m.Bad i)).bind fun x2 =>
  if (y.2.2 && (!x2)) = true then
  (apz 8 out2 ([i] : List Int)).bind fun l =>
  some (.inl (l, (i64 (i + 1))))
  else
  some (.inl (out2, (i64 (i + 1))))
  else
  some (.inr out2)
theorem Zer (m : api_Memory) (out2 : List Int) (i : Int) : Le (Zas m out2 i) (JT m out2 i) := by
  unfold Zas JT
  with_reducible repeat' (first | exact Le.refl _ | apply Le.bind | apply Le.ite | apply Le.gd | apply ZaK | intro _)

noncomputable def Qa (a : Int) (cmp : Int → Int → Option Int) (o3 : List Int) (j : Int) : Option (((List Int) × Int) ⊕ ((List Int))) :=
  (gd ((decide (a < j)) == true) 0 (idx o3 j)).bind fun x =>
  (gd ((decide (a < j)) == true) 0 (idx o3 (i64 (j - 1)))).bind fun x2 =>
  (gd ((decide (a < j)) == true) 0 (cmp x x2)).bind fun y =>
  if ((decide (a < j)) && (decide (y < 0))) = true then
  (idx o3 (i64 (j - 1))).bind fun x3 =>
  (idx o3 j).bind fun x4 =>
  (idx o3 j).bind fun x5 =>
  (idx (o3.set j.toNat x3) (i64 (j - 1))).bind fun x6 =>
  some (.inl (((o3.set j.toNat x3).set (i64 (j - 1)).toNat x4), (i64 (j - 1))))
  else
  some (.inr o3)
theorem Jq (a : Int) (cmp : Int → Int → Option Int) (o3 : List Int) (j : Int) (cmp' : Int → Int → Option Int) (h_cmp : ∀ z0 z1, Le (cmp z0 z1) (cmp' z0 z1)) : Le (Qa a cmp o3 j) (Zy a cmp' o3 j) := by
  unfold Qa Zy
  with_reducible repeat' (first | exact Le.refl _ | apply Le.bind | apply Le.ite | apply Le.gd | apply h_cmp | intro _)

noncomputable def Qb (a : Int) (b : Int) (cmp : Int → Int → Option Int) (o : List Int) (i : Int) : Option (((List Int) × Int) ⊕ ((List Int))) :=
  if (decide (i < b)) = true then
  ((Z7 (t2 (Qa a cmp)) (o, i)) : Option (((List Int)))).bind (t1 fun (o2 : List Int) =>
  some (.inl (o2, (i64 (i + 1)))))
  else
  some (.inr o)
theorem Jv (a : Int) (b : Int) (cmp : Int → Int → Option Int) (o : List Int) (i : Int) (cmp' : Int → Int → Option Int) (h_cmp : ∀ z0 z1, Le (cmp z0 z1) (cmp' z0 z1)) : Le (Qb a b cmp o i) (Zz a b cmp' o i) := by
  unfold Qb Zz
  with_reducible repeat' (first | exact Le.refl _ | apply Le.bind | apply Le.ite | apply Le.loop | apply Le.t1 | apply Le.t2 | apply Jq | apply h_cmp | intro _)

noncomputable def ZZ (data : List Int) (a : Int) (b : Int) (cmp : Int → Int → Option Int) : Option (List Int) :=
  Z7 (t2 (Qb a b cmp)) (data, (i64 (a + 1)))
theorem Q5 (data : List Int) (a : Int) (b : Int) (cmp : Int → Int → Option Int) (cmp' : Int → Int → Option Int) (h_cmp : ∀ z0 z1, Le (cmp z0 z1) (cmp' z0 z1)) : Le (ZZ data a b cmp) (Zx data a b cmp') := by
  unfold ZZ Zx
  with_reducible repeat' (first | exact Le.refl _ | apply Le.bind | apply Le.loop | apply Le.t2 | apply Jv | apply h_cmp | intro _)

noncomputable def QJ (n : Int) (cmp : Int → Int → Option Int) (o2 : List Int) (a2 : Int) (b : Int) : Option (((List Int) × Int × Int) ⊕ ((List Int) × Int)) :=
  if (decide (b ≤ n)) = true then
  (ZZ o2 a2 b cmp).bind fun y =>
  some (.inl (y, b, (i64 (b + 20))))
  else
  some (.inr (o2, a2))
theorem Za8 (n : Int) (cmp : Int → Int → Option Int) (o2 : List Int) (a2 : Int) (b : Int) (cmp' : Int → Int → Option Int) (h_cmp : ∀ z0 z1, Le (cmp z0 z1) (cmp' z0 z1)) : Le (QJ n cmp o2 a2 b) (ZI n cmp' o2 a2 b) := by
  unfold QJ ZI
  with_reducible repeat' (first | exact Le.refl _ | apply Le.bind | apply Le.ite | apply Q5 | apply h_cmp | intro _)

noncomputable def QE (n : Int) (blockSize : Int) : Option ((Unit) ⊕ (Unit)) :=
  if (decide ((i64 (2 * blockSize)) ≤ n)) = true then
  none
  else
  some (.inr ())
theorem Zbe (n : Int) (blockSize : Int) : Le (QE n blockSize) (Qk n blockSize) := by
  unfold QE Qk
  with_reducible repeat' (first | exact Le.refl _ | apply Le.bind | apply Le.ite | intro _)

noncomputable def QG (n : Int) (y2 : (List Int)) (blockSize : Int) : Option ((Int) ⊕ ((List Int))) :=
  if (decide (blockSize < n)) = true then
  ((Z7 (t0 (QE n blockSize)) ()) : Option ((Unit))).bind (t0 (if (decide ((i64 (0 + blockSize)) < n)) = true then
  none
  else
  some (.inl (i64 (blockSize * 2)))))
  else
  some (.inr y2)
theorem Za3 (n : Int) (y2 : (List Int)) (blockSize : Int) : Le (QG n y2 blockSize) (ZN n y2 blockSize) := by
  unfold QG ZN
  with_reducible repeat' (first | exact Le.refl _ | apply Le.bind | apply Le.ite | apply Le.loop | apply Le.t0 | apply Zbe | intro _)

noncomputable def Q2 (data : List Int) (n : Int) (cmp : Int → Int → Option Int) : Option (List Int) :=
  ((Z7 (t3 (QJ n cmp)) (data, 0, 20)) : Option (((List Int) × Int))).bind (t2 fun (o : List Int) (a : Int) =>
  (ZZ o a n cmp).bind fun y2 =>
  Z7 (t1 (QG n y2)) 20)
theorem ZbW (data : List Int) (n : Int) (cmp : Int → Int → Option Int) (cmp' : Int → Int → Option Int) (h_cmp : ∀ z0 z1, Le (cmp z0 z1) (cmp' z0 z1)) : Le (Q2 data n cmp) (Z0 data n cmp') := by
  unfold Q2 Z0
  with_reducible repeat' (first | exact Le.refl _ | apply Le.bind | apply Le.loop | apply Le.t1 | apply Le.t2 | apply Le.t3 | apply Za8 | apply Q5 | apply Za3 | apply h_cmp | intro _)

noncomputable def Qs (x : List Int) (cmp : Int → Int → Option Int) : Option (List Int) :=
  (Q2 x (x.length : Int) cmp).bind fun y =>
  some y
theorem ZaO (x : List Int) (cmp : Int → Int → Option Int) (cmp' : Int → Int → Option Int) (h_cmp : ∀ z0 z1, Le (cmp z0 z1) (cmp' z0 z1)) : Le (Qs x cmp) (ZF x cmp') := by
  unfold Qs ZF
  with_reducible repeat' (first | exact Le.refl _ | apply Le.bind | apply ZbW | apply h_cmp | intro _)

noncomputable def Jx (i : Int) (c0 : api_Memory) : Option Int :=
  (idx c0.Sectors i).bind fun x =>
  (Jk x).bind fun y =>
  some y.1
theorem Ze3 (i : Int) (c0 : api_Memory) : Le (Jx i c0) (XC i c0) := by
  unfold Jx XC
  with_reducible repeat' (first | exact Le.refl _ | apply Le.bind | apply ZaK | intro _)

noncomputable def Za6 (a : Int) (b : Int) (k : api_Memory) : Option Int :=
  (Jx a k).bind fun y =>
  (Jx b k).bind fun y2 =>
  some (i64 (y - y2))
theorem ZeU (a : Int) (b : Int) (k : api_Memory) : Le (Za6 a b k) (Jd a b k) := by
  unfold Za6 Jd
  with_reducible repeat' (first | exact Le.refl _ | apply Le.bind | apply Ze3 | intro _)

noncomputable def ZaI (m : api_Memory) : Option (List Int) :=
  ((Z7 (t2 (Zas m)) ([], 0)) : Option (((List Int)))).bind (t1 fun (out : List Int) =>
  (Qs out (fun z0 z1 => Za6 z0 z1 m)).bind fun y2 =>
  some y2)
theorem Zdp (m : api_Memory) : Le (ZaI m) (Jp m) := by
  unfold ZaI Jp
  with_reducible repeat' (first | exact Le.refl _ | apply Le.bind | apply Le.loop | apply Le.t1 | apply Le.t2 | apply Zer | apply ZaO | apply ZeU | intro _)

noncomputable def Zbl (s : List Int) (i : Int) : Option (Vector Int 97) :=
  (slc s (i64 (16 + (i64 (i * 97)))) (i64 ((i64 (16 + (i64 (i * 97)))) + 97))).bind fun l =>
  (tov 97 l).bind fun v =>
  some v
theorem ZdK (s : List Int) (i : Int) : Le (Zbl s i) (Zag s i) := by
  unfold Zbl Zag
  with_reducible repeat' (first | exact Le.refl _ | apply Le.bind | intro _)

noncomputable def Qu (s : List Int) (f : Int → Option Bool) (i : Int) : Option ((Int) ⊕ (Int) ⊕ (Unit)) :=
  if (decide (i < (s.length : Int))) = true then
  (idx s i).bind fun x =>
  (f x).bind fun y =>
  if y = true then
  some (.inr (.inl i))
  else
  some (.inl (i64 (i + 1)))
  else
  some (.inr (.inr ()))
theorem ZaR (s : List Int) (f : Int → Option Bool) (i : Int) (f' : Int → Option Bool) (h_f : ∀ z0, Le (f z0) (f' z0)) : Le (Qu s f i) (Qh s f' i) := by
  unfold Qu Qh
  with_reducible repeat' (first | exact Le.refl _ | apply Le.bind | apply Le.ite | apply h_f | intro _)

noncomputable def QO (s : List Int) (f : Int → Option Bool) : Option Int :=
  ((Z7 (t1 (Qu s f)) 0) : Option ((Int) ⊕ (Unit))).bind (Sum.elim (fun q' => some q') (t0 (some (-1))))
theorem Zbu (s : List Int) (f : Int → Option Bool) (f' : Int → Option Bool) (h_f : ∀ z0, Le (f z0) (f' z0)) : Le (QO s f) (Z5 s f') := by
  unfold QO Z5
  with_reducible repeat' (first | exact Le.refl _ | apply Le.bind | apply Le.loop | apply Le.t0 | apply Le.t1 | apply Le.elim | apply ZaR | apply h_f | intro _)

noncomputable def Qt (s : List Int) (f : Int → Option Bool) : Option Bool :=
  (QO s f).bind fun y =>
  some (decide (0 ≤ y))
theorem ZaT (s : List Int) (f : Int → Option Bool) (f' : Int → Option Bool) (h_f : ∀ z0, Le (f z0) (f' z0)) : Le (Qt s f) (ZT s f') := by
  unfold Qt ZT
  with_reducible repeat' (first | exact Le.refl _ | apply Le.bind | apply Zbu | apply h_f | intro _)

noncomputable def Zbf (b : Int) : Option Bool :=
  some (!decide (b = 255))
theorem ZeS (b : Int) : Le (Zbf b) (Jg b) := by
  unfold Zbf Jg
  with_reducible repeat' (first | exact Le.refl _ | apply Le.bind | intro _)

noncomputable def ZaZ (p : Vector Int 97) : Option Int :=
  (ZH p 96).bind fun x =>
  if (decide (x = 0)) = true then
  some 1
  else
  (slc p.toList 0 (97 : Int)).bind fun l =>
  (Qt l (fun z0 => Zbf z0)).bind fun y =>
  if y = true then
  some 2
  else
  some 0
theorem Zdl (p : Vector Int 97) : Le (ZaZ p) (Jt p) := by
  unfold ZaZ Jt
  with_reducible repeat' (first | exact Le.refl _ | apply Le.bind | apply Le.ite | apply ZaT | apply ZeS | intro _)

noncomputable def J6 (m : api_Memory) (x : Int) (slot2 : Int) (i : Int) : Option ((Int × Int) ⊕ (Int)) :=
  if (decide (i < m.Slots)) = true then
  (idx m.Sectors x).bind fun x2 =>
  (Zbl x2 i).bind fun y2 =>
  (ZaZ y2).bind fun y3 =>
  if (!decide (y3 = 0)) = true then
  some (.inl ((i64 (i + 1)), (i64 (i + 1))))
  else
  some (.inl (slot2, (i64 (i + 1))))
  else
  some (.inr slot2)
theorem Zeb (m : api_Memory) (x : Int) (slot2 : Int) (i : Int) : Le (J6 m x slot2 i) (Js m x slot2 i) := by
  unfold J6 Js
  with_reducible repeat' (first | exact Le.refl _ | apply Le.bind | apply Le.ite | apply ZdK | apply Zdl | intro _)

noncomputable def ZbG (m : api_Memory) : Option ring_spot :=
  (ZaI m).bind fun y =>
  if (decide ((y.length : Int) = 0)) = true then
  some (ring_spot.mk (-1) 0)
  else
  (idx y (i64 ((y.length : Int) - 1))).bind fun x =>
  ((Z7 (t2 (J6 m x)) (0, 0)) : Option ((Int))).bind (t1 fun (slot : Int) =>
  some (ring_spot.mk x slot))
theorem ZfQ (m : api_Memory) : Le (ZbG m) (JK m) := by
  unfold ZbG JK
  with_reducible repeat' (first | exact Le.refl _ | apply Le.bind | apply Le.ite | apply Le.loop | apply Le.t1 | apply Le.t2 | apply Zdp | apply Zeb | intro _)

noncomputable def ZbJ (y3 : (List api_Memory)) (spots2 : List ring_spot) (frozen2 : Bool) (i : Int) : Option (((List ring_spot) × Bool × Int) ⊕ ((List ring_spot) × Bool)) :=
  if (decide (i < (y3.length : Int))) = true then
  (idx y3 i).bind fun x =>
  (ZbG x).bind fun y4 =>
  (apz 16 spots2 ([y4] : List ring_spot)).bind fun l2 =>
  if (decide (0 ≤ y4.sector)) = true then
  (idx x.Sectors y4.sector).bind fun x2 =>
  (Jk x2).bind fun y5 =>
  some (.inl (l2, (frozen2 || y5.2.1), (i64 (i + 1))))
  else
  some (.inl (l2, frozen2, (i64 (i + 1))))
  else
  some (.inr (spots2, frozen2))
theorem Zft (y3 : (List api_Memory)) (spots2 : List ring_spot) (frozen2 : Bool) (i : Int) : Le (ZbJ y3 spots2 frozen2 i) (Zbk y3 spots2 frozen2 i) := by
  unfold ZbJ Zbk
  with_reducible repeat' (first | exact Le.refl _ | apply Le.bind | apply Le.ite | apply ZfQ | apply ZaK | intro _)

noncomputable def Zc2 (l : List api_Memory) (copies : Int) : Option ((Int) ⊕ (ring_Recorder × Int)) :=
  (JW l).bind fun y =>
  if (!decide (y = 0)) = true then
  some (Sum.inl y)
  else
  (Z1 copies 1 (l.length : Int)).bind fun y2 =>
  if (!y2) = true then
  some (Sum.inl 9)
  else
  (Zam l).bind fun y3 =>
  ((Z7 (t3 (ZbJ y3)) ([], false, 0)) : Option (((List ring_spot) × Bool))).bind (t2 fun (spots : List ring_spot) (frozen : Bool) =>
  some (Sum.inr ((ring_Recorder.mk (ring_bank.mk y3 spots) copies frozen false 0 false), 0)))
theorem Zg1 (l : List api_Memory) (copies : Int) : Le (Zc2 l copies) (Zac l copies) := by
  unfold Zc2 Zac
  with_reducible repeat' (first | exact Le.refl _ | apply Le.bind | apply Le.ite | apply Le.loop | apply Le.t2 | apply Le.t3 | apply Le.elim | apply ZcW | apply QY | apply Zdk | apply Zft | intro _)

noncomputable def Jj (r_ : ring_Recorder) (power : Int) : Option Int :=
  if r_.stopped = true then
  some 15
  else
  if r_.frozen = true then
  some 11
  else
  (Z1 power 0 1000000000).bind fun y =>
  if (!y) = true then
  some 9
  else
  some 0
theorem Zdz (r_ : ring_Recorder) (power : Int) : Le (Jj r_ power) (Q6 r_ power) := by
  unfold Jj Q6
  with_reducible repeat' (first | exact Le.refl _ | apply Le.bind | apply Le.ite | apply QY | intro _)

noncomputable def Za4 (f : Vector Int 64) (out2 : List api_Flaw) (i : Int) : Option (((List api_Flaw) × Int) ⊕ ((List api_Flaw))) :=
  if (decide (i < 64)) = true then
  (ZH f i).bind fun x =>
  if (decide (4095 < x)) = true then
  (app out2 ([(api_Flaw.mk i 5)] : List api_Flaw)).bind fun l =>
  some (.inl (l, (i64 (i + 1))))
  else
  some (.inl (out2, (i64 (i + 1))))
  else
  some (.inr out2)
theorem ZeX (f : Vector Int 64) (out2 : List api_Flaw) (i : Int) : Le (Za4 f out2 i) (Zaq f out2 i) := by
  unfold Za4 Zaq
  with_reducible repeat' (first | exact Le.refl _ | apply Le.bind | apply Le.ite | intro _)

noncomputable def Xi (w : Int) : Option Int :=
  some (i64 (Xk .u16 w 2047))
theorem ZcE (w : Int) : Le (Xi w) (Xm w) := by
  unfold Xi Xm
  with_reducible repeat' (first | exact Le.refl _ | apply Le.bind | intro _)

noncomputable def Jn (f : Vector Int 64) : Option Int :=
  (ZH f 1).bind fun x =>
  (Xi x).bind fun y =>
  (ZH f 2).bind fun x2 =>
  (Xi x2).bind fun y2 =>
  (shl .i64 y2 11).bind fun q =>
  some (bor .i64 y q)
theorem ZcC (f : Vector Int 64) : Le (Jn f) (XB f) := by
  unfold Jn XB
  with_reducible repeat' (first | exact Le.refl _ | apply Le.bind | apply ZcE | intro _)

noncomputable def J5 (x : Int) : Option Int :=
  (shr .u16 x 8).bind fun q =>
  (ZiW [0, 1, 1, 2, 1, 2, 2, 3, 1, 2, 2, 3, 2, 3, 3, 4, 1, 2, 2, 3, 2, 3, 3, 4, 2, 3, 3, 4, 3, 4, 4, 5, 1, 2, 2, 3, 2, 3, 3, 4, 2, 3, 3, 4, 3, 4, 4, 5, 2, 3, 3, 4, 3, 4, 4, 5, 3, 4, 4, 5, 4, 5, 5, 6, 1, 2, 2, 3, 2, 3, 3, 4, 2, 3, 3, 4, 3, 4, 4, 5, 2, 3, 3, 4, 3, 4, 4, 5, 3, 4, 4, 5, 4, 5, 5, 6, 2, 3, 3, 4, 3, 4, 4, 5, 3, 4, 4, 5, 4, 5, 5, 6, 3, 4, 4, 5, 4, 5, 5, 6, 4, 5, 5, 6, 5, 6, 6, 7, 1, 2, 2, 3, 2, 3, 3, 4, 2, 3, 3, 4, 3, 4, 4, 5, 2, 3, 3, 4, 3, 4, 4, 5, 3, 4, 4, 5, 4, 5, 5, 6, 2, 3, 3, 4, 3, 4, 4, 5, 3, 4, 4, 5, 4, 5, 5, 6, 3, 4, 4, 5, 4, 5, 5, 6, 4, 5, 5, 6, 5, 6, 6, 7, 2, 3, 3, 4, 3, 4, 4, 5, 3, 4, 4, 5, 4, 5, 5, 6, 3, 4, 4, 5, 4, 5, 5, 6, 4, 5, 5, 6, 5, 6, 6, 7, 3, 4, 4, 5, 4, 5, 5, 6, 4, 5, 5, 6, 5, 6, 6, 7, 4, 5, 5, 6, 5, 6, 6, 7, 5, 6, 6, 7, 6, 7, 7, 8] q).bind fun b =>
  (ZiW [0, 1, 1, 2, 1, 2, 2, 3, 1, 2, 2, 3, 2, 3, 3, 4, 1, 2, 2, 3, 2, 3, 3, 4, 2, 3, 3, 4, 3, 4, 4, 5, 1, 2, 2, 3, 2, 3, 3, 4, 2, 3, 3, 4, 3, 4, 4, 5, 2, 3, 3, 4, 3, 4, 4, 5, 3, 4, 4, 5, 4, 5, 5, 6, 1, 2, 2, 3, 2, 3, 3, 4, 2, 3, 3, 4, 3, 4, 4, 5, 2, 3, 3, 4, 3, 4, 4, 5, 3, 4, 4, 5, 4, 5, 5, 6, 2, 3, 3, 4, 3, 4, 4, 5, 3, 4, 4, 5, 4, 5, 5, 6, 3, 4, 4, 5, 4, 5, 5, 6, 4, 5, 5, 6, 5, 6, 6, 7, 1, 2, 2, 3, 2, 3, 3, 4, 2, 3, 3, 4, 3, 4, 4, 5, 2, 3, 3, 4, 3, 4, 4, 5, 3, 4, 4, 5, 4, 5, 5, 6, 2, 3, 3, 4, 3, 4, 4, 5, 3, 4, 4, 5, 4, 5, 5, 6, 3, 4, 4, 5, 4, 5, 5, 6, 4, 5, 5, 6, 5, 6, 6, 7, 2, 3, 3, 4, 3, 4, 4, 5, 3, 4, 4, 5, 4, 5, 5, 6, 3, 4, 4, 5, 4, 5, 5, 6, 4, 5, 5, 6, 5, 6, 6, 7, 3, 4, 4, 5, 4, 5, 5, 6, 4, 5, 5, 6, 5, 6, 6, 7, 4, 5, 5, 6, 5, 6, 6, 7, 5, 6, 6, 7, 6, 7, 7, 8] (Xk .u16 x 255)).bind fun b2 =>
  some (i64 (u8 (b + b2)))
theorem Zeh (x : Int) : Le (J5 x) (XA x) := by
  unfold J5 XA
  with_reducible repeat' (first | exact Le.refl _ | apply Le.bind | intro _)

noncomputable def Zbz (w : Int) : Option Bool :=
  (gd ((decide (w ≤ 4095)) == true) 0 (J5 w)).bind fun y =>
  (gd ((decide (w ≤ 4095)) == true) 0 (rem y 2)).bind fun q =>
  some ((decide (w ≤ 4095)) && (decide (q = 1)))
theorem Zfi (w : Int) : Le (Zbz w) (Zbh w) := by
  unfold Zbz Zbh
  with_reducible repeat' (first | exact Le.refl _ | apply Le.bind | apply Le.gd | apply Zeh | intro _)

noncomputable def Zbd (f : Vector Int 64) (out5 : List api_Flaw) (i2 : Int) : Option (((List api_Flaw) × Int) ⊕ ((List api_Flaw))) :=
  if (decide (i2 < 64)) = true then
  (ZH f i2).bind fun x4 =>
  (Zbz x4).bind fun y2 =>
  if (!y2) = true then
  (app out5 ([(api_Flaw.mk i2 2)] : List api_Flaw)).bind fun l3 =>
  some (.inl (l3, (i64 (i2 + 1))))
  else
  some (.inl (out5, (i64 (i2 + 1))))
  else
  some (.inr out5)
theorem Zff (f : Vector Int 64) (out5 : List api_Flaw) (i2 : Int) : Le (Zbd f out5 i2) (ZaG f out5 i2) := by
  unfold Zbd ZaG
  with_reducible repeat' (first | exact Le.refl _ | apply Le.bind | apply Le.ite | apply Zfi | intro _)

noncomputable def Za2 (f : Vector Int 64) (n2 : Int) (i : Int) : Option ((Int × Int) ⊕ (Int)) :=
  if (decide (i < 60)) = true then
  (ZH f (i64 (i + 1))).bind fun x =>
  (Xi x).bind fun y =>
  some (.inl ((ZdV .i64 n2 y), (i64 (i + 1))))
  else
  some (.inr n2)
theorem ZeY (f : Vector Int 64) (n2 : Int) (i : Int) : Le (Za2 f n2 i) (ZaB f n2 i) := by
  unfold Za2 ZaB
  with_reducible repeat' (first | exact Le.refl _ | apply Le.bind | apply Le.ite | apply ZcE | intro _)

noncomputable def ZcN (f : Vector Int 64) : Option Int :=
  ((Z7 (t2 (Za2 f)) (0, 0)) : Option ((Int))).bind (t1 fun (n : Int) =>
  some n)
theorem Zgo (f : Vector Int 64) : Le (ZcN f) (Zbq f) := by
  unfold ZcN Zbq
  with_reducible repeat' (first | exact Le.refl _ | apply Le.bind | apply Le.loop | apply Le.t1 | apply Le.t2 | apply ZeY | intro _)

noncomputable def Zaa (f : Vector Int 64) (i : Int) (n4 : Int) (k : Int) : Option ((Int × Int) ⊕ (Int)) :=
  if (decide (0 ≤ k)) = true then
  (shl .i64 n4 1).bind fun q =>
  (ZH f i).bind fun x =>
  (shr .u16 x k).bind fun q2 =>
  if (!((!decide ((Xk .i64 n4 2097152) = 0)) == (decide ((Xk .u16 q2 1) = 1)))) = true then
  some (.inl ((ZdV .i64 (Xk .i64 q 4194303) 2097167), (i64 (k - 1))))
  else
  some (.inl ((Xk .i64 q 4194303), (i64 (k - 1))))
  else
  some (.inr n4)
theorem Zei (f : Vector Int 64) (i : Int) (n4 : Int) (k : Int) : Le (Zaa f i n4 k) (Jo f i n4 k) := by
  unfold Zaa Jo
  with_reducible repeat' (first | exact Le.refl _ | apply Le.bind | apply Le.ite | intro _)

noncomputable def Zae (f : Vector Int 64) (n2 : Int) (i : Int) : Option ((Int × Int) ⊕ (Int)) :=
  if (decide (i < 62)) = true then
  ((Z7 (t2 (Zaa f i)) (n2, 11)) : Option ((Int))).bind (t1 fun (n3 : Int) =>
  some (.inl (n3, (i64 (i + 1)))))
  else
  some (.inr n2)
theorem Zee (f : Vector Int 64) (n2 : Int) (i : Int) : Le (Zae f n2 i) (Jy f n2 i) := by
  unfold Zae Jy
  with_reducible repeat' (first | exact Le.refl _ | apply Le.bind | apply Le.ite | apply Le.loop | apply Le.t1 | apply Le.t2 | apply Zei | intro _)

noncomputable def ZbO (f : Vector Int 64) : Option Int :=
  ((Z7 (t2 (Zae f)) (0, 0)) : Option ((Int))).bind (t1 fun (n : Int) =>
  some n)
theorem ZfK (f : Vector Int 64) : Le (ZbO f) (JO f) := by
  unfold ZbO JO
  with_reducible repeat' (first | exact Le.refl _ | apply Le.bind | apply Le.loop | apply Le.t1 | apply Le.t2 | apply Zee | intro _)

noncomputable def Zbn (f : Vector Int 64) : Option (List api_Flaw) :=
  ((Z7 (t2 (Za4 f)) ([], 0)) : Option (((List api_Flaw)))).bind (t1 fun (out : List api_Flaw) =>
  if (decide (0 < (out.length : Int))) = true then
  some out
  else
  (((ZH f 0).bind fun x2 =>
  (Jn f).bind fun y =>
  (rem y 4).bind fun q =>
  (ZH gv_frame_syncs q).bind fun x3 =>
  if (!decide (x2 = x3)) = true then
  (app out ([(api_Flaw.mk 0 1)] : List api_Flaw)).bind fun l2 =>
  some l2
  else
  some out) : Option (((List api_Flaw)))).bind (t1 fun (out3 : List api_Flaw) =>
  ((Z7 (t2 (Zbd f)) (out3, 1)) : Option (((List api_Flaw)))).bind (t1 fun (out4 : List api_Flaw) =>
  (((ZH f 61).bind fun x5 =>
  (Xi x5).bind fun y3 =>
  (ZcN f).bind fun y4 =>
  if (!decide (y3 = y4)) = true then
  (app out4 ([(api_Flaw.mk 61 3)] : List api_Flaw)).bind fun l4 =>
  some l4
  else
  some out4) : Option (((List api_Flaw)))).bind (t1 fun (out6 : List api_Flaw) =>
  (ZH f 62).bind fun x6 =>
  (Xi x6).bind fun y5 =>
  (shl .i64 y5 11).bind fun q2 =>
  (ZH f 63).bind fun x7 =>
  (Xi x7).bind fun y6 =>
  (ZbO f).bind fun y7 =>
  if (!decide ((bor .i64 q2 y6) = y7)) = true then
  (app out6 ([(api_Flaw.mk 62 4)] : List api_Flaw)).bind fun l5 =>
  some l5
  else
  some out6))))
theorem ZdI (f : Vector Int 64) : Le (Zbn f) (Zak f) := by
  unfold Zbn Zak
  with_reducible repeat' (first | exact Le.refl _ | apply Le.bind | apply Le.ite | apply Le.loop | apply Le.t1 | apply Le.t2 | apply ZeX | apply ZcC | apply Zff | apply ZcE | apply Zgo | apply ZfK | intro _)

noncomputable def Zar (f : Vector Int 64) : Option (Int × Bool) :=
  (ZH f 1).bind fun x =>
  (Zbz x).bind fun y =>
  (gd ((!y) == false) 0 (ZH f 2)).bind fun x2 =>
  (gd ((!y) == false) false (Zbz x2)).bind fun y2 =>
  if ((!y) || (!y2)) = true then
  some (0, false)
  else
  (Jn f).bind fun y3 =>
  some (y3, true)
theorem Zdo (f : Vector Int 64) : Le (Zar f) (Jr f) := by
  unfold Zar Jr
  with_reducible repeat' (first | exact Le.refl _ | apply Le.bind | apply Le.ite | apply Le.gd | apply Zfi | apply ZcC | intro _)

noncomputable def ZaF (number : Int) (memories : Int) (copies : Int) (out2 : List Int) (i : Int) : Option (((List Int) × Int) ⊕ ((List Int))) :=
  if (decide (i < copies)) = true then
  (rem (i64 (number + i)) memories).bind fun q =>
  (apz 8 out2 ([q] : List Int)).bind fun l =>
  some (.inl (l, (i64 (i + 1))))
  else
  some (.inr out2)
theorem ZeK (number : Int) (memories : Int) (copies : Int) (out2 : List Int) (i : Int) : Le (ZaF number memories copies out2 i) (ring_targets_L1 number memories copies out2 i) := by
  unfold ZaF ring_targets_L1
  with_reducible repeat' (first | exact Le.refl _ | apply Le.bind | apply Le.ite | intro _)

noncomputable def Zcf (number : Int) (memories : Int) (copies : Int) : Option (List Int) :=
  ((Z7 (t2 (ZaF number memories copies)) ([], 0)) : Option (((List Int)))).bind (t1 fun (out : List Int) =>
  some out)
theorem Zf7 (number : Int) (memories : Int) (copies : Int) : Le (Zcf number memories copies) (XR number memories copies) := by
  unfold Zcf XR
  with_reducible repeat' (first | exact Le.refl _ | apply Le.bind | apply Le.loop | apply Le.t1 | apply Le.t2 | apply ZeK | intro _)

noncomputable def Q0 (b : ring_bank) (k : Int) : Option Bool :=
  (idx b.spots k).bind fun x =>
  (gd ((decide (x.sector < 0)) == false) (ring_spot.mk 0 0) (idx b.spots k)).bind fun x2 =>
  (gd ((decide (x.sector < 0)) == false) (api_Memory.mk 0 0 [] [] []) (idx b.memories k)).bind fun x3 =>
  some ((decide (x.sector < 0)) || (decide (x2.slot = x3.Slots)))
theorem JG (b : ring_bank) (k : Int) : Le (Q0 b k) (QC b k) := by
  unfold Q0 QC
  with_reducible repeat' (first | exact Le.refl _ | apply Le.bind | apply Le.gd | intro _)

noncomputable def JF (b : ring_bank) (k : Int) (x : api_Memory) (i : Int) : Option ((Int) ⊕ (Int) ⊕ (Unit)) :=
  if (decide (i < (x.Sectors.length : Int))) = true then
  (idx b.spots k).bind fun x2 =>
  (rem (i64 ((i64 (x2.sector + 1)) + i)) (x.Sectors.length : Int)).bind fun q =>
  (idx x.Bad q).bind fun x3 =>
  (gd ((!x3) == true) 0 (idx x.Wear q)).bind fun x4 =>
  if ((!x3) && (decide (x4 < x.Limit))) = true then
  some (.inr (.inl q))
  else
  some (.inl (i64 (i + 1)))
  else
  some (.inr (.inr ()))
theorem ZdW (b : ring_bank) (k : Int) (x : api_Memory) (i : Int) : Le (JF b k x i) (X8 b k x i) := by
  unfold JF X8
  with_reducible repeat' (first | exact Le.refl _ | apply Le.bind | apply Le.ite | apply Le.gd | intro _)

noncomputable def Xy (b : ring_bank) (k : Int) : Option Int :=
  (idx b.memories k).bind fun x =>
  ((Z7 (t1 (JF b k x)) 0) : Option ((Int) ⊕ (Unit))).bind (Sum.elim (fun q' => some q') (t0 (some (-1))))
theorem ZaY (b : ring_bank) (k : Int) : Le (Xy b k) (QZ b k) := by
  unfold Xy QZ
  with_reducible repeat' (first | exact Le.refl _ | apply Le.bind | apply Le.loop | apply Le.t0 | apply Le.t1 | apply Le.elim | apply ZdW | intro _)

noncomputable def Jl (b : ring_bank) (l : List Int) (i : Int) : Option ((Int) ⊕ (Int) ⊕ (Unit)) :=
  if (decide (i < (l.length : Int))) = true then
  (idx l i).bind fun x =>
  (Q0 b x).bind fun y =>
  (gd (y == true) 0 (Xy b x)).bind fun y2 =>
  if (y && (decide (y2 < 0))) = true then
  some (.inr (.inl 4))
  else
  some (.inl (i64 (i + 1)))
  else
  some (.inr (.inr ()))
theorem Zdt (b : ring_bank) (l : List Int) (i : Int) : Le (Jl b l i) (XJ b l i) := by
  unfold Jl XJ
  with_reducible repeat' (first | exact Le.refl _ | apply Le.bind | apply Le.ite | apply Le.gd | apply JG | apply ZaY | intro _)

noncomputable def Xu (sector : Int) (x : api_Memory) (most2 : Int) (i : Int) : Option ((Int × Int) ⊕ (Int)) :=
  if (decide (i < (x.Sectors.length : Int))) = true then
  (idx x.Sectors i).bind fun x2 =>
  (Jk x2).bind fun y =>
  if (y.2.2 && (!decide (i = sector))) = true then
  some (.inl ((max most2 y.1), (i64 (i + 1))))
  else
  some (.inl (most2, (i64 (i + 1))))
  else
  some (.inr most2)
theorem ZcP (sector : Int) (x : api_Memory) (most2 : Int) (i : Int) : Le (Xu sector x most2 i) (Q7 sector x most2 i) := by
  unfold Xu Q7
  with_reducible repeat' (first | exact Le.refl _ | apply Le.bind | apply Le.ite | apply ZaK | intro _)

noncomputable def Xg (b : ring_bank) (k : Int) (sector : Int) : Option Int :=
  (((idx b.memories k).bind fun x =>
  Z7 (t2 (Xu sector x)) (0, 0)) : Option ((Int))).bind (t1 fun (most : Int) =>
  some (i64 (most + 1)))
theorem Za0 (b : ring_bank) (k : Int) (sector : Int) : Le (Xg b k sector) (QB b k sector) := by
  unfold Xg QB
  with_reducible repeat' (first | exact Le.refl _ | apply Le.bind | apply Le.loop | apply Le.t1 | apply Le.t2 | apply ZcP | intro _)

noncomputable def Jm (b : ring_bank) (l : List Int) (i2 : Int) : Option ((Int) ⊕ (Int) ⊕ (Unit)) :=
  if (decide (i2 < (l.length : Int))) = true then
  (idx l i2).bind fun x2 =>
  (Q0 b x2).bind fun y3 =>
  (gd (y3 == true) 0 (Xy b x2)).bind fun y4 =>
  (gd (y3 == true) 0 (Xg b x2 y4)).bind fun y5 =>
  if (y3 && (decide (1073741824 < y5))) = true then
  some (.inr (.inl 3))
  else
  some (.inl (i64 (i2 + 1)))
  else
  some (.inr (.inr ()))
theorem Zdu (b : ring_bank) (l : List Int) (i2 : Int) : Le (Jm b l i2) (XM b l i2) := by
  unfold Jm XM
  with_reducible repeat' (first | exact Le.refl _ | apply Le.bind | apply Le.ite | apply Le.gd | apply JG | apply ZaY | apply Za0 | intro _)

noncomputable def ZaJ (b : ring_bank) (l : List Int) : Option Int :=
  ((Z7 (t1 (Jl b l)) 0) : Option ((Int) ⊕ (Unit))).bind (Sum.elim (fun q' => some q') (t0 (((Z7 (t1 (Jm b l)) 0) : Option ((Int) ⊕ (Unit))).bind (Sum.elim (fun q' => some q') (t0 (some 0))))))
theorem ZeL (b : ring_bank) (l : List Int) : Le (ZaJ b l) (X0 b l) := by
  unfold ZaJ X0
  with_reducible repeat' (first | exact Le.refl _ | apply Le.bind | apply Le.loop | apply Le.t0 | apply Le.t1 | apply Le.elim | apply Zdt | apply Zdu | intro _)

noncomputable def ZbL (f : Vector Int 64) (i : Int) : Option ((Int) ⊕ (Bool) ⊕ (Unit)) :=
  if (decide (i < 64)) = true then
  (ZH f i).bind fun x =>
  if (decide (4095 < x)) = true then
  some (.inr (.inl true))
  else
  some (.inl (i64 (i + 1)))
  else
  some (.inr (.inr ()))
theorem ZfC (f : Vector Int 64) (i : Int) : Le (ZbL f i) (Zbp f i) := by
  unfold ZbL Zbp
  with_reducible repeat' (first | exact Le.refl _ | apply Le.bind | apply Le.ite | intro _)

noncomputable def ZcZ (f : Vector Int 64) : Option Bool :=
  ((Z7 (t1 (ZbL f)) 0) : Option ((Bool) ⊕ (Unit))).bind (Sum.elim (fun q' => some q') (t0 (some false)))
theorem Zg2 (f : Vector Int 64) : Le (ZcZ f) (Zcb f) := by
  unfold ZcZ Zcb
  with_reducible repeat' (first | exact Le.refl _ | apply Le.bind | apply Le.loop | apply Le.t0 | apply Le.t1 | apply Le.elim | apply ZfC | intro _)

noncomputable def ZaN (p : Vector Int 96) (i : Int) (w : Int) : Option (Vector Int 96) :=
  (quo .i64 i 2).bind fun q =>
  (rem i 2).bind fun q2 =>
  if (decide (q2 = 0)) = true then
  (shr .u16 w 4).bind fun q3 =>
  (ZH p (i64 ((i64 (q * 3)) + 1))).bind fun x =>
  (ZH p (i64 (q * 3))).bind fun x2 =>
  (shl .u16 (Xk .u16 w 15) 4).bind fun q4 =>
  (ZH (Xv p (i64 (q * 3)) (u8 q3)) (i64 ((i64 (q * 3)) + 1))).bind fun x3 =>
  some (Xv (Xv p (i64 (q * 3)) (u8 q3)) (i64 ((i64 (q * 3)) + 1)) (bor .u8 (u8 q4) (Xk .u8 x 15)))
  else
  (ZH p (i64 ((i64 (q * 3)) + 1))).bind fun x4 =>
  (shr .u16 w 8).bind fun q5 =>
  (ZH p (i64 ((i64 (q * 3)) + 1))).bind fun x5 =>
  (ZH (Xv p (i64 ((i64 (q * 3)) + 1)) (bor .u8 (Xk .u8 x4 240) (u8 q5))) (i64 ((i64 (q * 3)) + 2))).bind fun x6 =>
  some (Xv (Xv p (i64 ((i64 (q * 3)) + 1)) (bor .u8 (Xk .u8 x4 240) (u8 q5))) (i64 ((i64 (q * 3)) + 2)) (u8 w))
theorem ZeC (p : Vector Int 96) (i : Int) (w : Int) : Le (ZaN p i w) (XY p i w) := by
  unfold ZaN XY
  with_reducible repeat' (first | exact Le.refl _ | apply Le.bind | apply Le.ite | intro _)

noncomputable def ZbE (f : Vector Int 64) (o : Vector Int 96) (i : Int) : Option (((Vector Int 96) × Int) ⊕ ((Vector Int 96))) :=
  if (decide (i < 64)) = true then
  (ZH f i).bind fun x =>
  (ZaN o i x).bind fun y =>
  some (.inl (y, (i64 (i + 1))))
  else
  some (.inr o)
theorem Zfv (f : Vector Int 64) (o : Vector Int 96) (i : Int) : Le (ZbE f o i) (Zbi f o i) := by
  unfold ZbE Zbi
  with_reducible repeat' (first | exact Le.refl _ | apply Le.bind | apply Le.ite | apply ZeC | intro _)

noncomputable def Zdb (p : Vector Int 96) (f : Vector Int 64) : Option (Vector Int 96) :=
  Z7 (t2 (ZbE f)) (p, 0)
theorem Zg0 (p : Vector Int 96) (f : Vector Int 64) : Le (Zdb p f) (Zce p f) := by
  unfold Zdb Zce
  with_reducible repeat' (first | exact Le.refl _ | apply Le.bind | apply Le.loop | apply Le.t2 | apply Zfv | intro _)

noncomputable def ZbP (f : Vector Int 64) : Option ((List Int) × Int) :=
  (ZcZ f).bind fun y =>
  if y = true then
  some ([], 9)
  else
  (Zdb (Vector.replicate 96 0) f).bind fun y2 =>
  (slc y2.toList 0 (96 : Int)).bind fun l =>
  some (l, 0)
theorem Zfz (f : Vector Int 64) : Le (ZbP f) (JJ f) := by
  unfold ZbP JJ
  with_reducible repeat' (first | exact Le.refl _ | apply Le.bind | apply Le.ite | apply Zg2 | apply Zg0 | intro _)

noncomputable def X5 (q : Int) (o2 : List Int) (i : Int) : Option (((List Int) × Int) ⊕ ((List Int))) :=
  if (decide (i < ((Int.toNat (q - 0) : Nat) : Int))) = true then
  (ck (decide ((0 : Int) ≤ i) && decide (i < ((Int.toNat (q - 0) : Nat) : Int)))).bind fun u2 =>
  (idx o2 (0 + i)).bind fun x2 =>
  some (.inl ((o2.set (0 + i).toNat 255), (i64 (i + 1))))
  else
  some (.inr o2)
theorem Zc4 (q : Int) (o2 : List Int) (i : Int) : Le (X5 q o2 i) (Qe q o2 i) := by
  unfold X5 Qe
  with_reducible repeat' (first | exact Le.refl _ | apply Le.bind | apply Le.ite | intro _)

noncomputable def X6 (s : List Int) (o4 : List Int) (i2 : Int) : Option (((List Int) × Int) ⊕ ((List Int))) :=
  if (decide (i2 < (s.length : Int))) = true then
  (idx o4 i2).bind fun x3 =>
  some (.inl ((o4.set i2.toNat 255), (i64 (i2 + 1))))
  else
  some (.inr o4)
theorem Zde (s : List Int) (o4 : List Int) (i2 : Int) : Le (X6 s o4 i2) (Qc s o4 i2) := by
  unfold X6 Qc
  with_reducible repeat' (first | exact Le.refl _ | apply Le.bind | apply Le.ite | intro _)

noncomputable def J9 (s : List Int) (power : Int) : Option (Int × Bool × (List Int)) :=
  if (decide (power = 0)) = true then
  (quo .i64 (s.length : Int) 2).bind fun q =>
  (slp s 0 q).bind fun u =>
  ((Z7 (t2 (X5 q)) (s, 0)) : Option (((List Int)))).bind (t1 fun (o : List Int) =>
  some ((max (i64 (power - 1)) 0), (decide (0 < power)), o))
  else
  ((Z7 (t2 (X6 s)) (s, 0)) : Option (((List Int)))).bind (t1 fun (o3 : List Int) =>
  some ((max (i64 (power - 1)) 0), (decide (0 < power)), o3))
theorem Zd9 (s : List Int) (power : Int) : Le (J9 s power) (QD s power) := by
  unfold J9 QD
  with_reducible repeat' (first | exact Le.refl _ | apply Le.bind | apply Le.ite | apply Le.loop | apply Le.t1 | apply Le.t2 | apply Zc4 | apply Zde | intro _)

noncomputable def Zad (at_ : Int) (data : List Int) (o2 : List Int) (power3 : Int) (i : Int) : Option (((List Int) × Int × Int) ⊕ (Int × Bool × (List Int)) ⊕ ((List Int) × Int)) :=
  if (decide (i < (data.length : Int))) = true then
  (idx data i).bind fun x =>
  if (decide (power3 = 0)) = true then
  (idx o2 (i64 (at_ + i))).bind fun x2 =>
  (idx o2 (i64 (at_ + i))).bind fun x3 =>
  some (.inr (.inl (0, false, (o2.set (i64 (at_ + i)).toNat (Xk .u8 x2 (bor .u8 x 15))))))
  else
  (idx o2 (i64 (at_ + i))).bind fun x4 =>
  (idx o2 (i64 (at_ + i))).bind fun x5 =>
  some (.inl ((o2.set (i64 (at_ + i)).toNat (Xk .u8 x4 x)), (i64 (power3 - 1)), (i64 (i + 1))))
  else
  some (.inr (.inr (o2, power3)))
theorem Zek (at_ : Int) (data : List Int) (o2 : List Int) (power3 : Int) (i : Int) : Le (Zad at_ data o2 power3 i) (Qz at_ data o2 power3 i) := by
  unfold Zad Qz
  with_reducible repeat' (first | exact Le.refl _ | apply Le.bind | apply Le.ite | intro _)

noncomputable def JU (s : List Int) (at_ : Int) (data : List Int) (power : Int) : Option (Int × Bool × (List Int)) :=
  ((Z7 (t3 (Zad at_ data)) (s, power, 0)) : Option ((Int × Bool × (List Int)) ⊕ ((List Int) × Int))).bind (Sum.elim (fun q' => some q') (t2 fun (o : List Int) (power2 : Int) =>
  some (power2, true, o)))
theorem ZcT (s : List Int) (at_ : Int) (data : List Int) (power : Int) : Le (JU s at_ data power) (QU s at_ data power) := by
  unfold JU QU
  with_reducible repeat' (first | exact Le.refl _ | apply Le.bind | apply Le.loop | apply Le.t2 | apply Le.t3 | apply Le.elim | apply Zek | intro _)

noncomputable def JD (b : ring_Recorder) (k : Int) (power : Int) : Option (Int × Bool × ring_Recorder) :=
  (idx b.bank.memories k).bind fun x =>
  (Xy b.bank k).bind fun y =>
  (Xg b.bank k y).bind fun y2 =>
  (idx x.Wear y).bind fun x2 =>
  (idx x.Wear y).bind fun x3 =>
  (idx x.Sectors y).bind fun x8 =>
  (J9 x8 power).bind fun y3 =>
  if (!y3.2.1) = true then
  some (y3.1, false, (ring_Recorder.mk (ring_bank.mk ((b.bank.memories.set k.toNat (api_Memory.mk x.Slots x.Limit x.Sectors (x.Wear.set y.toNat (i64 (x2 + 1))) x.Bad)).set k.toNat (api_Memory.mk x.Slots x.Limit (x.Sectors.set y.toNat y3.2.2) (x.Wear.set y.toNat (i64 (x2 + 1))) x.Bad)) b.bank.spots) b.copies b.frozen b.stopped b.last b.some_))
  else
  (((idx ((b.bank.memories.set k.toNat (api_Memory.mk x.Slots x.Limit x.Sectors (x.Wear.set y.toNat (i64 (x2 + 1))) x.Bad)).set k.toNat (api_Memory.mk x.Slots x.Limit (x.Sectors.set y.toNat y3.2.2) (x.Wear.set y.toNat (i64 (x2 + 1))) x.Bad)) k).bind fun x14 =>
  (idx x14.Sectors y).bind fun x15 =>
  (idx x14.Sectors y).bind fun x16 =>
  (Zbj y2).bind fun y4 =>
  (JU x15 0 y4 y3.1).bind fun y5 =>
  if y5.2.1 = true then
  (idx b.bank.spots k).bind fun x22 =>
  some ((((b.bank.memories.set k.toNat (api_Memory.mk x.Slots x.Limit x.Sectors (x.Wear.set y.toNat (i64 (x2 + 1))) x.Bad)).set k.toNat (api_Memory.mk x.Slots x.Limit (x.Sectors.set y.toNat y3.2.2) (x.Wear.set y.toNat (i64 (x2 + 1))) x.Bad)).set k.toNat (api_Memory.mk x14.Slots x14.Limit (x14.Sectors.set y.toNat y5.2.2) x14.Wear x14.Bad)), (b.bank.spots.set k.toNat (ring_spot.mk y 0)), y5.1, y5.2.1)
  else
  some ((((b.bank.memories.set k.toNat (api_Memory.mk x.Slots x.Limit x.Sectors (x.Wear.set y.toNat (i64 (x2 + 1))) x.Bad)).set k.toNat (api_Memory.mk x.Slots x.Limit (x.Sectors.set y.toNat y3.2.2) (x.Wear.set y.toNat (i64 (x2 + 1))) x.Bad)).set k.toNat (api_Memory.mk x14.Slots x14.Limit (x14.Sectors.set y.toNat y5.2.2) x14.Wear x14.Bad)), b.bank.spots, y5.1, y5.2.1)) : Option (((List api_Memory) × (List ring_spot) × Int × Bool))).bind (t4 fun (memories : List api_Memory) (spots : List ring_spot) (power2 : Int) (all : Bool) =>
  some (power2, all, (ring_Recorder.mk (ring_bank.mk memories spots) b.copies b.frozen b.stopped b.last b.some_)))
theorem ZdR (b : ring_Recorder) (k : Int) (power : Int) : Le (JD b k power) (Xd b k power) := by
  unfold JD Xd
  with_reducible repeat' (first | exact Le.refl _ | apply Le.bind | apply Le.ite | apply Le.t4 | apply ZaY | apply Za0 | apply Zd9 | apply ZdT | apply ZcT | intro _)

noncomputable def ZaV (b : ring_Recorder) (k : Int) (data : List Int) (power : Int) : Option (Int × Bool × ring_Recorder) :=
  (((Q0 b.bank k).bind fun y =>
  if y = true then
  (JD b k power).bind fun y2 =>
  if (!y2.2.1) = true then
  some (.inl (y2.1, false, y2.2.2))
  else
  some (.inr (y2.2.2.bank.memories, y2.2.2.bank.spots, y2.2.2.copies, y2.2.2.frozen, y2.2.2.stopped, y2.2.2.last, y2.2.2.some_, y2.1))
  else
  some (.inr (b.bank.memories, b.bank.spots, b.copies, b.frozen, b.stopped, b.last, b.some_, power))) : Option ((Int × Bool × ring_Recorder) ⊕ ((List api_Memory) × (List ring_spot) × Int × Bool × Bool × Int × Bool × Int))).bind (Sum.elim (fun q' => some q') (t8 fun (memories : List api_Memory) (spots : List ring_spot) (copies : Int) (frozen : Bool) (stopped : Bool) (last : Int) (some_ : Bool) (power2 : Int) =>
  (idx spots k).bind fun x =>
  (idx memories k).bind fun x2 =>
  (idx x2.Sectors x.sector).bind fun x3 =>
  (idx memories k).bind fun x4 =>
  (idx x2.Sectors x.sector).bind fun x5 =>
  (apz 1 data ([0] : List Int)).bind fun l =>
  (JU x3 (i64 (16 + (i64 (x.slot * 97)))) l power2).bind fun y3 =>
  some (y3.1, y3.2.1, (ring_Recorder.mk (ring_bank.mk (memories.set k.toNat (api_Memory.mk x2.Slots x2.Limit (x2.Sectors.set x.sector.toNat y3.2.2) x2.Wear x2.Bad)) (spots.set k.toNat (ring_spot.mk x.sector (i64 (x.slot + 1))))) copies frozen stopped last some_))))
theorem ZeJ (b : ring_Recorder) (k : Int) (data : List Int) (power : Int) : Le (ZaV b k data power) (XW b k data power) := by
  unfold ZaV XW
  with_reducible repeat' (first | exact Le.refl _ | apply Le.bind | apply Le.ite | apply Le.t8 | apply Le.elim | apply JG | apply ZdR | apply ZcT | intro _)

noncomputable def Xb (y4 : (List Int)) (y6 : (List Int) × Int) (memories2 : List api_Memory) (spots2 : List ring_spot) (copies2 : Int) (frozen2 : Bool) (stopped2 : Bool) (last2 : Int) (some_2 : Bool) (power3 : Int) (i : Int) : Option (((List api_Memory) × (List ring_spot) × Int × Bool × Bool × Int × Bool × Int × Int) ⊕ (Int × Bool × Int × ring_Recorder) ⊕ ((List api_Memory) × (List ring_spot) × Int × Bool × Bool × Int × Bool × Int)) :=
  if (decide (i < (y4.length : Int))) = true then
  (idx y4 i).bind fun x =>
  (slc y6.1 0 (y6.1.length : Int)).bind fun l =>
  (ZaV (ring_Recorder.mk (ring_bank.mk memories2 spots2) copies2 frozen2 stopped2 last2 some_2) x l power3).bind fun y7 =>
  if (!y7.2.1) = true then
  some (.inr (.inl (y7.1, false, 0, (ring_Recorder.mk y7.2.2.bank y7.2.2.copies y7.2.2.frozen true y7.2.2.last y7.2.2.some_))))
  else
  some (.inl (y7.2.2.bank.memories, y7.2.2.bank.spots, y7.2.2.copies, y7.2.2.frozen, y7.2.2.stopped, y7.2.2.last, y7.2.2.some_, y7.1, (i64 (i + 1))))
  else
  some (.inr (.inr (memories2, spots2, copies2, frozen2, stopped2, last2, some_2, power3)))
theorem Zcj (y4 : (List Int)) (y6 : (List Int) × Int) (memories2 : List api_Memory) (spots2 : List ring_spot) (copies2 : Int) (frozen2 : Bool) (stopped2 : Bool) (last2 : Int) (some_2 : Bool) (power3 : Int) (i : Int) : Le (Xb y4 y6 memories2 spots2 copies2 frozen2 stopped2 last2 some_2 power3 i) (QM y4 y6 memories2 spots2 copies2 frozen2 stopped2 last2 some_2 power3 i) := by
  unfold Xb QM
  with_reducible repeat' (first | exact Le.refl _ | apply Le.bind | apply Le.ite | apply ZeJ | intro _)

noncomputable def XO (r_ : ring_Recorder) (f : Vector Int 64) (power : Int) : Option (Int × Bool × Int × ring_Recorder) :=
  (Jj r_ power).bind fun y =>
  if (!decide (y = 0)) = true then
  some (0, false, y, r_)
  else
  (Zbn f).bind fun y2 =>
  if (decide (0 < (y2.length : Int))) = true then
  some (0, false, 2, r_)
  else
  (Zar f).bind fun y3 =>
  (Zcf y3.1 (r_.bank.memories.length : Int) r_.copies).bind fun y4 =>
  (ZaJ r_.bank y4).bind fun y5 =>
  if (!decide (y5 = 0)) = true then
  some (0, false, y5, r_)
  else
  (ZbP f).bind fun y6 =>
  ((Z7 (t9 (Xb y4 y6)) (r_.bank.memories, r_.bank.spots, r_.copies, r_.frozen, r_.stopped, r_.last, r_.some_, power, 0)) : Option ((Int × Bool × Int × ring_Recorder) ⊕ ((List api_Memory) × (List ring_spot) × Int × Bool × Bool × Int × Bool × Int))).bind (Sum.elim (fun q' => some q') (t8 fun (memories : List api_Memory) (spots : List ring_spot) (copies : Int) (frozen : Bool) (stopped : Bool) (last : Int) (some_ : Bool) (power2 : Int) =>
  some (power2, true, 0, (ring_Recorder.mk (ring_bank.mk memories spots) copies frozen stopped y3.1 true))))
theorem ZcQ (r_ : ring_Recorder) (f : Vector Int 64) (power : Int) : Le (XO r_ f power) (QF r_ f power) := by
  unfold XO QF
  with_reducible repeat' (first | exact Le.refl _ | apply Le.bind | apply Le.ite | apply Le.loop | apply Le.t8 | apply Le.t9 | apply Le.elim | apply Zdz | apply ZdI | apply Zdo | apply Zf7 | apply ZeL | apply Zfz | apply Zcj | intro _)

noncomputable def Xp (r_ : ring_Recorder) : Option (List api_Memory) :=
  (Zam r_.bank.memories).bind fun y =>
  some y
theorem Zcp (r_ : ring_Recorder) : Le (Xp r_) (Qo r_) := by
  unfold Xp Qo
  with_reducible repeat' (first | exact Le.refl _ | apply Le.bind | apply Zdk | intro _)

noncomputable def Zcn (p : Vector Int 96) (i : Int) : Option Int :=
  (quo .i64 i 2).bind fun q =>
  (rem i 2).bind fun q2 =>
  if (decide (q2 = 0)) = true then
  (ZH p (i64 (q * 3))).bind fun x =>
  (shl .u16 (u16 x) 4).bind fun q3 =>
  (ZH p (i64 ((i64 (q * 3)) + 1))).bind fun x2 =>
  (shr .u16 (u16 x2) 4).bind fun q4 =>
  some (bor .u16 q3 q4)
  else
  (ZH p (i64 ((i64 (q * 3)) + 1))).bind fun x3 =>
  (shl .u16 (Xk .u16 (u16 x3) 15) 8).bind fun q5 =>
  (ZH p (i64 ((i64 (q * 3)) + 2))).bind fun x4 =>
  some (bor .u16 q5 (u16 x4))
theorem Zf6 (p : Vector Int 96) (i : Int) : Le (Zcn p i) (ZaC p i) := by
  unfold Zcn ZaC
  with_reducible repeat' (first | exact Le.refl _ | apply Le.bind | apply Le.ite | intro _)

noncomputable def ZbK (p : Vector Int 96) (f2 : Vector Int 64) (i : Int) : Option (((Vector Int 64) × Int) ⊕ ((Vector Int 64))) :=
  if (decide (i < 64)) = true then
  (Zcn p i).bind fun y =>
  (ZH f2 i).bind fun x =>
  some (.inl ((Xv f2 i y), (i64 (i + 1))))
  else
  some (.inr f2)
theorem ZfI (p : Vector Int 96) (f2 : Vector Int 64) (i : Int) : Le (ZbK p f2 i) (Zbo p f2 i) := by
  unfold ZbK Zbo
  with_reducible repeat' (first | exact Le.refl _ | apply Le.bind | apply Le.ite | apply Zf6 | intro _)

noncomputable def Zdg (p : Vector Int 96) : Option (Vector Int 64) :=
  ((Z7 (t2 (ZbK p)) ((Vector.replicate 64 0), 0)) : Option (((Vector Int 64)))).bind (t1 fun (f : Vector Int 64) =>
  some f)
theorem Zg3 (p : Vector Int 96) : Le (Zdg p) (Zcl p) := by
  unfold Zdg Zcl
  with_reducible repeat' (first | exact Le.refl _ | apply Le.bind | apply Le.loop | apply Le.t1 | apply Le.t2 | apply ZfI | intro _)

noncomputable def Zav (b : List Int) : Option ((Vector Int 64) × Int) :=
  if (decide ((b.length : Int) < 96)) = true then
  some ((#v[0, 0, 0, 0, 0, 0, 0, 0, 0, 0, 0, 0, 0, 0, 0, 0, 0, 0, 0, 0, 0, 0, 0, 0, 0, 0, 0, 0, 0, 0, 0, 0, 0, 0, 0, 0, 0, 0, 0, 0, 0, 0, 0, 0, 0, 0, 0, 0, 0, 0, 0, 0, 0, 0, 0, 0, 0, 0, 0, 0, 0, 0, 0, 0] : Vector Int 64), 3)
  else
  (slc b 0 96).bind fun l =>
  (tov 96 l).bind fun v =>
  (Zdg v).bind fun y =>
  some (y, 0)
theorem ZeM (b : List Int) : Le (Zav b) (XS b) := by
  unfold Zav XS
  with_reducible repeat' (first | exact Le.refl _ | apply Le.bind | apply Le.ite | apply Zg3 | intro _)

noncomputable def Zaz (i : Int) (x : api_Memory) (x2 : Int) (y3 : Int × Bool × Bool) (out6 : List api_Kept) (i3 : Int) : Option (((List api_Kept) × Int) ⊕ ((List api_Kept))) :=
  if (decide (i3 < x.Slots)) = true then
  (idx x.Sectors x2).bind fun x4 =>
  (Zbl x4 i3).bind fun y4 =>
  (ZaZ y4).bind fun y5 =>
  if (decide (y5 = 1)) = true then
  (slc y4.toList 0 (97 : Int)).bind fun l2 =>
  (Zav l2).bind fun y6 =>
  (apz 160 out6 ([(api_Kept.mk i x2 y3.1 i3 y6.1)] : List api_Kept)).bind fun l3 =>
  some (.inl (l3, (i64 (i3 + 1))))
  else
  some (.inl (out6, (i64 (i3 + 1))))
  else
  some (.inr out6)
theorem Zew (i : Int) (x : api_Memory) (x2 : Int) (y3 : Int × Bool × Bool) (out6 : List api_Kept) (i3 : Int) : Le (Zaz i x x2 y3 out6 i3) (JQ i x x2 y3 out6 i3) := by
  unfold Zaz JQ
  with_reducible repeat' (first | exact Le.refl _ | apply Le.bind | apply Le.ite | apply ZdK | apply Zdl | apply ZeM | intro _)

noncomputable def Zax (i : Int) (x : api_Memory) (y2 : (List Int)) (out4 : List api_Kept) (i2 : Int) : Option (((List api_Kept) × Int) ⊕ ((List api_Kept))) :=
  if (decide (i2 < (y2.length : Int))) = true then
  (((idx y2 i2).bind fun x2 =>
  (idx x.Sectors x2).bind fun x3 =>
  (Jk x3).bind fun y3 =>
  Z7 (t2 (Zaz i x x2 y3)) (out4, 0)) : Option (((List api_Kept)))).bind (t1 fun (out5 : List api_Kept) =>
  some (.inl (out5, (i64 (i2 + 1)))))
  else
  some (.inr out4)
theorem Zez (i : Int) (x : api_Memory) (y2 : (List Int)) (out4 : List api_Kept) (i2 : Int) : Le (Zax i x y2 out4 i2) (JX i x y2 out4 i2) := by
  unfold Zax JX
  with_reducible repeat' (first | exact Le.refl _ | apply Le.bind | apply Le.ite | apply Le.loop | apply Le.t1 | apply Le.t2 | apply ZaK | apply Zew | intro _)

noncomputable def Zap (l : List api_Memory) (out2 : List api_Kept) (i : Int) : Option (((List api_Kept) × Int) ⊕ ((List api_Kept))) :=
  if (decide (i < (l.length : Int))) = true then
  (((idx l i).bind fun x =>
  (ZaI x).bind fun y2 =>
  Z7 (t2 (Zax i x y2)) (out2, 0)) : Option (((List api_Kept)))).bind (t1 fun (out3 : List api_Kept) =>
  some (.inl (out3, (i64 (i + 1)))))
  else
  some (.inr out2)
theorem Zeu (l : List api_Memory) (out2 : List api_Kept) (i : Int) : Le (Zap l out2 i) (JR l out2 i) := by
  unfold Zap JR
  with_reducible repeat' (first | exact Le.refl _ | apply Le.bind | apply Le.ite | apply Le.loop | apply Le.t1 | apply Le.t2 | apply Zdp | apply Zez | intro _)

noncomputable def Zcg (l : List api_Memory) : Option ((List api_Kept) × Int) :=
  (JW l).bind fun y =>
  if (!decide (y = 0)) = true then
  some ([], y)
  else
  ((Z7 (t2 (Zap l)) ([], 0)) : Option (((List api_Kept)))).bind (t1 fun (out : List api_Kept) =>
  some (out, 0))
theorem Zgb (l : List api_Memory) : Le (Zcg l) (Zal l) := by
  unfold Zcg Zal
  with_reducible repeat' (first | exact Le.refl _ | apply Le.bind | apply Le.ite | apply Le.loop | apply Le.t1 | apply Le.t2 | apply ZcW | apply Zeu | intro _)

noncomputable def Zbb (y : (List api_Kept) × Int) (best2 : List (Int × api_Kept)) (numbers2 : List Int) (i : Int) : Option (((List (Int × api_Kept)) × (List Int) × Int) ⊕ ((List (Int × api_Kept)) × (List Int))) :=
  if (decide (i < (y.1.length : Int))) = true then
  (idx y.1 i).bind fun x =>
  (Zbn x.Frame).bind fun y2 =>
  if (decide (0 < (y2.length : Int))) = true then
  some (.inl (best2, numbers2, (i64 (i + 1))))
  else
  (Zar x.Frame).bind fun y3 =>
  (some (Ze7 kqI best2 y3.1)).bind fun o =>
  ((if (!o.isSome) = true then
  (apz 8 numbers2 ([y3.1] : List Int)).bind fun l2 =>
  some l2
  else
  some numbers2) : Option (((List Int)))).bind (t1 fun (numbers3 : List Int) =>
  if ((!o.isSome) || (decide (((o.getD (api_Kept.mk 0 0 0 0 (Vector.replicate 64 0))).Sequence) < x.Sequence))) = true then
  some (.inl ((ZhW kqI best2 y3.1 x), numbers3, (i64 (i + 1))))
  else
  some (.inl (best2, numbers3, (i64 (i + 1)))))
  else
  some (.inr (best2, numbers2))
theorem Zfm (y : (List api_Kept) × Int) (best2 : List (Int × api_Kept)) (numbers2 : List Int) (i : Int) : Le (Zbb y best2 numbers2 i) (Zau y best2 numbers2 i) := by
  unfold Zbb Zau
  with_reducible repeat' (first | exact Le.refl _ | apply Le.bind | apply Le.ite | apply Le.t1 | apply ZdI | apply Zdo | intro _)

noncomputable def Za7 (best : List (Int × api_Kept)) (y4 : List Int) (out2 : List (Vector Int 64)) (i2 : Int) : Option (((List (Vector Int 64)) × Int) ⊕ ((List (Vector Int 64)))) :=
  if (decide (i2 < (y4.length : Int))) = true then
  (idx y4 i2).bind fun x2 =>
  (some ((Ze7 kqI best x2).getD (api_Kept.mk 0 0 0 0 (Vector.replicate 64 0)))).bind fun o2 =>
  (apz 128 out2 ([o2.Frame] : List (Vector Int 64))).bind fun l3 =>
  some (.inl (l3, (i64 (i2 + 1))))
  else
  some (.inr out2)
theorem Zfj (best : List (Int × api_Kept)) (y4 : List Int) (out2 : List (Vector Int 64)) (i2 : Int) : Le (Za7 best y4 out2 i2) (Zat best y4 out2 i2) := by
  unfold Za7 Zat
  with_reducible repeat' (first | exact Le.refl _ | apply Le.bind | apply Le.ite | intro _)

noncomputable def ZcO (l : List api_Memory) : Option ((List (Vector Int 64)) × Int) :=
  (Zcg l).bind fun y =>
  if (!decide (y.2 = 0)) = true then
  some ([], y.2)
  else
  ((Z7 (t3 (Zbb y)) (([] : List (Int × api_Kept)), [], 0)) : Option (((List (Int × api_Kept)) × (List Int)))).bind (t2 fun (best : List (Int × api_Kept)) (numbers : List Int) =>
  (Zkg numbers).bind fun y4 =>
  ((Z7 (t2 (Za7 best y4)) ([], 0)) : Option (((List (Vector Int 64))))).bind (t1 fun (out : List (Vector Int 64)) =>
  some (out, 0)))
theorem Zgy (l : List api_Memory) : Le (ZcO l) (Zbw l) := by
  unfold ZcO Zbw
  with_reducible repeat' (first | exact Le.refl _ | apply Le.bind | apply Le.ite | apply Le.loop | apply Le.t1 | apply Le.t2 | apply Le.t3 | apply Zgb | apply Zfm | apply Zfj | apply Zjp | intro _)

noncomputable def ZdJ : Option Bool :=
  (mkz 8 58 0).bind fun l =>
  (ZeG 4 l).bind fun y =>
  (Zba 2 1 3).bind fun y2 =>
  if (!decide (y2.2 = 0)) = true then
  some false
  else
  (Zc2 ([y2.1] : List api_Memory) 1).bind (Sum.elim (fun y3 =>
  if (!decide (y3 = 0)) = true then
  some false
  else
  none) (fun y3 =>
  if (!decide (y3.2 = 0)) = true then
  some false
  else
  (XO y3.1 y.1 109).bind fun y4 =>
  (Xp y4.2.2.2).bind fun y5 =>
  (ZcO y5).bind fun y6 =>
  (gd ((((((decide (y4.1 = 1)) && y4.2.1) && (decide (y4.2.2.1 = 0))) && (decide (y6.2 = 0))) && (decide ((y6.1.length : Int) = 1))) == true) (Vector.replicate 64 0) (idx y6.1 0)).bind fun x =>
  some ((((((decide (y4.1 = 1)) && y4.2.1) && (decide (y4.2.2.1 = 0))) && (decide (y6.2 = 0))) && (decide ((y6.1.length : Int) = 1))) && (decide (x = y.1)))))
theorem ZhB : Le (ZdJ ) (Zb3 ) := by
  unfold ZdJ Zb3
  with_reducible repeat' (first | exact Le.refl _ | apply Le.bind | apply Le.ite | apply Le.gd | apply Le.elim | apply Zh9 | apply Zfe | apply Zg1 | apply ZcQ | apply Zcp | apply Zgy | intro _)
end Go.Vx

namespace Go.Vx
open Go Go.RowKit
theorem ZkD : ZdJ = some true := by decide +kernel
theorem Zhz : Zb3 = some true := ZhB true ZkD
end Go.Vx

namespace Go.Vx
open Go Go.RowKit
theorem ZkP {α : Type} {s : Nat} {xs ys : List α} (h : xs.length + ys.length ≤ 140737488355328 / s) : apz s xs ys = some (xs ++ ys) := by unfold apz; rw [if_pos h]
theorem ixr {n k x : Nat} (h : (List.range n)[k]? = some x) : x = k ∧ k < n := by
  have hl := (List.getElem?_eq_some_iff.1 h).1
  rw [List.length_range] at hl
  rw [List.getElem?_range hl] at h
  cases h; exact ⟨rfl, hl⟩
theorem Zjv {β : Type} {n : Nat} {body : List β → Int → Option ((List β × Int) ⊕ List β)} (g : Nat → β)
    (hstep : ∀ (k : Nat) acc, k < n → acc.length = k → body acc k = some (.inl (acc ++ [g k], (k : Int) + 1)))
    (hend : ∀ acc, body acc n = some (.inr acc)) : loop (t2 body) ([], 0) = some ((List.range n).map g) :=
  ZjB g (fun k x acc hx ha => by obtain ⟨rfl, h⟩ := ixr hx; exact hstep _ acc h ha) (fun acc => by rw [List.length_range]; exact hend acc)
theorem Zj0 {α : Type} [DecidableEq α] {a b : List α} {body : Int → Option (Int ⊕ (Bool ⊕ Unit))} (hl : a.length = b.length)
    (h : ∀ (k : Nat) x y, a[k]? = some x → b[k]? = some y → body k = if x = y then some (.inl ((k : Int) + 1)) else some (.inr (.inl false)))
    (hend : body a.length = some (.inr (.inr ()))) : loop (t1 body) 0 = some (if a = b then .inr () else .inl false) := by
  refine (Zjm (xs := a) (fun k => if a.drop k = b.drop k then (.inr () : Bool ⊕ Unit) else .inl false) (fun k x hx => ?_) ?_).trans (by simp)
  · have hk := (List.getElem?_eq_some_iff.1 hx).1
    obtain ⟨y, hy⟩ := Zio (xs := b) (k := k) (by omega)
    rw [h k x y hx hy, ZfF hx, ZfF hy]
    by_cases e : x = y
    · left; subst e; refine ⟨by rw [if_pos rfl], ?_⟩
      simp
    · right; rw [if_neg e, if_neg (by simp [e])]
  · rw [hend, if_pos (by rw [List.drop_length, hl, List.drop_length])]
theorem eqI {a b : List Int} (ha : a.length ≤ 9223372036854775807) : QK a b = some (decide (a = b)) := by
  unfold QK
  by_cases hl : a.length = b.length
  · rw [if_neg (by simp [hl]), Zj0 (a := a) (b := b) hl (fun k x y hx hy => ?_) (by simp [QN])]
    · by_cases e : a = b <;> simp [e]
    · have hlt := Zlb hx
      simp only [QN, hlt, decide_true, if_true, ZjO hx, ZjO hy, Option.bind_some]
      rw [show i64 ((k : Int) + 1) = (k : Int) + 1 from Ziq (by omega) (by omega)]
      by_cases e : x = y <;> simp [e]
  · rw [if_pos (by simpa using fun e => hl (by omega))]
    rw [decide_eq_false (fun e => hl (by rw [e]))]
theorem Zll {number memories copies : Int} (h1 : 0 ≤ number ∧ number ≤ 4194303) (h2 : 1 ≤ memories ∧ memories ≤ 8) (h3 : 1 ≤ copies ∧ copies ≤ memories) :
    loop (t2 (ring_targets_L1 number memories copies)) ([], 0) = some ((List.range copies.toNat).map fun (k : Nat) => (number + (k : Int)).tmod memories) := by
  refine Zjv (fun (k : Nat) => (number + (k : Int)).tmod memories) (fun k acc hk ha => ?_) (fun acc => ?_)
  · unfold ring_targets_L1
    rw [if_pos (by simp; omega), show i64 (number + (k : Int)) = number + k from Ziq (by omega) (by omega), show i64 ((k : Int) + 1) = (k : Int) + 1 from Ziq (by omega) (by omega)]
    unfold rem
    rw [if_neg (by omega), Option.bind_some, ZkP (by simp; omega)]; rfl
  · unfold ring_targets_L1
    rw [if_neg (by simp; omega)]
theorem ZkM : ZbC = ring_targets_L1 := rfl
theorem Zhp (number memories copies : Int) : Qw number memories copies = some true := by
  unfold Qw ZbU Zb0 ZM Jw
  rw [ZkM]
  by_cases h1 : 0 ≤ number ∧ number ≤ 4194303
  · by_cases h2 : 1 ≤ memories ∧ memories ≤ 8
    · by_cases h3 : 1 ≤ copies ∧ copies ≤ memories
      · have hn : ¬ number < 0 := by omega
        have hn2 : ¬ 4194303 < number := by omega
        have hm : ¬ memories < 1 := by omega
        have hm2 : ¬ 8 < memories := by omega
        have hc : ¬ copies < 1 := by omega
        have hc2 : ¬ memories < copies := by omega
        simp [h1.1, h1.2, h2.1, h2.2, h3.1, h3.2, hn, hn2, hm, hm2, hc, hc2, gd, XR, Zll h1 h2 h3, eqI (a := (List.range copies.toNat).map fun (k : Nat) => (number + (k : Int)).tmod memories) (by simp; omega), Zhz]
      · have hc : (decide (1 ≤ copies) && decide (copies ≤ memories)) = false := by simpa using h3
        have hc2 : (decide (copies < 1) || decide (memories < copies)) = true := by simp; omega
        have hn : ¬ number < 0 := by omega
        have hn2 : ¬ 4194303 < number := by omega
        have hm : ¬ memories < 1 := by omega
        have hm2 : ¬ 8 < memories := by omega
        simp [h1.1, h1.2, h2.1, h2.2, hc, hc2, hn, hn2, hm, hm2, gd, eqI, Zhz]
    · have hc : (decide (1 ≤ memories) && decide (memories ≤ 8)) = false := by simpa using h2
      have hc2 : (decide (memories < 1) || decide (8 < memories)) = true := by simp; omega
      have hn : ¬ number < 0 := by omega
      have hn2 : ¬ 4194303 < number := by omega
      simp [h1.1, h1.2, hc, hc2, hn, hn2, gd, eqI, Zhz]
  · have hc : (decide (0 ≤ number) && decide (number ≤ 4194303)) = false := by simpa using h1
    have hc2 : (decide (number < 0) || decide (4194303 < number)) = true := by simp; omega
    simp [hc, hc2, gd, eqI, Zhz]
end Go.Vx
