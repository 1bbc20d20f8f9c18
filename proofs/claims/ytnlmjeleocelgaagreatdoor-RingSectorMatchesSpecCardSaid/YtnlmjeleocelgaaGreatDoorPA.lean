/- A text of the proof: a verified executor of the program form, or the contracts of the functions that the law reaches. -/
import Derived.Test.YtnlmjeleocelgaaGreatDoorShT
import Derived.Test.YtnlmjeleocelgaaGreatDoorShLib
set_option linter.all false
namespace Go.Vx
open Go Go.RowKit
theorem lnb {α β : Type} {x : Option α} {f : α → Option β} {r : β} (h : x.bind f = some r) : ∃ a, x = some a ∧ f a = some r := Option.bind_eq_some_iff.1 h
theorem JT {s : List Int} {at_ : Int} {data : List Int} {power : Int} {r : Int × Bool × List Int} (h : Q7 s at_ data power = some r) : r.2.2.length = s.length := by
  unfold Q7 at h
  obtain ⟨q, hq, h⟩ := lnb h
  have hQ : Sum.elim (fun q : Int × Bool × List Int => q.2.2.length = s.length) (fun q : List Int × Int => q.1.length = s.length) q := by
    refine ZbG (body := t3 (QH at_ data)) (fun x => x.1.length = s.length) (fun q => Sum.elim (fun q : Int × Bool × List Int => q.2.2.length = s.length) (fun q : List Int × Int => q.1.length = s.length) q) ?_ ?_ rfl hq
    · rintro ⟨o, p, i⟩ s' hs hb
      simp only [ZjL] at hb hs
      unfold QH at hb
      split at hb
      · obtain ⟨x, _, hb⟩ := lnb hb
        split at hb
        · obtain ⟨_, _, hb⟩ := lnb hb
          obtain ⟨_, _, hb⟩ := lnb hb
          cases hb
        · obtain ⟨_, _, hb⟩ := lnb hb
          obtain ⟨_, _, hb⟩ := lnb hb
          cases hb
          simpa using hs
      · cases hb
    · rintro ⟨o, p, i⟩ s' hs hb
      simp only [ZjL] at hb hs
      unfold QH at hb
      split at hb
      · obtain ⟨x, _, hb⟩ := lnb hb
        split at hb
        · obtain ⟨_, _, hb⟩ := lnb hb
          obtain ⟨_, _, hb⟩ := lnb hb
          cases hb
          simpa using hs
        · obtain ⟨_, _, hb⟩ := lnb hb
          obtain ⟨_, _, hb⟩ := lnb hb
          cases hb
      · cases hb; exact hs
  cases q with
  | inl q => cases h; exact hQ
  | inr q => cases h; exact hQ
theorem Ze1 {s : List Int} {power : Int} {r : Int × Bool × List Int} (h : QM s power = some r) : r.2.2.length = s.length := by
  unfold QM at h
  split at h
  · obtain ⟨q, _, h⟩ := lnb h
    obtain ⟨_, _, h⟩ := lnb h
    obtain ⟨o, ho, h⟩ := lnb h
    cases h
    refine ZbG (body := t2 (Qm q)) (fun x => x.1.length = s.length) (fun o => o.length = s.length) ?_ ?_ rfl ho
    · rintro ⟨o, i⟩ s' hs hb
      simp only [Zes] at hb hs
      unfold Qm at hb
      split at hb
      · obtain ⟨_, _, hb⟩ := lnb hb
        obtain ⟨_, _, hb⟩ := lnb hb
        cases hb
        simpa using hs
      · cases hb
    · rintro ⟨o, i⟩ s' hs hb
      simp only [Zes] at hb hs
      unfold Qm at hb
      split at hb
      · obtain ⟨_, _, hb⟩ := lnb hb
        obtain ⟨_, _, hb⟩ := lnb hb
        cases hb
      · cases hb; exact hs
  · obtain ⟨o, ho, h⟩ := lnb h
    cases h
    refine ZbG (body := t2 (Ql s)) (fun x => x.1.length = s.length) (fun o => o.length = s.length) ?_ ?_ rfl ho
    · rintro ⟨o, i⟩ s' hs hb
      simp only [Zes] at hb hs
      unfold Ql at hb
      split at hb
      · obtain ⟨_, _, hb⟩ := lnb hb
        cases hb
        simpa using hs
      · cases hb
    · rintro ⟨o, i⟩ s' hs hb
      simp only [Zes] at hb hs
      unfold Ql at hb
      split at hb
      · obtain ⟨_, _, hb⟩ := lnb hb
        cases hb
      · cases hb; exact hs
theorem Z4 {data : List Int} {a b : Int} {cmp : Int → Int → Option Int} {r : List Int} (h : Zx data a b cmp = some r) : r.length = data.length := by
  unfold Zx at h
  refine ZbG (body := t2 (ZA a b cmp)) (fun x => x.1.length = data.length) (fun o => o.length = data.length) ?_ ?_ rfl h
  · rintro ⟨o, i⟩ s' hs hb
    simp only [Zes] at hb hs
    unfold ZA at hb
    split at hb
    · obtain ⟨o2, h2, hb⟩ := lnb hb
      cases hb
      refine ZbG (body := t2 (Zz a cmp)) (fun x => x.1.length = data.length) (fun o => o.length = data.length) ?_ ?_ hs h2
      · rintro ⟨o, j⟩ s' hs hb
        simp only [Zes] at hb hs
        unfold Zz at hb
        obtain ⟨_, _, hb⟩ := lnb hb
        obtain ⟨_, _, hb⟩ := lnb hb
        obtain ⟨_, _, hb⟩ := lnb hb
        split at hb
        · obtain ⟨_, _, hb⟩ := lnb hb
          obtain ⟨_, _, hb⟩ := lnb hb
          obtain ⟨_, _, hb⟩ := lnb hb
          obtain ⟨_, _, hb⟩ := lnb hb
          cases hb
          simpa using hs
        · cases hb
      · rintro ⟨o, j⟩ s' hs hb
        simp only [Zes] at hb hs
        unfold Zz at hb
        obtain ⟨_, _, hb⟩ := lnb hb
        obtain ⟨_, _, hb⟩ := lnb hb
        obtain ⟨_, _, hb⟩ := lnb hb
        split at hb
        · obtain ⟨_, _, hb⟩ := lnb hb
          obtain ⟨_, _, hb⟩ := lnb hb
          obtain ⟨_, _, hb⟩ := lnb hb
          obtain ⟨_, _, hb⟩ := lnb hb
          cases hb
        · cases hb; exact hs
    · cases hb
  · rintro ⟨o, i⟩ s' hs hb
    simp only [Zes] at hb hs
    unfold ZA at hb
    split at hb
    · obtain ⟨o2, h2, hb⟩ := lnb hb
      cases hb
    · cases hb; exact hs
theorem Zbl {x : List Int} {cmp : Int → Int → Option Int} {r : List Int} (h : ZK x cmp = some r) : r.length = x.length := by
  unfold ZK at h
  obtain ⟨y, hy, h⟩ := lnb h
  cases h
  unfold Qc at hy
  obtain ⟨⟨o, a⟩, ho, hy⟩ := lnb hy
  simp only [Zes] at hy
  obtain ⟨y2, hy2, hy⟩ := lnb hy
  have h1 : o.length = x.length := by
    refine ZbG (body := t3 (ZL (x.length : Int) cmp)) (fun s => s.1.length = x.length) (fun q => q.1.length = x.length) ?_ ?_ rfl ho
    · rintro ⟨o, a, b⟩ s' hs hb
      simp only [ZjL] at hb hs
      unfold ZL at hb
      split at hb
      · obtain ⟨z, hz, hb⟩ := lnb hb
        cases hb
        exact (Z4 hz).trans hs
      · cases hb
    · rintro ⟨o, a, b⟩ s' hs hb
      simp only [ZjL] at hb hs
      unfold ZL at hb
      split at hb
      · obtain ⟨z, hz, hb⟩ := lnb hb
        cases hb
      · cases hb; exact hs
  have h2 : y2.length = x.length := (Z4 hy2).trans h1
  refine ZbG (body := t1 (ZS (x.length : Int) y2)) (fun _ => True) (fun q => q.length = x.length) (fun _ _ _ _ => trivial) ?_ trivial hy
  intro b s' _ hb
  simp only [Zia] at hb
  unfold ZS at hb
  split at hb
  · obtain ⟨_, _, hb⟩ := lnb hb
    simp only [t0] at hb
    split at hb
    · cases hb
    · cases hb
  · cases hb; exact h2
end Go.Vx

namespace Go.Vx
open Go Go.RowKit
theorem ZY {z : Int} (h1 : -9223372036854775808 ≤ z) (h2 : z ≤ 9223372036854775807) : IntKind.i64.wrap z = z := w64 h1 h2
@[simp] theorem Znr {α : Type} {d : α} {o : Option α} : gd true d o = o := rfl
@[simp] theorem Znq {α : Type} {d : α} {o : Option α} : gd false d o = some d := rfl
@[simp] theorem Zno {α : Type} {d : α} {o : Option α} : gd (true == true) d o = o := rfl
theorem ZdU {α : Type} {xs : List α} {k : Nat} {x : α} (h : xs[k]? = some x) : idx xs (k : Int) = some x := by simp [idx, h]
theorem Zk6 {α : Type} {xs : List α} {k : Nat} {x : α} (h : xs[k]? = some x) : (k : Int) < (xs.length : Int) := by
  have := (List.getElem?_eq_some_iff.1 h).1; omega
theorem Zjl {α : Type} {xs : List α} {k : Nat} (h : k < xs.length) : ∃ x, xs[k]? = some x := ⟨xs[k], List.getElem?_eq_getElem h⟩
theorem Zdt {α : Type} {xs : List α} {k : Nat} {x : α} (h : xs[k]? = some x) : xs.drop k = x :: xs.drop (k + 1) := by
  obtain ⟨hk, rfl⟩ := List.getElem?_eq_some_iff.1 h
  exact List.drop_eq_getElem_cons hk
section loops
variable {σ ρ : Type}
theorem Zip {body : σ → Option (σ ⊕ ρ)} (I : σ → Prop) (μ : σ → Nat) (F : σ → ρ) (step : ∀ s, I s → (∃ s', body s = some (.inl s') ∧ I s' ∧ μ s' < μ s ∧ F s = F s') ∨ body s = some (.inr (F s))) :
    ∀ s, I s → loop body s = some (F s) := by
  intro s hs
  obtain ⟨r, h1, h2⟩ := Zll (body := body) (fun s' => I s' ∧ F s = F s') μ (fun r => r = F s) (fun s' ⟨h1, h2⟩ => by
    rcases step s' h1 with ⟨s2, e1, e2, e3, e4⟩ | e
    · exact .inl ⟨s2, e1, ⟨e2, h2.trans e4⟩, e3⟩
    · exact .inr ⟨_, e, h2.symm⟩) s ⟨hs, rfl⟩
  rw [h1, h2]
variable {α : Type} {xs : List α}
theorem Zhn {body : Int → Option (Int ⊕ ρ)} (F : Nat → ρ)
    (hstep : ∀ (k : Nat) x, xs[k]? = some x → (body k = some (.inl ((k : Int) + 1)) ∧ F k = F (k + 1)) ∨ body k = some (.inr (F k)))
    (hend : body xs.length = some (.inr (F xs.length))) : loop (t1 body) 0 = some (F 0) := by
  refine Zip (body := t1 body) (fun i => ∃ k : Nat, i = k ∧ k ≤ xs.length) (fun i => xs.length - i.toNat) (fun i => F i.toNat) ?_ 0 ⟨0, rfl, Nat.zero_le _⟩
  rintro i ⟨k, rfl, hk⟩
  simp only [Int.toNat_natCast, Zia]
  rcases Nat.lt_or_ge k xs.length with h | h
  · obtain ⟨x, hx⟩ := Zjl h
    rcases hstep k x hx with ⟨h1, h2⟩ | h1
    · exact .inl ⟨_, h1, ⟨k + 1, by push_cast; rfl, h⟩, by omega, by rw [h2]; rfl⟩
    · exact .inr h1
  · have : k = xs.length := by omega
    subst this
    exact .inr hend
end loops
end Go.Vx

namespace Go.Vx
open Go Go.RowKit
section err
variable {α ε : Type}
def Zj0 {ρ : Type} (A : ε → ρ) (Z : ρ) : Option ε → ρ
  | some e => A e
  | none => Z
@[simp] theorem Zmn {ρ : Type} (A : ε → ρ) (Z : ρ) (e : ε) : Zj0 A Z (some e) = A e := rfl
@[simp] theorem Zmj {ρ : Type} (A : ε → ρ) (Z : ρ) : Zj0 A Z none = Z := rfl
def ZgA (g : α → Option ε) : List α → Option ε
  | [] => none
  | x :: tl => match g x with | some e => some e | none => ZgA g tl
theorem Zkl {ρ : Type} {xs : List α} (g : α → Option ε) (A : ε → ρ) (Z : ρ) {body : Int → Option (Int ⊕ ρ)}
    (h : ∀ (k : Nat) x, xs[k]? = some x → body k = match g x with | some e => some (.inr (A e)) | none => some (.inl ((k : Int) + 1)))
    (hend : body xs.length = some (.inr Z)) : loop (t1 body) 0 = some (Zj0 A Z (ZgA g xs)) := by
  refine Zhn (xs := xs) (fun k => Zj0 A Z (ZgA g (xs.drop k))) (fun k x hx => ?_) ?_
  · rw [h k x hx, Zdt hx]
    simp only [ZgA]
    cases hg : g x with
    | some e => right; rfl
    | none => left; exact ⟨rfl, rfl⟩
  · rw [hend]; simp [ZgA]
end err
theorem Zk7 {α β : Type} {xs : List α} {body : List β → Int → Option ((List β × Int) ⊕ (List β))} (g : α → β)
    (hstep : ∀ (k : Nat) x acc, xs[k]? = some x → acc.length = k → body acc k = some (.inl (acc ++ [g x], (k : Int) + 1)))
    (hend : ∀ acc, body acc xs.length = some (.inr acc)) : loop (t2 body) ([], 0) = some (xs.map g) := by
  refine (Zip (body := t2 body) (fun p => ∃ k : Nat, p.2 = k ∧ k ≤ xs.length ∧ p.1.length = k) (fun p => xs.length - p.2.toNat) (fun p => p.1 ++ (xs.drop p.2.toNat).map g) ?_ ([], 0) ⟨0, rfl, Nat.zero_le _, rfl⟩).trans (by simp)
  rintro ⟨acc, i⟩ ⟨k, hi, hk, ha⟩
  simp only at hi ha
  subst hi
  simp only [Zes, Int.toNat_natCast]
  rcases Nat.lt_or_ge k xs.length with h | h
  · obtain ⟨x, hx⟩ := Zjl h
    left
    refine ⟨_, hstep k x acc hx ha, ⟨k + 1, by push_cast; rfl, h, by simp [ha]⟩, by simp only; omega, ?_⟩
    rw [Zdt hx]
    simp
  · have : k = xs.length := by omega
    subst this
    right
    rw [hend]; simp
end Go.Vx

namespace Go.Vx
open Go Go.RowKit
def Qg {σ ρ : Type} (b : σ → Option (σ ⊕ ρ)) (s : σ) : Option ρ :=
  Nat.rec (motive := fun _ => σ → Option ρ) (fun _ => none) (fun _ ih s => match b s with | none => none | some (.inl s') => ih s' | some (.inr r) => some r) 1000000 s
def Le {α : Type} (a b : Option α) : Prop := ∀ r, a = some r → b = some r
theorem Le.refl {α : Type} (a : Option α) : Le a a := fun _ h => h
section
variable {α β γ δ ε ζ η θ ι κ σ ρ : Type}
theorem Le.bind {a b : Option α} {f g : α → Option β} (h : Le a b) (hf : ∀ x, Le (f x) (g x)) : Le (a.bind f) (b.bind g) := by
  intro r hr
  cases ha : a with
  | none => rw [ha] at hr; cases hr
  | some x => rw [ha] at hr; rw [h x ha]; exact hf x r hr
theorem Le.ite {c : Prop} [Decidable c] {a b a' b' : Option α} (h1 : Le a a') (h2 : Le b b') : Le (if c then a else b) (if c then a' else b') := by
  split
  · exact h1
  · exact h2
theorem Le.gd {g : Bool} {d : α} {a b : Option α} (h : Le a b) : Le (gd g d a) (gd g d b) := by
  cases g
  · exact fun r hr => hr
  · exact h
theorem Le.loop {b b' : σ → Option (σ ⊕ ρ)} {s : σ} (h : ∀ s, Le (b s) (b' s)) : Le (Qg b s) (loop b' s) := by
  have key : ∀ n s r, Nat.rec (motive := fun _ => σ → Option ρ) (fun _ => none) (fun _ ih s => match b s with | none => none | some (.inl s') => ih s' | some (.inr r) => some r) n s = some r → JN b' n s = some r := by
    intro n
    induction n with
    | zero => intro s r hr; cases hr
    | succ n ih =>
      intro s r hr
      simp only at hr
      cases hb : b s with
      | none => rw [hb] at hr; cases hr
      | some o =>
        rw [hb] at hr
        simp only [JN, h s o hb, Option.bind_some]
        cases o with
        | inl s' => exact ih s' r hr
        | inr r' => exact hr
  intro r hr
  exact ZdD (key 1000000 s r hr)
theorem Le.t0 {f g : Option κ} {p : Unit} (h : Le f g) : Le (t0 f p) (t0 g p) := h
theorem Le.t1 {f g : α → Option κ} {p : α} (h : ∀ a, Le (f a) (g a)) : Le (t1 f p) (t1 g p) := h _
theorem Le.t2 {f g : α → β → Option κ} {p : α × β} (h : ∀ a b, Le (f a b) (g a b)) : Le (t2 f p) (t2 g p) := h _ _
theorem Le.t3 {f g : α → β → γ → Option κ} {p : α × β × γ} (h : ∀ a b c, Le (f a b c) (g a b c)) : Le (t3 f p) (t3 g p) := h _ _ _
theorem Le.t4 {f g : α → β → γ → δ → Option κ} {p : α × β × γ × δ} (h : ∀ a b c d, Le (f a b c d) (g a b c d)) : Le (t4 f p) (t4 g p) := h _ _ _ _
theorem Le.t5 {f g : α → β → γ → δ → ε → Option κ} {p : α × β × γ × δ × ε} (h : ∀ a b c d e, Le (f a b c d e) (g a b c d e)) : Le (t5 f p) (t5 g p) := h _ _ _ _ _
theorem Le.t6 {f g : α → β → γ → δ → ε → ζ → Option κ} {p : α × β × γ × δ × ε × ζ} (h : ∀ a b c d e x, Le (f a b c d e x) (g a b c d e x)) : Le (t6 f p) (t6 g p) := h _ _ _ _ _ _
theorem Le.t7 {f g : α → β → γ → δ → ε → ζ → η → Option κ} {p : α × β × γ × δ × ε × ζ × η} (h : ∀ a b c d e x y, Le (f a b c d e x y) (g a b c d e x y)) : Le (t7 f p) (t7 g p) := h _ _ _ _ _ _ _
theorem Le.t8 {f g : α → β → γ → δ → ε → ζ → η → θ → Option κ} {p : α × β × γ × δ × ε × ζ × η × θ} (h : ∀ a b c d e x y z, Le (f a b c d e x y z) (g a b c d e x y z)) : Le (t8 f p) (t8 g p) := h _ _ _ _ _ _ _ _
theorem Le.t9 {ι : Type} {f g : α → β → γ → δ → ε → ζ → η → θ → ι → Option κ} {p : α × β × γ × δ × ε × ζ × η × θ × ι} (h : ∀ a b c d e x y z w, Le (f a b c d e x y z w) (g a b c d e x y z w)) : Le (t9 f p) (t9 g p) := h _ _ _ _ _ _ _ _ _
theorem Le.elim {f f' : α → Option κ} {g g' : β → Option κ} {s : α ⊕ β} (h1 : ∀ a, Le (f a) (f' a)) (h2 : ∀ b, Le (g b) (g' b)) : Le (Sum.elim f g s) (Sum.elim f' g' s) := by
  cases s with
  | inl a => exact h1 a
  | inr b => exact h2 b
end
end Go.Vx

namespace Go.Vx
open Go Go.RowKit
def Zl2 : List Int → Option (List Int)
  | [x] => some [x]
  | _ => none
theorem Zla (xs : List Int) : Le (Zl2 xs) (ZgD xs) := by
  intro r h
  match xs, h with
  | [x], h => cases h; unfold ZgD; rw [if_pos (by simp), List.mergeSort_singleton]
end Go.Vx

namespace Go.Vx
open Go Go.RowKit
set_option linter.unusedVariables false

noncomputable def Zdl (data : List Int) (f2 : Vector Int 64) (i : Int) : Option (((Vector Int 64) × Int) ⊕ ((Vector Int 64) × Int) ⊕ ((Vector Int 64))) :=
  if (decide (i < (data.length : Int))) = true then
  (idx data i).bind fun x3 =>
  if ((decide (x3 < 0)) || (decide (2047 < x3))) = true then
  some (.inr (.inl ((#v[0, 0, 0, 0, 0, 0, 0, 0, 0, 0, 0, 0, 0, 0, 0, 0, 0, 0, 0, 0, 0, 0, 0, 0, 0, 0, 0, 0, 0, 0, 0, 0, 0, 0, 0, 0, 0, 0, 0, 0, 0, 0, 0, 0, 0, 0, 0, 0, 0, 0, 0, 0, 0, 0, 0, 0, 0, 0, 0, 0, 0, 0, 0, 0] : Vector Int 64), 9)))
  else
  (ZH f2 (i64 (3 + i))).bind fun x4 =>
  some (.inl ((Q2 f2 (i64 (3 + i)) (u16 x3)), (i64 (i + 1))))
  else
  some (.inr (.inr f2))
theorem Zhy (data : List Int) (f2 : Vector Int 64) (i : Int) : Le (Zdl data f2 i) (Zc1 data f2 i) := by
  unfold Zdl Zc1
  with_reducible repeat' (first | exact Le.refl _ | apply Le.bind | apply Le.ite | intro _)

noncomputable def Zdd (n2 : Int) (ones2 : Int) : Option ((Int × Int) ⊕ (Int)) :=
  if (decide (0 < n2)) = true then
  (rem n2 2).bind fun q =>
  (quo .i64 n2 2).bind fun q2 =>
  some (.inl (q2, (i64 (ones2 + q))))
  else
  some (.inr ones2)
theorem Zhm (n2 : Int) (ones2 : Int) : Le (Zdd n2 ones2) (Zc3 n2 ones2) := by
  unfold Zdd Zc3
  with_reducible repeat' (first | exact Le.refl _ | apply Le.bind | apply Le.ite | intro _)

noncomputable def Zfb (n : Int) : Option Bool :=
  ((Qg (t2 (Zdd)) (n, 0)) : Option ((Int))).bind (t1 fun (ones : Int) =>
  (rem ones 2).bind fun q3 =>
  some (decide (q3 = 1)))
theorem Zji (n : Int) : Le (Zfb n) (Zez n) := by
  unfold Zfb Zez
  with_reducible repeat' (first | exact Le.refl _ | apply Le.bind | apply Le.loop | apply Le.t1 | apply Le.t2 | apply Zhm | intro _)

noncomputable def ZaG (data : Int) : Option Int :=
  (Zfb data).bind fun y =>
  if y = true then
  some data
  else
  some (i64 (data + 2048))
theorem ZdO (data : Int) : Le (ZaG data) (ZaI data) := by
  unfold ZaG ZaI
  with_reducible repeat' (first | exact Le.refl _ | apply Le.bind | apply Le.ite | apply Zji | intro _)

noncomputable def ZbA (f3 : Vector Int 64) (i : Int) : Option (((Vector Int 64) × Int) ⊕ ((Vector Int 64))) :=
  if (decide (i ≤ 60)) = true then
  (ZH f3 i).bind fun x =>
  (rem (i64 x) 2048).bind fun q =>
  (ZaG q).bind fun y =>
  (ZH f3 i).bind fun x2 =>
  some (.inl ((Q2 f3 i (u16 y)), (i64 (i + 1))))
  else
  some (.inr f3)
theorem ZfB (f3 : Vector Int 64) (i : Int) : Le (ZbA f3 i) (ZaW f3 i) := by
  unfold ZbA ZaW
  with_reducible repeat' (first | exact Le.refl _ | apply Le.bind | apply Le.ite | apply ZdO | intro _)

noncomputable def Zb7 (f : Vector Int 64) : Option Int :=
  (ZH f 1).bind fun x =>
  (rem (i64 x) 2048).bind fun q =>
  (ZH f 2).bind fun x2 =>
  (rem (i64 x2) 2048).bind fun q2 =>
  some (i64 (q + (i64 (q2 * 2048))))
theorem Zgj (f : Vector Int 64) : Le (Zb7 f) (Zae f) := by
  unfold Zb7 Zae
  with_reducible repeat' (first | exact Le.refl _ | apply Le.bind | intro _)

noncomputable def Zdj (number : Int) : Option Int :=
  (rem number 4).bind fun q =>
  (ZH (#v[583, 1464, 2631, 3512] : Vector Int 4) q).bind fun x =>
  some x
theorem ZhG (number : Int) : Le (Zdj number) (Zb0 number) := by
  unfold Zdj Zb0
  with_reducible repeat' (first | exact Le.refl _ | apply Le.bind | intro _)

noncomputable def Zdh (f : Vector Int 64) (x2 : Int) (i : Int) : Option ((Int × Int) ⊕ (Int)) :=
  if (decide (i ≤ 60)) = true then
  (ZH f i).bind fun x3 =>
  (rem (i64 x3) 2048).bind fun q =>
  some (.inl ((Zat .i64 x2 q), (i64 (i + 1))))
  else
  some (.inr x2)
theorem Zg7 (f : Vector Int 64) (x2 : Int) (i : Int) : Le (Zdh f x2 i) (ZcZ f x2 i) := by
  unfold Zdh ZcZ
  with_reducible repeat' (first | exact Le.refl _ | apply Le.bind | apply Le.ite | intro _)

noncomputable def Ze8 (f : Vector Int 64) : Option Int :=
  ((Qg (t2 (Zdh f)) (0, 1)) : Option ((Int))).bind (t1 fun (x : Int) =>
  some x)
theorem ZiJ (f : Vector Int 64) : Le (Ze8 f) (Zej f) := by
  unfold Ze8 Zej
  with_reducible repeat' (first | exact Le.refl _ | apply Le.bind | apply Le.loop | apply Le.t1 | apply Le.t2 | apply Zg7 | intro _)

noncomputable def Zca (f : Vector Int 64) (rest2 : Int) (i : Int) : Option ((Int × Int) ⊕ (Int)) :=
  if (decide (i < 766)) = true then
  ((if (decide (i < 744)) = true then
  (quo .i64 i 12).bind fun q =>
  (ZH f q).bind fun x =>
  (rem i 12).bind fun q2 =>
  (shr .i64 (i64 x) (i64 (11 - q2))).bind fun q3 =>
  some (Q6 .i64 q3 1)
  else
  some 0) : Option ((Int))).bind (t1 fun (bit : Int) =>
  if (decide (4194304 ≤ (i64 ((i64 (rest2 * 2)) + bit)))) = true then
  some (.inl ((Zat .i64 (i64 ((i64 (rest2 * 2)) + bit)) 6291471), (i64 (i + 1))))
  else
  some (.inl ((i64 ((i64 (rest2 * 2)) + bit)), (i64 (i + 1)))))
  else
  some (.inr rest2)
theorem Zgx (f : Vector Int 64) (rest2 : Int) (i : Int) : Le (Zca f rest2 i) (ZbI f rest2 i) := by
  unfold Zca ZbI
  with_reducible repeat' (first | exact Le.refl _ | apply Le.bind | apply Le.ite | apply Le.t1 | intro _)

noncomputable def ZdL (f : Vector Int 64) : Option Int :=
  ((Qg (t2 (Zca f)) (0, 0)) : Option ((Int))).bind (t1 fun (rest : Int) =>
  some rest)
theorem Zh0 (f : Vector Int 64) : Le (ZdL f) (ZcO f) := by
  unfold ZdL ZcO
  with_reducible repeat' (first | exact Le.refl _ | apply Le.bind | apply Le.loop | apply Le.t1 | apply Le.t2 | apply Zgx | intro _)

noncomputable def ZcL (f : Vector Int 64) : Option (Vector Int 64) :=
  (ZdL f).bind fun y =>
  (quo .i64 y 2048).bind fun q =>
  (ZaG q).bind fun y2 =>
  (rem y 2048).bind fun q2 =>
  (ZaG q2).bind fun y3 =>
  (ZH f 62).bind fun x =>
  (ZH (Q2 f 62 (u16 y2)) 63).bind fun x2 =>
  some (Q2 (Q2 f 62 (u16 y2)) 63 (u16 y3))
theorem ZgX (f : Vector Int 64) : Le (ZcL f) (Zbg f) := by
  unfold ZcL Zbg
  with_reducible repeat' (first | exact Le.refl _ | apply Le.bind | apply Zh0 | apply ZdO | intro _)

noncomputable def Zdf (f : Vector Int 64) : Option (Vector Int 64) :=
  ((Qg (t2 (ZbA)) (f, 1)) : Option (((Vector Int 64)))).bind (t1 fun (f2 : Vector Int 64) =>
  (Zb7 f2).bind fun y2 =>
  (Zdj y2).bind fun y3 =>
  (ZH f2 0).bind fun x3 =>
  (Ze8 (Q2 f2 0 (u16 y3))).bind fun y4 =>
  (ZaG y4).bind fun y5 =>
  (ZH (Q2 f2 0 (u16 y3)) 61).bind fun x4 =>
  (ZcL (Q2 (Q2 f2 0 (u16 y3)) 61 (u16 y5))).bind fun y6 =>
  some y6)
theorem Zhg (f : Vector Int 64) : Le (Zdf f) (ZbX f) := by
  unfold Zdf ZbX
  with_reducible repeat' (first | exact Le.refl _ | apply Le.bind | apply Le.loop | apply Le.t1 | apply Le.t2 | apply ZfB | apply Zgj | apply ZhG | apply ZiJ | apply ZdO | apply ZgX | intro _)

noncomputable def Zfr (number : Int) (data : List Int) : Option ((Vector Int 64) × Int) :=
  if ((decide (number < 0)) || (decide (4194304 ≤ number))) = true then
  some ((#v[0, 0, 0, 0, 0, 0, 0, 0, 0, 0, 0, 0, 0, 0, 0, 0, 0, 0, 0, 0, 0, 0, 0, 0, 0, 0, 0, 0, 0, 0, 0, 0, 0, 0, 0, 0, 0, 0, 0, 0, 0, 0, 0, 0, 0, 0, 0, 0, 0, 0, 0, 0, 0, 0, 0, 0, 0, 0, 0, 0, 0, 0, 0, 0] : Vector Int 64), 9)
  else
  if (!decide ((data.length : Int) = 58)) = true then
  some ((#v[0, 0, 0, 0, 0, 0, 0, 0, 0, 0, 0, 0, 0, 0, 0, 0, 0, 0, 0, 0, 0, 0, 0, 0, 0, 0, 0, 0, 0, 0, 0, 0, 0, 0, 0, 0, 0, 0, 0, 0, 0, 0, 0, 0, 0, 0, 0, 0, 0, 0, 0, 0, 0, 0, 0, 0, 0, 0, 0, 0, 0, 0, 0, 0] : Vector Int 64), 3)
  else
  (rem number 2048).bind fun q =>
  (quo .i64 number 2048).bind fun q2 =>
  (ZH (#v[0, 0, 0, 0, 0, 0, 0, 0, 0, 0, 0, 0, 0, 0, 0, 0, 0, 0, 0, 0, 0, 0, 0, 0, 0, 0, 0, 0, 0, 0, 0, 0, 0, 0, 0, 0, 0, 0, 0, 0, 0, 0, 0, 0, 0, 0, 0, 0, 0, 0, 0, 0, 0, 0, 0, 0, 0, 0, 0, 0, 0, 0, 0, 0] : Vector Int 64) 1).bind fun x =>
  (ZH (Q2 (#v[0, 0, 0, 0, 0, 0, 0, 0, 0, 0, 0, 0, 0, 0, 0, 0, 0, 0, 0, 0, 0, 0, 0, 0, 0, 0, 0, 0, 0, 0, 0, 0, 0, 0, 0, 0, 0, 0, 0, 0, 0, 0, 0, 0, 0, 0, 0, 0, 0, 0, 0, 0, 0, 0, 0, 0, 0, 0, 0, 0, 0, 0, 0, 0] : Vector Int 64) 1 (u16 q)) 2).bind fun x2 =>
  ((Qg (t2 (Zdl data)) ((Q2 (Q2 (#v[0, 0, 0, 0, 0, 0, 0, 0, 0, 0, 0, 0, 0, 0, 0, 0, 0, 0, 0, 0, 0, 0, 0, 0, 0, 0, 0, 0, 0, 0, 0, 0, 0, 0, 0, 0, 0, 0, 0, 0, 0, 0, 0, 0, 0, 0, 0, 0, 0, 0, 0, 0, 0, 0, 0, 0, 0, 0, 0, 0, 0, 0, 0, 0] : Vector Int 64) 1 (u16 q)) 2 (u16 q2)), 0)) : Option (((Vector Int 64) × Int) ⊕ ((Vector Int 64)))).bind (Sum.elim (fun q' => some q') (t1 fun (f : Vector Int 64) =>
  (Zdf f).bind fun y =>
  some (y, 0)))
theorem Zi1 (number : Int) (data : List Int) : Le (Zfr number data) (Zex number data) := by
  unfold Zfr Zex
  with_reducible repeat' (first | exact Le.refl _ | apply Le.bind | apply Le.ite | apply Le.loop | apply Le.t1 | apply Le.t2 | apply Le.elim | apply Zhy | apply Zhg | intro _)

noncomputable def Qb (n : Int) (low : Int) (high : Int) : Option Bool :=
  some ((decide (low ≤ n)) && (decide (n ≤ high)))
theorem Xk (n : Int) (low : Int) (high : Int) : Le (Qb n low high) (ZT n low high) := by
  unfold Qb ZT
  with_reducible repeat' (first | exact Le.refl _ | apply Le.bind | intro _)

noncomputable def Jc (slots : Int) : Option Int :=
  some (i64 (16 + (i64 (slots * 97))))
theorem Zcj (slots : Int) : Le (Jc slots) (Xb slots) := by
  unfold Jc Xb
  with_reducible repeat' (first | exact Le.refl _ | apply Le.bind | intro _)

noncomputable def ZdH (x : Int) (y : Int) : Option (Int × Int) :=
  (shr .u64 x 32).bind fun q =>
  (shr .u64 y 32).bind fun q2 =>
  (shr .u64 (u64 ((Q6 .u64 x 4294967295) * (Q6 .u64 y 4294967295))) 32).bind fun q3 =>
  (shr .u64 (u64 ((u64 (q * (Q6 .u64 y 4294967295))) + q3)) 32).bind fun q4 =>
  (shr .u64 (u64 ((Q6 .u64 (u64 ((u64 (q * (Q6 .u64 y 4294967295))) + q3)) 4294967295) + (u64 ((Q6 .u64 x 4294967295) * q2)))) 32).bind fun q5 =>
  some ((u64 ((u64 ((u64 (q * q2)) + q4)) + q5)), (u64 (x * y)))
theorem ZhV (x : Int) (y : Int) : Le (ZdH x y) (ZcP x y) := by
  unfold ZdH ZcP
  with_reducible repeat' (first | exact Le.refl _ | apply Le.bind | intro _)

noncomputable def Zfm (x : Int) (y : Int) : Option (Int × Int) :=
  (ZdH x y).bind fun y2 =>
  some (y2.1, y2.2)
theorem Zjb (x : Int) (y : Int) : Le (Zfm x y) (Zet x y) := by
  unfold Zfm Zet
  with_reducible repeat' (first | exact Le.refl _ | apply Le.bind | apply ZhV | intro _)

noncomputable def Q1 (newslice2 : List Int) (n : Int) : Option (((List Int) × Int) ⊕ ((List Int))) :=
  if (decide (n < (newslice2.length : Int))) = true then
  (slq newslice2 n (newslice2.length : Int)).bind fun u =>
  (slq newslice2 0 n).bind fun u2 =>
  some (.inl ((cpy newslice2 n.toNat (Int.toNat ((newslice2.length : Int) - n)) (Int.toNat 0) (Int.toNat (n - 0))), (i64 (n + ((min (Int.toNat (n - 0)) (Int.toNat ((newslice2.length : Int) - n)) : Nat) : Int)))))
  else
  some (.inr newslice2)
theorem Zb3 (newslice2 : List Int) (n : Int) : Le (Q1 newslice2 n) (Qy newslice2 n) := by
  unfold Q1 Qy
  with_reducible repeat' (first | exact Le.refl _ | apply Le.bind | apply Le.ite | intro _)

noncomputable def Xs (x : List Int) (count : Int) : Option (List Int) :=
  if (decide (count < 0)) = true then
  none
  else
  (Zfm (u64 (x.length : Int)) (u64 count)).bind fun y =>
  if ((decide (0 < y.1)) || (decide (9223372036854775807 < y.2))) = true then
  none
  else
  (mks (i64 y.2) 0).bind fun l =>
  ((Qg (t2 (Q1)) ((ZgR l x), ((min x.length l.length : Nat) : Int))) : Option (((List Int)))).bind (t1 fun (newslice : List Int) =>
  some newslice)
theorem ZcI (x : List Int) (count : Int) : Le (Xs x count) (Qs x count) := by
  unfold Xs Qs
  with_reducible repeat' (first | exact Le.refl _ | apply Le.bind | apply Le.ite | apply Le.loop | apply Le.t1 | apply Le.t2 | apply Zjb | apply Zb3 | intro _)

noncomputable def JZ (sectors : Int) (slots : Int) (Sectors2 : List (List Int)) (i : Int) : Option (((List (List Int)) × Int) ⊕ ((List (List Int)))) :=
  if (decide (i < sectors)) = true then
  (((Jc slots).bind fun y4 =>
  (Xs ([255] : List Int) y4).bind fun y5 =>
  (app Sectors2 [y5]).bind fun l3 =>
  some l3) : Option (((List (List Int))))).bind (t1 fun (Sectors3 : List (List Int)) =>
  some (.inl (Sectors3, (i64 (i + 1)))))
  else
  some (.inr Sectors2)
theorem Zev (sectors : Int) (slots : Int) (Sectors2 : List (List Int)) (i : Int) : Le (JZ sectors slots Sectors2 i) (Js sectors slots Sectors2 i) := by
  unfold JZ Js
  with_reducible repeat' (first | exact Le.refl _ | apply Le.bind | apply Le.ite | apply Le.t1 | apply Zcj | apply ZcI | intro _)

noncomputable def Zbs (sectors : Int) (slots : Int) (limit : Int) : Option (api_Memory × Int) :=
  (Qb sectors 2 64).bind fun y =>
  (gd ((!y) == false) false (Qb slots 1 64)).bind fun y2 =>
  (gd (((!y) || (!y2)) == false) false (Qb limit 1 1000000)).bind fun y3 =>
  if (((!y) || (!y2)) || (!y3)) = true then
  some ((api_Memory.mk 0 0 [] [] []), 9)
  else
  (((mkz 8 sectors 0).bind fun l =>
  (mkz 1 sectors false).bind fun l2 =>
  some (l, l2)) : Option (((List Int) × (List Bool)))).bind (t2 fun (Wear : List Int) (Bad : List Bool) =>
  ((Qg (t2 (JZ sectors slots)) ([], 0)) : Option (((List (List Int))))).bind (t1 fun (Sectors : List (List Int)) =>
  some ((api_Memory.mk slots limit Sectors Wear Bad), 0)))
theorem Zfs (sectors : Int) (slots : Int) (limit : Int) : Le (Zbs sectors slots limit) (JI sectors slots limit) := by
  unfold Zbs JI
  with_reducible repeat' (first | exact Le.refl _ | apply Le.bind | apply Le.ite | apply Le.gd | apply Le.loop | apply Le.t1 | apply Le.t2 | apply Xk | apply Zev | intro _)

noncomputable def Jp (m : api_Memory) (i : Int) : Option ((Int) ⊕ (Int) ⊕ (Unit)) :=
  if (decide (i < (m.Sectors.length : Int))) = true then
  (idx m.Sectors i).bind fun x =>
  (Jc m.Slots).bind fun y4 =>
  if (!decide ((x.length : Int) = y4)) = true then
  some (.inr (.inl 3))
  else
  (idx m.Wear i).bind fun x2 =>
  (Qb x2 0 m.Limit).bind fun y5 =>
  if (!y5) = true then
  some (.inr (.inl 9))
  else
  some (.inl (i64 (i + 1)))
  else
  some (.inr (.inr ()))
theorem ZdF (m : api_Memory) (i : Int) : Le (Jp m i) (XN m i) := by
  unfold Jp XN
  with_reducible repeat' (first | exact Le.refl _ | apply Le.bind | apply Le.ite | apply Zcj | apply Xk | intro _)

noncomputable def Zaq (m : api_Memory) : Option Int :=
  (Qb m.Slots 1 64).bind fun y =>
  (gd ((!y) == false) false (Qb m.Limit 1 1000000)).bind fun y2 =>
  (gd (((!y) || (!y2)) == false) false (Qb (m.Sectors.length : Int) 2 64)).bind fun y3 =>
  if (((!y) || (!y2)) || (!y3)) = true then
  some 9
  else
  if ((!decide ((m.Wear.length : Int) = (m.Sectors.length : Int))) || (!decide ((m.Bad.length : Int) = (m.Sectors.length : Int)))) = true then
  some 2
  else
  ((Qg (t1 (Jp m)) 0) : Option ((Int) ⊕ (Unit))).bind (Sum.elim (fun q' => some q') (t0 (some 0)))
theorem ZeN (m : api_Memory) : Le (Zaq m) (XZ m) := by
  unfold Zaq XZ
  with_reducible repeat' (first | exact Le.refl _ | apply Le.bind | apply Le.ite | apply Le.gd | apply Le.loop | apply Le.t0 | apply Le.t1 | apply Le.elim | apply Xk | apply ZdF | intro _)

noncomputable def ZaC (l : List api_Memory) (i : Int) : Option ((Int) ⊕ (Int) ⊕ (Unit)) :=
  if (decide (i < (l.length : Int))) = true then
  (idx l i).bind fun x =>
  (Zaq x).bind fun y2 =>
  if (!decide (y2 = 0)) = true then
  some (.inr (.inl y2))
  else
  some (.inl (i64 (i + 1)))
  else
  some (.inr (.inr ()))
theorem Ze2 (l : List api_Memory) (i : Int) : Le (ZaC l i) (JO l i) := by
  unfold ZaC JO
  with_reducible repeat' (first | exact Le.refl _ | apply Le.bind | apply Le.ite | apply ZeN | intro _)

noncomputable def Zap (l : List api_Memory) : Option Int :=
  (Qb (l.length : Int) 1 8).bind fun y =>
  if (!y) = true then
  some 3
  else
  ((Qg (t1 (ZaC l)) 0) : Option ((Int) ⊕ (Unit))).bind (Sum.elim (fun q' => some q') (t0 (some 0)))
theorem Zds (l : List api_Memory) : Le (Zap l) (Jl l) := by
  unfold Zap Jl
  with_reducible repeat' (first | exact Le.refl _ | apply Le.bind | apply Le.ite | apply Le.loop | apply Le.t0 | apply Le.t1 | apply Le.elim | apply Xk | apply Ze2 | intro _)

noncomputable def JF (m : api_Memory) (sectors2 : List (List Int)) (i : Int) : Option (((List (List Int)) × Int) ⊕ ((List (List Int)))) :=
  if (decide (i < (m.Sectors.length : Int))) = true then
  (idx m.Sectors i).bind fun x =>
  (ZdT 1 x).bind fun y =>
  (app sectors2 [y]).bind fun l =>
  some (.inl (l, (i64 (i + 1))))
  else
  some (.inr sectors2)
theorem Zee (m : api_Memory) (sectors2 : List (List Int)) (i : Int) : Le (JF m sectors2 i) (X8 m sectors2 i) := by
  unfold JF X8
  with_reducible repeat' (first | exact Le.refl _ | apply Le.bind | apply Le.ite | intro _)

noncomputable def ZaR (m : api_Memory) : Option api_Memory :=
  ((Qg (t2 (JF m)) ([], 0)) : Option (((List (List Int))))).bind (t1 fun (sectors : List (List Int)) =>
  (ZdT 8 m.Wear).bind fun y2 =>
  (ZdT 1 m.Bad).bind fun y3 =>
  some (api_Memory.mk m.Slots m.Limit sectors y2 y3))
theorem Zfh (m : api_Memory) : Le (ZaR m) (Je m) := by
  unfold ZaR Je
  with_reducible repeat' (first | exact Le.refl _ | apply Le.bind | apply Le.loop | apply Le.t1 | apply Le.t2 | apply Zee | intro _)

noncomputable def ZaZ (l : List api_Memory) (out2 : List api_Memory) (i : Int) : Option (((List api_Memory) × Int) ⊕ ((List api_Memory))) :=
  if (decide (i < (l.length : Int))) = true then
  (idx l i).bind fun x =>
  (ZaR x).bind fun y =>
  (app out2 [y]).bind fun l2 =>
  some (.inl (l2, (i64 (i + 1))))
  else
  some (.inr out2)
theorem Zfd (l : List api_Memory) (out2 : List api_Memory) (i : Int) : Le (ZaZ l out2 i) (Jf l out2 i) := by
  unfold ZaZ Jf
  with_reducible repeat' (first | exact Le.refl _ | apply Le.bind | apply Le.ite | apply Zfh | intro _)

noncomputable def Za8 (l : List api_Memory) : Option (List api_Memory) :=
  ((Qg (t2 (ZaZ l)) ([], 0)) : Option (((List api_Memory)))).bind (t1 fun (out : List api_Memory) =>
  some out)
theorem ZdW (l : List api_Memory) : Le (Za8 l) (XD l) := by
  unfold Za8 XD
  with_reducible repeat' (first | exact Le.refl _ | apply Le.bind | apply Le.loop | apply Le.t1 | apply Le.t2 | apply Zfd | intro _)

noncomputable def Zbo (sequence : Int) (out2 : List Int) (shift : Int) : Option (((List Int) × Int) ⊕ ((List Int))) :=
  if (decide (0 ≤ shift)) = true then
  (shr .i64 sequence shift).bind fun q =>
  (apz 1 out2 ([(u8 q)] : List Int)).bind fun l =>
  some (.inl (l, (i64 (shift - 8))))
  else
  some (.inr out2)
theorem Zfx (sequence : Int) (out2 : List Int) (shift : Int) : Le (Zbo sequence out2 shift) (Qu sequence out2 shift) := by
  unfold Zbo Qu
  with_reducible repeat' (first | exact Le.refl _ | apply Le.bind | apply Le.ite | intro _)

noncomputable def Zbw (out : List Int) (out4 : List Int) (i : Int) : Option (((List Int) × Int) ⊕ ((List Int))) :=
  if (decide (i < ((Int.toNat (6 - 2) : Nat) : Int))) = true then
  (ck (decide ((0 : Int) ≤ i) && decide (i < ((Int.toNat (6 - 2) : Nat) : Int)))).bind fun u2 =>
  (idx out (2 + i)).bind fun x2 =>
  (apz 1 out4 ([(Zat .u8 255 x2)] : List Int)).bind fun l2 =>
  some (.inl (l2, (i64 (i + 1))))
  else
  some (.inr out4)
theorem Zf6 (out : List Int) (out4 : List Int) (i : Int) : Le (Zbw out out4 i) (Qz out out4 i) := by
  unfold Zbw Qz
  with_reducible repeat' (first | exact Le.refl _ | apply Le.bind | apply Le.ite | intro _)

noncomputable def ZbN (sequence : Int) : Option (List Int) :=
  ((Qg (t2 (Zbo sequence)) (([79, 66] : List Int), 24)) : Option (((List Int)))).bind (t1 fun (out : List Int) =>
  (((slp out 2 6).bind fun u =>
  Qg (t2 (Zbw out)) (out, 0)) : Option (((List Int)))).bind (t1 fun (out3 : List Int) =>
  some out3))
theorem Zek (sequence : Int) : Le (ZbN sequence) (X1 sequence) := by
  unfold ZbN X1
  with_reducible repeat' (first | exact Le.refl _ | apply Le.bind | apply Le.loop | apply Le.t1 | apply Le.t2 | apply Zfx | apply Zf6 | intro _)

noncomputable def Q4 (s1 : List Int) (s2 : List Int) (i : Int) : Option ((Int) ⊕ (Bool) ⊕ (Unit)) :=
  if (decide (i < (s1.length : Int))) = true then
  (idx s1 i).bind fun x =>
  (idx s2 i).bind fun x2 =>
  if (!decide (x = x2)) = true then
  some (.inr (.inl false))
  else
  some (.inl (i64 (i + 1)))
  else
  some (.inr (.inr ()))
theorem Zb8 (s1 : List Int) (s2 : List Int) (i : Int) : Le (Q4 s1 s2 i) (Z2 s1 s2 i) := by
  unfold Q4 Z2
  with_reducible repeat' (first | exact Le.refl _ | apply Le.bind | apply Le.ite | intro _)

noncomputable def XJ (s1 : List Int) (s2 : List Int) : Option Bool :=
  if (!decide ((s1.length : Int) = (s2.length : Int))) = true then
  some false
  else
  ((Qg (t1 (Q4 s1 s2)) 0) : Option ((Bool) ⊕ (Unit))).bind (Sum.elim (fun q' => some q') (t0 (some true)))
theorem ZcU (s1 : List Int) (s2 : List Int) : Le (XJ s1 s2) (Z3 s1 s2) := by
  unfold XJ Z3
  with_reducible repeat' (first | exact Le.refl _ | apply Le.bind | apply Le.ite | apply Le.loop | apply Le.t0 | apply Le.t1 | apply Le.elim | apply Zb8 | intro _)

noncomputable def JD (s : List Int) : Option (Int × Bool × Bool) :=
  if (decide ((s.length : Int) < 16)) = true then
  some (0, false, false)
  else
  (slc s 0 16).bind fun l =>
  (tov 16 l).bind fun v =>
  (ZH v 2).bind fun x =>
  (shl .i64 (i64 x) 24).bind fun q =>
  (ZH v 3).bind fun x2 =>
  (shl .i64 (i64 x2) 16).bind fun q2 =>
  (ZH v 4).bind fun x3 =>
  (shl .i64 (i64 x3) 8).bind fun q3 =>
  (ZH v 5).bind fun x4 =>
  (Qb (bor .i64 (bor .i64 (bor .i64 q q2) q3) (i64 x4)) 1 1073741824).bind fun y =>
  (gd ((!y) == false) [] (slc v.toList 0 10)).bind fun l2 =>
  (gd ((!y) == false) [] (ZbN (bor .i64 (bor .i64 (bor .i64 q q2) q3) (i64 x4)))).bind fun y2 =>
  (gd ((!y) == false) false (XJ l2 y2)).bind fun y3 =>
  if ((!y) || (!y3)) = true then
  some (0, false, false)
  else
  (ZH v 10).bind fun x5 =>
  some ((bor .i64 (bor .i64 (bor .i64 q q2) q3) (i64 x4)), (!decide (x5 = 255)), true)
theorem ZaU (s : List Int) : Le (JD s) (Xt s) := by
  unfold JD Xt
  with_reducible repeat' (first | exact Le.refl _ | apply Le.bind | apply Le.ite | apply Le.gd | apply Xk | apply Zek | apply ZcU | intro _)

noncomputable def Zbi (m : api_Memory) (out2 : List Int) (i : Int) : Option (((List Int) × Int) ⊕ ((List Int))) :=
  if (decide (i < (m.Sectors.length : Int))) = true then
  (idx m.Sectors i).bind fun x =>
  (JD x).bind fun y =>
  (gd (y.2.2 == true) false (idx m.Bad i)).bind fun x2 =>
  if (y.2.2 && (!x2)) = true then
  (apz 8 out2 ([i] : List Int)).bind fun l =>
  some (.inl (l, (i64 (i + 1))))
  else
  some (.inl (out2, (i64 (i + 1))))
  else
  some (.inr out2)
theorem Zfn (m : api_Memory) (out2 : List Int) (i : Int) : Le (Zbi m out2 i) (Zah m out2 i) := by
  unfold Zbi Zah
  with_reducible repeat' (first | exact Le.refl _ | apply Le.bind | apply Le.ite | apply Le.gd | apply ZaU | intro _)

noncomputable def Qk (a : Int) (cmp : Int → Int → Option Int) (o3 : List Int) (j : Int) : Option (((List Int) × Int) ⊕ ((List Int))) :=
  (gd ((decide (a < j)) == true) 0 (idx o3 j)).bind fun x =>
  (gd ((decide (a < j)) == true) 0 (idx o3 (i64 (j - 1)))).bind fun x2 =>
  (gd ((decide (a < j)) == true) 0 (cmp x x2)).bind fun y =>
  if ((decide (a < j)) && (decide (y < 0))) = true then
  (idx o3 (i64 (j - 1))).bind fun x3 =>
  (idx o3 j).bind fun x4 =>
  (idx o3 j).bind fun x5 =>
  (idx (o3.set j.toNat x3) (i64 (j - 1))).bind fun x6 =>
  some (.inl (((o3.set j.toNat x3).set (i64 (j - 1)).toNat x4), (i64 (j - 1))))
  else
  some (.inr o3)
theorem JL (a : Int) (cmp : Int → Int → Option Int) (o3 : List Int) (j : Int) (cmp' : Int → Int → Option Int) (h_cmp : ∀ z0 z1, Le (cmp z0 z1) (cmp' z0 z1)) : Le (Qk a cmp o3 j) (Zz a cmp' o3 j) := by
  unfold Qk Zz
  with_reducible repeat' (first | exact Le.refl _ | apply Le.bind | apply Le.ite | apply Le.gd | apply h_cmp | intro _)

noncomputable def Qn (a : Int) (b : Int) (cmp : Int → Int → Option Int) (o : List Int) (i : Int) : Option (((List Int) × Int) ⊕ ((List Int))) :=
  if (decide (i < b)) = true then
  ((Qg (t2 (Qk a cmp)) (o, i)) : Option (((List Int)))).bind (t1 fun (o2 : List Int) =>
  some (.inl (o2, (i64 (i + 1)))))
  else
  some (.inr o)
theorem JU (a : Int) (b : Int) (cmp : Int → Int → Option Int) (o : List Int) (i : Int) (cmp' : Int → Int → Option Int) (h_cmp : ∀ z0 z1, Le (cmp z0 z1) (cmp' z0 z1)) : Le (Qn a b cmp o i) (ZA a b cmp' o i) := by
  unfold Qn ZA
  with_reducible repeat' (first | exact Le.refl _ | apply Le.bind | apply Le.ite | apply Le.loop | apply Le.t1 | apply Le.t2 | apply JL | apply h_cmp | intro _)

noncomputable def Qa (data : List Int) (a : Int) (b : Int) (cmp : Int → Int → Option Int) : Option (List Int) :=
  Qg (t2 (Qn a b cmp)) (data, (i64 (a + 1)))
theorem Xi (data : List Int) (a : Int) (b : Int) (cmp : Int → Int → Option Int) (cmp' : Int → Int → Option Int) (h_cmp : ∀ z0 z1, Le (cmp z0 z1) (cmp' z0 z1)) : Le (Qa data a b cmp) (Zx data a b cmp') := by
  unfold Qa Zx
  with_reducible repeat' (first | exact Le.refl _ | apply Le.bind | apply Le.loop | apply Le.t2 | apply JU | apply h_cmp | intro _)

noncomputable def QS (n : Int) (cmp : Int → Int → Option Int) (o2 : List Int) (a2 : Int) (b : Int) : Option (((List Int) × Int × Int) ⊕ ((List Int) × Int)) :=
  if (decide (b ≤ n)) = true then
  (Qa o2 a2 b cmp).bind fun y =>
  some (.inl (y, b, (i64 (b + 20))))
  else
  some (.inr (o2, a2))
theorem Zbr (n : Int) (cmp : Int → Int → Option Int) (o2 : List Int) (a2 : Int) (b : Int) (cmp' : Int → Int → Option Int) (h_cmp : ∀ z0 z1, Le (cmp z0 z1) (cmp' z0 z1)) : Le (QS n cmp o2 a2 b) (ZL n cmp' o2 a2 b) := by
  unfold QS ZL
  with_reducible repeat' (first | exact Le.refl _ | apply Le.bind | apply Le.ite | apply Xi | apply h_cmp | intro _)

noncomputable def QO (n : Int) (blockSize : Int) : Option ((Unit) ⊕ (Unit)) :=
  if (decide ((i64 (2 * blockSize)) ≤ n)) = true then
  none
  else
  some (.inr ())
theorem ZbC (n : Int) (blockSize : Int) : Le (QO n blockSize) (Qt n blockSize) := by
  unfold QO Qt
  with_reducible repeat' (first | exact Le.refl _ | apply Le.bind | apply Le.ite | intro _)

noncomputable def QW (n : Int) (y2 : (List Int)) (blockSize : Int) : Option ((Int) ⊕ ((List Int))) :=
  if (decide (blockSize < n)) = true then
  ((Qg (t0 (QO n blockSize)) ()) : Option ((Unit))).bind (t0 (if (decide ((i64 (0 + blockSize)) < n)) = true then
  none
  else
  some (.inl (i64 (blockSize * 2)))))
  else
  some (.inr y2)
theorem ZbF (n : Int) (y2 : (List Int)) (blockSize : Int) : Le (QW n y2 blockSize) (ZS n y2 blockSize) := by
  unfold QW ZS
  with_reducible repeat' (first | exact Le.refl _ | apply Le.bind | apply Le.ite | apply Le.loop | apply Le.t0 | apply ZbC | intro _)

noncomputable def Xg (data : List Int) (n : Int) (cmp : Int → Int → Option Int) : Option (List Int) :=
  ((Qg (t3 (QS n cmp)) (data, 0, 20)) : Option (((List Int) × Int))).bind (t2 fun (o : List Int) (a : Int) =>
  (Qa o a n cmp).bind fun y2 =>
  Qg (t1 (QW n y2)) 20)
theorem Zcs (data : List Int) (n : Int) (cmp : Int → Int → Option Int) (cmp' : Int → Int → Option Int) (h_cmp : ∀ z0 z1, Le (cmp z0 z1) (cmp' z0 z1)) : Le (Xg data n cmp) (Qc data n cmp') := by
  unfold Xg Qc
  with_reducible repeat' (first | exact Le.refl _ | apply Le.bind | apply Le.loop | apply Le.t1 | apply Le.t2 | apply Le.t3 | apply Zbr | apply Xi | apply ZbF | apply h_cmp | intro _)

noncomputable def QE (x : List Int) (cmp : Int → Int → Option Int) : Option (List Int) :=
  (Xg x (x.length : Int) cmp).bind fun y =>
  some y
theorem Zba (x : List Int) (cmp : Int → Int → Option Int) (cmp' : Int → Int → Option Int) (h_cmp : ∀ z0 z1, Le (cmp z0 z1) (cmp' z0 z1)) : Le (QE x cmp) (ZK x cmp') := by
  unfold QE ZK
  with_reducible repeat' (first | exact Le.refl _ | apply Le.bind | apply Zcs | apply h_cmp | intro _)

noncomputable def JR (i : Int) (c0 : api_Memory) : Option Int :=
  (idx c0.Sectors i).bind fun x =>
  (JD x).bind fun y =>
  some y.1
theorem Zf3 (i : Int) (c0 : api_Memory) : Le (JR i c0) (XU i c0) := by
  unfold JR XU
  with_reducible repeat' (first | exact Le.refl _ | apply Le.bind | apply ZaU | intro _)

noncomputable def Zbz (a : Int) (b : Int) (k : api_Memory) : Option Int :=
  (JR a k).bind fun y =>
  (JR b k).bind fun y2 =>
  some (i64 (y - y2))
theorem ZfQ (a : Int) (b : Int) (k : api_Memory) : Le (Zbz a b k) (JG a b k) := by
  unfold Zbz JG
  with_reducible repeat' (first | exact Le.refl _ | apply Le.bind | apply Zf3 | intro _)

noncomputable def Za4 (m : api_Memory) : Option (List Int) :=
  ((Qg (t2 (Zbi m)) ([], 0)) : Option (((List Int)))).bind (t1 fun (out : List Int) =>
  (QE out (fun z0 z1 => Zbz z0 z1 m)).bind fun y2 =>
  some y2)
theorem Zd1 (m : api_Memory) : Le (Za4 m) (JJ m) := by
  unfold Za4 JJ
  with_reducible repeat' (first | exact Le.refl _ | apply Le.bind | apply Le.loop | apply Le.t1 | apply Le.t2 | apply Zfn | apply Zba | apply ZfQ | intro _)

noncomputable def ZbO (s : List Int) (i : Int) : Option (Vector Int 97) :=
  (slc s (i64 (16 + (i64 (i * 97)))) (i64 ((i64 (16 + (i64 (i * 97)))) + 97))).bind fun l =>
  (tov 97 l).bind fun v =>
  some v
theorem ZeA (s : List Int) (i : Int) : Le (ZbO s i) (Q8 s i) := by
  unfold ZbO Q8
  with_reducible repeat' (first | exact Le.refl _ | apply Le.bind | intro _)

noncomputable def QB (s : List Int) (f : Int → Option Bool) (i : Int) : Option ((Int) ⊕ (Int) ⊕ (Unit)) :=
  if (decide (i < (s.length : Int))) = true then
  (idx s i).bind fun x =>
  (f x).bind fun y =>
  if y = true then
  some (.inr (.inl i))
  else
  some (.inl (i64 (i + 1)))
  else
  some (.inr (.inr ()))
theorem ZaY (s : List Int) (f : Int → Option Bool) (i : Int) (f' : Int → Option Bool) (h_f : ∀ z0, Le (f z0) (f' z0)) : Le (QB s f i) (ZI s f' i) := by
  unfold QB ZI
  with_reducible repeat' (first | exact Le.refl _ | apply Le.bind | apply Le.ite | apply h_f | intro _)

noncomputable def QZ (s : List Int) (f : Int → Option Bool) : Option Int :=
  ((Qg (t1 (QB s f)) 0) : Option ((Int) ⊕ (Unit))).bind (Sum.elim (fun q' => some q') (t0 (some (-1))))
theorem ZbW (s : List Int) (f : Int → Option Bool) (f' : Int → Option Bool) (h_f : ∀ z0, Le (f z0) (f' z0)) : Le (QZ s f) (ZV s f') := by
  unfold QZ ZV
  with_reducible repeat' (first | exact Le.refl _ | apply Le.bind | apply Le.loop | apply Le.t0 | apply Le.t1 | apply Le.elim | apply ZaY | apply h_f | intro _)

noncomputable def QC (s : List Int) (f : Int → Option Bool) : Option Bool :=
  (QZ s f).bind fun y =>
  some (decide (0 ≤ y))
theorem Zbj (s : List Int) (f : Int → Option Bool) (f' : Int → Option Bool) (h_f : ∀ z0, Le (f z0) (f' z0)) : Le (QC s f) (ZJ s f') := by
  unfold QC ZJ
  with_reducible repeat' (first | exact Le.refl _ | apply Le.bind | apply ZbW | apply h_f | intro _)

noncomputable def Zbu (b : Int) : Option Bool :=
  some (!decide (b = 255))
theorem Zf2 (b : Int) : Le (Zbu b) (QT b) := by
  unfold Zbu QT
  with_reducible repeat' (first | exact Le.refl _ | apply Le.bind | intro _)

noncomputable def Zbe (p : Vector Int 97) : Option Int :=
  (ZH p 96).bind fun x =>
  if (decide (x = 0)) = true then
  some 1
  else
  (slc p.toList 0 (97 : Int)).bind fun l =>
  (QC l (fun z0 => Zbu z0)).bind fun y =>
  if y = true then
  some 2
  else
  some 0
theorem Zd5 (p : Vector Int 97) : Le (Zbe p) (Q5 p) := by
  unfold Zbe Q5
  with_reducible repeat' (first | exact Le.refl _ | apply Le.bind | apply Le.ite | apply Zbj | apply Zf2 | intro _)

noncomputable def Zay (m : api_Memory) (x : Int) (slot2 : Int) (i : Int) : Option ((Int × Int) ⊕ (Int)) :=
  if (decide (i < m.Slots)) = true then
  (idx m.Sectors x).bind fun x2 =>
  (ZbO x2 i).bind fun y2 =>
  (Zbe y2).bind fun y3 =>
  if (!decide (y3 = 0)) = true then
  some (.inl ((i64 (i + 1)), (i64 (i + 1))))
  else
  some (.inl (slot2, (i64 (i + 1))))
  else
  some (.inr slot2)
theorem ZeO (m : api_Memory) (x : Int) (slot2 : Int) (i : Int) : Le (Zay m x slot2 i) (JV m x slot2 i) := by
  unfold Zay JV
  with_reducible repeat' (first | exact Le.refl _ | apply Le.bind | apply Le.ite | apply ZeA | apply Zd5 | intro _)

noncomputable def Zcf (m : api_Memory) : Option ring_spot :=
  (Za4 m).bind fun y =>
  if (decide ((y.length : Int) = 0)) = true then
  some (ring_spot.mk (-1) 0)
  else
  (idx y (i64 ((y.length : Int) - 1))).bind fun x =>
  ((Qg (t2 (Zay m x)) (0, 0)) : Option ((Int))).bind (t1 fun (slot : Int) =>
  some (ring_spot.mk x slot))
theorem Zgo (m : api_Memory) : Le (Zcf m) (Zad m) := by
  unfold Zcf Zad
  with_reducible repeat' (first | exact Le.refl _ | apply Le.bind | apply Le.ite | apply Le.loop | apply Le.t1 | apply Le.t2 | apply Zd1 | apply ZeO | intro _)

noncomputable def Zch (y3 : (List api_Memory)) (spots2 : List ring_spot) (frozen2 : Bool) (i : Int) : Option (((List ring_spot) × Bool × Int) ⊕ ((List ring_spot) × Bool)) :=
  if (decide (i < (y3.length : Int))) = true then
  (idx y3 i).bind fun x =>
  (Zcf x).bind fun y4 =>
  (apz 16 spots2 ([y4] : List ring_spot)).bind fun l2 =>
  if (decide (0 ≤ y4.sector)) = true then
  (idx x.Sectors y4.sector).bind fun x2 =>
  (JD x2).bind fun y5 =>
  some (.inl (l2, (frozen2 || y5.2.1), (i64 (i + 1))))
  else
  some (.inl (l2, frozen2, (i64 (i + 1))))
  else
  some (.inr (spots2, frozen2))
theorem Zgn (y3 : (List api_Memory)) (spots2 : List ring_spot) (frozen2 : Bool) (i : Int) : Le (Zch y3 spots2 frozen2 i) (ZbJ y3 spots2 frozen2 i) := by
  unfold Zch ZbJ
  with_reducible repeat' (first | exact Le.refl _ | apply Le.bind | apply Le.ite | apply Zgo | apply ZaU | intro _)

noncomputable def ZdN (l : List api_Memory) (copies : Int) : Option ((Int) ⊕ (ring_Recorder × Int)) :=
  (Zap l).bind fun y =>
  if (!decide (y = 0)) = true then
  some (Sum.inl y)
  else
  (Qb copies 1 (l.length : Int)).bind fun y2 =>
  if (!y2) = true then
  some (Sum.inl 9)
  else
  (Za8 l).bind fun y3 =>
  ((Qg (t3 (Zch y3)) ([], false, 0)) : Option (((List ring_spot) × Bool))).bind (t2 fun (spots : List ring_spot) (frozen : Bool) =>
  some (Sum.inr ((ring_Recorder.mk (ring_bank.mk y3 spots) copies frozen false 0 false), 0)))
theorem ZhO (l : List api_Memory) (copies : Int) : Le (ZdN l copies) (ZaA l copies) := by
  unfold ZdN ZaA
  with_reducible repeat' (first | exact Le.refl _ | apply Le.bind | apply Le.ite | apply Le.loop | apply Le.t2 | apply Le.t3 | apply Le.elim | apply Zds | apply Xk | apply ZdW | apply Zgn | intro _)

noncomputable def JA (r_ : ring_Recorder) (power : Int) : Option Int :=
  if r_.stopped = true then
  some 15
  else
  if r_.frozen = true then
  some 11
  else
  (Qb power 0 1000000000).bind fun y =>
  if (!y) = true then
  some 9
  else
  some 0
theorem Zd8 (r_ : ring_Recorder) (power : Int) : Le (JA r_ power) (Xd r_ power) := by
  unfold JA Xd
  with_reducible repeat' (first | exact Le.refl _ | apply Le.bind | apply Le.ite | apply Xk | intro _)

noncomputable def ZbD (f : Vector Int 64) (out2 : List api_Flaw) (i : Int) : Option (((List api_Flaw) × Int) ⊕ ((List api_Flaw))) :=
  if (decide (i < 64)) = true then
  (ZH f i).bind fun x =>
  if (decide (4095 < x)) = true then
  (app out2 ([(api_Flaw.mk i 5)] : List api_Flaw)).bind fun l =>
  some (.inl (l, (i64 (i + 1))))
  else
  some (.inl (out2, (i64 (i + 1))))
  else
  some (.inr out2)
theorem ZfZ (f : Vector Int 64) (out2 : List api_Flaw) (i : Int) : Le (ZbD f out2 i) (ZaT f out2 i) := by
  unfold ZbD ZaT
  with_reducible repeat' (first | exact Le.refl _ | apply Le.bind | apply Le.ite | intro _)

noncomputable def Xx (w : Int) : Option Int :=
  some (i64 (Q6 .u16 w 2047))
theorem Zdi (w : Int) : Le (Xx w) (XL w) := by
  unfold Xx XL
  with_reducible repeat' (first | exact Le.refl _ | apply Le.bind | intro _)

noncomputable def JK (f : Vector Int 64) : Option Int :=
  (ZH f 1).bind fun x =>
  (Xx x).bind fun y =>
  (ZH f 2).bind fun x2 =>
  (Xx x2).bind fun y2 =>
  (shl .i64 y2 11).bind fun q =>
  some (bor .i64 y q)
theorem Zc0 (f : Vector Int 64) : Le (JK f) (XW f) := by
  unfold JK XW
  with_reducible repeat' (first | exact Le.refl _ | apply Le.bind | apply Zdi | intro _)

noncomputable def ZaE (x : Int) : Option Int :=
  (shr .u16 x 8).bind fun q =>
  (Zkm [0, 1, 1, 2, 1, 2, 2, 3, 1, 2, 2, 3, 2, 3, 3, 4, 1, 2, 2, 3, 2, 3, 3, 4, 2, 3, 3, 4, 3, 4, 4, 5, 1, 2, 2, 3, 2, 3, 3, 4, 2, 3, 3, 4, 3, 4, 4, 5, 2, 3, 3, 4, 3, 4, 4, 5, 3, 4, 4, 5, 4, 5, 5, 6, 1, 2, 2, 3, 2, 3, 3, 4, 2, 3, 3, 4, 3, 4, 4, 5, 2, 3, 3, 4, 3, 4, 4, 5, 3, 4, 4, 5, 4, 5, 5, 6, 2, 3, 3, 4, 3, 4, 4, 5, 3, 4, 4, 5, 4, 5, 5, 6, 3, 4, 4, 5, 4, 5, 5, 6, 4, 5, 5, 6, 5, 6, 6, 7, 1, 2, 2, 3, 2, 3, 3, 4, 2, 3, 3, 4, 3, 4, 4, 5, 2, 3, 3, 4, 3, 4, 4, 5, 3, 4, 4, 5, 4, 5, 5, 6, 2, 3, 3, 4, 3, 4, 4, 5, 3, 4, 4, 5, 4, 5, 5, 6, 3, 4, 4, 5, 4, 5, 5, 6, 4, 5, 5, 6, 5, 6, 6, 7, 2, 3, 3, 4, 3, 4, 4, 5, 3, 4, 4, 5, 4, 5, 5, 6, 3, 4, 4, 5, 4, 5, 5, 6, 4, 5, 5, 6, 5, 6, 6, 7, 3, 4, 4, 5, 4, 5, 5, 6, 4, 5, 5, 6, 5, 6, 6, 7, 4, 5, 5, 6, 5, 6, 6, 7, 5, 6, 6, 7, 6, 7, 7, 8] q).bind fun b =>
  (Zkm [0, 1, 1, 2, 1, 2, 2, 3, 1, 2, 2, 3, 2, 3, 3, 4, 1, 2, 2, 3, 2, 3, 3, 4, 2, 3, 3, 4, 3, 4, 4, 5, 1, 2, 2, 3, 2, 3, 3, 4, 2, 3, 3, 4, 3, 4, 4, 5, 2, 3, 3, 4, 3, 4, 4, 5, 3, 4, 4, 5, 4, 5, 5, 6, 1, 2, 2, 3, 2, 3, 3, 4, 2, 3, 3, 4, 3, 4, 4, 5, 2, 3, 3, 4, 3, 4, 4, 5, 3, 4, 4, 5, 4, 5, 5, 6, 2, 3, 3, 4, 3, 4, 4, 5, 3, 4, 4, 5, 4, 5, 5, 6, 3, 4, 4, 5, 4, 5, 5, 6, 4, 5, 5, 6, 5, 6, 6, 7, 1, 2, 2, 3, 2, 3, 3, 4, 2, 3, 3, 4, 3, 4, 4, 5, 2, 3, 3, 4, 3, 4, 4, 5, 3, 4, 4, 5, 4, 5, 5, 6, 2, 3, 3, 4, 3, 4, 4, 5, 3, 4, 4, 5, 4, 5, 5, 6, 3, 4, 4, 5, 4, 5, 5, 6, 4, 5, 5, 6, 5, 6, 6, 7, 2, 3, 3, 4, 3, 4, 4, 5, 3, 4, 4, 5, 4, 5, 5, 6, 3, 4, 4, 5, 4, 5, 5, 6, 4, 5, 5, 6, 5, 6, 6, 7, 3, 4, 4, 5, 4, 5, 5, 6, 4, 5, 5, 6, 5, 6, 6, 7, 4, 5, 5, 6, 5, 6, 6, 7, 5, 6, 6, 7, 6, 7, 7, 8] (Q6 .u16 x 255)).bind fun b2 =>
  some (i64 (u8 (b + b2)))
theorem ZeW (x : Int) : Le (ZaE x) (XR x) := by
  unfold ZaE XR
  with_reducible repeat' (first | exact Le.refl _ | apply Le.bind | intro _)

noncomputable def Zb2 (w : Int) : Option Bool :=
  (gd ((decide (w ≤ 4095)) == true) 0 (ZaE w)).bind fun y =>
  (gd ((decide (w ≤ 4095)) == true) 0 (rem y 2)).bind fun q =>
  some ((decide (w ≤ 4095)) && (decide (q = 1)))
theorem Zf5 (w : Int) : Le (Zb2 w) (ZbE w) := by
  unfold Zb2 ZbE
  with_reducible repeat' (first | exact Le.refl _ | apply Le.bind | apply Le.gd | apply ZeW | intro _)

noncomputable def Zbv (f : Vector Int 64) (out5 : List api_Flaw) (i2 : Int) : Option (((List api_Flaw) × Int) ⊕ ((List api_Flaw))) :=
  if (decide (i2 < 64)) = true then
  (ZH f i2).bind fun x4 =>
  (Zb2 x4).bind fun y2 =>
  if (!y2) = true then
  (app out5 ([(api_Flaw.mk i2 2)] : List api_Flaw)).bind fun l3 =>
  some (.inl (l3, (i64 (i2 + 1))))
  else
  some (.inl (out5, (i64 (i2 + 1))))
  else
  some (.inr out5)
theorem ZfT (f : Vector Int 64) (out5 : List api_Flaw) (i2 : Int) : Le (Zbv f out5 i2) (ZaP f out5 i2) := by
  unfold Zbv ZaP
  with_reducible repeat' (first | exact Le.refl _ | apply Le.bind | apply Le.ite | apply Zf5 | intro _)

noncomputable def Zbt (f : Vector Int 64) (n2 : Int) (i : Int) : Option ((Int × Int) ⊕ (Int)) :=
  if (decide (i < 60)) = true then
  (ZH f (i64 (i + 1))).bind fun x =>
  (Xx x).bind fun y =>
  some (.inl ((Zat .i64 n2 y), (i64 (i + 1))))
  else
  some (.inr n2)
theorem Zft (f : Vector Int 64) (n2 : Int) (i : Int) : Le (Zbt f n2 i) (Zbk f n2 i) := by
  unfold Zbt Zbk
  with_reducible repeat' (first | exact Le.refl _ | apply Le.bind | apply Le.ite | apply Zdi | intro _)

noncomputable def Zda (f : Vector Int 64) : Option Int :=
  ((Qg (t2 (Zbt f)) (0, 0)) : Option ((Int))).bind (t1 fun (n : Int) =>
  some n)
theorem ZhE (f : Vector Int 64) : Le (Zda f) (ZbT f) := by
  unfold Zda ZbT
  with_reducible repeat' (first | exact Le.refl _ | apply Le.bind | apply Le.loop | apply Le.t1 | apply Le.t2 | apply Zft | intro _)

noncomputable def Zaz (f : Vector Int 64) (i : Int) (n4 : Int) (k : Int) : Option ((Int × Int) ⊕ (Int)) :=
  if (decide (0 ≤ k)) = true then
  (shl .i64 n4 1).bind fun q =>
  (ZH f i).bind fun x =>
  (shr .u16 x k).bind fun q2 =>
  if (!((!decide ((Q6 .i64 n4 2097152) = 0)) == (decide ((Q6 .u16 q2 1) = 1)))) = true then
  some (.inl ((Zat .i64 (Q6 .i64 q 4194303) 2097167), (i64 (k - 1))))
  else
  some (.inl ((Q6 .i64 q 4194303), (i64 (k - 1))))
  else
  some (.inr n4)
theorem ZeP (f : Vector Int 64) (i : Int) (n4 : Int) (k : Int) : Le (Zaz f i n4 k) (JS f i n4 k) := by
  unfold Zaz JS
  with_reducible repeat' (first | exact Le.refl _ | apply Le.bind | apply Le.ite | intro _)

noncomputable def Zav (f : Vector Int 64) (n2 : Int) (i : Int) : Option ((Int × Int) ⊕ (Int)) :=
  if (decide (i < 62)) = true then
  ((Qg (t2 (Zaz f i)) (n2, 11)) : Option ((Int))).bind (t1 fun (n3 : Int) =>
  some (.inl (n3, (i64 (i + 1)))))
  else
  some (.inr n2)
theorem ZeX (f : Vector Int 64) (n2 : Int) (i : Int) : Le (Zav f n2 i) (JX f n2 i) := by
  unfold Zav JX
  with_reducible repeat' (first | exact Le.refl _ | apply Le.bind | apply Le.ite | apply Le.loop | apply Le.t1 | apply Le.t2 | apply ZeP | intro _)

noncomputable def Zcd (f : Vector Int 64) : Option Int :=
  ((Qg (t2 (Zav f)) (0, 0)) : Option ((Int))).bind (t1 fun (n : Int) =>
  some n)
theorem Zgv (f : Vector Int 64) : Le (Zcd f) (Zac f) := by
  unfold Zcd Zac
  with_reducible repeat' (first | exact Le.refl _ | apply Le.bind | apply Le.loop | apply Le.t1 | apply Le.t2 | apply ZeX | intro _)

noncomputable def ZbL (f : Vector Int 64) : Option (List api_Flaw) :=
  ((Qg (t2 (ZbD f)) ([], 0)) : Option (((List api_Flaw)))).bind (t1 fun (out : List api_Flaw) =>
  if (decide (0 < (out.length : Int))) = true then
  some out
  else
  (((ZH f 0).bind fun x2 =>
  (JK f).bind fun y =>
  (rem y 4).bind fun q =>
  (ZH gv_frame_syncs q).bind fun x3 =>
  if (!decide (x2 = x3)) = true then
  (app out ([(api_Flaw.mk 0 1)] : List api_Flaw)).bind fun l2 =>
  some l2
  else
  some out) : Option (((List api_Flaw)))).bind (t1 fun (out3 : List api_Flaw) =>
  ((Qg (t2 (Zbv f)) (out3, 1)) : Option (((List api_Flaw)))).bind (t1 fun (out4 : List api_Flaw) =>
  (((ZH f 61).bind fun x5 =>
  (Xx x5).bind fun y3 =>
  (Zda f).bind fun y4 =>
  if (!decide (y3 = y4)) = true then
  (app out4 ([(api_Flaw.mk 61 3)] : List api_Flaw)).bind fun l4 =>
  some l4
  else
  some out4) : Option (((List api_Flaw)))).bind (t1 fun (out6 : List api_Flaw) =>
  (ZH f 62).bind fun x6 =>
  (Xx x6).bind fun y5 =>
  (shl .i64 y5 11).bind fun q2 =>
  (ZH f 63).bind fun x7 =>
  (Xx x7).bind fun y6 =>
  (Zcd f).bind fun y7 =>
  if (!decide ((bor .i64 q2 y6) = y7)) = true then
  (app out6 ([(api_Flaw.mk 62 4)] : List api_Flaw)).bind fun l5 =>
  some l5
  else
  some out6))))
theorem Zef (f : Vector Int 64) : Le (ZbL f) (ZaH f) := by
  unfold ZbL ZaH
  with_reducible repeat' (first | exact Le.refl _ | apply Le.bind | apply Le.ite | apply Le.loop | apply Le.t1 | apply Le.t2 | apply ZfZ | apply Zc0 | apply ZfT | apply Zdi | apply ZhE | apply Zgv | intro _)

noncomputable def Zbh (f : Vector Int 64) : Option (Int × Bool) :=
  (ZH f 1).bind fun x =>
  (Zb2 x).bind fun y =>
  (gd ((!y) == false) 0 (ZH f 2)).bind fun x2 =>
  (gd ((!y) == false) false (Zb2 x2)).bind fun y2 =>
  if ((!y) || (!y2)) = true then
  some (0, false)
  else
  (JK f).bind fun y3 =>
  some (y3, true)
theorem Zd3 (f : Vector Int 64) : Le (Zbh f) (JW f) := by
  unfold Zbh JW
  with_reducible repeat' (first | exact Le.refl _ | apply Le.bind | apply Le.ite | apply Le.gd | apply Zf5 | apply Zc0 | intro _)

noncomputable def ZaV (number : Int) (memories : Int) (copies : Int) (out2 : List Int) (i : Int) : Option (((List Int) × Int) ⊕ ((List Int))) :=
  if (decide (i < copies)) = true then
  (rem (i64 (number + i)) memories).bind fun q =>
  (apz 8 out2 ([q] : List Int)).bind fun l =>
  some (.inl (l, (i64 (i + 1))))
  else
  some (.inr out2)
theorem Zfc (number : Int) (memories : Int) (copies : Int) (out2 : List Int) (i : Int) : Le (ZaV number memories copies out2 i) (Zai number memories copies out2 i) := by
  unfold ZaV Zai
  with_reducible repeat' (first | exact Le.refl _ | apply Le.bind | apply Le.ite | intro _)

noncomputable def ZcT (number : Int) (memories : Int) (copies : Int) : Option (List Int) :=
  ((Qg (t2 (ZaV number memories copies)) ([], 0)) : Option (((List Int)))).bind (t1 fun (out : List Int) =>
  some out)
theorem ZgS (number : Int) (memories : Int) (copies : Int) : Le (ZcT number memories copies) (Za3 number memories copies) := by
  unfold ZcT Za3
  with_reducible repeat' (first | exact Le.refl _ | apply Le.bind | apply Le.loop | apply Le.t1 | apply Le.t2 | apply Zfc | intro _)

noncomputable def Xf (b : ring_bank) (k : Int) : Option Bool :=
  (idx b.spots k).bind fun x =>
  (gd ((decide (x.sector < 0)) == false) (ring_spot.mk 0 0) (idx b.spots k)).bind fun x2 =>
  (gd ((decide (x.sector < 0)) == false) (api_Memory.mk 0 0 [] [] []) (idx b.memories k)).bind fun x3 =>
  some ((decide (x.sector < 0)) || (decide (x2.slot = x3.Slots)))
theorem J3 (b : ring_bank) (k : Int) : Le (Xf b k) (QJ b k) := by
  unfold Xf QJ
  with_reducible repeat' (first | exact Le.refl _ | apply Le.bind | apply Le.gd | intro _)

noncomputable def J4 (b : ring_bank) (k : Int) (x : api_Memory) (i : Int) : Option ((Int) ⊕ (Int) ⊕ (Unit)) :=
  if (decide (i < (x.Sectors.length : Int))) = true then
  (idx b.spots k).bind fun x2 =>
  (rem (i64 ((i64 (x2.sector + 1)) + i)) (x.Sectors.length : Int)).bind fun q =>
  (idx x.Bad q).bind fun x3 =>
  (gd ((!x3) == true) 0 (idx x.Wear q)).bind fun x4 =>
  if ((!x3) && (decide (x4 < x.Limit))) = true then
  some (.inr (.inl q))
  else
  some (.inl (i64 (i + 1)))
  else
  some (.inr (.inr ()))
theorem ZeH (b : ring_bank) (k : Int) (x : api_Memory) (i : Int) : Le (J4 b k x i) (Jr b k x i) := by
  unfold J4 Jr
  with_reducible repeat' (first | exact Le.refl _ | apply Le.bind | apply Le.ite | apply Le.gd | intro _)

noncomputable def XS (b : ring_bank) (k : Int) : Option Int :=
  (idx b.memories k).bind fun x =>
  ((Qg (t1 (J4 b k x)) 0) : Option ((Int) ⊕ (Unit))).bind (Sum.elim (fun q' => some q') (t0 (some (-1))))
theorem Za7 (b : ring_bank) (k : Int) : Le (XS b k) (Xl b k) := by
  unfold XS Xl
  with_reducible repeat' (first | exact Le.refl _ | apply Le.bind | apply Le.loop | apply Le.t0 | apply Le.t1 | apply Le.elim | apply ZeH | intro _)

noncomputable def Jx (b : ring_bank) (l : List Int) (i : Int) : Option ((Int) ⊕ (Int) ⊕ (Unit)) :=
  if (decide (i < (l.length : Int))) = true then
  (idx l i).bind fun x =>
  (Xf b x).bind fun y =>
  (gd (y == true) 0 (XS b x)).bind fun y2 =>
  if (y && (decide (y2 < 0))) = true then
  some (.inr (.inl 4))
  else
  some (.inl (i64 (i + 1)))
  else
  some (.inr (.inr ()))
theorem Zeb (b : ring_bank) (l : List Int) (i : Int) : Le (Jx b l i) (X5 b l i) := by
  unfold Jx X5
  with_reducible repeat' (first | exact Le.refl _ | apply Le.bind | apply Le.ite | apply Le.gd | apply J3 | apply Za7 | intro _)

noncomputable def XX (sector : Int) (x : api_Memory) (most2 : Int) (i : Int) : Option ((Int × Int) ⊕ (Int)) :=
  if (decide (i < (x.Sectors.length : Int))) = true then
  (idx x.Sectors i).bind fun x2 =>
  (JD x2).bind fun y =>
  if (y.2.2 && (!decide (i = sector))) = true then
  some (.inl ((max most2 y.1), (i64 (i + 1))))
  else
  some (.inl (most2, (i64 (i + 1))))
  else
  some (.inr most2)
theorem Zdg (sector : Int) (x : api_Memory) (most2 : Int) (i : Int) : Le (XX sector x most2 i) (Xm sector x most2 i) := by
  unfold XX Xm
  with_reducible repeat' (first | exact Le.refl _ | apply Le.bind | apply Le.ite | apply ZaU | intro _)

noncomputable def Xv (b : ring_bank) (k : Int) (sector : Int) : Option Int :=
  (((idx b.memories k).bind fun x =>
  Qg (t2 (XX sector x)) (0, 0)) : Option ((Int))).bind (t1 fun (most : Int) =>
  some (i64 (most + 1)))
theorem Zbm (b : ring_bank) (k : Int) (sector : Int) : Le (Xv b k sector) (QK b k sector) := by
  unfold Xv QK
  with_reducible repeat' (first | exact Le.refl _ | apply Le.bind | apply Le.loop | apply Le.t1 | apply Le.t2 | apply Zdg | intro _)

noncomputable def JC (b : ring_bank) (l : List Int) (i2 : Int) : Option ((Int) ⊕ (Int) ⊕ (Unit)) :=
  if (decide (i2 < (l.length : Int))) = true then
  (idx l i2).bind fun x2 =>
  (Xf b x2).bind fun y3 =>
  (gd (y3 == true) 0 (XS b x2)).bind fun y4 =>
  (gd (y3 == true) 0 (Xv b x2 y4)).bind fun y5 =>
  if (y3 && (decide (1073741824 < y5))) = true then
  some (.inr (.inl 3))
  else
  some (.inl (i64 (i2 + 1)))
  else
  some (.inr (.inr ()))
theorem Zd9 (b : ring_bank) (l : List Int) (i2 : Int) : Le (JC b l i2) (X9 b l i2) := by
  unfold JC X9
  with_reducible repeat' (first | exact Le.refl _ | apply Le.bind | apply Le.ite | apply Le.gd | apply J3 | apply Za7 | apply Zbm | intro _)

noncomputable def Za2 (b : ring_bank) (l : List Int) : Option Int :=
  ((Qg (t1 (Jx b l)) 0) : Option ((Int) ⊕ (Unit))).bind (Sum.elim (fun q' => some q') (t0 (((Qg (t1 (JC b l)) 0) : Option ((Int) ⊕ (Unit))).bind (Sum.elim (fun q' => some q') (t0 (some 0))))))
theorem Zfa (b : ring_bank) (l : List Int) : Le (Za2 b l) (Jk b l) := by
  unfold Za2 Jk
  with_reducible repeat' (first | exact Le.refl _ | apply Le.bind | apply Le.loop | apply Le.t0 | apply Le.t1 | apply Le.elim | apply Zeb | apply Zd9 | intro _)

noncomputable def Zcg (f : Vector Int 64) (i : Int) : Option ((Int) ⊕ (Bool) ⊕ (Unit)) :=
  if (decide (i < 64)) = true then
  (ZH f i).bind fun x =>
  if (decide (4095 < x)) = true then
  some (.inr (.inl true))
  else
  some (.inl (i64 (i + 1)))
  else
  some (.inr (.inr ()))
theorem Zgt (f : Vector Int 64) (i : Int) : Le (Zcg f i) (ZbK f i) := by
  unfold Zcg ZbK
  with_reducible repeat' (first | exact Le.refl _ | apply Le.bind | apply Le.ite | intro _)

noncomputable def ZdS (f : Vector Int 64) : Option Bool :=
  ((Qg (t1 (Zcg f)) 0) : Option ((Bool) ⊕ (Unit))).bind (Sum.elim (fun q' => some q') (t0 (some false)))
theorem ZhQ (f : Vector Int 64) : Le (ZdS f) (ZcK f) := by
  unfold ZdS ZcK
  with_reducible repeat' (first | exact Le.refl _ | apply Le.bind | apply Le.loop | apply Le.t0 | apply Le.t1 | apply Le.elim | apply Zgt | intro _)

noncomputable def Za6 (p : Vector Int 96) (i : Int) (w : Int) : Option (Vector Int 96) :=
  (quo .i64 i 2).bind fun q =>
  (rem i 2).bind fun q2 =>
  if (decide (q2 = 0)) = true then
  (shr .u16 w 4).bind fun q3 =>
  (ZH p (i64 ((i64 (q * 3)) + 1))).bind fun x =>
  (ZH p (i64 (q * 3))).bind fun x2 =>
  (shl .u16 (Q6 .u16 w 15) 4).bind fun q4 =>
  (ZH (Q2 p (i64 (q * 3)) (u8 q3)) (i64 ((i64 (q * 3)) + 1))).bind fun x3 =>
  some (Q2 (Q2 p (i64 (q * 3)) (u8 q3)) (i64 ((i64 (q * 3)) + 1)) (bor .u8 (u8 q4) (Q6 .u8 x 15)))
  else
  (ZH p (i64 ((i64 (q * 3)) + 1))).bind fun x4 =>
  (shr .u16 w 8).bind fun q5 =>
  (ZH p (i64 ((i64 (q * 3)) + 1))).bind fun x5 =>
  (ZH (Q2 p (i64 ((i64 (q * 3)) + 1)) (bor .u8 (Q6 .u8 x4 240) (u8 q5))) (i64 ((i64 (q * 3)) + 2))).bind fun x6 =>
  some (Q2 (Q2 p (i64 ((i64 (q * 3)) + 1)) (bor .u8 (Q6 .u8 x4 240) (u8 q5))) (i64 ((i64 (q * 3)) + 2)) (u8 w))
theorem Zfp (p : Vector Int 96) (i : Int) (w : Int) : Le (Za6 p i w) (Jd p i w) := by
  unfold Za6 Jd
  with_reducible repeat' (first | exact Le.refl _ | apply Le.bind | apply Le.ite | intro _)

noncomputable def Zce (f : Vector Int 64) (o : Vector Int 96) (i : Int) : Option (((Vector Int 96) × Int) ⊕ ((Vector Int 96))) :=
  if (decide (i < 64)) = true then
  (ZH f i).bind fun x =>
  (Za6 o i x).bind fun y =>
  some (.inl (y, (i64 (i + 1))))
  else
  some (.inr o)
theorem Zgy (f : Vector Int 64) (o : Vector Int 96) (i : Int) : Le (Zce f o i) (ZbM f o i) := by
  unfold Zce ZbM
  with_reducible repeat' (first | exact Le.refl _ | apply Le.bind | apply Le.ite | apply Zfp | intro _)

noncomputable def ZdG (p : Vector Int 96) (f : Vector Int 64) : Option (Vector Int 96) :=
  Qg (t2 (Zce f)) (p, 0)
theorem ZhM (p : Vector Int 96) (f : Vector Int 64) : Le (ZdG p f) (ZcS p f) := by
  unfold ZdG ZcS
  with_reducible repeat' (first | exact Le.refl _ | apply Le.bind | apply Le.loop | apply Le.t2 | apply Zgy | intro _)

noncomputable def Zcb (f : Vector Int 64) : Option ((List Int) × Int) :=
  (ZdS f).bind fun y =>
  if y = true then
  some ([], 9)
  else
  (ZdG (Vector.replicate 96 0) f).bind fun y2 =>
  (slc y2.toList 0 (96 : Int)).bind fun l =>
  some (l, 0)
theorem Zgk (f : Vector Int 64) : Le (Zcb f) (Zaf f) := by
  unfold Zcb Zaf
  with_reducible repeat' (first | exact Le.refl _ | apply Le.bind | apply Le.ite | apply ZhQ | apply ZhM | intro _)

noncomputable def Jo (q : Int) (o2 : List Int) (i : Int) : Option (((List Int) × Int) ⊕ ((List Int))) :=
  if (decide (i < ((Int.toNat (q - 0) : Nat) : Int))) = true then
  (ck (decide ((0 : Int) ≤ i) && decide (i < ((Int.toNat (q - 0) : Nat) : Int)))).bind fun u2 =>
  (idx o2 (0 + i)).bind fun x2 =>
  some (.inl ((o2.set (0 + i).toNat 255), (i64 (i + 1))))
  else
  some (.inr o2)
theorem ZdQ (q : Int) (o2 : List Int) (i : Int) : Le (Jo q o2 i) (Qm q o2 i) := by
  unfold Jo Qm
  with_reducible repeat' (first | exact Le.refl _ | apply Le.bind | apply Le.ite | intro _)

noncomputable def Jn (s : List Int) (o4 : List Int) (i2 : Int) : Option (((List Int) × Int) ⊕ ((List Int))) :=
  if (decide (i2 < (s.length : Int))) = true then
  (idx o4 i2).bind fun x3 =>
  some (.inl ((o4.set i2.toNat 255), (i64 (i2 + 1))))
  else
  some (.inr o4)
theorem ZdC (s : List Int) (o4 : List Int) (i2 : Int) : Le (Jn s o4 i2) (Ql s o4 i2) := by
  unfold Jn Ql
  with_reducible repeat' (first | exact Le.refl _ | apply Le.bind | apply Le.ite | intro _)

noncomputable def ZaB (s : List Int) (power : Int) : Option (Int × Bool × (List Int)) :=
  if (decide (power = 0)) = true then
  (quo .i64 (s.length : Int) 2).bind fun q =>
  (slp s 0 q).bind fun u =>
  ((Qg (t2 (Jo q)) (s, 0)) : Option (((List Int)))).bind (t1 fun (o : List Int) =>
  some ((max (i64 (power - 1)) 0), (decide (0 < power)), o))
  else
  ((Qg (t2 (Jn s)) (s, 0)) : Option (((List Int)))).bind (t1 fun (o3 : List Int) =>
  some ((max (i64 (power - 1)) 0), (decide (0 < power)), o3))
theorem ZeS (s : List Int) (power : Int) : Le (ZaB s power) (QM s power) := by
  unfold ZaB QM
  with_reducible repeat' (first | exact Le.refl _ | apply Le.bind | apply Le.ite | apply Le.loop | apply Le.t1 | apply Le.t2 | apply ZdQ | apply ZdC | intro _)

noncomputable def Zax (at_ : Int) (data : List Int) (o2 : List Int) (power3 : Int) (i : Int) : Option (((List Int) × Int × Int) ⊕ (Int × Bool × (List Int)) ⊕ ((List Int) × Int)) :=
  if (decide (i < (data.length : Int))) = true then
  (idx data i).bind fun x =>
  if (decide (power3 = 0)) = true then
  (idx o2 (i64 (at_ + i))).bind fun x2 =>
  (idx o2 (i64 (at_ + i))).bind fun x3 =>
  some (.inr (.inl (0, false, (o2.set (i64 (at_ + i)).toNat (Q6 .u8 x2 (bor .u8 x 15))))))
  else
  (idx o2 (i64 (at_ + i))).bind fun x4 =>
  (idx o2 (i64 (at_ + i))).bind fun x5 =>
  some (.inl ((o2.set (i64 (at_ + i)).toNat (Q6 .u8 x4 x)), (i64 (power3 - 1)), (i64 (i + 1))))
  else
  some (.inr (.inr (o2, power3)))
theorem ZeY (at_ : Int) (data : List Int) (o2 : List Int) (power3 : Int) (i : Int) : Le (Zax at_ data o2 power3 i) (QH at_ data o2 power3 i) := by
  unfold Zax QH
  with_reducible repeat' (first | exact Le.refl _ | apply Le.bind | apply Le.ite | intro _)

noncomputable def Zao (s : List Int) (at_ : Int) (data : List Int) (power : Int) : Option (Int × Bool × (List Int)) :=
  ((Qg (t3 (Zax at_ data)) (s, power, 0)) : Option ((Int × Bool × (List Int)) ⊕ ((List Int) × Int))).bind (Sum.elim (fun q' => some q') (t2 fun (o : List Int) (power2 : Int) =>
  some (power2, true, o)))
theorem Zdw (s : List Int) (at_ : Int) (data : List Int) (power : Int) : Le (Zao s at_ data power) (Q7 s at_ data power) := by
  unfold Zao Q7
  with_reducible repeat' (first | exact Le.refl _ | apply Le.bind | apply Le.loop | apply Le.t2 | apply Le.t3 | apply Le.elim | apply ZeY | intro _)

noncomputable def J6 (b : ring_Recorder) (k : Int) (power : Int) : Option (Int × Bool × ring_Recorder) :=
  (idx b.bank.memories k).bind fun x =>
  (XS b.bank k).bind fun y =>
  (Xv b.bank k y).bind fun y2 =>
  (idx x.Wear y).bind fun x2 =>
  (idx x.Wear y).bind fun x3 =>
  (idx x.Sectors y).bind fun x8 =>
  (ZaB x8 power).bind fun y3 =>
  if (!y3.2.1) = true then
  some (y3.1, false, (ring_Recorder.mk (ring_bank.mk ((b.bank.memories.set k.toNat (api_Memory.mk x.Slots x.Limit x.Sectors (x.Wear.set y.toNat (i64 (x2 + 1))) x.Bad)).set k.toNat (api_Memory.mk x.Slots x.Limit (x.Sectors.set y.toNat y3.2.2) (x.Wear.set y.toNat (i64 (x2 + 1))) x.Bad)) b.bank.spots) b.copies b.frozen b.stopped b.last b.some_))
  else
  (((idx ((b.bank.memories.set k.toNat (api_Memory.mk x.Slots x.Limit x.Sectors (x.Wear.set y.toNat (i64 (x2 + 1))) x.Bad)).set k.toNat (api_Memory.mk x.Slots x.Limit (x.Sectors.set y.toNat y3.2.2) (x.Wear.set y.toNat (i64 (x2 + 1))) x.Bad)) k).bind fun x14 =>
  (idx x14.Sectors y).bind fun x15 =>
  (idx x14.Sectors y).bind fun x16 =>
  (ZbN y2).bind fun y4 =>
  (Zao x15 0 y4 y3.1).bind fun y5 =>
  if y5.2.1 = true then
  (idx b.bank.spots k).bind fun x22 =>
  some ((((b.bank.memories.set k.toNat (api_Memory.mk x.Slots x.Limit x.Sectors (x.Wear.set y.toNat (i64 (x2 + 1))) x.Bad)).set k.toNat (api_Memory.mk x.Slots x.Limit (x.Sectors.set y.toNat y3.2.2) (x.Wear.set y.toNat (i64 (x2 + 1))) x.Bad)).set k.toNat (api_Memory.mk x14.Slots x14.Limit (x14.Sectors.set y.toNat y5.2.2) x14.Wear x14.Bad)), (b.bank.spots.set k.toNat (ring_spot.mk y 0)), y5.1, y5.2.1)
  else
  some ((((b.bank.memories.set k.toNat (api_Memory.mk x.Slots x.Limit x.Sectors (x.Wear.set y.toNat (i64 (x2 + 1))) x.Bad)).set k.toNat (api_Memory.mk x.Slots x.Limit (x.Sectors.set y.toNat y3.2.2) (x.Wear.set y.toNat (i64 (x2 + 1))) x.Bad)).set k.toNat (api_Memory.mk x14.Slots x14.Limit (x14.Sectors.set y.toNat y5.2.2) x14.Wear x14.Bad)), b.bank.spots, y5.1, y5.2.1)) : Option (((List api_Memory) × (List ring_spot) × Int × Bool))).bind (t4 fun (memories : List api_Memory) (spots : List ring_spot) (power2 : Int) (all : Bool) =>
  some (power2, all, (ring_Recorder.mk (ring_bank.mk memories spots) b.copies b.frozen b.stopped b.last b.some_)))
theorem Zen (b : ring_Recorder) (k : Int) (power : Int) : Le (J6 b k power) (Xy b k power) := by
  unfold J6 Xy
  with_reducible repeat' (first | exact Le.refl _ | apply Le.bind | apply Le.ite | apply Le.t4 | apply Za7 | apply Zbm | apply ZeS | apply Zek | apply Zdw | intro _)

noncomputable def Za9 (b : ring_Recorder) (k : Int) (data : List Int) (power : Int) : Option (Int × Bool × ring_Recorder) :=
  (((Xf b.bank k).bind fun y =>
  if y = true then
  (J6 b k power).bind fun y2 =>
  if (!y2.2.1) = true then
  some (.inl (y2.1, false, y2.2.2))
  else
  some (.inr (y2.2.2.bank.memories, y2.2.2.bank.spots, y2.2.2.copies, y2.2.2.frozen, y2.2.2.stopped, y2.2.2.last, y2.2.2.some_, y2.1))
  else
  some (.inr (b.bank.memories, b.bank.spots, b.copies, b.frozen, b.stopped, b.last, b.some_, power))) : Option ((Int × Bool × ring_Recorder) ⊕ ((List api_Memory) × (List ring_spot) × Int × Bool × Bool × Int × Bool × Int))).bind (Sum.elim (fun q' => some q') (t8 fun (memories : List api_Memory) (spots : List ring_spot) (copies : Int) (frozen : Bool) (stopped : Bool) (last : Int) (some_ : Bool) (power2 : Int) =>
  (idx spots k).bind fun x =>
  (idx memories k).bind fun x2 =>
  (idx x2.Sectors x.sector).bind fun x3 =>
  (idx memories k).bind fun x4 =>
  (idx x2.Sectors x.sector).bind fun x5 =>
  (apz 1 data ([0] : List Int)).bind fun l =>
  (Zao x3 (i64 (16 + (i64 (x.slot * 97)))) l power2).bind fun y3 =>
  some (y3.1, y3.2.1, (ring_Recorder.mk (ring_bank.mk (memories.set k.toNat (api_Memory.mk x2.Slots x2.Limit (x2.Sectors.set x.sector.toNat y3.2.2) x2.Wear x2.Bad)) (spots.set k.toNat (ring_spot.mk x.sector (i64 (x.slot + 1))))) copies frozen stopped last some_))))
theorem Zfk (b : ring_Recorder) (k : Int) (data : List Int) (power : Int) : Le (Za9 b k data power) (Jh b k data power) := by
  unfold Za9 Jh
  with_reducible repeat' (first | exact Le.refl _ | apply Le.bind | apply Le.ite | apply Le.t8 | apply Le.elim | apply J3 | apply Zen | apply Zdw | intro _)

noncomputable def Xr (y4 : (List Int)) (y6 : (List Int) × Int) (memories2 : List api_Memory) (spots2 : List ring_spot) (copies2 : Int) (frozen2 : Bool) (stopped2 : Bool) (last2 : Int) (some_2 : Bool) (power3 : Int) (i : Int) : Option (((List api_Memory) × (List ring_spot) × Int × Bool × Bool × Int × Bool × Int × Int) ⊕ (Int × Bool × Int × ring_Recorder) ⊕ ((List api_Memory) × (List ring_spot) × Int × Bool × Bool × Int × Bool × Int)) :=
  if (decide (i < (y4.length : Int))) = true then
  (idx y4 i).bind fun x =>
  (slc y6.1 0 (y6.1.length : Int)).bind fun l =>
  (Za9 (ring_Recorder.mk (ring_bank.mk memories2 spots2) copies2 frozen2 stopped2 last2 some_2) x l power3).bind fun y7 =>
  if (!y7.2.1) = true then
  some (.inr (.inl (y7.1, false, 0, (ring_Recorder.mk y7.2.2.bank y7.2.2.copies y7.2.2.frozen true y7.2.2.last y7.2.2.some_))))
  else
  some (.inl (y7.2.2.bank.memories, y7.2.2.bank.spots, y7.2.2.copies, y7.2.2.frozen, y7.2.2.stopped, y7.2.2.last, y7.2.2.some_, y7.1, (i64 (i + 1))))
  else
  some (.inr (.inr (memories2, spots2, copies2, frozen2, stopped2, last2, some_2, power3)))
theorem ZcD (y4 : (List Int)) (y6 : (List Int) × Int) (memories2 : List api_Memory) (spots2 : List ring_spot) (copies2 : Int) (frozen2 : Bool) (stopped2 : Bool) (last2 : Int) (some_2 : Bool) (power3 : Int) (i : Int) : Le (Xr y4 y6 memories2 spots2 copies2 frozen2 stopped2 last2 some_2 power3 i) (QX y4 y6 memories2 spots2 copies2 frozen2 stopped2 last2 some_2 power3 i) := by
  unfold Xr QX
  with_reducible repeat' (first | exact Le.refl _ | apply Le.bind | apply Le.ite | apply Zfk | intro _)

noncomputable def Jb (r_ : ring_Recorder) (f : Vector Int 64) (power : Int) : Option (Int × Bool × Int × ring_Recorder) :=
  (JA r_ power).bind fun y =>
  if (!decide (y = 0)) = true then
  some (0, false, y, r_)
  else
  (ZbL f).bind fun y2 =>
  if (decide (0 < (y2.length : Int))) = true then
  some (0, false, 2, r_)
  else
  (Zbh f).bind fun y3 =>
  (ZcT y3.1 (r_.bank.memories.length : Int) r_.copies).bind fun y4 =>
  (Za2 r_.bank y4).bind fun y5 =>
  if (!decide (y5 = 0)) = true then
  some (0, false, y5, r_)
  else
  (Zcb f).bind fun y6 =>
  ((Qg (t9 (Xr y4 y6)) (r_.bank.memories, r_.bank.spots, r_.copies, r_.frozen, r_.stopped, r_.last, r_.some_, power, 0)) : Option ((Int × Bool × Int × ring_Recorder) ⊕ ((List api_Memory) × (List ring_spot) × Int × Bool × Bool × Int × Bool × Int))).bind (Sum.elim (fun q' => some q') (t8 fun (memories : List api_Memory) (spots : List ring_spot) (copies : Int) (frozen : Bool) (stopped : Bool) (last : Int) (some_ : Bool) (power2 : Int) =>
  some (power2, true, 0, (ring_Recorder.mk (ring_bank.mk memories spots) copies frozen stopped y3.1 true))))
theorem Zdx (r_ : ring_Recorder) (f : Vector Int 64) (power : Int) : Le (Jb r_ f power) (QU r_ f power) := by
  unfold Jb QU
  with_reducible repeat' (first | exact Le.refl _ | apply Le.bind | apply Le.ite | apply Le.loop | apply Le.t8 | apply Le.t9 | apply Le.elim | apply Zd8 | apply Zef | apply Zd3 | apply ZgS | apply Zfa | apply Zgk | apply ZcD | intro _)

noncomputable def XI (r_ : ring_Recorder) : Option (List api_Memory) :=
  (Za8 r_.bank.memories).bind fun y =>
  some y
theorem ZcY (r_ : ring_Recorder) : Le (XI r_) (Qx r_) := by
  unfold XI Qx
  with_reducible repeat' (first | exact Le.refl _ | apply Le.bind | apply ZdW | intro _)

noncomputable def ZcG (p : Vector Int 96) (i : Int) : Option Int :=
  (quo .i64 i 2).bind fun q =>
  (rem i 2).bind fun q2 =>
  if (decide (q2 = 0)) = true then
  (ZH p (i64 (q * 3))).bind fun x =>
  (shl .u16 (u16 x) 4).bind fun q3 =>
  (ZH p (i64 ((i64 (q * 3)) + 1))).bind fun x2 =>
  (shr .u16 (u16 x2) 4).bind fun q4 =>
  some (bor .u16 q3 q4)
  else
  (ZH p (i64 ((i64 (q * 3)) + 1))).bind fun x3 =>
  (shl .u16 (Q6 .u16 (u16 x3) 15) 8).bind fun q5 =>
  (ZH p (i64 ((i64 (q * 3)) + 2))).bind fun x4 =>
  some (bor .u16 q5 (u16 x4))
theorem ZgM (p : Vector Int 96) (i : Int) : Le (ZcG p i) (X7 p i) := by
  unfold ZcG X7
  with_reducible repeat' (first | exact Le.refl _ | apply Le.bind | apply Le.ite | intro _)

noncomputable def Zb6 (p : Vector Int 96) (f2 : Vector Int 64) (i : Int) : Option (((Vector Int 64) × Int) ⊕ ((Vector Int 64))) :=
  if (decide (i < 64)) = true then
  (ZcG p i).bind fun y =>
  (ZH f2 i).bind fun x =>
  some (.inl ((Q2 f2 i y), (i64 (i + 1))))
  else
  some (.inr f2)
theorem Zgf (p : Vector Int 96) (f2 : Vector Int 64) (i : Int) : Le (Zb6 p f2 i) (XK p f2 i) := by
  unfold Zb6 XK
  with_reducible repeat' (first | exact Le.refl _ | apply Le.bind | apply Le.ite | apply ZgM | intro _)

noncomputable def ZdA (p : Vector Int 96) : Option (Vector Int 64) :=
  ((Qg (t2 (Zb6 p)) ((Vector.replicate 64 0), 0)) : Option (((Vector Int 64)))).bind (t1 fun (f : Vector Int 64) =>
  some f)
theorem ZhS (p : Vector Int 96) : Le (ZdA p) (Zas p) := by
  unfold ZdA Zas
  with_reducible repeat' (first | exact Le.refl _ | apply Le.bind | apply Le.loop | apply Le.t1 | apply Le.t2 | apply Zgf | intro _)

noncomputable def ZaN (b : List Int) : Option ((Vector Int 64) × Int) :=
  if (decide ((b.length : Int) < 96)) = true then
  some ((#v[0, 0, 0, 0, 0, 0, 0, 0, 0, 0, 0, 0, 0, 0, 0, 0, 0, 0, 0, 0, 0, 0, 0, 0, 0, 0, 0, 0, 0, 0, 0, 0, 0, 0, 0, 0, 0, 0, 0, 0, 0, 0, 0, 0, 0, 0, 0, 0, 0, 0, 0, 0, 0, 0, 0, 0, 0, 0, 0, 0, 0, 0, 0, 0] : Vector Int 64), 3)
  else
  (slc b 0 96).bind fun l =>
  (tov 96 l).bind fun v =>
  (ZdA v).bind fun y =>
  some (y, 0)
theorem Zfq (b : List Int) : Le (ZaN b) (QA b) := by
  unfold ZaN QA
  with_reducible repeat' (first | exact Le.refl _ | apply Le.bind | apply Le.ite | apply ZhS | intro _)

noncomputable def ZaO (i : Int) (x : api_Memory) (x2 : Int) (y3 : Int × Bool × Bool) (out6 : List api_Kept) (i3 : Int) : Option (((List api_Kept) × Int) ⊕ ((List api_Kept))) :=
  if (decide (i3 < x.Slots)) = true then
  (idx x.Sectors x2).bind fun x4 =>
  (ZbO x4 i3).bind fun y4 =>
  (Zbe y4).bind fun y5 =>
  if (decide (y5 = 1)) = true then
  (slc y4.toList 0 (97 : Int)).bind fun l2 =>
  (ZaN l2).bind fun y6 =>
  (apz 160 out6 ([(api_Kept.mk i x2 y3.1 i3 y6.1)] : List api_Kept)).bind fun l3 =>
  some (.inl (l3, (i64 (i3 + 1))))
  else
  some (.inl (out6, (i64 (i3 + 1))))
  else
  some (.inr out6)
theorem Zfe (i : Int) (x : api_Memory) (x2 : Int) (y3 : Int × Bool × Bool) (out6 : List api_Kept) (i3 : Int) : Le (ZaO i x x2 y3 out6 i3) (Zal i x x2 y3 out6 i3) := by
  unfold ZaO Zal
  with_reducible repeat' (first | exact Le.refl _ | apply Le.bind | apply Le.ite | apply ZeA | apply Zd5 | apply Zfq | intro _)

noncomputable def ZaK (i : Int) (x : api_Memory) (y2 : (List Int)) (out4 : List api_Kept) (i2 : Int) : Option (((List api_Kept) × Int) ⊕ ((List api_Kept))) :=
  if (decide (i2 < (y2.length : Int))) = true then
  (((idx y2 i2).bind fun x2 =>
  (idx x.Sectors x2).bind fun x3 =>
  (JD x3).bind fun y3 =>
  Qg (t2 (ZaO i x x2 y3)) (out4, 0)) : Option (((List api_Kept)))).bind (t1 fun (out5 : List api_Kept) =>
  some (.inl (out5, (i64 (i2 + 1)))))
  else
  some (.inr out4)
theorem Zfo (i : Int) (x : api_Memory) (y2 : (List Int)) (out4 : List api_Kept) (i2 : Int) : Le (ZaK i x y2 out4 i2) (Zak i x y2 out4 i2) := by
  unfold ZaK Zak
  with_reducible repeat' (first | exact Le.refl _ | apply Le.bind | apply Le.ite | apply Le.loop | apply Le.t1 | apply Le.t2 | apply ZaU | apply Zfe | intro _)

noncomputable def Zbf (l : List api_Memory) (out2 : List api_Kept) (i : Int) : Option (((List api_Kept) × Int) ⊕ ((List api_Kept))) :=
  if (decide (i < (l.length : Int))) = true then
  (((idx l i).bind fun x =>
  (Za4 x).bind fun y2 =>
  Qg (t2 (ZaK i x y2)) (out2, 0)) : Option (((List api_Kept)))).bind (t1 fun (out3 : List api_Kept) =>
  some (.inl (out3, (i64 (i + 1)))))
  else
  some (.inr out2)
theorem Zfg (l : List api_Memory) (out2 : List api_Kept) (i : Int) : Le (Zbf l out2 i) (Zan l out2 i) := by
  unfold Zbf Zan
  with_reducible repeat' (first | exact Le.refl _ | apply Le.bind | apply Le.ite | apply Le.loop | apply Le.t1 | apply Le.t2 | apply Zd1 | apply Zfo | intro _)

noncomputable def ZcE (l : List api_Memory) : Option ((List api_Kept) × Int) :=
  (Zap l).bind fun y =>
  if (!decide (y = 0)) = true then
  some ([], y)
  else
  ((Qg (t2 (Zbf l)) ([], 0)) : Option (((List api_Kept)))).bind (t1 fun (out : List api_Kept) =>
  some (out, 0))
theorem ZgQ (l : List api_Memory) : Le (ZcE l) (Zbc l) := by
  unfold ZcE Zbc
  with_reducible repeat' (first | exact Le.refl _ | apply Le.bind | apply Le.ite | apply Le.loop | apply Le.t1 | apply Le.t2 | apply Zds | apply Zfg | intro _)

noncomputable def ZbH (y : (List api_Kept) × Int) (best2 : List (Int × api_Kept)) (numbers2 : List Int) (i : Int) : Option (((List (Int × api_Kept)) × (List Int) × Int) ⊕ ((List (Int × api_Kept)) × (List Int))) :=
  if (decide (i < (y.1.length : Int))) = true then
  (idx y.1 i).bind fun x =>
  (ZbL x.Frame).bind fun y2 =>
  if (decide (0 < (y2.length : Int))) = true then
  some (.inl (best2, numbers2, (i64 (i + 1))))
  else
  (Zbh x.Frame).bind fun y3 =>
  (some (Zf4 kqI best2 y3.1)).bind fun o =>
  ((if (!o.isSome) = true then
  (apz 8 numbers2 ([y3.1] : List Int)).bind fun l2 =>
  some l2
  else
  some numbers2) : Option (((List Int)))).bind (t1 fun (numbers3 : List Int) =>
  if ((!o.isSome) || (decide (((o.getD (api_Kept.mk 0 0 0 0 (Vector.replicate 64 0))).Sequence) < x.Sequence))) = true then
  some (.inl ((Zi2 kqI best2 y3.1 x), numbers3, (i64 (i + 1))))
  else
  some (.inl (best2, numbers3, (i64 (i + 1)))))
  else
  some (.inr (best2, numbers2))
theorem ZfI (y : (List api_Kept) × Int) (best2 : List (Int × api_Kept)) (numbers2 : List Int) (i : Int) : Le (ZbH y best2 numbers2 i) (ZaX y best2 numbers2 i) := by
  unfold ZbH ZaX
  with_reducible repeat' (first | exact Le.refl _ | apply Le.bind | apply Le.ite | apply Le.t1 | apply Zef | apply Zd3 | intro _)

noncomputable def Zbx (best : List (Int × api_Kept)) (y4 : List Int) (out2 : List (Vector Int 64)) (i2 : Int) : Option (((List (Vector Int 64)) × Int) ⊕ ((List (Vector Int 64)))) :=
  if (decide (i2 < (y4.length : Int))) = true then
  (idx y4 i2).bind fun x2 =>
  (some ((Zf4 kqI best x2).getD (api_Kept.mk 0 0 0 0 (Vector.replicate 64 0)))).bind fun o2 =>
  (apz 128 out2 ([o2.Frame] : List (Vector Int 64))).bind fun l3 =>
  some (.inl (l3, (i64 (i2 + 1))))
  else
  some (.inr out2)
theorem ZfJ (best : List (Int × api_Kept)) (y4 : List Int) (out2 : List (Vector Int 64)) (i2 : Int) : Le (Zbx best y4 out2 i2) (Zbb best y4 out2 i2) := by
  unfold Zbx Zbb
  with_reducible repeat' (first | exact Le.refl _ | apply Le.bind | apply Le.ite | intro _)

noncomputable def Zde (l : List api_Memory) : Option ((List (Vector Int 64)) × Int) :=
  (ZcE l).bind fun y =>
  if (!decide (y.2 = 0)) = true then
  some ([], y.2)
  else
  ((Qg (t3 (ZbH y)) (([] : List (Int × api_Kept)), [], 0)) : Option (((List (Int × api_Kept)) × (List Int)))).bind (t2 fun (best : List (Int × api_Kept)) (numbers : List Int) =>
  (Zl2 numbers).bind fun y4 =>
  ((Qg (t2 (Zbx best y4)) ([], 0)) : Option (((List (Vector Int 64))))).bind (t1 fun (out : List (Vector Int 64)) =>
  some (out, 0)))
theorem Zg6 (l : List api_Memory) : Le (Zde l) (ZbP l) := by
  unfold Zde ZbP
  with_reducible repeat' (first | exact Le.refl _ | apply Le.bind | apply Le.ite | apply Le.loop | apply Le.t1 | apply Le.t2 | apply Le.t3 | apply ZgQ | apply ZfI | apply ZfJ | apply Zla | intro _)

noncomputable def Zeh : Option Bool :=
  (mkz 8 58 0).bind fun l =>
  (Zfr 4 l).bind fun y =>
  (Zbs 2 1 3).bind fun y2 =>
  if (!decide (y2.2 = 0)) = true then
  some false
  else
  (ZdN ([y2.1] : List api_Memory) 1).bind (Sum.elim (fun y3 =>
  if (!decide (y3 = 0)) = true then
  some false
  else
  none) (fun y3 =>
  if (!decide (y3.2 = 0)) = true then
  some false
  else
  (Jb y3.1 y.1 109).bind fun y4 =>
  (XI y4.2.2.2).bind fun y5 =>
  (Zde y5).bind fun y6 =>
  (gd ((((((decide (y4.1 = 1)) && y4.2.1) && (decide (y4.2.2.1 = 0))) && (decide (y6.2 = 0))) && (decide ((y6.1.length : Int) = 1))) == true) (Vector.replicate 64 0) (idx y6.1 0)).bind fun x =>
  some ((((((decide (y4.1 = 1)) && y4.2.1) && (decide (y4.2.2.1 = 0))) && (decide (y6.2 = 0))) && (decide ((y6.1.length : Int) = 1))) && (decide (x = y.1)))))
theorem Zit : Le (Zeh ) (Zcy ) := by
  unfold Zeh Zcy
  with_reducible repeat' (first | exact Le.refl _ | apply Le.bind | apply Le.ite | apply Le.gd | apply Le.elim | apply Zi1 | apply Zfs | apply ZhO | apply Zdx | apply ZcY | apply Zg6 | intro _)
end Go.Vx

namespace Go.Vx
open Go Go.RowKit
theorem Zmx : Zeh = some true := by decide +kernel
theorem Zmb : Zcy = some true := Zit true Zmx
end Go.Vx

namespace Go.Vx
open Go Go.RowKit
theorem Zhp {α : Type} {s : Nat} {xs ys : List α} (h : xs.length + ys.length ≤ 140737488355328 / s) : apz s xs ys = some (xs ++ ys) := by unfold apz; rw [if_pos h]
theorem ixr {n k x : Nat} (h : (List.range n)[k]? = some x) : x = k ∧ k < n := by
  have hl := (List.getElem?_eq_some_iff.1 h).1
  rw [List.length_range] at hl
  rw [List.getElem?_range hl] at h
  cases h; exact ⟨rfl, hl⟩
theorem Zi9 {β : Type} {n : Nat} {body : List β → Int → Option ((List β × Int) ⊕ List β)} (g : Nat → β)
    (hstep : ∀ (k : Nat) acc, k < n → acc.length = k → body acc k = some (.inl (acc ++ [g k], (k : Int) + 1)))
    (hend : ∀ acc, body acc n = some (.inr acc)) : loop (t2 body) ([], 0) = some ((List.range n).map g) :=
  Zk7 g (fun k x acc hx ha => by obtain ⟨rfl, h⟩ := ixr hx; exact hstep _ acc h ha) (fun acc => by rw [List.length_range]; exact hend acc)
theorem ZjJ {α : Type} [DecidableEq α] {a b : List α} {body : Int → Option (Int ⊕ (Bool ⊕ Unit))} (hl : a.length = b.length)
    (h : ∀ (k : Nat) x y, a[k]? = some x → b[k]? = some y → body k = if x = y then some (.inl ((k : Int) + 1)) else some (.inr (.inl false)))
    (hend : body a.length = some (.inr (.inr ()))) : loop (t1 body) 0 = some (if a = b then .inr () else .inl false) := by
  refine (Zhn (xs := a) (fun k => if a.drop k = b.drop k then (.inr () : Bool ⊕ Unit) else .inl false) (fun k x hx => ?_) ?_).trans (by simp)
  · have hk := (List.getElem?_eq_some_iff.1 hx).1
    obtain ⟨y, hy⟩ := Zjl (xs := b) (k := k) (by omega)
    rw [h k x y hx hy, Zdt hx, Zdt hy]
    by_cases e : x = y
    · left; subst e; refine ⟨by rw [if_pos rfl], ?_⟩
      simp
    · right; rw [if_neg e, if_neg (by simp [e])]
  · rw [hend, if_pos (by rw [List.drop_length, hl, List.drop_length])]
theorem eqI {a b : List Int} (ha : a.length ≤ 9223372036854775807) : QP a b = some (decide (a = b)) := by
  unfold QP
  by_cases hl : a.length = b.length
  · rw [if_neg (by simp [hl]), ZjJ (a := a) (b := b) hl (fun k x y hx hy => ?_) (by simp [QY])]
    · by_cases e : a = b <;> simp [e]
    · have hlt := Zk6 hx
      simp only [QY, hlt, decide_true, if_true, ZdU hx, ZdU hy, Option.bind_some]
      rw [show i64 ((k : Int) + 1) = (k : Int) + 1 from ZY (by omega) (by omega)]
      by_cases e : x = y <;> simp [e]
  · rw [if_pos (by simpa using fun e => hl (by omega))]
    rw [decide_eq_false (fun e => hl (by rw [e]))]
theorem eqY {a b : List Int} (ha : a.length ≤ 9223372036854775807) : Z3 a b = some (decide (a = b)) := by
  unfold Z3
  by_cases hl : a.length = b.length
  · rw [if_neg (by simp [hl]), ZjJ (a := a) (b := b) hl (fun k x y hx hy => ?_) (by simp [Z2])]
    · by_cases e : a = b <;> simp [e]
    · have hlt := Zk6 hx
      simp only [Z2, hlt, decide_true, if_true, ZdU hx, ZdU hy, Option.bind_some]
      rw [show i64 ((k : Int) + 1) = (k : Int) + 1 from ZY (by omega) (by omega)]
      by_cases e : x = y <;> simp [e]
  · rw [if_pos (by simpa using fun e => hl (by omega))]
    rw [decide_eq_false (fun e => hl (by rw [e]))]
end Go.Vx

namespace Go.Vx
open Go Go.RowKit
end Go.Vx

namespace Go.Vx
open Go Go.RowKit
theorem Zf0 {α : Type} {s : List α} {k : Nat} (h : k < s.length) (d : α) : s[k]? = some (s.getD k d) := by
  rw [List.getD_eq_getElem?_getD, List.getElem?_eq_getElem h]; rfl
theorem Zmg (w : Nat) (X : BitVec w) : BitVec.ofInt w (X.toNat : Int) = X := by
  apply BitVec.eq_of_toNat_eq; simp [BitVec.toNat_ofInt]
theorem Zl6 (X : BitVec 8) : IntKind.u8.wrap (X.toNat : Int) = (X.toNat : Int) := by
  have h := X.isLt
  have : ∀ n : Nat, n < 256 → IntKind.u8.wrap (n : Int) = (n : Int) := by
    intro n hn
    show ((n : Int) % 256) = n
    omega
  exact this _ h
theorem Zm0 (a b : Int) : Q6 .u8 a b = ((BitVec.ofInt 8 a &&& BitVec.ofInt 8 b).toNat : Int) := Zl6 _
theorem ZkR (a b : Int) : Zje .u8 a b = ((BitVec.ofInt 8 a &&& ~~~ BitVec.ofInt 8 b).toNat : Int) := Zl6 _
theorem Zjr (a : Int) : Zje .u8 a a = 0 := by
  rw [ZkR]; simp
theorem ZjH {x y b : Int} (h : Zje .u8 x y = 0) : Zje .u8 (Q6 .u8 x b) y = 0 := by
  rw [ZkR] at h ⊢
  rw [Zm0, Zmg]
  have h' : (BitVec.ofInt 8 x &&& ~~~ BitVec.ofInt 8 y) = 0#8 := by
    apply BitVec.eq_of_toNat_eq; simpa using h
  have : (BitVec.ofInt 8 x &&& BitVec.ofInt 8 b) &&& ~~~ BitVec.ofInt 8 y = (BitVec.ofInt 8 x &&& ~~~ BitVec.ofInt 8 y) &&& BitVec.ofInt 8 b := by
    rw [BitVec.and_assoc, BitVec.and_comm (BitVec.ofInt 8 b), ← BitVec.and_assoc]
  rw [this, h']; simp
def SubB (t s : List Int) : Prop := ∀ (k : Nat) x y, t[k]? = some x → s[k]? = some y → Zje .u8 x y = 0
theorem SubB.refl (s : List Int) : SubB s s := fun k x y hx hy => by rw [hx] at hy; cases hy; exact Zjr x
theorem SubB.set {t s : List Int} (h : SubB t s) (a : Nat) (b : Int) : SubB (t.set a (Q6 .u8 (t.getD a 0) b)) s := by
  intro k x y hx hy
  rw [List.getElem?_set] at hx
  split at hx
  · rename_i e
    subst e
    split at hx
    · rename_i hl
      cases hx
      exact ZjH (h a _ y (Zf0 hl 0) hy)
    · cases hx
  · exact h k x y hx hy
end Go.Vx

namespace Go.Vx
open Go Go.RowKit
section
variable {σ ρ : Type} {body : σ → Option (σ ⊕ ρ)} {s s' : σ} {r : ρ}
theorem QN (h : body s = some (.inl s')) (k : loop body s' = some r) : loop body s = some r := by
  obtain ⟨n, hn⟩ := Zbq k
  exact ZdD (n := n + 1) (by simp only [JN, h, Option.bind_some]; exact hn)
theorem Zdv (h : body s = some (.inr r)) : loop body s = some r := ZdD (n := 1) (by simp only [JN, h, Option.bind_some]; rfl)
end
theorem u8W {n : Int} (h : wfI .u8 n) : 0 ≤ n ∧ n ≤ 255 := by
  have h' : (decide (IntKind.u8.min ≤ n) && decide (n ≤ IntKind.u8.max)) = true := h
  have e1 : IntKind.u8.min = 0 := by decide
  have e2 : IntKind.u8.max = 255 := by decide
  rw [e1, e2] at h'
  simpa using h'
def u8R (l : List Int) : Prop := ∀ x ∈ l, 0 ≤ x ∧ x ≤ 255
theorem Zmi {l : List Int} (h : u8R l) {k : Nat} {x : Int} (hx : l[k]? = some x) : 0 ≤ x ∧ x ≤ 255 := h x (List.mem_of_getElem? hx)
theorem Zb5 {l : List Int} (h : u8R l) (k : Nat) : 0 ≤ l.getD k 0 ∧ l.getD k 0 ≤ 255 := by
  by_cases hk : k < l.length
  · exact Zmi h (Zf0 hk 0)
  · rw [List.getD_eq_getElem?_getD, List.getElem?_eq_none (by omega)]; decide
theorem Zmh {a b s : Nat} (hb : b < 2 ^ s) (h : a * 2 ^ s + b < 2 ^ 62) : bor .i64 ((a * 2 ^ s : Nat) : Int) (b : Int) = ((a * 2 ^ s + b : Nat) : Int) := by
  unfold bor
  have e : (BitVec.ofInt IntKind.i64.bits ((a * 2 ^ s : Nat) : Int) ||| BitVec.ofInt IntKind.i64.bits (b : Int)).toNat = a * 2 ^ s + b := by
    have h1 : ∀ n : Nat, BitVec.ofInt IntKind.i64.bits (n : Int) = BitVec.ofNat 64 n := fun n => BitVec.ofInt_natCast ..
    rw [h1, h1]
    show (BitVec.ofNat 64 (a * 2 ^ s) ||| BitVec.ofNat 64 b).toNat = _
    rw [BitVec.toNat_or, BitVec.toNat_ofNat, BitVec.toNat_ofNat, Nat.mod_eq_of_lt (by omega), Nat.mod_eq_of_lt (by omega), ← Nat.shiftLeft_eq, ← Nat.shiftLeft_add_eq_or_of_lt hb]
  rw [e]
  exact ZY (by omega) (by omega)
def Zjt (a b c d : Int) : Int := a * 16777216 + b * 65536 + c * 256 + d
theorem Zmq {n j : Nat} (h1 : n ≤ 255) (h2 : j ≤ 24) : shl .i64 (n : Int) (j : Int) = some ((n * 2 ^ j : Nat) : Int) := by
  unfold shl
  rw [if_neg (by omega)]
  have e1 : min (Int.toNat (j : Int)) IntKind.i64.bits = j := by
    show min (Int.toNat (j : Int)) 64 = j
    simp; omega
  have e2 : (2 : Nat) ^ j ≤ 2 ^ 24 := Nat.pow_le_pow_right (by omega) h2
  have e3 : n * 2 ^ j ≤ 255 * 2 ^ 24 := Nat.mul_le_mul h1 e2
  rw [e1]
  have e4 : ((n : Int) * 2 ^ j) = ((n * 2 ^ j : Nat) : Int) := by push_cast; rfl
  rw [e4, ZY (by omega) (by omega)]
theorem ZmN {m n : Nat} (h : m = n) : (m : Int) = (n : Int) := congrArg _ h
theorem ZmC {a b c d : Int} (ha : 0 ≤ a ∧ a ≤ 255) (hb : 0 ≤ b ∧ b ≤ 255) (hc : 0 ≤ c ∧ c ≤ 255) (hd : 0 ≤ d ∧ d ≤ 255) :
    ∃ q q2 q3, shl .i64 (i64 a) 24 = some q ∧ shl .i64 (i64 b) 16 = some q2 ∧ shl .i64 (i64 c) 8 = some q3 ∧ bor .i64 (bor .i64 (bor .i64 q q2) q3) (i64 d) = Zjt a b c d := by
  obtain ⟨a, rfl⟩ := Int.eq_ofNat_of_zero_le ha.1
  obtain ⟨b, rfl⟩ := Int.eq_ofNat_of_zero_le hb.1
  obtain ⟨c, rfl⟩ := Int.eq_ofNat_of_zero_le hc.1
  obtain ⟨d, rfl⟩ := Int.eq_ofNat_of_zero_le hd.1
  have e : ∀ n : Nat, n ≤ 255 → i64 (n : Int) = n := fun n h => ZY (by omega) (by omega)
  rw [e a (by omega), e b (by omega), e c (by omega), e d (by omega)]
  refine ⟨_, _, _, Zmq (j := 24) (by omega) (by omega), Zmq (j := 16) (by omega) (by omega), Zmq (j := 8) (by omega) (by omega), ?_⟩
  have b1 : bor .i64 ((a * 2 ^ 24 : Nat) : Int) ((b * 2 ^ 16 : Nat) : Int) = (((a * 2 ^ 8 + b) * 2 ^ 16 : Nat) : Int) :=
    (Zmh (s := 24) (by omega) (by omega)).trans (ZmN (by omega))
  have b2 : bor .i64 (((a * 2 ^ 8 + b) * 2 ^ 16 : Nat) : Int) ((c * 2 ^ 8 : Nat) : Int) = ((((a * 2 ^ 8 + b) * 2 ^ 8 + c) * 2 ^ 8 : Nat) : Int) :=
    (Zmh (s := 16) (by omega) (by omega)).trans (ZmN (by omega))
  rw [b1, b2]
  refine (Zmh (s := 8) (by omega) (by omega)).trans ?_
  unfold Zjt; omega
def hdL (n : Int) : List Int := [79, 66, n / 16777216 % 256, n / 65536 % 256, n / 256 % 256, n % 256, 255 - n / 16777216 % 256, 255 - n / 65536 % 256, 255 - n / 256 % 256, 255 - n % 256]
theorem Zmy (n : Int) : u8R (hdL n) := by
  intro x hx
  simp only [hdL, List.mem_cons, List.not_mem_nil, or_false] at hx
  rcases hx with h | h | h | h | h | h | h | h | h | h <;> omega
theorem Zmo {k : IntKind} {n : Int} {j : Nat} (h : j ≤ k.bits) : shr k n (j : Int) = some (n / (2 : Int) ^ j) := by
  unfold shr
  rw [if_neg (by omega)]
  have e1 : min (Int.toNat (j : Int)) k.bits = j := by simp; omega
  rw [e1, Int.fdiv_eq_ediv_of_nonneg _ (Int.pow_nonneg (by decide))]
theorem u8m (z : Int) : u8 z = z % 256 := rfl
theorem ZkX {n : Int} (h : 1 ≤ n ∧ n ≤ 1073741824) : X1 n = some (hdL n) := by
  have st : ∀ (o : List Int) (j : Nat), j ≤ 24 → o.length ≤ 10 → Qu n o (j : Int) = some (.inl (o ++ [n / (2 : Int) ^ j % 256], (j : Int) - 8)) := by
    intro o j hj ho
    unfold Qu
    rw [if_pos (by simp), Zmo (by show j ≤ 64; omega), Option.bind_some, Zhp (by simp; omega), Option.bind_some, show i64 ((j : Int) - 8) = (j : Int) - 8 from ZY (by omega) (by omega), u8m]
  have h1 : loop (t2 (Qu n)) ([79, 66], 24) = some [79, 66, n / 16777216 % 256, n / 65536 % 256, n / 256 % 256, n % 256] := by
    refine QN (st [79, 66] 24 (by omega) (by simp)) ?_
    refine QN (st _ 16 (by omega) (by simp)) ?_
    refine QN (st _ 8 (by omega) (by simp)) ?_
    refine QN (st _ 0 (by omega) (by simp)) ?_
    refine Zdv ?_
    show Qu n _ (((0 : Nat) : Int) - 8) = _
    unfold Qu
    rw [if_neg (by decide)]
    simp
  have bx : ∀ x : Int, 0 ≤ x → x ≤ 255 → Zat .u8 255 x = 255 - x := by
    have key : (List.range 256).all (fun n => decide (Zat .u8 255 (n : Int) = 255 - (n : Int))) = true := by decide +kernel
    intro x h0 h1
    obtain ⟨m, rfl⟩ := Int.eq_ofNat_of_zero_le h0
    exact of_decide_eq_true (List.all_eq_true.1 key m (List.mem_range.2 (by omega)))
  unfold X1
  rw [h1]
  simp only [Option.bind_some, Zia]
  rw [show slp [79, 66, n / 16777216 % 256, n / 65536 % 256, n / 256 % 256, n % 256] 2 6 = some () from rfl, Option.bind_some]
  have st2 : ∀ (o : List Int) (j : Nat) (x : Int), j < 4 → o.length ≤ 10 → idx [79, 66, n / 16777216 % 256, n / 65536 % 256, n / 256 % 256, n % 256] (2 + (j : Int)) = some x → 0 ≤ x → x ≤ 255 →
      Qz [79, 66, n / 16777216 % 256, n / 65536 % 256, n / 256 % 256, n % 256] o (j : Int) = some (.inl (o ++ [255 - x], (j : Int) + 1)) := by
    intro o j x hj ho hx h0 h1
    unfold Qz
    have e4 : (decide ((j : Int) < ((Int.toNat (6 - 2) : Nat) : Int))) = true := by simp; omega
    have e5 : (decide ((0 : Int) ≤ (j : Int))) = true := by simp
    rw [if_pos e4, e4, e5]
    simp only [Bool.and_self, ck, if_true, Option.bind_some, hx]
    rw [Zhp (by simp; omega), Option.bind_some, show i64 ((j : Int) + 1) = (j : Int) + 1 from ZY (by omega) (by omega), bx x h0 h1]
  have h2 : loop (t2 (Qz [79, 66, n / 16777216 % 256, n / 65536 % 256, n / 256 % 256, n % 256])) ([79, 66, n / 16777216 % 256, n / 65536 % 256, n / 256 % 256, n % 256], 0) = some (hdL n) := by
    refine QN (st2 _ 0 (n / 16777216 % 256) (by omega) (by simp) rfl (by omega) (by omega)) ?_
    refine QN (st2 _ 1 (n / 65536 % 256) (by omega) (by simp) rfl (by omega) (by omega)) ?_
    refine QN (st2 _ 2 (n / 256 % 256) (by omega) (by simp) rfl (by omega) (by omega)) ?_
    refine QN (st2 _ 3 (n % 256) (by omega) (by simp) rfl (by omega) (by omega)) ?_
    refine Zdv ?_
    show Qz _ _ (((3 : Nat) : Int) + 1) = _
    unfold Qz
    rw [if_neg (by decide)]
    rfl
  rw [h2]; rfl
theorem Zm3 {n : Nat} (h : n < 4294967296) : Zat .u32 4294967295 (n : Int) = 4294967295 - (n : Int) := by
  unfold Zat
  have e : (BitVec.ofInt IntKind.u32.bits 4294967295 ^^^ BitVec.ofInt IntKind.u32.bits (n : Int)).toNat = 4294967295 - n := by
    have h1 : BitVec.ofInt IntKind.u32.bits (n : Int) = BitVec.ofNat 32 n := BitVec.ofInt_natCast ..
    have h2 : BitVec.ofInt IntKind.u32.bits 4294967295 = BitVec.allOnes 32 := by
      show BitVec.ofInt 32 4294967295 = BitVec.allOnes 32
      decide
    rw [h1, h2]
    show (BitVec.allOnes 32 ^^^ BitVec.ofNat 32 n).toNat = _
    rw [BitVec.allOnes_xor, BitVec.toNat_not, BitVec.toNat_ofNat, Nat.mod_eq_of_lt (by omega)]
    try omega
  rw [e]
  have w : ∀ z : Int, 0 ≤ z → z < 4294967296 → IntKind.u32.wrap z = z := fun z h0 h1 => by
    show z % 4294967296 = z
    omega
  rw [w _ (by omega) (by omega)]; omega
theorem ZkC {n : Int} (h : 1 ≤ n ∧ n ≤ 1073741824) : ZbZ n = some (hdL n) := by
  have eu : u32 n = n := by
    show n % 4294967296 = n
    omega
  have ex : Zat .u32 4294967295 (u32 n) = 4294967295 - n := by
    rw [eu]
    obtain ⟨m, rfl⟩ := Int.eq_ofNat_of_zero_le (show 0 ≤ n by omega)
    exact Zm3 (by omega)
  have st : ∀ (x : Int) (o : List Int) (j : Nat), j ≤ 24 → o.length ≤ 10 → Xh x o (j : Int) = some (.inl (o ++ [x / (2 : Int) ^ j % 256], (j : Int) - 8)) := by
    intro x o j hj ho
    unfold Xh
    rw [if_pos (by simp), Zmo (by show j ≤ 32; omega), Option.bind_some, Zhp (by simp; omega), Option.bind_some, show i64 ((j : Int) - 8) = (j : Int) - 8 from ZY (by omega) (by omega), u8m]
  have lp : ∀ (x : Int) (o : List Int), o.length ≤ 6 → loop (t2 (Xh x)) (o, 24) = some (o ++ [x / 16777216 % 256, x / 65536 % 256, x / 256 % 256, x % 256]) := by
    intro x o ho
    refine QN (st x o 24 (by omega) (by omega)) ?_
    refine QN (st x _ 16 (by omega) (by simp; omega)) ?_
    refine QN (st x _ 8 (by omega) (by simp; omega)) ?_
    refine QN (st x _ 0 (by omega) (by simp; omega)) ?_
    refine Zdv ?_
    show Xh x _ (((0 : Nat) : Int) - 8) = _
    unfold Xh
    rw [if_neg (by decide)]
    simp
  have st1 : ∀ (o : List Int) (j : Nat) (x : Int), j < 2 → o.length ≤ 6 → idx [n, 4294967295 - n] (j : Int) = some x → Xe n o (j : Int) = some (.inl (o ++ [x / 16777216 % 256, x / 65536 % 256, x / 256 % 256, x % 256], (j : Int) + 1)) := by
    intro o j x hj ho hx
    unfold Xe
    rw [ex, eu, if_pos (by simp; omega), hx, Option.bind_some, lp x o ho]
    simp only [Option.bind_some, Zia]
    rw [show i64 ((j : Int) + 1) = (j : Int) + 1 from ZY (by omega) (by omega)]
  have h1 : loop (t2 (Xe n)) ([79, 66], 0) = some (hdL n) := by
    refine QN (st1 _ 0 n (by omega) (by simp) rfl) ?_
    refine QN (st1 _ 1 (4294967295 - n) (by omega) (by simp) rfl) ?_
    refine Zdv ?_
    show Xe n _ (((1 : Nat) : Int) + 1) = _
    unfold Xe
    rw [ex, eu, if_neg (by simp)]
    unfold hdL
    congr 2
    simp only [List.append_assoc, List.cons_append, List.nil_append, List.cons.injEq, true_and, and_true]
    refine ⟨?_, ?_, ?_, ?_⟩ <;> omega
  unfold ZbZ
  rw [h1]; rfl
theorem Zj4 : ∀ {l m : List Int}, u8R l → u8R m → (Ju l = Ju m ↔ l = m)
  | [], [], _, _ => by simp
  | [], y :: m, _, _ => by simp [Ju]
  | x :: l, [], _, _ => by simp [Ju]
  | x :: l, y :: m, h1, h2 => by
    have hx := h1 x (List.mem_cons_self ..)
    have hy := h2 y (List.mem_cons_self ..)
    have ih := Zj4 (l := l) (m := m) (fun z hz => h1 z (List.mem_cons_of_mem _ hz)) (fun z hz => h2 z (List.mem_cons_of_mem _ hz))
    unfold Ju at ih ⊢
    simp only [List.map_cons, List.cons.injEq, ih]
    have : UInt8.ofNat x.toNat = UInt8.ofNat y.toNat ↔ x = y := by
      constructor
      · intro e
        have := congrArg UInt8.toNat e
        simp at this
        omega
      · rintro rfl; rfl
    rw [this]
def Zj1 (s : List Int) : Int × Bool × Bool :=
  if s.length < 16 then (0, false, false) else
  let n := Zjt (s.getD 2 0) (s.getD 3 0) (s.getD 4 0) (s.getD 5 0)
  if 1 ≤ n ∧ n ≤ 1073741824 ∧ s.take 10 = hdL n then (n, !decide (s.getD 10 0 = 255), true) else (0, false, false)
theorem Zg5 {α : Type} {n : Nat} {v : Vector α n} {k : Nat} {x : α} (h : v.toList[k]? = some x) : ZH v (k : Int) = some x := by
  unfold ZH; rw [if_pos (by omega)]; simpa using h
theorem Zer {α : Type} {xs : List α} {a b : Nat} (h1 : a ≤ b) (h2 : b ≤ xs.length) : slc xs (a : Int) (b : Int) = some ((xs.take b).drop a) := by
  unfold slc; rw [if_pos ⟨by omega, by omega, by omega⟩]; simp
theorem Zjs {α : Type} {m : Nat} {xs : List α} (h : m ≤ xs.length) : ∃ v : Vector α m, tov m xs = some v ∧ v.toList = xs.take m := by
  have : tov m xs = some ⟨(xs.take m).toArray, by simp; omega⟩ := by unfold tov; rw [dif_pos h]
  exact ⟨_, this, by simp⟩
theorem Zmw {s : List Int} (hs : u8R s) : Xt s = some (Zj1 s) := by
  unfold Xt Zj1
  by_cases hl : s.length < 16
  · rw [if_pos (by simp; omega), if_pos hl]
  · rw [if_neg (by simp; omega), if_neg hl]
    rw [show slc s 0 16 = some (s.take 16) from (Zer (a := 0) (b := 16) (by omega) (by omega)).trans (by simp), Option.bind_some]
    obtain ⟨v, hv, hvl⟩ := Zjs (m := 16) (xs := s.take 16) (by simp; omega)
    rw [List.take_take, Nat.min_self] at hvl
    rw [hv, Option.bind_some]
    have hg : ∀ (z : Int) (k : Nat), z = (k : Int) → k < 16 → ZH v z = some (s.getD k 0) := fun z k hz hk => by
      subst hz
      exact Zg5 (by rw [hvl, List.getElem?_take_of_lt hk]; exact Zf0 (by omega) 0)
    obtain ⟨q, q2, q3, e1, e2, e3, e4⟩ := ZmC (Zb5 hs 2) (Zb5 hs 3) (Zb5 hs 4) (Zb5 hs 5)
    rw [hg 2 2 rfl (by omega), Option.bind_some, e1, Option.bind_some, hg 3 3 rfl (by omega), Option.bind_some, e2, Option.bind_some, hg 4 4 rfl (by omega), Option.bind_some, e3, Option.bind_some, hg 5 5 rfl (by omega), Option.bind_some, e4, hg 10 10 rfl (by omega)]
    generalize Zjt (s.getD 2 0) (s.getD 3 0) (s.getD 4 0) (s.getD 5 0) = n
    unfold ZT
    simp only [Option.bind_some]
    by_cases hn : 1 ≤ n ∧ n ≤ 1073741824
    · have hy : (decide (1 ≤ n) && decide (n ≤ 1073741824)) = true := by simpa using hn
      rw [hy]
      simp only [Bool.not_true, gd, beq_self_eq_true, if_true, Bool.false_or]
      rw [show slc v.toList 0 10 = some (s.take 10) from (Zer (a := 0) (b := 10) (by omega) (by simp)).trans (by rw [hvl]; simp [List.take_take])]
      simp only [Option.bind_some, ZkX hn]
      have hlen : (s.take 10).length ≤ 10 := by rw [List.length_take]; omega
      rw [eqY (by omega), Option.bind_some]
      by_cases e : s.take 10 = hdL n
      · rw [if_neg (by simp [e]), if_pos ⟨hn.1, hn.2, e⟩]
      · rw [if_pos (by simp [e]), if_neg (fun q => e q.2.2)]
    · have hy : (decide (1 ≤ n) && decide (n ≤ 1073741824)) = false := by simpa using hn
      rw [hy]
      simp only [gd, Bool.not_false, Bool.true_eq_false, beq_iff_eq, if_false, Option.bind_some]
      rw [if_pos (by simp), if_neg (fun q => hn ⟨q.1, q.2.1⟩)]
theorem ZmG {s : List Int} (hs : u8R s) : Zdz s = some (Zj1 s) := by
  unfold Zdz Zj1
  by_cases hl : s.length < 16
  · rw [if_pos (by simp; omega), if_pos hl]
  · rw [if_neg (by simp; omega), if_neg hl]
    have hg : ∀ k : Nat, k < 16 → idx s (k : Int) = some (s.getD k 0) := fun k hk => ZdU (Zf0 (by omega) 0)
    have st : ∀ (q : Int) (k : Nat), 0 ≤ q → q ≤ 4294967295 → k < 6 → X4 s q (k : Int) = some (.inl (q * 256 + s.getD k 0, (k : Int) + 1)) := by
      intro q k h0 h1 hk
      have hb := Zb5 hs k
      unfold X4
      rw [if_pos (by simp; omega), hg k (by omega), Option.bind_some, show i64 (s.getD k 0) = s.getD k 0 from ZY (by omega) (by omega), show i64 (q * 256) = q * 256 from ZY (by omega) (by omega),
        show i64 (q * 256 + s.getD k 0) = q * 256 + s.getD k 0 from ZY (by omega) (by omega), show i64 ((k : Int) + 1) = (k : Int) + 1 from ZY (by omega) (by omega)]
    have b2 := Zb5 hs 2
    have b3 := Zb5 hs 3
    have b4 := Zb5 hs 4
    have b5 := Zb5 hs 5
    have lp : loop (t2 (X4 s)) (0, 2) = some (Zjt (s.getD 2 0) (s.getD 3 0) (s.getD 4 0) (s.getD 5 0)) := by
      refine QN (st 0 2 (by omega) (by omega) (by omega)) ?_
      refine QN (st _ 3 (by omega) (by omega) (by omega)) ?_
      refine QN (st _ 4 (by omega) (by omega) (by omega)) ?_
      refine QN (st _ 5 (by omega) (by omega) (by omega)) ?_
      refine Zdv ?_
      show X4 s _ (((5 : Nat) : Int) + 1) = _
      unfold X4
      rw [if_neg (by decide)]
      congr 2
      unfold Zjt; omega
    rw [lp]
    simp only [Option.bind_some, Zia]
    generalize Zjt (s.getD 2 0) (s.getD 3 0) (s.getD 4 0) (s.getD 5 0) = n
    unfold JQ
    simp only [Option.bind_some]
    rw [show idx s 10 = some (s.getD 10 0) from hg 10 (by omega)]
    by_cases hn : 1 ≤ n ∧ n ≤ 1073741824
    · have hy : (decide (n < 1) || decide (1073741824 < n)) = false := by simp; omega
      rw [hy]
      simp only [gd, beq_self_eq_true, if_true, Bool.false_or, ZkC hn]
      rw [show slc s 0 10 = some (s.take 10) from (Zer (a := 0) (b := 10) (by omega) (by omega)).trans (by simp)]
      simp only [Option.bind_some]
      have hiff := Zj4 (l := hdL n) (m := s.take 10) (Zmy n) (fun x hx => hs x (List.mem_of_mem_take hx))
      by_cases e : s.take 10 = hdL n
      · rw [if_neg (by simp [e]), if_pos ⟨hn.1, hn.2, e⟩]
      · rw [if_pos (by simp; intro q; exact e (hiff.1 q).symm), if_neg (fun q => e q.2.2)]
    · have hy : (decide (n < 1) || decide (1073741824 < n)) = true := by simp; omega
      rw [hy]
      simp only [gd, Bool.true_eq_false, beq_iff_eq, if_false, Option.bind_some]
      rw [if_pos (by simp), if_neg (fun q => hn ⟨q.1, q.2.1⟩)]
end Go.Vx
