/- A text of the proof: a verified executor of the program form, or the contracts of the functions that the law reaches. -/
import Derived.Test.YtnlmjeleocelgaaDoorShT
import Derived.Test.YtnlmjeleocelgaaDoorShLib
set_option linter.all false
namespace Go.Vx
open Go Go.RowKit
theorem lnb {α β : Type} {x : Option α} {f : α → Option β} {r : β} (h : x.bind f = some r) : ∃ a, x = some a ∧ f a = some r := Option.bind_eq_some_iff.1 h
theorem Xy {s : List Int} {at_ : Int} {data : List Int} {power : Int} {r : Int × Bool × List Int} (h : Ql s at_ data power = some r) : r.2.2.length = s.length := by
  unfold Ql at h
  obtain ⟨q, hq, h⟩ := lnb h
  have hQ : Sum.elim (fun q : Int × Bool × List Int => q.2.2.length = s.length) (fun q : List Int × Int => q.1.length = s.length) q := by
    refine Zbb (body := t3 (Z2 at_ data)) (fun x => x.1.length = s.length) (fun q => Sum.elim (fun q : Int × Bool × List Int => q.2.2.length = s.length) (fun q : List Int × Int => q.1.length = s.length) q) ?_ ?_ rfl hq
    · rintro ⟨o, p, i⟩ s' hs hb
      simp only [ZhR] at hb hs
      unfold Z2 at hb
      split at hb
      · obtain ⟨x, _, hb⟩ := lnb hb
        split at hb
        · obtain ⟨_, _, hb⟩ := lnb hb
          obtain ⟨_, _, hb⟩ := lnb hb
          cases hb
        · obtain ⟨_, _, hb⟩ := lnb hb
          obtain ⟨_, _, hb⟩ := lnb hb
          cases hb
          simpa using hs
      · cases hb
    · rintro ⟨o, p, i⟩ s' hs hb
      simp only [ZhR] at hb hs
      unfold Z2 at hb
      split at hb
      · obtain ⟨x, _, hb⟩ := lnb hb
        split at hb
        · obtain ⟨_, _, hb⟩ := lnb hb
          obtain ⟨_, _, hb⟩ := lnb hb
          cases hb
          simpa using hs
        · obtain ⟨_, _, hb⟩ := lnb hb
          obtain ⟨_, _, hb⟩ := lnb hb
          cases hb
      · cases hb; exact hs
  cases q with
  | inl q => cases h; exact hQ
  | inr q => cases h; exact hQ
theorem Zd3 {s : List Int} {power : Int} {r : Int × Bool × List Int} (h : QB s power = some r) : r.2.2.length = s.length := by
  unfold QB at h
  split at h
  · obtain ⟨q, _, h⟩ := lnb h
    obtain ⟨_, _, h⟩ := lnb h
    obtain ⟨o, ho, h⟩ := lnb h
    cases h
    refine Zbb (body := t2 (Qh q)) (fun x => x.1.length = s.length) (fun o => o.length = s.length) ?_ ?_ rfl ho
    · rintro ⟨o, i⟩ s' hs hb
      simp only [ZdP] at hb hs
      unfold Qh at hb
      split at hb
      · obtain ⟨_, _, hb⟩ := lnb hb
        obtain ⟨_, _, hb⟩ := lnb hb
        cases hb
        simpa using hs
      · cases hb
    · rintro ⟨o, i⟩ s' hs hb
      simp only [ZdP] at hb hs
      unfold Qh at hb
      split at hb
      · obtain ⟨_, _, hb⟩ := lnb hb
        obtain ⟨_, _, hb⟩ := lnb hb
        cases hb
      · cases hb; exact hs
  · obtain ⟨o, ho, h⟩ := lnb h
    cases h
    refine Zbb (body := t2 (Qf s)) (fun x => x.1.length = s.length) (fun o => o.length = s.length) ?_ ?_ rfl ho
    · rintro ⟨o, i⟩ s' hs hb
      simp only [ZdP] at hb hs
      unfold Qf at hb
      split at hb
      · obtain ⟨_, _, hb⟩ := lnb hb
        cases hb
        simpa using hs
      · cases hb
    · rintro ⟨o, i⟩ s' hs hb
      simp only [ZdP] at hb hs
      unfold Qf at hb
      split at hb
      · obtain ⟨_, _, hb⟩ := lnb hb
        cases hb
      · cases hb; exact hs
theorem ZW {data : List Int} {a b : Int} {cmp : Int → Int → Option Int} {r : List Int} (h : Zx data a b cmp = some r) : r.length = data.length := by
  unfold Zx at h
  refine Zbb (body := t2 (Zy a b cmp)) (fun x => x.1.length = data.length) (fun o => o.length = data.length) ?_ ?_ rfl h
  · rintro ⟨o, i⟩ s' hs hb
    simp only [ZdP] at hb hs
    unfold Zy at hb
    split at hb
    · obtain ⟨o2, h2, hb⟩ := lnb hb
      cases hb
      refine Zbb (body := t2 (Zz a cmp)) (fun x => x.1.length = data.length) (fun o => o.length = data.length) ?_ ?_ hs h2
      · rintro ⟨o, j⟩ s' hs hb
        simp only [ZdP] at hb hs
        unfold Zz at hb
        obtain ⟨_, _, hb⟩ := lnb hb
        obtain ⟨_, _, hb⟩ := lnb hb
        obtain ⟨_, _, hb⟩ := lnb hb
        split at hb
        · obtain ⟨_, _, hb⟩ := lnb hb
          obtain ⟨_, _, hb⟩ := lnb hb
          obtain ⟨_, _, hb⟩ := lnb hb
          obtain ⟨_, _, hb⟩ := lnb hb
          cases hb
          simpa using hs
        · cases hb
      · rintro ⟨o, j⟩ s' hs hb
        simp only [ZdP] at hb hs
        unfold Zz at hb
        obtain ⟨_, _, hb⟩ := lnb hb
        obtain ⟨_, _, hb⟩ := lnb hb
        obtain ⟨_, _, hb⟩ := lnb hb
        split at hb
        · obtain ⟨_, _, hb⟩ := lnb hb
          obtain ⟨_, _, hb⟩ := lnb hb
          obtain ⟨_, _, hb⟩ := lnb hb
          obtain ⟨_, _, hb⟩ := lnb hb
          cases hb
        · cases hb; exact hs
    · cases hb
  · rintro ⟨o, i⟩ s' hs hb
    simp only [ZdP] at hb hs
    unfold Zy at hb
    split at hb
    · obtain ⟨o2, h2, hb⟩ := lnb hb
      cases hb
    · cases hb; exact hs
theorem ZaT {x : List Int} {cmp : Int → Int → Option Int} {r : List Int} (h : ZF x cmp = some r) : r.length = x.length := by
  unfold ZF at h
  obtain ⟨y, hy, h⟩ := lnb h
  cases h
  unfold Z3 at hy
  obtain ⟨⟨o, a⟩, ho, hy⟩ := lnb hy
  simp only [ZdP] at hy
  obtain ⟨y2, hy2, hy⟩ := lnb hy
  have h1 : o.length = x.length := by
    refine Zbb (body := t3 (ZH (x.length : Int) cmp)) (fun s => s.1.length = x.length) (fun q => q.1.length = x.length) ?_ ?_ rfl ho
    · rintro ⟨o, a, b⟩ s' hs hb
      simp only [ZhR] at hb hs
      unfold ZH at hb
      split at hb
      · obtain ⟨z, hz, hb⟩ := lnb hb
        cases hb
        exact (ZW hz).trans hs
      · cases hb
    · rintro ⟨o, a, b⟩ s' hs hb
      simp only [ZhR] at hb hs
      unfold ZH at hb
      split at hb
      · obtain ⟨z, hz, hb⟩ := lnb hb
        cases hb
      · cases hb; exact hs
  have h2 : y2.length = x.length := (ZW hy2).trans h1
  refine Zbb (body := t1 (ZM (x.length : Int) y2)) (fun _ => True) (fun q => q.length = x.length) (fun _ _ _ _ => trivial) ?_ trivial hy
  intro b s' _ hb
  simp only [Zld] at hb
  unfold ZM at hb
  split at hb
  · obtain ⟨_, _, hb⟩ := lnb hb
    simp only [t0] at hb
    split at hb
    · cases hb
    · cases hb
  · cases hb; exact h2
theorem ZfG {s : List Int} {at_ : Int} {data : List Int} {power : Int} {r : Int × Bool × Int × List Int} (h : X2 s at_ data power = some r) : r.2.2.2.length = s.length := by
  unfold X2 at h
  obtain ⟨y, _, h⟩ := lnb h
  split at h
  · cases h; rfl
  · split at h
    · cases h; rfl
    · obtain ⟨z, hz, h⟩ := lnb h
      cases h
      exact Xy hz
end Go.Vx

namespace Go.Vx
open Go Go.RowKit
theorem Zem {z : Int} (h1 : -9223372036854775808 ≤ z) (h2 : z ≤ 9223372036854775807) : IntKind.i64.wrap z = z := w64 h1 h2
@[simp] theorem ZlM {α : Type} {d : α} {o : Option α} : gd true d o = o := rfl
@[simp] theorem ZlL {α : Type} {d : α} {o : Option α} : gd false d o = some d := rfl
@[simp] theorem ZlH {α : Type} {d : α} {o : Option α} : gd (true == true) d o = o := rfl
theorem ZhA {α : Type} {xs : List α} {k : Nat} {x : α} (h : xs[k]? = some x) : idx xs (k : Int) = some x := by simp [idx, h]
theorem Ziz {α : Type} {xs : List α} {k : Nat} (h : k < xs.length) : ∃ x, xs[k]? = some x := ⟨xs[k], List.getElem?_eq_getElem h⟩
theorem ZfQ {α : Type} {xs : List α} {k : Nat} {x : α} (h : xs[k]? = some x) : xs.drop k = x :: xs.drop (k + 1) := by
  obtain ⟨hk, rfl⟩ := List.getElem?_eq_some_iff.1 h
  exact List.drop_eq_getElem_cons hk
section loops
variable {σ ρ : Type}
theorem ZiV {body : σ → Option (σ ⊕ ρ)} (I : σ → Prop) (μ : σ → Nat) (F : σ → ρ) (step : ∀ s, I s → (∃ s', body s = some (.inl s') ∧ I s' ∧ μ s' < μ s ∧ F s = F s') ∨ body s = some (.inr (F s))) :
    ∀ s, I s → loop body s = some (F s) := by
  intro s hs
  obtain ⟨r, h1, h2⟩ := ZjE (body := body) (fun s' => I s' ∧ F s = F s') μ (fun r => r = F s) (fun s' ⟨h1, h2⟩ => by
    rcases step s' h1 with ⟨s2, e1, e2, e3, e4⟩ | e
    · exact .inl ⟨s2, e1, ⟨e2, h2.trans e4⟩, e3⟩
    · exact .inr ⟨_, e, h2.symm⟩) s ⟨hs, rfl⟩
  rw [h1, h2]
variable {α : Type} {xs : List α}
theorem Zjo {body : σ → Int → Option ((σ × Int) ⊕ ρ)} (I : σ → Nat → Prop) (F : σ → Nat → ρ)
    (hstep : ∀ a (k : Nat) x, I a k → xs[k]? = some x → (∃ a', body a k = some (.inl (a', (k : Int) + 1)) ∧ I a' (k + 1) ∧ F a k = F a' (k + 1)) ∨ body a k = some (.inr (F a k)))
    (hend : ∀ a, I a xs.length → body a xs.length = some (.inr (F a xs.length))) {a0 : σ} (h0 : I a0 0) : loop (t2 body) (a0, 0) = some (F a0 0) := by
  refine ZiV (body := t2 body) (fun p => ∃ k : Nat, p.2 = k ∧ k ≤ xs.length ∧ I p.1 k) (fun p => xs.length - p.2.toNat) (fun p => F p.1 p.2.toNat) ?_ (a0, 0) ⟨0, rfl, Nat.zero_le _, h0⟩
  rintro ⟨a, i⟩ ⟨k, hi, hk, hI⟩
  simp only at hi hI
  subst hi
  simp only [Int.toNat_natCast, ZdP]
  rcases Nat.lt_or_ge k xs.length with h | h
  · obtain ⟨x, hx⟩ := Ziz h
    rcases hstep a k x hI hx with ⟨a', h1, h2, h3⟩ | h1
    · exact .inl ⟨_, h1, ⟨k + 1, by push_cast; rfl, h, h2⟩, by simp only; omega, by rw [h3]; rfl⟩
    · exact .inr h1
  · have : k = xs.length := by omega
    subst this
    exact .inr (hend a hI)
end loops
end Go.Vx

namespace Go.Vx
open Go Go.RowKit
section err
variable {α ε : Type}
def ZkA {ρ : Type} (A : ε → ρ) (Z : ρ) : Option ε → ρ
  | some e => A e
  | none => Z
@[simp] theorem ZkE {ρ : Type} (A : ε → ρ) (Z : ρ) (e : ε) : ZkA A Z (some e) = A e := rfl
@[simp] theorem ZkM {ρ : Type} (A : ε → ρ) (Z : ρ) : ZkA A Z none = Z := rfl
end err
end Go.Vx

namespace Go.Vx
open Go Go.RowKit
def Z8 {σ ρ : Type} (b : σ → Option (σ ⊕ ρ)) (s : σ) : Option ρ :=
  Nat.rec (motive := fun _ => σ → Option ρ) (fun _ => none) (fun _ ih s => match b s with | none => none | some (.inl s') => ih s' | some (.inr r) => some r) 1000000 s
def Le {α : Type} (a b : Option α) : Prop := ∀ r, a = some r → b = some r
theorem Le.refl {α : Type} (a : Option α) : Le a a := fun _ h => h
section
variable {α β γ δ ε ζ η θ ι κ σ ρ : Type}
theorem Le.bind {a b : Option α} {f g : α → Option β} (h : Le a b) (hf : ∀ x, Le (f x) (g x)) : Le (a.bind f) (b.bind g) := by
  intro r hr
  cases ha : a with
  | none => rw [ha] at hr; cases hr
  | some x => rw [ha] at hr; rw [h x ha]; exact hf x r hr
theorem Le.ite {c : Prop} [Decidable c] {a b a' b' : Option α} (h1 : Le a a') (h2 : Le b b') : Le (if c then a else b) (if c then a' else b') := by
  split
  · exact h1
  · exact h2
theorem Le.gd {g : Bool} {d : α} {a b : Option α} (h : Le a b) : Le (gd g d a) (gd g d b) := by
  cases g
  · exact fun r hr => hr
  · exact h
theorem Le.loop {b b' : σ → Option (σ ⊕ ρ)} {s : σ} (h : ∀ s, Le (b s) (b' s)) : Le (Z8 b s) (loop b' s) := by
  have key : ∀ n s r, Nat.rec (motive := fun _ => σ → Option ρ) (fun _ => none) (fun _ ih s => match b s with | none => none | some (.inl s') => ih s' | some (.inr r) => some r) n s = some r → JO b' n s = some r := by
    intro n
    induction n with
    | zero => intro s r hr; cases hr
    | succ n ih =>
      intro s r hr
      simp only at hr
      cases hb : b s with
      | none => rw [hb] at hr; cases hr
      | some o =>
        rw [hb] at hr
        simp only [JO, h s o hb, Option.bind_some]
        cases o with
        | inl s' => exact ih s' r hr
        | inr r' => exact hr
  intro r hr
  exact Zfj (key 1000000 s r hr)
theorem Le.t0 {f g : Option κ} {p : Unit} (h : Le f g) : Le (t0 f p) (t0 g p) := h
theorem Le.t1 {f g : α → Option κ} {p : α} (h : ∀ a, Le (f a) (g a)) : Le (t1 f p) (t1 g p) := h _
theorem Le.t2 {f g : α → β → Option κ} {p : α × β} (h : ∀ a b, Le (f a b) (g a b)) : Le (t2 f p) (t2 g p) := h _ _
theorem Le.t3 {f g : α → β → γ → Option κ} {p : α × β × γ} (h : ∀ a b c, Le (f a b c) (g a b c)) : Le (t3 f p) (t3 g p) := h _ _ _
theorem Le.t4 {f g : α → β → γ → δ → Option κ} {p : α × β × γ × δ} (h : ∀ a b c d, Le (f a b c d) (g a b c d)) : Le (t4 f p) (t4 g p) := h _ _ _ _
theorem Le.t5 {f g : α → β → γ → δ → ε → Option κ} {p : α × β × γ × δ × ε} (h : ∀ a b c d e, Le (f a b c d e) (g a b c d e)) : Le (t5 f p) (t5 g p) := h _ _ _ _ _
theorem Le.t6 {f g : α → β → γ → δ → ε → ζ → Option κ} {p : α × β × γ × δ × ε × ζ} (h : ∀ a b c d e x, Le (f a b c d e x) (g a b c d e x)) : Le (t6 f p) (t6 g p) := h _ _ _ _ _ _
theorem Le.t7 {f g : α → β → γ → δ → ε → ζ → η → Option κ} {p : α × β × γ × δ × ε × ζ × η} (h : ∀ a b c d e x y, Le (f a b c d e x y) (g a b c d e x y)) : Le (t7 f p) (t7 g p) := h _ _ _ _ _ _ _
theorem Le.t8 {f g : α → β → γ → δ → ε → ζ → η → θ → Option κ} {p : α × β × γ × δ × ε × ζ × η × θ} (h : ∀ a b c d e x y z, Le (f a b c d e x y z) (g a b c d e x y z)) : Le (t8 f p) (t8 g p) := h _ _ _ _ _ _ _ _
theorem Le.t9 {ι : Type} {f g : α → β → γ → δ → ε → ζ → η → θ → ι → Option κ} {p : α × β × γ × δ × ε × ζ × η × θ × ι} (h : ∀ a b c d e x y z w, Le (f a b c d e x y z w) (g a b c d e x y z w)) : Le (t9 f p) (t9 g p) := h _ _ _ _ _ _ _ _ _
theorem Le.elim {f f' : α → Option κ} {g g' : β → Option κ} {s : α ⊕ β} (h1 : ∀ a, Le (f a) (f' a)) (h2 : ∀ b, Le (g b) (g' b)) : Le (Sum.elim f g s) (Sum.elim f' g' s) := by
  cases s with
  | inl a => exact h1 a
  | inr b => exact h2 b
end
end Go.Vx

namespace Go.Vx
open Go Go.RowKit
def Zku : List Int → Option (List Int)
  | [x] => some [x]
  | _ => none
theorem ZjU (xs : List Int) : Le (Zku xs) (Zf3 xs) := by
  intro r h
  match xs, h with
  | [x], h => cases h; unfold Zf3; rw [if_pos (by simp), List.mergeSort_singleton]
end Go.Vx

namespace Go.Vx
open Go Go.RowKit
set_option linter.unusedVariables false

noncomputable def ZcK (data : List Int) (f2 : Vector Int 64) (i : Int) : Option (((Vector Int 64) × Int) ⊕ ((Vector Int 64) × Int) ⊕ ((Vector Int 64))) :=
  if (decide (i < (data.length : Int))) = true then
  (idx data i).bind fun x3 =>
  if ((decide (x3 < 0)) || (decide (2047 < x3))) = true then
  some (.inr (.inl ((#v[0, 0, 0, 0, 0, 0, 0, 0, 0, 0, 0, 0, 0, 0, 0, 0, 0, 0, 0, 0, 0, 0, 0, 0, 0, 0, 0, 0, 0, 0, 0, 0, 0, 0, 0, 0, 0, 0, 0, 0, 0, 0, 0, 0, 0, 0, 0, 0, 0, 0, 0, 0, 0, 0, 0, 0, 0, 0, 0, 0, 0, 0, 0, 0] : Vector Int 64), 9)))
  else
  (ZG f2 (i64 (3 + i))).bind fun x4 =>
  some (.inl ((Xw f2 (i64 (3 + i)) (u16 x3)), (i64 (i + 1))))
  else
  some (.inr (.inr f2))
theorem ZgM (data : List Int) (f2 : Vector Int 64) (i : Int) : Le (ZcK data f2 i) (Zcz data f2 i) := by
  unfold ZcK Zcz
  with_reducible repeat' (first | exact Le.refl _ | apply Le.bind | apply Le.ite | intro _)

noncomputable def ZcC (n2 : Int) (ones2 : Int) : Option ((Int × Int) ⊕ (Int)) :=
  if (decide (0 < n2)) = true then
  (rem n2 2).bind fun q =>
  (quo .i64 n2 2).bind fun q2 =>
  some (.inl (q2, (i64 (ones2 + q))))
  else
  some (.inr ones2)
theorem Zgu (n2 : Int) (ones2 : Int) : Le (ZcC n2 ones2) (Zcx n2 ones2) := by
  unfold ZcC Zcx
  with_reducible repeat' (first | exact Le.refl _ | apply Le.bind | apply Le.ite | intro _)

noncomputable def ZeL (n : Int) : Option Bool :=
  ((Z8 (t2 (ZcC)) (n, 0)) : Option ((Int))).bind (t1 fun (ones : Int) =>
  (rem ones 2).bind fun q3 =>
  some (decide (q3 = 1)))
theorem Zig (n : Int) : Le (ZeL n) (ZdU n) := by
  unfold ZeL ZdU
  with_reducible repeat' (first | exact Le.refl _ | apply Le.bind | apply Le.loop | apply Le.t1 | apply Le.t2 | apply Zgu | intro _)

noncomputable def Zaf (data : Int) : Option Int :=
  (ZeL data).bind fun y =>
  if y = true then
  some data
  else
  some (i64 (data + 2048))
theorem Zc9 (data : Int) : Le (Zaf data) (Zak data) := by
  unfold Zaf Zak
  with_reducible repeat' (first | exact Le.refl _ | apply Le.bind | apply Le.ite | apply Zig | intro _)

noncomputable def Za5 (f3 : Vector Int 64) (i : Int) : Option (((Vector Int 64) × Int) ⊕ ((Vector Int 64))) :=
  if (decide (i ≤ 60)) = true then
  (ZG f3 i).bind fun x =>
  (rem (i64 x) 2048).bind fun q =>
  (Zaf q).bind fun y =>
  (ZG f3 i).bind fun x2 =>
  some (.inl ((Xw f3 i (u16 y)), (i64 (i + 1))))
  else
  some (.inr f3)
theorem ZeO (f3 : Vector Int 64) (i : Int) : Le (Za5 f3 i) (Zav f3 i) := by
  unfold Za5 Zav
  with_reducible repeat' (first | exact Le.refl _ | apply Le.bind | apply Le.ite | apply Zc9 | intro _)

noncomputable def ZbH (f : Vector Int 64) : Option Int :=
  (ZG f 1).bind fun x =>
  (rem (i64 x) 2048).bind fun q =>
  (ZG f 2).bind fun x2 =>
  (rem (i64 x2) 2048).bind fun q2 =>
  some (i64 (q + (i64 (q2 * 2048))))
theorem Zfn (f : Vector Int 64) : Le (ZbH f) (JG f) := by
  unfold ZbH JG
  with_reducible repeat' (first | exact Le.refl _ | apply Le.bind | intro _)

noncomputable def ZcD (number : Int) : Option Int :=
  (rem number 4).bind fun q =>
  (ZG (#v[583, 1464, 2631, 3512] : Vector Int 4) q).bind fun x =>
  some x
theorem Zgq (number : Int) : Le (ZcD number) (ZbB number) := by
  unfold ZcD ZbB
  with_reducible repeat' (first | exact Le.refl _ | apply Le.bind | intro _)

noncomputable def ZcF (f : Vector Int 64) (x2 : Int) (i : Int) : Option ((Int × Int) ⊕ (Int)) :=
  if (decide (i ≤ 60)) = true then
  (ZG f i).bind fun x3 =>
  (rem (i64 x3) 2048).bind fun q =>
  some (.inl ((Zdz .i64 x2 q), (i64 (i + 1))))
  else
  some (.inr x2)
theorem Zgv (f : Vector Int 64) (x2 : Int) (i : Int) : Le (ZcF f x2 i) (Zcy f x2 i) := by
  unfold ZcF Zcy
  with_reducible repeat' (first | exact Le.refl _ | apply Le.bind | apply Le.ite | intro _)

noncomputable def Zer (f : Vector Int 64) : Option Int :=
  ((Z8 (t2 (ZcF f)) (0, 1)) : Option ((Int))).bind (t1 fun (x : Int) =>
  some x)
theorem ZhW (f : Vector Int 64) : Le (Zer f) (ZdA f) := by
  unfold Zer ZdA
  with_reducible repeat' (first | exact Le.refl _ | apply Le.bind | apply Le.loop | apply Le.t1 | apply Le.t2 | apply Zgv | intro _)

noncomputable def ZbK (f : Vector Int 64) (rest2 : Int) (i : Int) : Option ((Int × Int) ⊕ (Int)) :=
  if (decide (i < 766)) = true then
  ((if (decide (i < 744)) = true then
  (quo .i64 i 12).bind fun q =>
  (ZG f q).bind fun x =>
  (rem i 12).bind fun q2 =>
  (shr .i64 (i64 x) (i64 (11 - q2))).bind fun q3 =>
  some (QL .i64 q3 1)
  else
  some 0) : Option ((Int))).bind (t1 fun (bit : Int) =>
  if (decide (4194304 ≤ (i64 ((i64 (rest2 * 2)) + bit)))) = true then
  some (.inl ((Zdz .i64 (i64 ((i64 (rest2 * 2)) + bit)) 6291471), (i64 (i + 1))))
  else
  some (.inl ((i64 ((i64 (rest2 * 2)) + bit)), (i64 (i + 1)))))
  else
  some (.inr rest2)
theorem Zfq (f : Vector Int 64) (rest2 : Int) (i : Int) : Le (ZbK f rest2 i) (Zbm f rest2 i) := by
  unfold ZbK Zbm
  with_reducible repeat' (first | exact Le.refl _ | apply Le.bind | apply Le.ite | apply Le.t1 | intro _)

noncomputable def Zc2 (f : Vector Int 64) : Option Int :=
  ((Z8 (t2 (ZbK f)) (0, 0)) : Option ((Int))).bind (t1 fun (rest : Int) =>
  some rest)
theorem Zg6 (f : Vector Int 64) : Le (Zc2 f) (Zce f) := by
  unfold Zc2 Zce
  with_reducible repeat' (first | exact Le.refl _ | apply Le.bind | apply Le.loop | apply Le.t1 | apply Le.t2 | apply Zfq | intro _)

noncomputable def Zch (f : Vector Int 64) : Option (Vector Int 64) :=
  (Zc2 f).bind fun y =>
  (quo .i64 y 2048).bind fun q =>
  (Zaf q).bind fun y2 =>
  (rem y 2048).bind fun q2 =>
  (Zaf q2).bind fun y3 =>
  (ZG f 62).bind fun x =>
  (ZG (Xw f 62 (u16 y2)) 63).bind fun x2 =>
  some (Xw (Xw f 62 (u16 y2)) 63 (u16 y3))
theorem Zgd (f : Vector Int 64) : Le (Zch f) (Zaq f) := by
  unfold Zch Zaq
  with_reducible repeat' (first | exact Le.refl _ | apply Le.bind | apply Zg6 | apply Zc9 | intro _)

noncomputable def ZcO (f : Vector Int 64) : Option (Vector Int 64) :=
  ((Z8 (t2 (Za5)) (f, 1)) : Option (((Vector Int 64)))).bind (t1 fun (f2 : Vector Int 64) =>
  (ZbH f2).bind fun y2 =>
  (ZcD y2).bind fun y3 =>
  (ZG f2 0).bind fun x3 =>
  (Zer (Xw f2 0 (u16 y3))).bind fun y4 =>
  (Zaf y4).bind fun y5 =>
  (ZG (Xw f2 0 (u16 y3)) 61).bind fun x4 =>
  (Zch (Xw (Xw f2 0 (u16 y3)) 61 (u16 y5))).bind fun y6 =>
  some y6)
theorem ZgR (f : Vector Int 64) : Le (ZcO f) (Zbw f) := by
  unfold ZcO Zbw
  with_reducible repeat' (first | exact Le.refl _ | apply Le.bind | apply Le.loop | apply Le.t1 | apply Le.t2 | apply ZeO | apply Zfn | apply Zgq | apply ZhW | apply Zc9 | apply Zgd | intro _)

noncomputable def ZeG (number : Int) (data : List Int) : Option ((Vector Int 64) × Int) :=
  if ((decide (number < 0)) || (decide (4194304 ≤ number))) = true then
  some ((#v[0, 0, 0, 0, 0, 0, 0, 0, 0, 0, 0, 0, 0, 0, 0, 0, 0, 0, 0, 0, 0, 0, 0, 0, 0, 0, 0, 0, 0, 0, 0, 0, 0, 0, 0, 0, 0, 0, 0, 0, 0, 0, 0, 0, 0, 0, 0, 0, 0, 0, 0, 0, 0, 0, 0, 0, 0, 0, 0, 0, 0, 0, 0, 0] : Vector Int 64), 9)
  else
  if (!decide ((data.length : Int) = 58)) = true then
  some ((#v[0, 0, 0, 0, 0, 0, 0, 0, 0, 0, 0, 0, 0, 0, 0, 0, 0, 0, 0, 0, 0, 0, 0, 0, 0, 0, 0, 0, 0, 0, 0, 0, 0, 0, 0, 0, 0, 0, 0, 0, 0, 0, 0, 0, 0, 0, 0, 0, 0, 0, 0, 0, 0, 0, 0, 0, 0, 0, 0, 0, 0, 0, 0, 0] : Vector Int 64), 3)
  else
  (rem number 2048).bind fun q =>
  (quo .i64 number 2048).bind fun q2 =>
  (ZG (#v[0, 0, 0, 0, 0, 0, 0, 0, 0, 0, 0, 0, 0, 0, 0, 0, 0, 0, 0, 0, 0, 0, 0, 0, 0, 0, 0, 0, 0, 0, 0, 0, 0, 0, 0, 0, 0, 0, 0, 0, 0, 0, 0, 0, 0, 0, 0, 0, 0, 0, 0, 0, 0, 0, 0, 0, 0, 0, 0, 0, 0, 0, 0, 0] : Vector Int 64) 1).bind fun x =>
  (ZG (Xw (#v[0, 0, 0, 0, 0, 0, 0, 0, 0, 0, 0, 0, 0, 0, 0, 0, 0, 0, 0, 0, 0, 0, 0, 0, 0, 0, 0, 0, 0, 0, 0, 0, 0, 0, 0, 0, 0, 0, 0, 0, 0, 0, 0, 0, 0, 0, 0, 0, 0, 0, 0, 0, 0, 0, 0, 0, 0, 0, 0, 0, 0, 0, 0, 0] : Vector Int 64) 1 (u16 q)) 2).bind fun x2 =>
  ((Z8 (t2 (ZcK data)) ((Xw (Xw (#v[0, 0, 0, 0, 0, 0, 0, 0, 0, 0, 0, 0, 0, 0, 0, 0, 0, 0, 0, 0, 0, 0, 0, 0, 0, 0, 0, 0, 0, 0, 0, 0, 0, 0, 0, 0, 0, 0, 0, 0, 0, 0, 0, 0, 0, 0, 0, 0, 0, 0, 0, 0, 0, 0, 0, 0, 0, 0, 0, 0, 0, 0, 0, 0] : Vector Int 64) 1 (u16 q)) 2 (u16 q2)), 0)) : Option (((Vector Int 64) × Int) ⊕ ((Vector Int 64)))).bind (Sum.elim (fun q' => some q') (t1 fun (f : Vector Int 64) =>
  (ZcO f).bind fun y =>
  some (y, 0)))
theorem Zij (number : Int) (data : List Int) : Le (ZeG number data) (ZdJ number data) := by
  unfold ZeG ZdJ
  with_reducible repeat' (first | exact Le.refl _ | apply Le.bind | apply Le.ite | apply Le.loop | apply Le.t1 | apply Le.t2 | apply Le.elim | apply ZgM | apply ZgR | intro _)

noncomputable def Z1 (n : Int) (low : Int) (high : Int) : Option Bool :=
  some ((decide (low ≤ n)) && (decide (n ≤ high)))
theorem Q4 (n : Int) (low : Int) (high : Int) : Le (Z1 n low high) (ZS n low high) := by
  unfold Z1 ZS
  with_reducible repeat' (first | exact Le.refl _ | apply Le.bind | intro _)

noncomputable def XR (slots : Int) : Option Int :=
  some (i64 (16 + (i64 (slots * 97))))
theorem ZbS (slots : Int) : Le (XR slots) (QT slots) := by
  unfold XR QT
  with_reducible repeat' (first | exact Le.refl _ | apply Le.bind | intro _)

noncomputable def Zc4 (x : Int) (y : Int) : Option (Int × Int) :=
  (shr .u64 x 32).bind fun q =>
  (shr .u64 y 32).bind fun q2 =>
  (shr .u64 (u64 ((QL .u64 x 4294967295) * (QL .u64 y 4294967295))) 32).bind fun q3 =>
  (shr .u64 (u64 ((u64 (q * (QL .u64 y 4294967295))) + q3)) 32).bind fun q4 =>
  (shr .u64 (u64 ((QL .u64 (u64 ((u64 (q * (QL .u64 y 4294967295))) + q3)) 4294967295) + (u64 ((QL .u64 x 4294967295) * q2)))) 32).bind fun q5 =>
  some ((u64 ((u64 ((u64 (q * q2)) + q4)) + q5)), (u64 (x * y)))
theorem Zg3 (x : Int) (y : Int) : Le (Zc4 x y) (Zcg x y) := by
  unfold Zc4 Zcg
  with_reducible repeat' (first | exact Le.refl _ | apply Le.bind | intro _)

noncomputable def ZeM (x : Int) (y : Int) : Option (Int × Int) :=
  (Zc4 x y).bind fun y2 =>
  some (y2.1, y2.2)
theorem Zih (x : Int) (y : Int) : Le (ZeM x y) (ZdD x y) := by
  unfold ZeM ZdD
  with_reducible repeat' (first | exact Le.refl _ | apply Le.bind | apply Zg3 | intro _)

noncomputable def QQ (newslice2 : List Int) (n : Int) : Option (((List Int) × Int) ⊕ ((List Int))) :=
  if (decide (n < (newslice2.length : Int))) = true then
  (slq newslice2 n (newslice2.length : Int)).bind fun u =>
  (slq newslice2 0 n).bind fun u2 =>
  some (.inl ((cpy newslice2 n.toNat (Int.toNat ((newslice2.length : Int) - n)) (Int.toNat 0) (Int.toNat (n - 0))), (i64 (n + ((min (Int.toNat (n - 0)) (Int.toNat ((newslice2.length : Int) - n)) : Nat) : Int)))))
  else
  some (.inr newslice2)
theorem Zbv (newslice2 : List Int) (n : Int) : Le (QQ newslice2 n) (Qq newslice2 n) := by
  unfold QQ Qq
  with_reducible repeat' (first | exact Le.refl _ | apply Le.bind | apply Le.ite | intro _)

noncomputable def Xa (x : List Int) (count : Int) : Option (List Int) :=
  if (decide (count < 0)) = true then
  none
  else
  (ZeM (u64 (x.length : Int)) (u64 count)).bind fun y =>
  if ((decide (0 < y.1)) || (decide (9223372036854775807 < y.2))) = true then
  none
  else
  (mks (i64 y.2) 0).bind fun l =>
  ((Z8 (t2 (QQ)) ((Zf8 l x), ((min x.length l.length : Nat) : Int))) : Option (((List Int)))).bind (t1 fun (newslice : List Int) =>
  some newslice)
theorem Zb9 (x : List Int) (count : Int) : Le (Xa x count) (Qo x count) := by
  unfold Xa Qo
  with_reducible repeat' (first | exact Le.refl _ | apply Le.bind | apply Le.ite | apply Le.loop | apply Le.t1 | apply Le.t2 | apply Zih | apply Zbv | intro _)

noncomputable def JA (sectors : Int) (slots : Int) (Sectors2 : List (List Int)) (i : Int) : Option (((List (List Int)) × Int) ⊕ ((List (List Int)))) :=
  if (decide (i < sectors)) = true then
  (((XR slots).bind fun y4 =>
  (Xa ([255] : List Int) y4).bind fun y5 =>
  (app Sectors2 [y5]).bind fun l3 =>
  some l3) : Option (((List (List Int))))).bind (t1 fun (Sectors3 : List (List Int)) =>
  some (.inl (Sectors3, (i64 (i + 1)))))
  else
  some (.inr Sectors2)
theorem ZdB (sectors : Int) (slots : Int) (Sectors2 : List (List Int)) (i : Int) : Le (JA sectors slots Sectors2 i) (Ja sectors slots Sectors2 i) := by
  unfold JA Ja
  with_reducible repeat' (first | exact Le.refl _ | apply Le.bind | apply Le.ite | apply Le.t1 | apply ZbS | apply Zb9 | intro _)

noncomputable def Za3 (sectors : Int) (slots : Int) (limit : Int) : Option (api_Memory × Int) :=
  (Z1 sectors 2 64).bind fun y =>
  (gd ((!y) == false) false (Z1 slots 1 64)).bind fun y2 =>
  (gd (((!y) || (!y2)) == false) false (Z1 limit 1 1000000)).bind fun y3 =>
  if (((!y) || (!y2)) || (!y3)) = true then
  some ((api_Memory.mk 0 0 [] [] []), 9)
  else
  (((mkz 8 sectors 0).bind fun l =>
  (mkz 1 sectors false).bind fun l2 =>
  some (l, l2)) : Option (((List Int) × (List Bool)))).bind (t2 fun (Wear : List Int) (Bad : List Bool) =>
  ((Z8 (t2 (JA sectors slots)) ([], 0)) : Option (((List (List Int))))).bind (t1 fun (Sectors : List (List Int)) =>
  some ((api_Memory.mk slots limit Sectors Wear Bad), 0)))
theorem Zfm (sectors : Int) (slots : Int) (limit : Int) : Le (Za3 sectors slots limit) (Jc sectors slots limit) := by
  unfold Za3 Jc
  with_reducible repeat' (first | exact Le.refl _ | apply Le.bind | apply Le.ite | apply Le.gd | apply Le.loop | apply Le.t1 | apply Le.t2 | apply Q4 | apply ZdB | intro _)

noncomputable def X7 (m : api_Memory) (i : Int) : Option ((Int) ⊕ (Int) ⊕ (Unit)) :=
  if (decide (i < (m.Sectors.length : Int))) = true then
  (idx m.Sectors i).bind fun x =>
  (XR m.Slots).bind fun y4 =>
  if (!decide ((x.length : Int) = y4)) = true then
  some (.inr (.inl 3))
  else
  (idx m.Wear i).bind fun x2 =>
  (Z1 x2 0 m.Limit).bind fun y5 =>
  if (!y5) = true then
  some (.inr (.inl 9))
  else
  some (.inl (i64 (i + 1)))
  else
  some (.inr (.inr ()))
theorem Zc0 (m : api_Memory) (i : Int) : Le (X7 m i) (Xv m i) := by
  unfold X7 Xv
  with_reducible repeat' (first | exact Le.refl _ | apply Le.bind | apply Le.ite | apply ZbS | apply Q4 | intro _)

noncomputable def J3 (m : api_Memory) : Option Int :=
  (Z1 m.Slots 1 64).bind fun y =>
  (gd ((!y) == false) false (Z1 m.Limit 1 1000000)).bind fun y2 =>
  (gd (((!y) || (!y2)) == false) false (Z1 (m.Sectors.length : Int) 2 64)).bind fun y3 =>
  if (((!y) || (!y2)) || (!y3)) = true then
  some 9
  else
  if ((!decide ((m.Wear.length : Int) = (m.Sectors.length : Int))) || (!decide ((m.Bad.length : Int) = (m.Sectors.length : Int)))) = true then
  some 2
  else
  ((Z8 (t1 (X7 m)) 0) : Option ((Int) ⊕ (Unit))).bind (Sum.elim (fun q' => some q') (t0 (some 0)))
theorem Zd7 (m : api_Memory) : Le (J3 m) (XF m) := by
  unfold J3 XF
  with_reducible repeat' (first | exact Le.refl _ | apply Le.bind | apply Le.ite | apply Le.gd | apply Le.loop | apply Le.t0 | apply Le.t1 | apply Le.elim | apply Q4 | apply Zc0 | intro _)

noncomputable def J7 (l : List api_Memory) (i : Int) : Option ((Int) ⊕ (Int) ⊕ (Unit)) :=
  if (decide (i < (l.length : Int))) = true then
  (idx l i).bind fun x =>
  (J3 x).bind fun y2 =>
  if (!decide (y2 = 0)) = true then
  some (.inr (.inl y2))
  else
  some (.inl (i64 (i + 1)))
  else
  some (.inr (.inr ()))
theorem Zec (l : List api_Memory) (i : Int) : Le (J7 l i) (Jx l i) := by
  unfold J7 Jx
  with_reducible repeat' (first | exact Le.refl _ | apply Le.bind | apply Le.ite | apply Zd7 | intro _)

noncomputable def JP (l : List api_Memory) : Option Int :=
  (Z1 (l.length : Int) 1 8).bind fun y =>
  if (!y) = true then
  some 3
  else
  ((Z8 (t1 (J7 l)) 0) : Option ((Int) ⊕ (Unit))).bind (Sum.elim (fun q' => some q') (t0 (some 0)))
theorem ZcQ (l : List api_Memory) : Le (JP l) (X1 l) := by
  unfold JP X1
  with_reducible repeat' (first | exact Le.refl _ | apply Le.bind | apply Le.ite | apply Le.loop | apply Le.t0 | apply Le.t1 | apply Le.elim | apply Q4 | apply Zec | intro _)

noncomputable def Jk (m : api_Memory) (sectors2 : List (List Int)) (i : Int) : Option (((List (List Int)) × Int) ⊕ ((List (List Int)))) :=
  if (decide (i < (m.Sectors.length : Int))) = true then
  (idx m.Sectors i).bind fun x =>
  (Zcb 1 x).bind fun y =>
  (app sectors2 [y]).bind fun l =>
  some (.inl (l, (i64 (i + 1))))
  else
  some (.inr sectors2)
theorem Zdp (m : api_Memory) (sectors2 : List (List Int)) (i : Int) : Le (Jk m sectors2 i) (XP m sectors2 i) := by
  unfold Jk XP
  with_reducible repeat' (first | exact Le.refl _ | apply Le.bind | apply Le.ite | intro _)

noncomputable def Zap (m : api_Memory) : Option api_Memory :=
  ((Z8 (t2 (Jk m)) ([], 0)) : Option (((List (List Int))))).bind (t1 fun (sectors : List (List Int)) =>
  (Zcb 8 m.Wear).bind fun y2 =>
  (Zcb 1 m.Bad).bind fun y3 =>
  some (api_Memory.mk m.Slots m.Limit sectors y2 y3))
theorem Zet (m : api_Memory) : Le (Zap m) (XS m) := by
  unfold Zap XS
  with_reducible repeat' (first | exact Le.refl _ | apply Le.bind | apply Le.loop | apply Le.t1 | apply Le.t2 | apply Zdp | intro _)

noncomputable def Zaw (l : List api_Memory) (out2 : List api_Memory) (i : Int) : Option (((List api_Memory) × Int) ⊕ ((List api_Memory))) :=
  if (decide (i < (l.length : Int))) = true then
  (idx l i).bind fun x =>
  (Zap x).bind fun y =>
  (app out2 [y]).bind fun l2 =>
  some (.inl (l2, (i64 (i + 1))))
  else
  some (.inr out2)
theorem Zex (l : List api_Memory) (out2 : List api_Memory) (i : Int) : Le (Zaw l out2 i) (XV l out2 i) := by
  unfold Zaw XV
  with_reducible repeat' (first | exact Le.refl _ | apply Le.bind | apply Le.ite | apply Zet | intro _)

noncomputable def ZaP (l : List api_Memory) : Option (List api_Memory) :=
  ((Z8 (t2 (Zaw l)) ([], 0)) : Option (((List api_Memory)))).bind (t1 fun (out : List api_Memory) =>
  some out)
theorem Zdf (l : List api_Memory) : Le (ZaP l) (Xh l) := by
  unfold ZaP Xh
  with_reducible repeat' (first | exact Le.refl _ | apply Le.bind | apply Le.loop | apply Le.t1 | apply Le.t2 | apply Zex | intro _)

noncomputable def Za8 (sequence : Int) (out2 : List Int) (shift : Int) : Option (((List Int) × Int) ⊕ ((List Int))) :=
  if (decide (0 ≤ shift)) = true then
  (shr .i64 sequence shift).bind fun q =>
  (apz 1 out2 ([(u8 q)] : List Int)).bind fun l =>
  some (.inl (l, (i64 (shift - 8))))
  else
  some (.inr out2)
theorem Ze2 (sequence : Int) (out2 : List Int) (shift : Int) : Le (Za8 sequence out2 shift) (Zas sequence out2 shift) := by
  unfold Za8 Zas
  with_reducible repeat' (first | exact Le.refl _ | apply Le.bind | apply Le.ite | intro _)

noncomputable def Za4 (out : List Int) (out4 : List Int) (i : Int) : Option (((List Int) × Int) ⊕ ((List Int))) :=
  if (decide (i < ((Int.toNat (6 - 2) : Nat) : Int))) = true then
  (ck (decide ((0 : Int) ≤ i) && decide (i < ((Int.toNat (6 - 2) : Nat) : Int)))).bind fun u2 =>
  (idx out (2 + i)).bind fun x2 =>
  (apz 1 out4 ([(Zdz .u8 255 x2)] : List Int)).bind fun l2 =>
  some (.inl (l2, (i64 (i + 1))))
  else
  some (.inr out4)
theorem ZeW (out : List Int) (out4 : List Int) (i : Int) : Le (Za4 out out4 i) (ZaH out out4 i) := by
  unfold Za4 ZaH
  with_reducible repeat' (first | exact Le.refl _ | apply Le.bind | apply Le.ite | intro _)

noncomputable def Zbo (sequence : Int) : Option (List Int) :=
  ((Z8 (t2 (Za8 sequence)) (([79, 66] : List Int), 24)) : Option (((List Int)))).bind (t1 fun (out : List Int) =>
  (((slp out 2 6).bind fun u =>
  Z8 (t2 (Za4 out)) (out, 0)) : Option (((List Int)))).bind (t1 fun (out3 : List Int) =>
  some out3))
theorem ZdQ (sequence : Int) : Le (Zbo sequence) (Zaj sequence) := by
  unfold Zbo Zaj
  with_reducible repeat' (first | exact Le.refl _ | apply Le.bind | apply Le.loop | apply Le.t1 | apply Le.t2 | apply Ze2 | apply ZeW | intro _)

noncomputable def QS (s1 : List Int) (s2 : List Int) (i : Int) : Option ((Int) ⊕ (Bool) ⊕ (Unit)) :=
  if (decide (i < (s1.length : Int))) = true then
  (idx s1 i).bind fun x =>
  (idx s2 i).bind fun x2 =>
  if (!decide (x = x2)) = true then
  some (.inr (.inl false))
  else
  some (.inl (i64 (i + 1)))
  else
  some (.inr (.inr ()))
theorem ZbJ (s1 : List Int) (s2 : List Int) (i : Int) : Le (QS s1 s2 i) (Qz s1 s2 i) := by
  unfold QS Qz
  with_reducible repeat' (first | exact Le.refl _ | apply Le.bind | apply Le.ite | intro _)

noncomputable def Xp (s1 : List Int) (s2 : List Int) : Option Bool :=
  if (!decide ((s1.length : Int) = (s2.length : Int))) = true then
  some false
  else
  ((Z8 (t1 (QS s1 s2)) 0) : Option ((Bool) ⊕ (Unit))).bind (Sum.elim (fun q' => some q') (t0 (some true)))
theorem Zcr (s1 : List Int) (s2 : List Int) : Le (Xp s1 s2) (Qu s1 s2) := by
  unfold Xp Qu
  with_reducible repeat' (first | exact Le.refl _ | apply Le.bind | apply Le.ite | apply Le.loop | apply Le.t0 | apply Le.t1 | apply Le.elim | apply ZbJ | intro _)

noncomputable def Je (s : List Int) : Option (Int × Bool × Bool) :=
  if (decide ((s.length : Int) < 16)) = true then
  some (0, false, false)
  else
  (slc s 0 16).bind fun l =>
  (tov 16 l).bind fun v =>
  (ZG v 2).bind fun x =>
  (shl .i64 (i64 x) 24).bind fun q =>
  (ZG v 3).bind fun x2 =>
  (shl .i64 (i64 x2) 16).bind fun q2 =>
  (ZG v 4).bind fun x3 =>
  (shl .i64 (i64 x3) 8).bind fun q3 =>
  (ZG v 5).bind fun x4 =>
  (Z1 (bor .i64 (bor .i64 (bor .i64 q q2) q3) (i64 x4)) 1 1073741824).bind fun y =>
  (gd ((!y) == false) [] (slc v.toList 0 10)).bind fun l2 =>
  (gd ((!y) == false) [] (Zbo (bor .i64 (bor .i64 (bor .i64 q q2) q3) (i64 x4)))).bind fun y2 =>
  (gd ((!y) == false) false (Xp l2 y2)).bind fun y3 =>
  if ((!y) || (!y3)) = true then
  some (0, false, false)
  else
  (ZG v 10).bind fun x5 =>
  some ((bor .i64 (bor .i64 (bor .i64 q q2) q3) (i64 x4)), (!decide (x5 = 255)), true)
theorem ZaD (s : List Int) : Le (Je s) (Js s) := by
  unfold Je Js
  with_reducible repeat' (first | exact Le.refl _ | apply Le.bind | apply Le.ite | apply Le.gd | apply Q4 | apply ZdQ | apply Zcr | intro _)

noncomputable def ZaU (m : api_Memory) (out2 : List Int) (i : Int) : Option (((List Int) × Int) ⊕ ((List Int))) :=
  if (decide (i < (m.Sectors.length : Int))) = true then
  (idx m.Sectors i).bind fun x =>
  (Je x).bind fun y =>
  (gd (y.2.2 == true) false (idx m.Bad i)).bind fun x2 =>
  if (y.2.2 && (!x2)) = true then
  (apz 8 out2 ([i] : List Int)).bind fun l =>
  some (.inl (l, (i64 (i + 1))))
  else
  some (.inl (out2, (i64 (i + 1))))
  else
  some (.inr out2)
theorem ZeD (m : api_Memory) (out2 : List Int) (i : Int) : Le (ZaU m out2 i) (JQ m out2 i) := by
  unfold ZaU JQ
  with_reducible repeat' (first | exact Le.refl _ | apply Le.bind | apply Le.ite | apply Le.gd | apply ZaD | intro _)

noncomputable def Qd (a : Int) (cmp : Int → Int → Option Int) (o3 : List Int) (j : Int) : Option (((List Int) × Int) ⊕ ((List Int))) :=
  (gd ((decide (a < j)) == true) 0 (idx o3 j)).bind fun x =>
  (gd ((decide (a < j)) == true) 0 (idx o3 (i64 (j - 1)))).bind fun x2 =>
  (gd ((decide (a < j)) == true) 0 (cmp x x2)).bind fun y =>
  if ((decide (a < j)) && (decide (y < 0))) = true then
  (idx o3 (i64 (j - 1))).bind fun x3 =>
  (idx o3 j).bind fun x4 =>
  (idx o3 j).bind fun x5 =>
  (idx (o3.set j.toNat x3) (i64 (j - 1))).bind fun x6 =>
  some (.inl (((o3.set j.toNat x3).set (i64 (j - 1)).toNat x4), (i64 (j - 1))))
  else
  some (.inr o3)
theorem Jm (a : Int) (cmp : Int → Int → Option Int) (o3 : List Int) (j : Int) (cmp' : Int → Int → Option Int) (h_cmp : ∀ z0 z1, Le (cmp z0 z1) (cmp' z0 z1)) : Le (Qd a cmp o3 j) (Zz a cmp' o3 j) := by
  unfold Qd Zz
  with_reducible repeat' (first | exact Le.refl _ | apply Le.bind | apply Le.ite | apply Le.gd | apply h_cmp | intro _)

noncomputable def Qe (a : Int) (b : Int) (cmp : Int → Int → Option Int) (o : List Int) (i : Int) : Option (((List Int) × Int) ⊕ ((List Int))) :=
  if (decide (i < b)) = true then
  ((Z8 (t2 (Qd a cmp)) (o, i)) : Option (((List Int)))).bind (t1 fun (o2 : List Int) =>
  some (.inl (o2, (i64 (i + 1)))))
  else
  some (.inr o)
theorem Jt (a : Int) (b : Int) (cmp : Int → Int → Option Int) (o : List Int) (i : Int) (cmp' : Int → Int → Option Int) (h_cmp : ∀ z0 z1, Le (cmp z0 z1) (cmp' z0 z1)) : Le (Qe a b cmp o i) (Zy a b cmp' o i) := by
  unfold Qe Zy
  with_reducible repeat' (first | exact Le.refl _ | apply Le.bind | apply Le.ite | apply Le.loop | apply Le.t1 | apply Le.t2 | apply Jm | apply h_cmp | intro _)

noncomputable def Z0 (data : List Int) (a : Int) (b : Int) (cmp : Int → Int → Option Int) : Option (List Int) :=
  Z8 (t2 (Qe a b cmp)) (data, (i64 (a + 1)))
theorem QX (data : List Int) (a : Int) (b : Int) (cmp : Int → Int → Option Int) (cmp' : Int → Int → Option Int) (h_cmp : ∀ z0 z1, Le (cmp z0 z1) (cmp' z0 z1)) : Le (Z0 data a b cmp) (Zx data a b cmp') := by
  unfold Z0 Zx
  with_reducible repeat' (first | exact Le.refl _ | apply Le.bind | apply Le.loop | apply Le.t2 | apply Jt | apply h_cmp | intro _)

noncomputable def QE (n : Int) (cmp : Int → Int → Option Int) (o2 : List Int) (a2 : Int) (b : Int) : Option (((List Int) × Int × Int) ⊕ ((List Int) × Int)) :=
  if (decide (b ≤ n)) = true then
  (Z0 o2 a2 b cmp).bind fun y =>
  some (.inl (y, b, (i64 (b + 20))))
  else
  some (.inr (o2, a2))
theorem Za7 (n : Int) (cmp : Int → Int → Option Int) (o2 : List Int) (a2 : Int) (b : Int) (cmp' : Int → Int → Option Int) (h_cmp : ∀ z0 z1, Le (cmp z0 z1) (cmp' z0 z1)) : Le (QE n cmp o2 a2 b) (ZH n cmp' o2 a2 b) := by
  unfold QE ZH
  with_reducible repeat' (first | exact Le.refl _ | apply Le.bind | apply Le.ite | apply QX | apply h_cmp | intro _)

noncomputable def QK (n : Int) (blockSize : Int) : Option ((Unit) ⊕ (Unit)) :=
  if (decide ((i64 (2 * blockSize)) ≤ n)) = true then
  none
  else
  some (.inr ())
theorem Zbg (n : Int) (blockSize : Int) : Le (QK n blockSize) (Qp n blockSize) := by
  unfold QK Qp
  with_reducible repeat' (first | exact Le.refl _ | apply Le.bind | apply Le.ite | intro _)

noncomputable def QJ (n : Int) (y2 : (List Int)) (blockSize : Int) : Option ((Int) ⊕ ((List Int))) :=
  if (decide (blockSize < n)) = true then
  ((Z8 (t0 (QK n blockSize)) ()) : Option ((Unit))).bind (t0 (if (decide ((i64 (0 + blockSize)) < n)) = true then
  none
  else
  some (.inl (i64 (blockSize * 2)))))
  else
  some (.inr y2)
theorem Zbf (n : Int) (y2 : (List Int)) (blockSize : Int) : Le (QJ n y2 blockSize) (ZM n y2 blockSize) := by
  unfold QJ ZM
  with_reducible repeat' (first | exact Le.refl _ | apply Le.bind | apply Le.ite | apply Le.loop | apply Le.t0 | apply Zbg | intro _)

noncomputable def QZ (data : List Int) (n : Int) (cmp : Int → Int → Option Int) : Option (List Int) :=
  ((Z8 (t3 (QE n cmp)) (data, 0, 20)) : Option (((List Int) × Int))).bind (t2 fun (o : List Int) (a : Int) =>
  (Z0 o a n cmp).bind fun y2 =>
  Z8 (t1 (QJ n y2)) 20)
theorem ZbZ (data : List Int) (n : Int) (cmp : Int → Int → Option Int) (cmp' : Int → Int → Option Int) (h_cmp : ∀ z0 z1, Le (cmp z0 z1) (cmp' z0 z1)) : Le (QZ data n cmp) (Z3 data n cmp') := by
  unfold QZ Z3
  with_reducible repeat' (first | exact Le.refl _ | apply Le.bind | apply Le.loop | apply Le.t1 | apply Le.t2 | apply Le.t3 | apply Za7 | apply QX | apply Zbf | apply h_cmp | intro _)

noncomputable def Qy (x : List Int) (cmp : Int → Int → Option Int) : Option (List Int) :=
  (QZ x (x.length : Int) cmp).bind fun y =>
  some y
theorem Zax (x : List Int) (cmp : Int → Int → Option Int) (cmp' : Int → Int → Option Int) (h_cmp : ∀ z0 z1, Le (cmp z0 z1) (cmp' z0 z1)) : Le (Qy x cmp) (ZF x cmp') := by
  unfold Qy ZF
  with_reducible repeat' (first | exact Le.refl _ | apply Le.bind | apply ZbZ | apply h_cmp | intro _)

noncomputable def Jo (i : Int) (c0 : api_Memory) : Option Int :=
  (idx c0.Sectors i).bind fun x =>
  (Je x).bind fun y =>
  some y.1
theorem Ze8 (i : Int) (c0 : api_Memory) : Le (Jo i c0) (XC i c0) := by
  unfold Jo XC
  with_reducible repeat' (first | exact Le.refl _ | apply Le.bind | apply ZaD | intro _)

noncomputable def Zbi (a : Int) (b : Int) (k : api_Memory) : Option Int :=
  (Jo a k).bind fun y =>
  (Jo b k).bind fun y2 =>
  some (i64 (y - y2))
theorem Zfa (a : Int) (b : Int) (k : api_Memory) : Le (Zbi a b k) (Jg a b k) := by
  unfold Zbi Jg
  with_reducible repeat' (first | exact Le.refl _ | apply Le.bind | apply Ze8 | intro _)

noncomputable def ZaC (m : api_Memory) : Option (List Int) :=
  ((Z8 (t2 (ZaU m)) ([], 0)) : Option (((List Int)))).bind (t1 fun (out : List Int) =>
  (Qy out (fun z0 z1 => Zbi z0 z1 m)).bind fun y2 =>
  some y2)
theorem Zdh (m : api_Memory) : Le (ZaC m) (Jv m) := by
  unfold ZaC Jv
  with_reducible repeat' (first | exact Le.refl _ | apply Le.bind | apply Le.loop | apply Le.t1 | apply Le.t2 | apply ZeD | apply Zax | apply Zfa | intro _)

noncomputable def Zbl (s : List Int) (i : Int) : Option (Vector Int 97) :=
  (slc s (i64 (16 + (i64 (i * 97)))) (i64 ((i64 (16 + (i64 (i * 97)))) + 97))).bind fun l =>
  (tov 97 l).bind fun v =>
  some v
theorem ZdN (s : List Int) (i : Int) : Le (Zbl s i) (Zag s i) := by
  unfold Zbl Zag
  with_reducible repeat' (first | exact Le.refl _ | apply Le.bind | intro _)

noncomputable def Qw (s : List Int) (f : Int → Option Bool) (i : Int) : Option ((Int) ⊕ (Int) ⊕ (Unit)) :=
  if (decide (i < (s.length : Int))) = true then
  (idx s i).bind fun x =>
  (f x).bind fun y =>
  if y = true then
  some (.inr (.inl i))
  else
  some (.inl (i64 (i + 1)))
  else
  some (.inr (.inr ()))
theorem ZaI (s : List Int) (f : Int → Option Bool) (i : Int) (f' : Int → Option Bool) (h_f : ∀ z0, Le (f z0) (f' z0)) : Le (Qw s f i) (Qi s f' i) := by
  unfold Qw Qi
  with_reducible repeat' (first | exact Le.refl _ | apply Le.bind | apply Le.ite | apply h_f | intro _)

noncomputable def QP (s : List Int) (f : Int → Option Bool) : Option Int :=
  ((Z8 (t1 (Qw s f)) 0) : Option ((Int) ⊕ (Unit))).bind (Sum.elim (fun q' => some q') (t0 (some (-1))))
theorem ZbC (s : List Int) (f : Int → Option Bool) (f' : Int → Option Bool) (h_f : ∀ z0, Le (f z0) (f' z0)) : Le (QP s f) (Z6 s f') := by
  unfold QP Z6
  with_reducible repeat' (first | exact Le.refl _ | apply Le.bind | apply Le.loop | apply Le.t0 | apply Le.t1 | apply Le.elim | apply ZaI | apply h_f | intro _)

noncomputable def Qv (s : List Int) (f : Int → Option Bool) : Option Bool :=
  (QP s f).bind fun y =>
  some (decide (0 ≤ y))
theorem ZaL (s : List Int) (f : Int → Option Bool) (f' : Int → Option Bool) (h_f : ∀ z0, Le (f z0) (f' z0)) : Le (Qv s f) (ZT s f') := by
  unfold Qv ZT
  with_reducible repeat' (first | exact Le.refl _ | apply Le.bind | apply ZbC | apply h_f | intro _)

noncomputable def Za2 (b : Int) : Option Bool :=
  some (!decide (b = 255))
theorem ZeX (b : Int) : Le (Za2 b) (Jf b) := by
  unfold Za2 Jf
  with_reducible repeat' (first | exact Le.refl _ | apply Le.bind | intro _)

noncomputable def ZaG (p : Vector Int 97) : Option Int :=
  (ZG p 96).bind fun x =>
  if (decide (x = 0)) = true then
  some 1
  else
  (slc p.toList 0 (97 : Int)).bind fun l =>
  (Qv l (fun z0 => Za2 z0)).bind fun y =>
  if y = true then
  some 2
  else
  some 0
theorem Zdo (p : Vector Int 97) : Le (ZaG p) (Jw p) := by
  unfold ZaG Jw
  with_reducible repeat' (first | exact Le.refl _ | apply Le.bind | apply Le.ite | apply ZaL | apply ZeX | intro _)

noncomputable def Zae (m : api_Memory) (x : Int) (slot2 : Int) (i : Int) : Option ((Int × Int) ⊕ (Int)) :=
  if (decide (i < m.Slots)) = true then
  (idx m.Sectors x).bind fun x2 =>
  (Zbl x2 i).bind fun y2 =>
  (ZaG y2).bind fun y3 =>
  if (!decide (y3 = 0)) = true then
  some (.inl ((i64 (i + 1)), (i64 (i + 1))))
  else
  some (.inl (slot2, (i64 (i + 1))))
  else
  some (.inr slot2)
theorem Zd2 (m : api_Memory) (x : Int) (slot2 : Int) (i : Int) : Le (Zae m x slot2 i) (Jr m x slot2 i) := by
  unfold Zae Jr
  with_reducible repeat' (first | exact Le.refl _ | apply Le.bind | apply Le.ite | apply ZdN | apply Zdo | intro _)

noncomputable def ZbL (m : api_Memory) : Option ring_spot :=
  (ZaC m).bind fun y =>
  if (decide ((y.length : Int) = 0)) = true then
  some (ring_spot.mk (-1) 0)
  else
  (idx y (i64 ((y.length : Int) - 1))).bind fun x =>
  ((Z8 (t2 (Zae m x)) (0, 0)) : Option ((Int))).bind (t1 fun (slot : Int) =>
  some (ring_spot.mk x slot))
theorem Zfs (m : api_Memory) : Le (ZbL m) (JM m) := by
  unfold ZbL JM
  with_reducible repeat' (first | exact Le.refl _ | apply Le.bind | apply Le.ite | apply Le.loop | apply Le.t1 | apply Le.t2 | apply Zdh | apply Zd2 | intro _)

noncomputable def ZbG (y3 : (List api_Memory)) (spots2 : List ring_spot) (frozen2 : Bool) (i : Int) : Option (((List ring_spot) × Bool × Int) ⊕ ((List ring_spot) × Bool)) :=
  if (decide (i < (y3.length : Int))) = true then
  (idx y3 i).bind fun x =>
  (ZbL x).bind fun y4 =>
  (apz 16 spots2 ([y4] : List ring_spot)).bind fun l2 =>
  if (decide (0 ≤ y4.sector)) = true then
  (idx x.Sectors y4.sector).bind fun x2 =>
  (Je x2).bind fun y5 =>
  some (.inl (l2, (frozen2 || y5.2.1), (i64 (i + 1))))
  else
  some (.inl (l2, frozen2, (i64 (i + 1))))
  else
  some (.inr (spots2, frozen2))
theorem Zfy (y3 : (List api_Memory)) (spots2 : List ring_spot) (frozen2 : Bool) (i : Int) : Le (ZbG y3 spots2 frozen2 i) (Zbq y3 spots2 frozen2 i) := by
  unfold ZbG Zbq
  with_reducible repeat' (first | exact Le.refl _ | apply Le.bind | apply Le.ite | apply Zfs | apply ZaD | intro _)

noncomputable def Zc1 (l : List api_Memory) (copies : Int) : Option ((Int) ⊕ (ring_Recorder × Int)) :=
  (JP l).bind fun y =>
  if (!decide (y = 0)) = true then
  some (Sum.inl y)
  else
  (Z1 copies 1 (l.length : Int)).bind fun y2 =>
  if (!y2) = true then
  some (Sum.inl 9)
  else
  (ZaP l).bind fun y3 =>
  ((Z8 (t3 (ZbG y3)) ([], false, 0)) : Option (((List ring_spot) × Bool))).bind (t2 fun (spots : List ring_spot) (frozen : Bool) =>
  some (Sum.inr ((ring_Recorder.mk (ring_bank.mk y3 spots) copies frozen false 0 false), 0)))
theorem Zg9 (l : List api_Memory) (copies : Int) : Le (Zc1 l copies) (J4 l copies) := by
  unfold Zc1 J4
  with_reducible repeat' (first | exact Le.refl _ | apply Le.bind | apply Le.ite | apply Le.loop | apply Le.t2 | apply Le.t3 | apply Le.elim | apply ZcQ | apply Q4 | apply Zdf | apply Zfy | intro _)

noncomputable def Jl (r_ : ring_Recorder) (power : Int) : Option Int :=
  if r_.stopped = true then
  some 15
  else
  if r_.frozen = true then
  some 11
  else
  (Z1 power 0 1000000000).bind fun y =>
  if (!y) = true then
  some 9
  else
  some 0
theorem Zdt (r_ : ring_Recorder) (power : Int) : Le (Jl r_ power) (Q1 r_ power) := by
  unfold Jl Q1
  with_reducible repeat' (first | exact Le.refl _ | apply Le.bind | apply Le.ite | apply Q4 | intro _)

noncomputable def Zba (f : Vector Int 64) (out2 : List api_Flaw) (i : Int) : Option (((List api_Flaw) × Int) ⊕ ((List api_Flaw))) :=
  if (decide (i < 64)) = true then
  (ZG f i).bind fun x =>
  if (decide (4095 < x)) = true then
  (app out2 ([(api_Flaw.mk i 5)] : List api_Flaw)).bind fun l =>
  some (.inl (l, (i64 (i + 1))))
  else
  some (.inl (out2, (i64 (i + 1))))
  else
  some (.inr out2)
theorem Ze1 (f : Vector Int 64) (out2 : List api_Flaw) (i : Int) : Le (Zba f out2 i) (Zam f out2 i) := by
  unfold Zba Zam
  with_reducible repeat' (first | exact Le.refl _ | apply Le.bind | apply Le.ite | intro _)

noncomputable def Xi (w : Int) : Option Int :=
  some (i64 (QL .u16 w 2047))
theorem ZcJ (w : Int) : Le (Xi w) (Xs w) := by
  unfold Xi Xs
  with_reducible repeat' (first | exact Le.refl _ | apply Le.bind | intro _)

noncomputable def Jp (f : Vector Int 64) : Option Int :=
  (ZG f 1).bind fun x =>
  (Xi x).bind fun y =>
  (ZG f 2).bind fun x2 =>
  (Xi x2).bind fun y2 =>
  (shl .i64 y2 11).bind fun q =>
  some (bor .i64 y q)
theorem ZcA (f : Vector Int 64) : Le (Jp f) (XA f) := by
  unfold Jp XA
  with_reducible repeat' (first | exact Le.refl _ | apply Le.bind | apply ZcJ | intro _)

noncomputable def JZ (x : Int) : Option Int :=
  (shr .u16 x 8).bind fun q =>
  (Zi9 [0, 1, 1, 2, 1, 2, 2, 3, 1, 2, 2, 3, 2, 3, 3, 4, 1, 2, 2, 3, 2, 3, 3, 4, 2, 3, 3, 4, 3, 4, 4, 5, 1, 2, 2, 3, 2, 3, 3, 4, 2, 3, 3, 4, 3, 4, 4, 5, 2, 3, 3, 4, 3, 4, 4, 5, 3, 4, 4, 5, 4, 5, 5, 6, 1, 2, 2, 3, 2, 3, 3, 4, 2, 3, 3, 4, 3, 4, 4, 5, 2, 3, 3, 4, 3, 4, 4, 5, 3, 4, 4, 5, 4, 5, 5, 6, 2, 3, 3, 4, 3, 4, 4, 5, 3, 4, 4, 5, 4, 5, 5, 6, 3, 4, 4, 5, 4, 5, 5, 6, 4, 5, 5, 6, 5, 6, 6, 7, 1, 2, 2, 3, 2, 3, 3, 4, 2, 3, 3, 4, 3, 4, 4, 5, 2, 3, 3, 4, 3, 4, 4, 5, 3, 4, 4, 5, 4, 5, 5, 6, 2, 3, 3, 4, 3, 4, 4, 5, 3, 4, 4, 5, 4, 5, 5, 6, 3, 4, 4, 5, 4, 5, 5, 6, 4, 5, 5, 6, 5, 6, 6, 7, 2, 3, 3, 4, 3, 4, 4, 5, 3, 4, 4, 5, 4, 5, 5, 6, 3, 4, 4, 5, 4, 5, 5, 6, 4, 5, 5, 6, 5, 6, 6, 7, 3, 4, 4, 5, 4, 5, 5, 6, 4, 5, 5, 6, 5, 6, 6, 7, 4, 5, 5, 6, 5, 6, 6, 7, 5, 6, 6, 7, 6, 7, 7, 8] q).bind fun b =>
  (Zi9 [0, 1, 1, 2, 1, 2, 2, 3, 1, 2, 2, 3, 2, 3, 3, 4, 1, 2, 2, 3, 2, 3, 3, 4, 2, 3, 3, 4, 3, 4, 4, 5, 1, 2, 2, 3, 2, 3, 3, 4, 2, 3, 3, 4, 3, 4, 4, 5, 2, 3, 3, 4, 3, 4, 4, 5, 3, 4, 4, 5, 4, 5, 5, 6, 1, 2, 2, 3, 2, 3, 3, 4, 2, 3, 3, 4, 3, 4, 4, 5, 2, 3, 3, 4, 3, 4, 4, 5, 3, 4, 4, 5, 4, 5, 5, 6, 2, 3, 3, 4, 3, 4, 4, 5, 3, 4, 4, 5, 4, 5, 5, 6, 3, 4, 4, 5, 4, 5, 5, 6, 4, 5, 5, 6, 5, 6, 6, 7, 1, 2, 2, 3, 2, 3, 3, 4, 2, 3, 3, 4, 3, 4, 4, 5, 2, 3, 3, 4, 3, 4, 4, 5, 3, 4, 4, 5, 4, 5, 5, 6, 2, 3, 3, 4, 3, 4, 4, 5, 3, 4, 4, 5, 4, 5, 5, 6, 3, 4, 4, 5, 4, 5, 5, 6, 4, 5, 5, 6, 5, 6, 6, 7, 2, 3, 3, 4, 3, 4, 4, 5, 3, 4, 4, 5, 4, 5, 5, 6, 3, 4, 4, 5, 4, 5, 5, 6, 4, 5, 5, 6, 5, 6, 6, 7, 3, 4, 4, 5, 4, 5, 5, 6, 4, 5, 5, 6, 5, 6, 6, 7, 4, 5, 5, 6, 5, 6, 6, 7, 5, 6, 6, 7, 6, 7, 7, 8] (QL .u16 x 255)).bind fun b2 =>
  some (i64 (u8 (b + b2)))
theorem Zd9 (x : Int) : Le (JZ x) (Xz x) := by
  unfold JZ Xz
  with_reducible repeat' (first | exact Le.refl _ | apply Le.bind | intro _)

noncomputable def ZbD (w : Int) : Option Bool :=
  (gd ((decide (w ≤ 4095)) == true) 0 (JZ w)).bind fun y =>
  (gd ((decide (w ≤ 4095)) == true) 0 (rem y 2)).bind fun q =>
  some ((decide (w ≤ 4095)) && (decide (q = 1)))
theorem Zfe (w : Int) : Le (ZbD w) (Zbc w) := by
  unfold ZbD Zbc
  with_reducible repeat' (first | exact Le.refl _ | apply Le.bind | apply Le.gd | apply Zd9 | intro _)

noncomputable def Zbd (f : Vector Int 64) (out5 : List api_Flaw) (i2 : Int) : Option (((List api_Flaw) × Int) ⊕ ((List api_Flaw))) :=
  if (decide (i2 < 64)) = true then
  (ZG f i2).bind fun x4 =>
  (ZbD x4).bind fun y2 =>
  if (!y2) = true then
  (app out5 ([(api_Flaw.mk i2 2)] : List api_Flaw)).bind fun l3 =>
  some (.inl (l3, (i64 (i2 + 1))))
  else
  some (.inl (out5, (i64 (i2 + 1))))
  else
  some (.inr out5)
theorem Zfi (f : Vector Int 64) (out5 : List api_Flaw) (i2 : Int) : Le (Zbd f out5 i2) (Zao f out5 i2) := by
  unfold Zbd Zao
  with_reducible repeat' (first | exact Le.refl _ | apply Le.bind | apply Le.ite | apply Zfe | intro _)

noncomputable def Zbe (f : Vector Int 64) (n2 : Int) (i : Int) : Option ((Int × Int) ⊕ (Int)) :=
  if (decide (i < 60)) = true then
  (ZG f (i64 (i + 1))).bind fun x =>
  (Xi x).bind fun y =>
  some (.inl ((Zdz .i64 n2 y), (i64 (i + 1))))
  else
  some (.inr n2)
theorem Ze3 (f : Vector Int 64) (n2 : Int) (i : Int) : Le (Zbe f n2 i) (ZaS f n2 i) := by
  unfold Zbe ZaS
  with_reducible repeat' (first | exact Le.refl _ | apply Le.bind | apply Le.ite | apply ZcJ | intro _)

noncomputable def ZcI (f : Vector Int 64) : Option Int :=
  ((Z8 (t2 (Zbe f)) (0, 0)) : Option ((Int))).bind (t1 fun (n : Int) =>
  some n)
theorem ZgY (f : Vector Int 64) : Le (ZcI f) (Zbr f) := by
  unfold ZcI Zbr
  with_reducible repeat' (first | exact Le.refl _ | apply Le.bind | apply Le.loop | apply Le.t1 | apply Le.t2 | apply Ze3 | intro _)

noncomputable def JY (f : Vector Int 64) (i : Int) (n4 : Int) (k : Int) : Option ((Int × Int) ⊕ (Int)) :=
  if (decide (0 ≤ k)) = true then
  (shl .i64 n4 1).bind fun q =>
  (ZG f i).bind fun x =>
  (shr .u16 x k).bind fun q2 =>
  if (!((!decide ((QL .i64 n4 2097152) = 0)) == (decide ((QL .u16 q2 1) = 1)))) = true then
  some (.inl ((Zdz .i64 (QL .i64 q 4194303) 2097167), (i64 (k - 1))))
  else
  some (.inl ((QL .i64 q 4194303), (i64 (k - 1))))
  else
  some (.inr n4)
theorem Zee (f : Vector Int 64) (i : Int) (n4 : Int) (k : Int) : Le (JY f i n4 k) (Ju f i n4 k) := by
  unfold JY Ju
  with_reducible repeat' (first | exact Le.refl _ | apply Le.bind | apply Le.ite | intro _)

noncomputable def J5 (f : Vector Int 64) (n2 : Int) (i : Int) : Option ((Int × Int) ⊕ (Int)) :=
  if (decide (i < 62)) = true then
  ((Z8 (t2 (JY f i)) (n2, 11)) : Option ((Int))).bind (t1 fun (n3 : Int) =>
  some (.inl (n3, (i64 (i + 1)))))
  else
  some (.inr n2)
theorem Zeb (f : Vector Int 64) (n2 : Int) (i : Int) : Le (J5 f n2 i) (Jq f n2 i) := by
  unfold J5 Jq
  with_reducible repeat' (first | exact Le.refl _ | apply Le.bind | apply Le.ite | apply Le.loop | apply Le.t1 | apply Le.t2 | apply Zee | intro _)

noncomputable def ZbN (f : Vector Int 64) : Option Int :=
  ((Z8 (t2 (J5 f)) (0, 0)) : Option ((Int))).bind (t1 fun (n : Int) =>
  some n)
theorem ZfM (f : Vector Int 64) : Le (ZbN f) (JH f) := by
  unfold ZbN JH
  with_reducible repeat' (first | exact Le.refl _ | apply Le.bind | apply Le.loop | apply Le.t1 | apply Le.t2 | apply Zeb | intro _)

noncomputable def Zbn (f : Vector Int 64) : Option (List api_Flaw) :=
  ((Z8 (t2 (Zba f)) ([], 0)) : Option (((List api_Flaw)))).bind (t1 fun (out : List api_Flaw) =>
  if (decide (0 < (out.length : Int))) = true then
  some out
  else
  (((ZG f 0).bind fun x2 =>
  (Jp f).bind fun y =>
  (rem y 4).bind fun q =>
  (ZG gv_frame_syncs q).bind fun x3 =>
  if (!decide (x2 = x3)) = true then
  (app out ([(api_Flaw.mk 0 1)] : List api_Flaw)).bind fun l2 =>
  some l2
  else
  some out) : Option (((List api_Flaw)))).bind (t1 fun (out3 : List api_Flaw) =>
  ((Z8 (t2 (Zbd f)) (out3, 1)) : Option (((List api_Flaw)))).bind (t1 fun (out4 : List api_Flaw) =>
  (((ZG f 61).bind fun x5 =>
  (Xi x5).bind fun y3 =>
  (ZcI f).bind fun y4 =>
  if (!decide (y3 = y4)) = true then
  (app out4 ([(api_Flaw.mk 61 3)] : List api_Flaw)).bind fun l4 =>
  some l4
  else
  some out4) : Option (((List api_Flaw)))).bind (t1 fun (out6 : List api_Flaw) =>
  (ZG f 62).bind fun x6 =>
  (Xi x6).bind fun y5 =>
  (shl .i64 y5 11).bind fun q2 =>
  (ZG f 63).bind fun x7 =>
  (Xi x7).bind fun y6 =>
  (ZbN f).bind fun y7 =>
  if (!decide ((bor .i64 q2 y6) = y7)) = true then
  (app out6 ([(api_Flaw.mk 62 4)] : List api_Flaw)).bind fun l5 =>
  some l5
  else
  some out6))))
theorem ZdS (f : Vector Int 64) : Le (Zbn f) (Zah f) := by
  unfold Zbn Zah
  with_reducible repeat' (first | exact Le.refl _ | apply Le.bind | apply Le.ite | apply Le.loop | apply Le.t1 | apply Le.t2 | apply Ze1 | apply ZcA | apply Zfi | apply ZcJ | apply ZgY | apply ZfM | intro _)

noncomputable def ZaE (f : Vector Int 64) : Option (Int × Bool) :=
  (ZG f 1).bind fun x =>
  (ZbD x).bind fun y =>
  (gd ((!y) == false) 0 (ZG f 2)).bind fun x2 =>
  (gd ((!y) == false) false (ZbD x2)).bind fun y2 =>
  if ((!y) || (!y2)) = true then
  some (0, false)
  else
  (Jp f).bind fun y3 =>
  some (y3, true)
theorem Zdn (f : Vector Int 64) : Le (ZaE f) (Jn f) := by
  unfold ZaE Jn
  with_reducible repeat' (first | exact Le.refl _ | apply Le.bind | apply Le.ite | apply Le.gd | apply Zfe | apply ZcA | intro _)

noncomputable def Zaz (number : Int) (memories : Int) (copies : Int) (out2 : List Int) (i : Int) : Option (((List Int) × Int) ⊕ ((List Int))) :=
  if (decide (i < copies)) = true then
  (rem (i64 (number + i)) memories).bind fun q =>
  (apz 8 out2 ([q] : List Int)).bind fun l =>
  some (.inl (l, (i64 (i + 1))))
  else
  some (.inr out2)
theorem Zeo (number : Int) (memories : Int) (copies : Int) (out2 : List Int) (i : Int) : Le (Zaz number memories copies out2 i) (JW number memories copies out2 i) := by
  unfold Zaz JW
  with_reducible repeat' (first | exact Le.refl _ | apply Le.bind | apply Le.ite | intro _)

noncomputable def Zca (number : Int) (memories : Int) (copies : Int) : Option (List Int) :=
  ((Z8 (t2 (Zaz number memories copies)) ([], 0)) : Option (((List Int)))).bind (t1 fun (out : List Int) =>
  some out)
theorem Zgb (number : Int) (memories : Int) (copies : Int) : Le (Zca number memories copies) (ZaM number memories copies) := by
  unfold Zca ZaM
  with_reducible repeat' (first | exact Le.refl _ | apply Le.bind | apply Le.loop | apply Le.t1 | apply Le.t2 | apply Zeo | intro _)

noncomputable def QV (b : ring_bank) (k : Int) : Option Bool :=
  (idx b.spots k).bind fun x =>
  (gd ((decide (x.sector < 0)) == false) (ring_spot.mk 0 0) (idx b.spots k)).bind fun x2 =>
  (gd ((decide (x.sector < 0)) == false) (api_Memory.mk 0 0 [] [] []) (idx b.memories k)).bind fun x3 =>
  some ((decide (x.sector < 0)) || (decide (x2.slot = x3.Slots)))
theorem Jz (b : ring_bank) (k : Int) : Le (QV b k) (QC b k) := by
  unfold QV QC
  with_reducible repeat' (first | exact Le.refl _ | apply Le.bind | apply Le.gd | intro _)

noncomputable def JF (b : ring_bank) (k : Int) (x : api_Memory) (i : Int) : Option ((Int) ⊕ (Int) ⊕ (Unit)) :=
  if (decide (i < (x.Sectors.length : Int))) = true then
  (idx b.spots k).bind fun x2 =>
  (rem (i64 ((i64 (x2.sector + 1)) + i)) (x.Sectors.length : Int)).bind fun q =>
  (idx x.Bad q).bind fun x3 =>
  (gd ((!x3) == true) 0 (idx x.Wear q)).bind fun x4 =>
  if ((!x3) && (decide (x4 < x.Limit))) = true then
  some (.inr (.inl q))
  else
  some (.inl (i64 (i + 1)))
  else
  some (.inr (.inr ()))
theorem ZdT (b : ring_bank) (k : Int) (x : api_Memory) (i : Int) : Le (JF b k x i) (X9 b k x i) := by
  unfold JF X9
  with_reducible repeat' (first | exact Le.refl _ | apply Le.bind | apply Le.ite | apply Le.gd | intro _)

noncomputable def XB (b : ring_bank) (k : Int) : Option Int :=
  (idx b.memories k).bind fun x =>
  ((Z8 (t1 (JF b k x)) 0) : Option ((Int) ⊕ (Unit))).bind (Sum.elim (fun q' => some q') (t0 (some (-1))))
theorem ZaA (b : ring_bank) (k : Int) : Le (XB b k) (Q0 b k) := by
  unfold XB Q0
  with_reducible repeat' (first | exact Le.refl _ | apply Le.bind | apply Le.loop | apply Le.t0 | apply Le.t1 | apply Le.elim | apply ZdT | intro _)

noncomputable def Jd (b : ring_bank) (l : List Int) (i : Int) : Option ((Int) ⊕ (Int) ⊕ (Unit)) :=
  if (decide (i < (l.length : Int))) = true then
  (idx l i).bind fun x =>
  (QV b x).bind fun y =>
  (gd (y == true) 0 (XB b x)).bind fun y2 =>
  if (y && (decide (y2 < 0))) = true then
  some (.inr (.inl 4))
  else
  some (.inl (i64 (i + 1)))
  else
  some (.inr (.inr ()))
theorem Zds (b : ring_bank) (l : List Int) (i : Int) : Le (Jd b l i) (XK b l i) := by
  unfold Jd XK
  with_reducible repeat' (first | exact Le.refl _ | apply Le.bind | apply Le.ite | apply Le.gd | apply Jz | apply ZaA | intro _)

noncomputable def XE (sector : Int) (x : api_Memory) (most2 : Int) (i : Int) : Option ((Int × Int) ⊕ (Int)) :=
  if (decide (i < (x.Sectors.length : Int))) = true then
  (idx x.Sectors i).bind fun x2 =>
  (Je x2).bind fun y =>
  if (y.2.2 && (!decide (i = sector))) = true then
  some (.inl ((max most2 y.1), (i64 (i + 1))))
  else
  some (.inl (most2, (i64 (i + 1))))
  else
  some (.inr most2)
theorem ZcE (sector : Int) (x : api_Memory) (most2 : Int) (i : Int) : Le (XE sector x most2 i) (Q6 sector x most2 i) := by
  unfold XE Q6
  with_reducible repeat' (first | exact Le.refl _ | apply Le.bind | apply Le.ite | apply ZaD | intro _)

noncomputable def Xm (b : ring_bank) (k : Int) (sector : Int) : Option Int :=
  (((idx b.memories k).bind fun x =>
  Z8 (t2 (XE sector x)) (0, 0)) : Option ((Int))).bind (t1 fun (most : Int) =>
  some (i64 (most + 1)))
theorem Za0 (b : ring_bank) (k : Int) (sector : Int) : Le (Xm b k sector) (QD b k sector) := by
  unfold Xm QD
  with_reducible repeat' (first | exact Le.refl _ | apply Le.bind | apply Le.loop | apply Le.t1 | apply Le.t2 | apply ZcE | intro _)

noncomputable def Jh (b : ring_bank) (l : List Int) (i2 : Int) : Option ((Int) ⊕ (Int) ⊕ (Unit)) :=
  if (decide (i2 < (l.length : Int))) = true then
  (idx l i2).bind fun x2 =>
  (QV b x2).bind fun y3 =>
  (gd (y3 == true) 0 (XB b x2)).bind fun y4 =>
  (gd (y3 == true) 0 (Xm b x2 y4)).bind fun y5 =>
  if (y3 && (decide (1073741824 < y5))) = true then
  some (.inr (.inl 3))
  else
  some (.inl (i64 (i2 + 1)))
  else
  some (.inr (.inr ()))
theorem Zdv (b : ring_bank) (l : List Int) (i2 : Int) : Le (Jh b l i2) (XL b l i2) := by
  unfold Jh XL
  with_reducible repeat' (first | exact Le.refl _ | apply Le.bind | apply Le.ite | apply Le.gd | apply Jz | apply ZaA | apply Za0 | intro _)

noncomputable def Zat (b : ring_bank) (l : List Int) : Option Int :=
  ((Z8 (t1 (Jd b l)) 0) : Option ((Int) ⊕ (Unit))).bind (Sum.elim (fun q' => some q') (t0 (((Z8 (t1 (Jh b l)) 0) : Option ((Int) ⊕ (Unit))).bind (Sum.elim (fun q' => some q') (t0 (some 0))))))
theorem Zel (b : ring_bank) (l : List Int) : Le (Zat b l) (XY b l) := by
  unfold Zat XY
  with_reducible repeat' (first | exact Le.refl _ | apply Le.bind | apply Le.loop | apply Le.t0 | apply Le.t1 | apply Le.elim | apply Zds | apply Zdv | intro _)

noncomputable def ZbM (f : Vector Int 64) (i : Int) : Option ((Int) ⊕ (Bool) ⊕ (Unit)) :=
  if (decide (i < 64)) = true then
  (ZG f i).bind fun x =>
  if (decide (4095 < x)) = true then
  some (.inr (.inl true))
  else
  some (.inl (i64 (i + 1)))
  else
  some (.inr (.inr ()))
theorem ZfL (f : Vector Int 64) (i : Int) : Le (ZbM f i) (Zbk f i) := by
  unfold ZbM Zbk
  with_reducible repeat' (first | exact Le.refl _ | apply Le.bind | apply Le.ite | intro _)

noncomputable def Zc7 (f : Vector Int 64) : Option Bool :=
  ((Z8 (t1 (ZbM f)) 0) : Option ((Bool) ⊕ (Unit))).bind (Sum.elim (fun q' => some q') (t0 (some false)))
theorem Zg4 (f : Vector Int 64) : Le (Zc7 f) (Zb6 f) := by
  unfold Zc7 Zb6
  with_reducible repeat' (first | exact Le.refl _ | apply Le.bind | apply Le.loop | apply Le.t0 | apply Le.t1 | apply Le.elim | apply ZfL | intro _)

noncomputable def Zar (p : Vector Int 96) (i : Int) (w : Int) : Option (Vector Int 96) :=
  (quo .i64 i 2).bind fun q =>
  (rem i 2).bind fun q2 =>
  if (decide (q2 = 0)) = true then
  (shr .u16 w 4).bind fun q3 =>
  (ZG p (i64 ((i64 (q * 3)) + 1))).bind fun x =>
  (ZG p (i64 (q * 3))).bind fun x2 =>
  (shl .u16 (QL .u16 w 15) 4).bind fun q4 =>
  (ZG (Xw p (i64 (q * 3)) (u8 q3)) (i64 ((i64 (q * 3)) + 1))).bind fun x3 =>
  some (Xw (Xw p (i64 (q * 3)) (u8 q3)) (i64 ((i64 (q * 3)) + 1)) (bor .u8 (u8 q4) (QL .u8 x 15)))
  else
  (ZG p (i64 ((i64 (q * 3)) + 1))).bind fun x4 =>
  (shr .u16 w 8).bind fun q5 =>
  (ZG p (i64 ((i64 (q * 3)) + 1))).bind fun x5 =>
  (ZG (Xw p (i64 ((i64 (q * 3)) + 1)) (bor .u8 (QL .u8 x4 240) (u8 q5))) (i64 ((i64 (q * 3)) + 2))).bind fun x6 =>
  some (Xw (Xw p (i64 ((i64 (q * 3)) + 1)) (bor .u8 (QL .u8 x4 240) (u8 q5))) (i64 ((i64 (q * 3)) + 2)) (u8 w))
theorem Zes (p : Vector Int 96) (i : Int) (w : Int) : Le (Zar p i w) (XZ p i w) := by
  unfold Zar XZ
  with_reducible repeat' (first | exact Le.refl _ | apply Le.bind | apply Le.ite | intro _)

noncomputable def ZbI (f : Vector Int 64) (o : Vector Int 96) (i : Int) : Option (((Vector Int 96) × Int) ⊕ ((Vector Int 96))) :=
  if (decide (i < 64)) = true then
  (ZG f i).bind fun x =>
  (Zar o i x).bind fun y =>
  some (.inl (y, (i64 (i + 1))))
  else
  some (.inr o)
theorem ZfR (f : Vector Int 64) (o : Vector Int 96) (i : Int) : Le (ZbI f o i) (Zbj f o i) := by
  unfold ZbI Zbj
  with_reducible repeat' (first | exact Le.refl _ | apply Le.bind | apply Le.ite | apply Zes | intro _)

noncomputable def Zdc (p : Vector Int 96) (f : Vector Int 64) : Option (Vector Int 96) :=
  Z8 (t2 (ZbI f)) (p, 0)
theorem Zg1 (p : Vector Int 96) (f : Vector Int 64) : Le (Zdc p f) (Zcl p f) := by
  unfold Zdc Zcl
  with_reducible repeat' (first | exact Le.refl _ | apply Le.bind | apply Le.loop | apply Le.t2 | apply ZfR | intro _)

noncomputable def ZbO (f : Vector Int 64) : Option ((List Int) × Int) :=
  (Zc7 f).bind fun y =>
  if y = true then
  some ([], 9)
  else
  (Zdc (Vector.replicate 96 0) f).bind fun y2 =>
  (slc y2.toList 0 (96 : Int)).bind fun l =>
  some (l, 0)
theorem Zfz (f : Vector Int 64) : Le (ZbO f) (JI f) := by
  unfold ZbO JI
  with_reducible repeat' (first | exact Le.refl _ | apply Le.bind | apply Le.ite | apply Zg4 | apply Zg1 | intro _)

noncomputable def X6 (q : Int) (o2 : List Int) (i : Int) : Option (((List Int) × Int) ⊕ ((List Int))) :=
  if (decide (i < ((Int.toNat (q - 0) : Nat) : Int))) = true then
  (ck (decide ((0 : Int) ≤ i) && decide (i < ((Int.toNat (q - 0) : Nat) : Int)))).bind fun u2 =>
  (idx o2 (0 + i)).bind fun x2 =>
  some (.inl ((o2.set (0 + i).toNat 255), (i64 (i + 1))))
  else
  some (.inr o2)
theorem ZcY (q : Int) (o2 : List Int) (i : Int) : Le (X6 q o2 i) (Qh q o2 i) := by
  unfold X6 Qh
  with_reducible repeat' (first | exact Le.refl _ | apply Le.bind | apply Le.ite | intro _)

noncomputable def X5 (s : List Int) (o4 : List Int) (i2 : Int) : Option (((List Int) × Int) ⊕ ((List Int))) :=
  if (decide (i2 < (s.length : Int))) = true then
  (idx o4 i2).bind fun x3 =>
  some (.inl ((o4.set i2.toNat 255), (i64 (i2 + 1))))
  else
  some (.inr o4)
theorem Zc6 (s : List Int) (o4 : List Int) (i2 : Int) : Le (X5 s o4 i2) (Qf s o4 i2) := by
  unfold X5 Qf
  with_reducible repeat' (first | exact Le.refl _ | apply Le.bind | apply Le.ite | intro _)

noncomputable def Zaa (s : List Int) (power : Int) : Option (Int × Bool × (List Int)) :=
  if (decide (power = 0)) = true then
  (quo .i64 (s.length : Int) 2).bind fun q =>
  (slp s 0 q).bind fun u =>
  ((Z8 (t2 (X6 q)) (s, 0)) : Option (((List Int)))).bind (t1 fun (o : List Int) =>
  some ((max (i64 (power - 1)) 0), (decide (0 < power)), o))
  else
  ((Z8 (t2 (X5 s)) (s, 0)) : Option (((List Int)))).bind (t1 fun (o3 : List Int) =>
  some ((max (i64 (power - 1)) 0), (decide (0 < power)), o3))
theorem Zd6 (s : List Int) (power : Int) : Le (Zaa s power) (QB s power) := by
  unfold Zaa QB
  with_reducible repeat' (first | exact Le.refl _ | apply Le.bind | apply Le.ite | apply Le.loop | apply Le.t1 | apply Le.t2 | apply ZcY | apply Zc6 | intro _)

noncomputable def Zab (at_ : Int) (data : List Int) (o2 : List Int) (power3 : Int) (i : Int) : Option (((List Int) × Int × Int) ⊕ (Int × Bool × (List Int)) ⊕ ((List Int) × Int)) :=
  if (decide (i < (data.length : Int))) = true then
  (idx data i).bind fun x =>
  if (decide (power3 = 0)) = true then
  (idx o2 (i64 (at_ + i))).bind fun x2 =>
  (idx o2 (i64 (at_ + i))).bind fun x3 =>
  some (.inr (.inl (0, false, (o2.set (i64 (at_ + i)).toNat (QL .u8 x2 (bor .u8 x 15))))))
  else
  (idx o2 (i64 (at_ + i))).bind fun x4 =>
  (idx o2 (i64 (at_ + i))).bind fun x5 =>
  some (.inl ((o2.set (i64 (at_ + i)).toNat (QL .u8 x4 x)), (i64 (power3 - 1)), (i64 (i + 1))))
  else
  some (.inr (.inr (o2, power3)))
theorem Zd5 (at_ : Int) (data : List Int) (o2 : List Int) (power3 : Int) (i : Int) : Le (Zab at_ data o2 power3 i) (Z2 at_ data o2 power3 i) := by
  unfold Zab Z2
  with_reducible repeat' (first | exact Le.refl _ | apply Le.bind | apply Le.ite | intro _)

noncomputable def JS (s : List Int) (at_ : Int) (data : List Int) (power : Int) : Option (Int × Bool × (List Int)) :=
  ((Z8 (t3 (Zab at_ data)) (s, power, 0)) : Option ((Int × Bool × (List Int)) ⊕ ((List Int) × Int))).bind (Sum.elim (fun q' => some q') (t2 fun (o : List Int) (power2 : Int) =>
  some (power2, true, o)))
theorem ZcR (s : List Int) (at_ : Int) (data : List Int) (power : Int) : Le (JS s at_ data power) (Ql s at_ data power) := by
  unfold JS Ql
  with_reducible repeat' (first | exact Le.refl _ | apply Le.bind | apply Le.loop | apply Le.t2 | apply Le.t3 | apply Le.elim | apply Zd5 | intro _)

noncomputable def JB (b : ring_Recorder) (k : Int) (power : Int) : Option (Int × Bool × ring_Recorder) :=
  (idx b.bank.memories k).bind fun x =>
  (XB b.bank k).bind fun y =>
  (Xm b.bank k y).bind fun y2 =>
  (idx x.Wear y).bind fun x2 =>
  (idx x.Wear y).bind fun x3 =>
  (idx x.Sectors y).bind fun x8 =>
  (Zaa x8 power).bind fun y3 =>
  if (!y3.2.1) = true then
  some (y3.1, false, (ring_Recorder.mk (ring_bank.mk ((b.bank.memories.set k.toNat (api_Memory.mk x.Slots x.Limit x.Sectors (x.Wear.set y.toNat (i64 (x2 + 1))) x.Bad)).set k.toNat (api_Memory.mk x.Slots x.Limit (x.Sectors.set y.toNat y3.2.2) (x.Wear.set y.toNat (i64 (x2 + 1))) x.Bad)) b.bank.spots) b.copies b.frozen b.stopped b.last b.some_))
  else
  (((idx ((b.bank.memories.set k.toNat (api_Memory.mk x.Slots x.Limit x.Sectors (x.Wear.set y.toNat (i64 (x2 + 1))) x.Bad)).set k.toNat (api_Memory.mk x.Slots x.Limit (x.Sectors.set y.toNat y3.2.2) (x.Wear.set y.toNat (i64 (x2 + 1))) x.Bad)) k).bind fun x14 =>
  (idx x14.Sectors y).bind fun x15 =>
  (idx x14.Sectors y).bind fun x16 =>
  (Zbo y2).bind fun y4 =>
  (JS x15 0 y4 y3.1).bind fun y5 =>
  if y5.2.1 = true then
  (idx b.bank.spots k).bind fun x22 =>
  some ((((b.bank.memories.set k.toNat (api_Memory.mk x.Slots x.Limit x.Sectors (x.Wear.set y.toNat (i64 (x2 + 1))) x.Bad)).set k.toNat (api_Memory.mk x.Slots x.Limit (x.Sectors.set y.toNat y3.2.2) (x.Wear.set y.toNat (i64 (x2 + 1))) x.Bad)).set k.toNat (api_Memory.mk x14.Slots x14.Limit (x14.Sectors.set y.toNat y5.2.2) x14.Wear x14.Bad)), (b.bank.spots.set k.toNat (ring_spot.mk y 0)), y5.1, y5.2.1)
  else
  some ((((b.bank.memories.set k.toNat (api_Memory.mk x.Slots x.Limit x.Sectors (x.Wear.set y.toNat (i64 (x2 + 1))) x.Bad)).set k.toNat (api_Memory.mk x.Slots x.Limit (x.Sectors.set y.toNat y3.2.2) (x.Wear.set y.toNat (i64 (x2 + 1))) x.Bad)).set k.toNat (api_Memory.mk x14.Slots x14.Limit (x14.Sectors.set y.toNat y5.2.2) x14.Wear x14.Bad)), b.bank.spots, y5.1, y5.2.1)) : Option (((List api_Memory) × (List ring_spot) × Int × Bool))).bind (t4 fun (memories : List api_Memory) (spots : List ring_spot) (power2 : Int) (all : Bool) =>
  some (power2, all, (ring_Recorder.mk (ring_bank.mk memories spots) b.copies b.frozen b.stopped b.last b.some_)))
theorem ZdE (b : ring_Recorder) (k : Int) (power : Int) : Le (JB b k power) (Xl b k power) := by
  unfold JB Xl
  with_reducible repeat' (first | exact Le.refl _ | apply Le.bind | apply Le.ite | apply Le.t4 | apply ZaA | apply Za0 | apply Zd6 | apply ZdQ | apply ZcR | intro _)

noncomputable def ZaJ (b : ring_Recorder) (k : Int) (data : List Int) (power : Int) : Option (Int × Bool × ring_Recorder) :=
  (((QV b.bank k).bind fun y =>
  if y = true then
  (JB b k power).bind fun y2 =>
  if (!y2.2.1) = true then
  some (.inl (y2.1, false, y2.2.2))
  else
  some (.inr (y2.2.2.bank.memories, y2.2.2.bank.spots, y2.2.2.copies, y2.2.2.frozen, y2.2.2.stopped, y2.2.2.last, y2.2.2.some_, y2.1))
  else
  some (.inr (b.bank.memories, b.bank.spots, b.copies, b.frozen, b.stopped, b.last, b.some_, power))) : Option ((Int × Bool × ring_Recorder) ⊕ ((List api_Memory) × (List ring_spot) × Int × Bool × Bool × Int × Bool × Int))).bind (Sum.elim (fun q' => some q') (t8 fun (memories : List api_Memory) (spots : List ring_spot) (copies : Int) (frozen : Bool) (stopped : Bool) (last : Int) (some_ : Bool) (power2 : Int) =>
  (idx spots k).bind fun x =>
  (idx memories k).bind fun x2 =>
  (idx x2.Sectors x.sector).bind fun x3 =>
  (idx memories k).bind fun x4 =>
  (idx x2.Sectors x.sector).bind fun x5 =>
  (apz 1 data ([0] : List Int)).bind fun l =>
  (JS x3 (i64 (16 + (i64 (x.slot * 97)))) l power2).bind fun y3 =>
  some (y3.1, y3.2.1, (ring_Recorder.mk (ring_bank.mk (memories.set k.toNat (api_Memory.mk x2.Slots x2.Limit (x2.Sectors.set x.sector.toNat y3.2.2) x2.Wear x2.Bad)) (spots.set k.toNat (ring_spot.mk x.sector (i64 (x.slot + 1))))) copies frozen stopped last some_))))
theorem ZeI (b : ring_Recorder) (k : Int) (data : List Int) (power : Int) : Le (ZaJ b k data power) (XW b k data power) := by
  unfold ZaJ XW
  with_reducible repeat' (first | exact Le.refl _ | apply Le.bind | apply Le.ite | apply Le.t8 | apply Le.elim | apply Jz | apply ZdE | apply ZcR | intro _)

noncomputable def Xe (y4 : (List Int)) (y6 : (List Int) × Int) (memories2 : List api_Memory) (spots2 : List ring_spot) (copies2 : Int) (frozen2 : Bool) (stopped2 : Bool) (last2 : Int) (some_2 : Bool) (power3 : Int) (i : Int) : Option (((List api_Memory) × (List ring_spot) × Int × Bool × Bool × Int × Bool × Int × Int) ⊕ (Int × Bool × Int × ring_Recorder) ⊕ ((List api_Memory) × (List ring_spot) × Int × Bool × Bool × Int × Bool × Int)) :=
  if (decide (i < (y4.length : Int))) = true then
  (idx y4 i).bind fun x =>
  (slc y6.1 0 (y6.1.length : Int)).bind fun l =>
  (ZaJ (ring_Recorder.mk (ring_bank.mk memories2 spots2) copies2 frozen2 stopped2 last2 some_2) x l power3).bind fun y7 =>
  if (!y7.2.1) = true then
  some (.inr (.inl (y7.1, false, 0, (ring_Recorder.mk y7.2.2.bank y7.2.2.copies y7.2.2.frozen true y7.2.2.last y7.2.2.some_))))
  else
  some (.inl (y7.2.2.bank.memories, y7.2.2.bank.spots, y7.2.2.copies, y7.2.2.frozen, y7.2.2.stopped, y7.2.2.last, y7.2.2.some_, y7.1, (i64 (i + 1))))
  else
  some (.inr (.inr (memories2, spots2, copies2, frozen2, stopped2, last2, some_2, power3)))
theorem Zck (y4 : (List Int)) (y6 : (List Int) × Int) (memories2 : List api_Memory) (spots2 : List ring_spot) (copies2 : Int) (frozen2 : Bool) (stopped2 : Bool) (last2 : Int) (some_2 : Bool) (power3 : Int) (i : Int) : Le (Xe y4 y6 memories2 spots2 copies2 frozen2 stopped2 last2 some_2 power3 i) (QM y4 y6 memories2 spots2 copies2 frozen2 stopped2 last2 some_2 power3 i) := by
  unfold Xe QM
  with_reducible repeat' (first | exact Le.refl _ | apply Le.bind | apply Le.ite | apply ZeI | intro _)

noncomputable def XJ (r_ : ring_Recorder) (f : Vector Int 64) (power : Int) : Option (Int × Bool × Int × ring_Recorder) :=
  (Jl r_ power).bind fun y =>
  if (!decide (y = 0)) = true then
  some (0, false, y, r_)
  else
  (Zbn f).bind fun y2 =>
  if (decide (0 < (y2.length : Int))) = true then
  some (0, false, 2, r_)
  else
  (ZaE f).bind fun y3 =>
  (Zca y3.1 (r_.bank.memories.length : Int) r_.copies).bind fun y4 =>
  (Zat r_.bank y4).bind fun y5 =>
  if (!decide (y5 = 0)) = true then
  some (0, false, y5, r_)
  else
  (ZbO f).bind fun y6 =>
  ((Z8 (t9 (Xe y4 y6)) (r_.bank.memories, r_.bank.spots, r_.copies, r_.frozen, r_.stopped, r_.last, r_.some_, power, 0)) : Option ((Int × Bool × Int × ring_Recorder) ⊕ ((List api_Memory) × (List ring_spot) × Int × Bool × Bool × Int × Bool × Int))).bind (Sum.elim (fun q' => some q') (t8 fun (memories : List api_Memory) (spots : List ring_spot) (copies : Int) (frozen : Bool) (stopped : Bool) (last : Int) (some_ : Bool) (power2 : Int) =>
  some (power2, true, 0, (ring_Recorder.mk (ring_bank.mk memories spots) copies frozen stopped y3.1 true))))
theorem ZcV (r_ : ring_Recorder) (f : Vector Int 64) (power : Int) : Le (XJ r_ f power) (QF r_ f power) := by
  unfold XJ QF
  with_reducible repeat' (first | exact Le.refl _ | apply Le.bind | apply Le.ite | apply Le.loop | apply Le.t8 | apply Le.t9 | apply Le.elim | apply Zdt | apply ZdS | apply Zdn | apply Zgb | apply Zel | apply Zfz | apply Zck | intro _)

noncomputable def Xr (r_ : ring_Recorder) : Option (List api_Memory) :=
  (ZaP r_.bank.memories).bind fun y =>
  some y
theorem Zcp (r_ : ring_Recorder) : Le (Xr r_) (Qs r_) := by
  unfold Xr Qs
  with_reducible repeat' (first | exact Le.refl _ | apply Le.bind | apply Zdf | intro _)

noncomputable def Zb8 (p : Vector Int 96) (i : Int) : Option Int :=
  (quo .i64 i 2).bind fun q =>
  (rem i 2).bind fun q2 =>
  if (decide (q2 = 0)) = true then
  (ZG p (i64 (q * 3))).bind fun x =>
  (shl .u16 (u16 x) 4).bind fun q3 =>
  (ZG p (i64 ((i64 (q * 3)) + 1))).bind fun x2 =>
  (shr .u16 (u16 x2) 4).bind fun q4 =>
  some (bor .u16 q3 q4)
  else
  (ZG p (i64 ((i64 (q * 3)) + 1))).bind fun x3 =>
  (shl .u16 (QL .u16 (u16 x3) 15) 8).bind fun q5 =>
  (ZG p (i64 ((i64 (q * 3)) + 2))).bind fun x4 =>
  some (bor .u16 q5 (u16 x4))
theorem Zf9 (p : Vector Int 96) (i : Int) : Le (Zb8 p i) (ZaN p i) := by
  unfold Zb8 ZaN
  with_reducible repeat' (first | exact Le.refl _ | apply Le.bind | apply Le.ite | intro _)

noncomputable def ZbE (p : Vector Int 96) (f2 : Vector Int 64) (i : Int) : Option (((Vector Int 64) × Int) ⊕ ((Vector Int 64))) :=
  if (decide (i < 64)) = true then
  (Zb8 p i).bind fun y =>
  (ZG f2 i).bind fun x =>
  some (.inl ((Xw f2 i y), (i64 (i + 1))))
  else
  some (.inr f2)
theorem ZfA (p : Vector Int 96) (f2 : Vector Int 64) (i : Int) : Le (ZbE p f2 i) (Zbp p f2 i) := by
  unfold ZbE Zbp
  with_reducible repeat' (first | exact Le.refl _ | apply Le.bind | apply Le.ite | apply Zf9 | intro _)

noncomputable def Zc5 (p : Vector Int 96) : Option (Vector Int 64) :=
  ((Z8 (t2 (ZbE p)) ((Vector.replicate 64 0), 0)) : Option (((Vector Int 64)))).bind (t1 fun (f : Vector Int 64) =>
  some f)
theorem Zg8 (p : Vector Int 96) : Le (Zc5 p) (Zcd p) := by
  unfold Zc5 Zcd
  with_reducible repeat' (first | exact Le.refl _ | apply Le.bind | apply Le.loop | apply Le.t1 | apply Le.t2 | apply ZfA | intro _)

noncomputable def Zay (b : List Int) : Option ((Vector Int 64) × Int) :=
  if (decide ((b.length : Int) < 96)) = true then
  some ((#v[0, 0, 0, 0, 0, 0, 0, 0, 0, 0, 0, 0, 0, 0, 0, 0, 0, 0, 0, 0, 0, 0, 0, 0, 0, 0, 0, 0, 0, 0, 0, 0, 0, 0, 0, 0, 0, 0, 0, 0, 0, 0, 0, 0, 0, 0, 0, 0, 0, 0, 0, 0, 0, 0, 0, 0, 0, 0, 0, 0, 0, 0, 0, 0] : Vector Int 64), 3)
  else
  (slc b 0 96).bind fun l =>
  (tov 96 l).bind fun v =>
  (Zc5 v).bind fun y =>
  some (y, 0)
theorem ZeF (b : List Int) : Le (Zay b) (XX b) := by
  unfold Zay XX
  with_reducible repeat' (first | exact Le.refl _ | apply Le.bind | apply Le.ite | apply Zg8 | intro _)

noncomputable def ZaZ (i : Int) (x : api_Memory) (x2 : Int) (y3 : Int × Bool × Bool) (out6 : List api_Kept) (i3 : Int) : Option (((List api_Kept) × Int) ⊕ ((List api_Kept))) :=
  if (decide (i3 < x.Slots)) = true then
  (idx x.Sectors x2).bind fun x4 =>
  (Zbl x4 i3).bind fun y4 =>
  (ZaG y4).bind fun y5 =>
  if (decide (y5 = 1)) = true then
  (slc y4.toList 0 (97 : Int)).bind fun l2 =>
  (Zay l2).bind fun y6 =>
  (apz 160 out6 ([(api_Kept.mk i x2 y3.1 i3 y6.1)] : List api_Kept)).bind fun l3 =>
  some (.inl (l3, (i64 (i3 + 1))))
  else
  some (.inl (out6, (i64 (i3 + 1))))
  else
  some (.inr out6)
theorem Zeq (i : Int) (x : api_Memory) (x2 : Int) (y3 : Int × Bool × Bool) (out6 : List api_Kept) (i3 : Int) : Le (ZaZ i x x2 y3 out6 i3) (JX i x x2 y3 out6 i3) := by
  unfold ZaZ JX
  with_reducible repeat' (first | exact Le.refl _ | apply Le.bind | apply Le.ite | apply ZdN | apply Zdo | apply ZeF | intro _)

noncomputable def ZaW (i : Int) (x : api_Memory) (y2 : (List Int)) (out4 : List api_Kept) (i2 : Int) : Option (((List api_Kept) × Int) ⊕ ((List api_Kept))) :=
  if (decide (i2 < (y2.length : Int))) = true then
  (((idx y2 i2).bind fun x2 =>
  (idx x.Sectors x2).bind fun x3 =>
  (Je x3).bind fun y3 =>
  Z8 (t2 (ZaZ i x x2 y3)) (out4, 0)) : Option (((List api_Kept)))).bind (t1 fun (out5 : List api_Kept) =>
  some (.inl (out5, (i64 (i2 + 1)))))
  else
  some (.inr out4)
theorem ZeJ (i : Int) (x : api_Memory) (y2 : (List Int)) (out4 : List api_Kept) (i2 : Int) : Le (ZaW i x y2 out4 i2) (JT i x y2 out4 i2) := by
  unfold ZaW JT
  with_reducible repeat' (first | exact Le.refl _ | apply Le.bind | apply Le.ite | apply Le.loop | apply Le.t1 | apply Le.t2 | apply ZaD | apply Zeq | intro _)

noncomputable def ZaV (l : List api_Memory) (out2 : List api_Kept) (i : Int) : Option (((List api_Kept) × Int) ⊕ ((List api_Kept))) :=
  if (decide (i < (l.length : Int))) = true then
  (((idx l i).bind fun x =>
  (ZaC x).bind fun y2 =>
  Z8 (t2 (ZaW i x y2)) (out2, 0)) : Option (((List api_Kept)))).bind (t1 fun (out3 : List api_Kept) =>
  some (.inl (out3, (i64 (i + 1)))))
  else
  some (.inr out2)
theorem ZeA (l : List api_Memory) (out2 : List api_Kept) (i : Int) : Le (ZaV l out2 i) (JV l out2 i) := by
  unfold ZaV JV
  with_reducible repeat' (first | exact Le.refl _ | apply Le.bind | apply Le.ite | apply Le.loop | apply Le.t1 | apply Le.t2 | apply Zdh | apply ZeJ | intro _)

noncomputable def Zci (l : List api_Memory) : Option ((List api_Kept) × Int) :=
  (JP l).bind fun y =>
  if (!decide (y = 0)) = true then
  some ([], y)
  else
  ((Z8 (t2 (ZaV l)) ([], 0)) : Option (((List api_Kept)))).bind (t1 fun (out : List api_Kept) =>
  some (out, 0))
theorem Zgc (l : List api_Memory) : Le (Zci l) (Zal l) := by
  unfold Zci Zal
  with_reducible repeat' (first | exact Le.refl _ | apply Le.bind | apply Le.ite | apply Le.loop | apply Le.t1 | apply Le.t2 | apply ZcQ | apply ZeA | intro _)

noncomputable def Za6 (y : (List api_Kept) × Int) (best2 : List (Int × api_Kept)) (numbers2 : List Int) (i : Int) : Option (((List (Int × api_Kept)) × (List Int) × Int) ⊕ ((List (Int × api_Kept)) × (List Int))) :=
  if (decide (i < (y.1.length : Int))) = true then
  (idx y.1 i).bind fun x =>
  (Zbn x.Frame).bind fun y2 =>
  if (decide (0 < (y2.length : Int))) = true then
  some (.inl (best2, numbers2, (i64 (i + 1))))
  else
  (ZaE x.Frame).bind fun y3 =>
  (some (Zff kqI best2 y3.1)).bind fun o =>
  ((if (!o.isSome) = true then
  (apz 8 numbers2 ([y3.1] : List Int)).bind fun l2 =>
  some l2
  else
  some numbers2) : Option (((List Int)))).bind (t1 fun (numbers3 : List Int) =>
  if ((!o.isSome) || (decide (((o.getD (api_Kept.mk 0 0 0 0 (Vector.replicate 64 0))).Sequence) < x.Sequence))) = true then
  some (.inl ((ZhM kqI best2 y3.1 x), numbers3, (i64 (i + 1))))
  else
  some (.inl (best2, numbers3, (i64 (i + 1)))))
  else
  some (.inr (best2, numbers2))
theorem Ze4 (y : (List api_Kept) × Int) (best2 : List (Int × api_Kept)) (numbers2 : List Int) (i : Int) : Le (Za6 y best2 numbers2 i) (ZaF y best2 numbers2 i) := by
  unfold Za6 ZaF
  with_reducible repeat' (first | exact Le.refl _ | apply Le.bind | apply Le.ite | apply Le.t1 | apply ZdS | apply Zdn | intro _)

noncomputable def Zbh (best : List (Int × api_Kept)) (y4 : List Int) (out2 : List (Vector Int 64)) (i2 : Int) : Option (((List (Vector Int 64)) × Int) ⊕ ((List (Vector Int 64)))) :=
  if (decide (i2 < (y4.length : Int))) = true then
  (idx y4 i2).bind fun x2 =>
  (some ((Zff kqI best x2).getD (api_Kept.mk 0 0 0 0 (Vector.replicate 64 0)))).bind fun o2 =>
  (apz 128 out2 ([o2.Frame] : List (Vector Int 64))).bind fun l3 =>
  some (.inl (l3, (i64 (i2 + 1))))
  else
  some (.inr out2)
theorem Zfh (best : List (Int × api_Kept)) (y4 : List Int) (out2 : List (Vector Int 64)) (i2 : Int) : Le (Zbh best y4 out2 i2) (ZaX best y4 out2 i2) := by
  unfold Zbh ZaX
  with_reducible repeat' (first | exact Le.refl _ | apply Le.bind | apply Le.ite | intro _)

noncomputable def ZcH (l : List api_Memory) : Option ((List (Vector Int 64)) × Int) :=
  (Zci l).bind fun y =>
  if (!decide (y.2 = 0)) = true then
  some ([], y.2)
  else
  ((Z8 (t3 (Za6 y)) (([] : List (Int × api_Kept)), [], 0)) : Option (((List (Int × api_Kept)) × (List Int)))).bind (t2 fun (best : List (Int × api_Kept)) (numbers : List Int) =>
  (Zku numbers).bind fun y4 =>
  ((Z8 (t2 (Zbh best y4)) ([], 0)) : Option (((List (Vector Int 64))))).bind (t1 fun (out : List (Vector Int 64)) =>
  some (out, 0)))
theorem ZgU (l : List api_Memory) : Le (ZcH l) (Zbz l) := by
  unfold ZcH Zbz
  with_reducible repeat' (first | exact Le.refl _ | apply Le.bind | apply Le.ite | apply Le.loop | apply Le.t1 | apply Le.t2 | apply Le.t3 | apply Zgc | apply Ze4 | apply Zfh | apply ZjU | intro _)

noncomputable def ZdH : Option Bool :=
  (mkz 8 58 0).bind fun l =>
  (ZeG 4 l).bind fun y =>
  (Za3 2 1 3).bind fun y2 =>
  if (!decide (y2.2 = 0)) = true then
  some false
  else
  (Zc1 ([y2.1] : List api_Memory) 1).bind (Sum.elim (fun y3 =>
  if (!decide (y3 = 0)) = true then
  some false
  else
  none) (fun y3 =>
  if (!decide (y3.2 = 0)) = true then
  some false
  else
  (XJ y3.1 y.1 109).bind fun y4 =>
  (Xr y4.2.2.2).bind fun y5 =>
  (ZcH y5).bind fun y6 =>
  (gd ((((((decide (y4.1 = 1)) && y4.2.1) && (decide (y4.2.2.1 = 0))) && (decide (y6.2 = 0))) && (decide ((y6.1.length : Int) = 1))) == true) (Vector.replicate 64 0) (idx y6.1 0)).bind fun x =>
  some ((((((decide (y4.1 = 1)) && y4.2.1) && (decide (y4.2.2.1 = 0))) && (decide (y6.2 = 0))) && (decide ((y6.1.length : Int) = 1))) && (decide (x = y.1)))))
theorem ZhF : Le (ZdH ) (Zb3 ) := by
  unfold ZdH Zb3
  with_reducible repeat' (first | exact Le.refl _ | apply Le.bind | apply Le.ite | apply Le.gd | apply Le.elim | apply Zij | apply Zfm | apply Zg9 | apply ZcV | apply Zcp | apply ZgU | intro _)
end Go.Vx

namespace Go.Vx
open Go Go.RowKit
theorem ZkX : ZdH = some true := by decide +kernel
theorem Zhu : Zb3 = some true := ZhF true ZkX
end Go.Vx

namespace Go.Vx
open Go Go.RowKit
theorem ZkG {α : Type} {s : Nat} {xs ys : List α} (h : xs.length + ys.length ≤ 140737488355328 / s) : apz s xs ys = some (xs ++ ys) := by unfold apz; rw [if_pos h]
end Go.Vx

namespace Go.Vx
open Go Go.RowKit
end Go.Vx

namespace Go.Vx
open Go Go.RowKit
def Ze9 (s : List Int) (a : Nat) : List Int → Int → Int × Bool × List Int
  | [], p => (p, true, s)
  | b :: tl, p => if p = 0 then (0, false, s.set a (QL .u8 (s.getD a 0) (bor .u8 b 15))) else Ze9 (s.set a (QL .u8 (s.getD a 0) b)) (a + 1) tl (p - 1)
theorem Zii : ∀ (d : List Int) (s : List Int) (a : Nat) (p : Int), (Ze9 s a d p).2.2.length = s.length
  | [], s, a, p => rfl
  | b :: tl, s, a, p => by
    unfold Ze9
    split
    · simp
    · rw [Zii tl]; simp
def Zk0 (r : Int × Bool × List Int) : (Int × Bool × List Int) ⊕ (List Int × Int) := if r.2.1 = true then .inr (r.2.2, r.1) else .inl r
theorem ZkB {α : Type} {s : List α} {k : Nat} (h : k < s.length) (d : α) : s[k]? = some (s.getD k d) := by
  rw [List.getD_eq_getElem?_getD, List.getElem?_eq_getElem h]; rfl
theorem ZkJ {s d : List Int} {a : Nat} {p : Int} (hs : s.length ≤ 140737488355328) (ha : a + d.length ≤ s.length) (hp : 0 ≤ p ∧ p ≤ 1000000000) : Ql s (a : Int) d p = some (Ze9 s a d p) := by
  have key : loop (t3 (Z2 (a : Int) d)) (s, p, 0) = some (Zk0 (Ze9 s a d p)) := by
    refine (ZiV (body := t3 (Z2 (a : Int) d)) (fun q => ∃ k : Nat, q.2.2 = k ∧ k ≤ d.length ∧ q.1.length = s.length ∧ 0 ≤ q.2.1 ∧ q.2.1 ≤ 1000000000) (fun q => d.length - q.2.2.toNat)
      (fun q => Zk0 (Ze9 q.1 (a + q.2.2.toNat) (d.drop q.2.2.toNat) q.2.1)) ?_ (s, p, 0) ⟨0, rfl, Nat.zero_le _, rfl, hp⟩).trans (by simp)
    rintro ⟨o, p, i⟩ ⟨k, hi, hk, hl, hp0, hp1⟩
    simp only at hi hl hp0 hp1
    subst hi
    simp only [ZhR, Int.toNat_natCast]
    unfold Z2
    rcases Nat.lt_or_ge k d.length with h | h
    · obtain ⟨b, hb⟩ := Ziz h
      rw [if_pos (by simpa using h), ZhA hb, Option.bind_some, ZfQ hb]
      have e1 : i64 ((a : Int) + (k : Int)) = ((a + k : Nat) : Int) := (Zem (by omega) (by omega)).trans (by push_cast; rfl)
      have hx : o[a + k]? = some (o.getD (a + k) 0) := ZkB (by omega) 0
      rw [e1]
      simp only [ZhA hx, Option.bind_some, Int.toNat_natCast]
      by_cases h0 : p = 0
      · right
        rw [if_pos (by simpa using h0)]
        subst h0
        rfl
      · left
        rw [if_neg (by simpa using h0)]
        rw [show i64 (p - 1) = p - 1 from Zem (by omega) (by omega), show i64 ((k : Int) + 1) = ((k + 1 : Nat) : Int) from (Zem (by omega) (by omega)).trans (by push_cast; rfl)]
        refine ⟨_, rfl, ⟨k + 1, rfl, h, by simp [hl], by simp only; omega, by simp only; omega⟩, by simp only [Int.toNat_natCast]; omega, ?_⟩
        simp only [Int.toNat_natCast]
        rw [Ze9, if_neg h0]; rfl
    · right
      rw [if_neg (by simpa using h), List.drop_of_length_le h]; rfl
  unfold Ql
  rw [key, Option.bind_some]
  unfold Zk0
  split
  · rename_i h
    simp only [Sum.elim_inr, ZdP]
    congr 1
    generalize Ze9 s a d p = q at h
    obtain ⟨x, y, z⟩ := q
    simp only at h
    subst h; rfl
  · simp only [Sum.elim_inl]
theorem Zk1 (w : Nat) (X : BitVec w) : BitVec.ofInt w (X.toNat : Int) = X := by
  apply BitVec.eq_of_toNat_eq; simp [BitVec.toNat_ofInt]
theorem Zks (X : BitVec 8) : IntKind.u8.wrap (X.toNat : Int) = (X.toNat : Int) := by
  have h := X.isLt
  have : ∀ n : Nat, n < 256 → IntKind.u8.wrap (n : Int) = (n : Int) := by
    intro n hn
    show ((n : Int) % 256) = n
    omega
  exact this _ h
theorem Zlq (a b : Int) : QL .u8 a b = ((BitVec.ofInt 8 a &&& BitVec.ofInt 8 b).toNat : Int) := Zks _
theorem Zjw (a b : Int) : Zf4 .u8 a b = ((BitVec.ofInt 8 a &&& ~~~ BitVec.ofInt 8 b).toNat : Int) := Zks _
theorem Ziw (a : Int) : Zf4 .u8 a a = 0 := by
  rw [Zjw]; simp
theorem ZiC {x y b : Int} (h : Zf4 .u8 x y = 0) : Zf4 .u8 (QL .u8 x b) y = 0 := by
  rw [Zjw] at h ⊢
  rw [Zlq, Zk1]
  have h' : (BitVec.ofInt 8 x &&& ~~~ BitVec.ofInt 8 y) = 0#8 := by
    apply BitVec.eq_of_toNat_eq; simpa using h
  have : (BitVec.ofInt 8 x &&& BitVec.ofInt 8 b) &&& ~~~ BitVec.ofInt 8 y = (BitVec.ofInt 8 x &&& ~~~ BitVec.ofInt 8 y) &&& BitVec.ofInt 8 b := by
    rw [BitVec.and_assoc, BitVec.and_comm (BitVec.ofInt 8 b), ← BitVec.and_assoc]
  rw [this, h']; simp
def SubB (t s : List Int) : Prop := ∀ (k : Nat) x y, t[k]? = some x → s[k]? = some y → Zf4 .u8 x y = 0
theorem SubB.refl (s : List Int) : SubB s s := fun k x y hx hy => by rw [hx] at hy; cases hy; exact Ziw x
theorem SubB.set {t s : List Int} (h : SubB t s) (a : Nat) (b : Int) : SubB (t.set a (QL .u8 (t.getD a 0) b)) s := by
  intro k x y hx hy
  rw [List.getElem?_set] at hx
  split at hx
  · rename_i e
    subst e
    split at hx
    · rename_i hl
      cases hx
      exact ZiC (h a _ y (ZkB hl 0) hy)
    · cases hx
  · exact h k x y hx hy
theorem ZhK {s0 : List Int} : ∀ (d : List Int) (s : List Int) (a : Nat) (p : Int), SubB s s0 → SubB (Ze9 s a d p).2.2 s0
  | [], s, a, p, h => h
  | b :: tl, s, a, p, h => by
    unfold Ze9
    split
    · exact h.set a _
    · exact ZhK tl _ (a + 1) (p - 1) (h.set a _)
def ZbP : List Int → List Int → Nat
  | x :: xs, y :: ys => (if x = y then 0 else 1) + ZbP xs ys
  | _, _ => 0
theorem Zep : ∀ s : List Int, ZbP s s = 0
  | [] => rfl
  | x :: xs => by simp [ZbP, Zep xs]
theorem ZfO : ∀ (t s : List Int) (a : Nat) (v : Int), ZbP (t.set a v) s ≤ ZbP t s + 1
  | [], s, a, v => by simp
  | x :: xs, [], a, v => by cases a <;> simp [ZbP]
  | x :: xs, y :: ys, 0, v => by
    simp only [List.set_cons_zero, ZbP]
    split <;> split <;> omega
  | x :: xs, y :: ys, a + 1, v => by
    have := ZfO xs ys a v
    simp only [List.set_cons_succ, ZbP]
    omega
theorem Zhj {s0 : List Int} : ∀ (d : List Int) (s : List Int) (a : Nat) (p : Int), 0 ≤ p → (ZbP (Ze9 s a d p).2.2 s0 : Int) ≤ ZbP s s0 + p + 1
  | [], s, a, p, h => by show (ZbP s s0 : Int) ≤ _; omega
  | b :: tl, s, a, p, h => by
    unfold Ze9
    split
    · have := ZfO s s0 a (QL .u8 (s.getD a 0) (bor .u8 b 15))
      simp only; omega
    · have h1 := ZfO s s0 a (QL .u8 (s.getD a 0) b)
      have h2 := Zhj (s0 := s0) tl (s.set a (QL .u8 (s.getD a 0) b)) (a + 1) (p - 1) (by omega)
      omega
theorem Zhf {s t : List Int} {y : Int × Bool × Int × List Int} (hy : y.2.2.2 = t) (hs : s.length ≤ 140737488355328) (hl : t.length = s.length) (h : SubB t s) :
    loop (t2 (ZL s y)) (0, 0) = some (.inr (ZbP t s : Int)) := by
  refine (Zjo (xs := s) (body := ZL s y) (fun n k => 0 ≤ n ∧ n ≤ (k : Int)) (fun n k => (.inr (n + (ZbP (t.drop k) (s.drop k) : Int)) : Bool ⊕ Int)) (fun n k x hI hx => ?_) (fun n hI => ?_) (a0 := (0 : Int)) ⟨Int.le_refl _, Int.le_refl _⟩).trans (by simp)
  · left
    have hk := (List.getElem?_eq_some_iff.1 hx).1
    obtain ⟨z, hz⟩ := Ziz (xs := t) (k := k) (by omega)
    unfold ZL
    have e1 : i64 ((k : Int) + 1) = (k : Int) + 1 := Zem (by omega) (by omega)
    have e2 : i64 (n + 1) = n + 1 := Zem (by omega) (by omega)
    rw [if_pos (by simpa using hk), hy]
    simp only [ZhA hx, ZhA hz, Option.bind_some, h k z x hz hx, decide_true, Bool.not_true, Bool.false_eq_true, if_false, e1, e2]
    rw [ZfQ hx, ZfQ hz]
    simp only [ZbP]
    by_cases e : z = x
    · rw [if_neg (by simp [e])]
      refine ⟨_, rfl, by omega, ?_⟩
      rw [if_pos e]; simp
    · rw [if_pos (by simp [e])]
      refine ⟨_, rfl, by omega, ?_⟩
      rw [if_neg e]; congr 1; push_cast; omega
  · unfold ZL
    rw [if_neg (by simp)]
    rw [List.drop_of_length_le (Nat.le_refl _)]
    cases t.drop s.length <;> simp [ZbP]
theorem Zje (s : List Int) (at_ : Int) (data : List Int) (power : Int) (hd : wfL (wfI .u8) data) (z0 : s.length ≤ 140737488355328) : Q7 s at_ data power = some true := by
  have hd := hd.1
  unfold Q7
  rw [show Zcb 1 s = some s from (ZkG (by simp; omega)).trans (by simp), Option.bind_some]
  have same : ∀ (p : Int) (e : Int), e ≠ 0 → (loop (t2 (ZL s (0, false, e, s))) (0, 0)) = some (.inr 0) := fun p e he => by
    rw [Zhf (t := s) rfl z0 rfl (SubB.refl s), Zep]; rfl
  unfold X2 ZS
  by_cases ha : at_ < 0
  · simp only [ha, decide_true, Bool.true_or, if_true, gd, Bool.true_eq_false, beq_iff_eq, if_false, Option.bind_some]
    rw [same power 9 (by decide)]
    simp [Zhu]
  · by_cases hp : 0 ≤ power ∧ power ≤ 1000000000
    · obtain ⟨a, rfl⟩ := Int.eq_ofNat_of_zero_le (show 0 ≤ at_ by omega)
      simp only [ha, decide_false, Bool.false_or, gd, beq_self_eq_true, if_true, hp.1, hp.2, decide_true, Bool.and_self, Bool.not_true, Bool.false_eq_true, if_false, Option.bind_some]
      rw [show i64 ((s.length : Int) - (data.length : Int)) = (s.length : Int) - data.length from Zem (by omega) (by omega)]
      by_cases hl : (s.length : Int) - data.length < (a : Int)
      · rw [if_pos (by simpa using hl), Option.bind_some, same power 3 (by decide)]
        simp [Zhu]
      · rw [if_neg (by simpa using hl), ZkJ z0 (by omega) hp]
        simp only [Option.bind_some]
        rw [Zhf (t := (Ze9 s a data power).2.2) rfl z0 (Zii ..) (ZhK _ _ _ _ (SubB.refl s))]
        have hdf := Zhj (s0 := s) data s a power hp.1
        rw [Zep] at hdf
        rw [show i64 (power + 1) = power + 1 from Zem (by omega) (by omega)]
        have : (ZbP (Ze9 s a data power).2.2 s : Int) ≤ power + 1 := by simp at hdf; omega
        simp [this, Zhu]
    · have hf : (decide (0 ≤ power) && decide (power ≤ 1000000000)) = false := by simpa using hp
      simp only [ha, decide_false, Bool.false_or, gd, beq_self_eq_true, if_true, hf, Bool.not_false, Option.bind_some]
      rw [same power 9 (by decide)]
      simp [Zhu]
end Go.Vx
