/- A text of the proof: a verified executor of the program form, or the contracts of the functions that the law reaches. -/
import Derived.Test.YtnlmjeleocelgaaGreatDoorShT
import Derived.Test.YtnlmjeleocelgaaGreatDoorShLib
set_option linter.all false
namespace Go.Vx
open Go Go.RowKit
theorem lnb {α β : Type} {x : Option α} {f : α → Option β} {r : β} (h : x.bind f = some r) : ∃ a, x = some a ∧ f a = some r := Option.bind_eq_some_iff.1 h
theorem JE {s : List Int} {at_ : Int} {data : List Int} {power : Int} {r : Int × Bool × List Int} (h : Xa s at_ data power = some r) : r.2.2.length = s.length := by
  unfold Xa at h
  obtain ⟨q, hq, h⟩ := lnb h
  have hQ : Sum.elim (fun q : Int × Bool × List Int => q.2.2.length = s.length) (fun q : List Int × Int => q.1.length = s.length) q := by
    refine Zbt (body := t3 (QL at_ data)) (fun x => x.1.length = s.length) (fun q => Sum.elim (fun q : Int × Bool × List Int => q.2.2.length = s.length) (fun q : List Int × Int => q.1.length = s.length) q) ?_ ?_ rfl hq
    · rintro ⟨o, p, i⟩ s' hs hb
      simp only [Zje] at hb hs
      unfold QL at hb
      split at hb
      · obtain ⟨x, _, hb⟩ := lnb hb
        split at hb
        · obtain ⟨_, _, hb⟩ := lnb hb
          obtain ⟨_, _, hb⟩ := lnb hb
          cases hb
        · obtain ⟨_, _, hb⟩ := lnb hb
          obtain ⟨_, _, hb⟩ := lnb hb
          cases hb
          simpa using hs
      · cases hb
    · rintro ⟨o, p, i⟩ s' hs hb
      simp only [Zje] at hb hs
      unfold QL at hb
      split at hb
      · obtain ⟨x, _, hb⟩ := lnb hb
        split at hb
        · obtain ⟨_, _, hb⟩ := lnb hb
          obtain ⟨_, _, hb⟩ := lnb hb
          cases hb
          simpa using hs
        · obtain ⟨_, _, hb⟩ := lnb hb
          obtain ⟨_, _, hb⟩ := lnb hb
          cases hb
      · cases hb; exact hs
  cases q with
  | inl q => cases h; exact hQ
  | inr q => cases h; exact hQ
theorem ZeL {s : List Int} {power : Int} {r : Int × Bool × List Int} (h : QM s power = some r) : r.2.2.length = s.length := by
  unfold QM at h
  split at h
  · obtain ⟨q, _, h⟩ := lnb h
    obtain ⟨_, _, h⟩ := lnb h
    obtain ⟨o, ho, h⟩ := lnb h
    cases h
    refine Zbt (body := t2 (Qr q)) (fun x => x.1.length = s.length) (fun o => o.length = s.length) ?_ ?_ rfl ho
    · rintro ⟨o, i⟩ s' hs hb
      simp only [ZdK] at hb hs
      unfold Qr at hb
      split at hb
      · obtain ⟨_, _, hb⟩ := lnb hb
        obtain ⟨_, _, hb⟩ := lnb hb
        cases hb
        simpa using hs
      · cases hb
    · rintro ⟨o, i⟩ s' hs hb
      simp only [ZdK] at hb hs
      unfold Qr at hb
      split at hb
      · obtain ⟨_, _, hb⟩ := lnb hb
        obtain ⟨_, _, hb⟩ := lnb hb
        cases hb
      · cases hb; exact hs
  · obtain ⟨o, ho, h⟩ := lnb h
    cases h
    refine Zbt (body := t2 (Qn s)) (fun x => x.1.length = s.length) (fun o => o.length = s.length) ?_ ?_ rfl ho
    · rintro ⟨o, i⟩ s' hs hb
      simp only [ZdK] at hb hs
      unfold Qn at hb
      split at hb
      · obtain ⟨_, _, hb⟩ := lnb hb
        cases hb
        simpa using hs
      · cases hb
    · rintro ⟨o, i⟩ s' hs hb
      simp only [ZdK] at hb hs
      unfold Qn at hb
      split at hb
      · obtain ⟨_, _, hb⟩ := lnb hb
        cases hb
      · cases hb; exact hs
theorem Z9 {data : List Int} {a b : Int} {cmp : Int → Int → Option Int} {r : List Int} (h : ZG data a b cmp = some r) : r.length = data.length := by
  unfold ZG at h
  refine Zbt (body := t2 (ZI a b cmp)) (fun x => x.1.length = data.length) (fun o => o.length = data.length) ?_ ?_ rfl h
  · rintro ⟨o, i⟩ s' hs hb
    simp only [ZdK] at hb hs
    unfold ZI at hb
    split at hb
    · obtain ⟨o2, h2, hb⟩ := lnb hb
      cases hb
      refine Zbt (body := t2 (ZH a cmp)) (fun x => x.1.length = data.length) (fun o => o.length = data.length) ?_ ?_ hs h2
      · rintro ⟨o, j⟩ s' hs hb
        simp only [ZdK] at hb hs
        unfold ZH at hb
        obtain ⟨_, _, hb⟩ := lnb hb
        obtain ⟨_, _, hb⟩ := lnb hb
        obtain ⟨_, _, hb⟩ := lnb hb
        split at hb
        · obtain ⟨_, _, hb⟩ := lnb hb
          obtain ⟨_, _, hb⟩ := lnb hb
          obtain ⟨_, _, hb⟩ := lnb hb
          obtain ⟨_, _, hb⟩ := lnb hb
          cases hb
          simpa using hs
        · cases hb
      · rintro ⟨o, j⟩ s' hs hb
        simp only [ZdK] at hb hs
        unfold ZH at hb
        obtain ⟨_, _, hb⟩ := lnb hb
        obtain ⟨_, _, hb⟩ := lnb hb
        obtain ⟨_, _, hb⟩ := lnb hb
        split at hb
        · obtain ⟨_, _, hb⟩ := lnb hb
          obtain ⟨_, _, hb⟩ := lnb hb
          obtain ⟨_, _, hb⟩ := lnb hb
          obtain ⟨_, _, hb⟩ := lnb hb
          cases hb
        · cases hb; exact hs
    · cases hb
  · rintro ⟨o, i⟩ s' hs hb
    simp only [ZdK] at hb hs
    unfold ZI at hb
    split at hb
    · obtain ⟨o2, h2, hb⟩ := lnb hb
      cases hb
    · cases hb; exact hs
theorem Za5 {x : List Int} {cmp : Int → Int → Option Int} {r : List Int} (h : ZO x cmp = some r) : r.length = x.length := by
  unfold ZO at h
  obtain ⟨y, hy, h⟩ := lnb h
  cases h
  unfold Qe at hy
  obtain ⟨⟨o, a⟩, ho, hy⟩ := lnb hy
  simp only [ZdK] at hy
  obtain ⟨y2, hy2, hy⟩ := lnb hy
  have h1 : o.length = x.length := by
    refine Zbt (body := t3 (ZU (x.length : Int) cmp)) (fun s => s.1.length = x.length) (fun q => q.1.length = x.length) ?_ ?_ rfl ho
    · rintro ⟨o, a, b⟩ s' hs hb
      simp only [Zje] at hb hs
      unfold ZU at hb
      split at hb
      · obtain ⟨z, hz, hb⟩ := lnb hb
        cases hb
        exact (Z9 hz).trans hs
      · cases hb
    · rintro ⟨o, a, b⟩ s' hs hb
      simp only [Zje] at hb hs
      unfold ZU at hb
      split at hb
      · obtain ⟨z, hz, hb⟩ := lnb hb
        cases hb
      · cases hb; exact hs
  have h2 : y2.length = x.length := (Z9 hy2).trans h1
  refine Zbt (body := t1 (Z0 (x.length : Int) y2)) (fun _ => True) (fun q => q.length = x.length) (fun _ _ _ _ => trivial) ?_ trivial hy
  intro b s' _ hb
  simp only [Zke] at hb
  unfold Z0 at hb
  split at hb
  · obtain ⟨_, _, hb⟩ := lnb hb
    simp only [t0] at hb
    split at hb
    · cases hb
    · cases hb
  · cases hb; exact h2
end Go.Vx

namespace Go.Vx
open Go Go.RowKit
theorem Zc2 {z : Int} (h1 : -9223372036854775808 ≤ z) (h2 : z ≤ 9223372036854775807) : IntKind.i64.wrap z = z := w64 h1 h2
theorem Zle {z : Int} (h1 : 0 ≤ z) (h2 : z < 18446744073709551616) : IntKind.u64.wrap z = z := ZlT h1 h2
@[simp] theorem Zl8 {α : Type} {d : α} {o : Option α} : gd true d o = o := rfl
@[simp] theorem Zl7 {α : Type} {d : α} {o : Option α} : gd false d o = some d := rfl
@[simp] theorem ZlZ {α : Type} {d : α} {o : Option α} : gd (true == true) d o = o := rfl
theorem Zf7 {α : Type} {xs : List α} {k : Nat} {x : α} (h : xs[k]? = some x) : idx xs (k : Int) = some x := by simp [idx, h]
theorem Zi7 {α : Type} {xs : List α} {k : Nat} {x : α} (h : xs[k]? = some x) : (k : Int) < (xs.length : Int) := by
  have := (List.getElem?_eq_some_iff.1 h).1; omega
theorem ZhV {α : Type} {xs : List α} {k : Nat} (h : k < xs.length) : ∃ x, xs[k]? = some x := ⟨xs[k], List.getElem?_eq_getElem h⟩
theorem Zep {α : Type} {xs : List α} {k : Nat} {x : α} (h : xs[k]? = some x) : xs.drop k = x :: xs.drop (k + 1) := by
  obtain ⟨hk, rfl⟩ := List.getElem?_eq_some_iff.1 h
  exact List.drop_eq_getElem_cons hk
theorem Zlh {α : Type} {xs ys : List α} (h : xs.length + ys.length ≤ 4294967296) : app xs ys = some (xs ++ ys) := by unfold app apz; rw [if_pos (by omega)]

section loops
variable {σ ρ : Type}
theorem ZgH {body : σ → Option (σ ⊕ ρ)} (I : σ → Prop) (μ : σ → Nat) (F : σ → ρ) (step : ∀ s, I s → (∃ s', body s = some (.inl s') ∧ I s' ∧ μ s' < μ s ∧ F s = F s') ∨ body s = some (.inr (F s))) :
    ∀ s, I s → loop body s = some (F s) := by
  intro s hs
  obtain ⟨r, h1, h2⟩ := Zkh (body := body) (fun s' => I s' ∧ F s = F s') μ (fun r => r = F s) (fun s' ⟨h1, h2⟩ => by
    rcases step s' h1 with ⟨s2, e1, e2, e3, e4⟩ | e
    · exact .inl ⟨s2, e1, ⟨e2, h2.trans e4⟩, e3⟩
    · exact .inr ⟨_, e, h2.symm⟩) s ⟨hs, rfl⟩
  rw [h1, h2]
variable {α : Type} {xs : List α}
theorem ZjE {body : Int → Option (Int ⊕ ρ)} (F : Nat → ρ)
    (hstep : ∀ (k : Nat) x, xs[k]? = some x → (body k = some (.inl ((k : Int) + 1)) ∧ F k = F (k + 1)) ∨ body k = some (.inr (F k)))
    (hend : body xs.length = some (.inr (F xs.length))) : loop (t1 body) 0 = some (F 0) := by
  refine ZgH (body := t1 body) (fun i => ∃ k : Nat, i = k ∧ k ≤ xs.length) (fun i => xs.length - i.toNat) (fun i => F i.toNat) ?_ 0 ⟨0, rfl, Nat.zero_le _⟩
  rintro i ⟨k, rfl, hk⟩
  simp only [Int.toNat_natCast, Zke]
  rcases Nat.lt_or_ge k xs.length with h | h
  · obtain ⟨x, hx⟩ := ZhV h
    rcases hstep k x hx with ⟨h1, h2⟩ | h1
    · exact .inl ⟨_, h1, ⟨k + 1, by push_cast; rfl, h⟩, by omega, by rw [h2]; rfl⟩
    · exact .inr h1
  · have : k = xs.length := by omega
    subst this
    exact .inr hend
end loops
end Go.Vx

namespace Go.Vx
open Go Go.RowKit
section err
variable {α ε : Type}
def ZkV {ρ : Type} (A : ε → ρ) (Z : ρ) : Option ε → ρ
  | some e => A e
  | none => Z
@[simp] theorem Zk5 {ρ : Type} (A : ε → ρ) (Z : ρ) (e : ε) : ZkV A Z (some e) = A e := rfl
@[simp] theorem Zla {ρ : Type} (A : ε → ρ) (Z : ρ) : ZkV A Z none = Z := rfl
end err
theorem ZjJ {α β : Type} {xs : List α} {body : List β → Int → Option ((List β × Int) ⊕ (List β))} (g : α → β)
    (hstep : ∀ (k : Nat) x acc, xs[k]? = some x → acc.length = k → body acc k = some (.inl (acc ++ [g x], (k : Int) + 1)))
    (hend : ∀ acc, body acc xs.length = some (.inr acc)) : loop (t2 body) ([], 0) = some (xs.map g) := by
  refine (ZgH (body := t2 body) (fun p => ∃ k : Nat, p.2 = k ∧ k ≤ xs.length ∧ p.1.length = k) (fun p => xs.length - p.2.toNat) (fun p => p.1 ++ (xs.drop p.2.toNat).map g) ?_ ([], 0) ⟨0, rfl, Nat.zero_le _, rfl⟩).trans (by simp)
  rintro ⟨acc, i⟩ ⟨k, hi, hk, ha⟩
  simp only at hi ha
  subst hi
  simp only [ZdK, Int.toNat_natCast]
  rcases Nat.lt_or_ge k xs.length with h | h
  · obtain ⟨x, hx⟩ := ZhV h
    left
    refine ⟨_, hstep k x acc hx ha, ⟨k + 1, by push_cast; rfl, h, by simp [ha]⟩, by simp only; omega, ?_⟩
    rw [Zep hx]
    simp
  · have : k = xs.length := by omega
    subst this
    right
    rw [hend]; simp
theorem Zkj {α : Type} {xs : List α} {body : List α → Int → Option ((List α × Int) ⊕ (List α))} (g : α → α)
    (hstep : ∀ (k : Nat) x acc, xs[k]? = some x → acc.length = xs.length → acc[k]? = some x → ∃ acc', body acc k = some (.inl (acc', (k : Int) + 1)) ∧ acc' = acc.set k (g x))
    (hend : ∀ acc, body acc xs.length = some (.inr acc)) : loop (t2 body) (xs, 0) = some (xs.map g) := by
  refine (ZgH (body := t2 body) (fun p => ∃ k : Nat, p.2 = k ∧ k ≤ xs.length ∧ p.1 = (xs.take k).map g ++ xs.drop k) (fun p => xs.length - p.2.toNat) (fun _ => xs.map g) ?_ (xs, 0) ⟨0, rfl, Nat.zero_le _, by simp⟩)
  rintro ⟨acc, i⟩ ⟨k, hi, hk, ha⟩
  simp only at hi ha
  subst hi
  simp only [ZdK]
  rcases Nat.lt_or_ge k xs.length with h | h
  · obtain ⟨x, hx⟩ := ZhV h
    left
    have hlen : acc.length = xs.length := by rw [ha]; simp; omega
    have hm : (xs.take k).length = k := by simp; omega
    have hax : acc[k]? = some x := by
      rw [ha, List.getElem?_append_right (by simp; omega)]
      simp [hm, hx, show min k xs.length = k by omega]
    obtain ⟨acc', h1, h2⟩ := hstep k x acc hx hlen hax
    refine ⟨_, h1, ⟨k + 1, by push_cast; rfl, h, ?_⟩, by simp only; omega, trivial⟩
    simp only
    rw [h2, ha, Zep hx]
    have e1 : xs.take (k + 1) = xs.take k ++ [x] := by
      rw [List.take_succ, hx]; rfl
    rw [e1, List.map_append, List.set_append, if_neg (by simp; omega)]
    have : k - ((xs.take k).map g).length = 0 := by simp; omega
    rw [this]
    simp
  · have : k = xs.length := by omega
    subst this
    right
    rw [hend, ha]; simp
end Go.Vx

namespace Go.Vx
open Go Go.RowKit
def Qk {σ ρ : Type} (b : σ → Option (σ ⊕ ρ)) (s : σ) : Option ρ :=
  Nat.rec (motive := fun _ => σ → Option ρ) (fun _ => none) (fun _ ih s => match b s with | none => none | some (.inl s') => ih s' | some (.inr r) => some r) 1000000 s
def Le {α : Type} (a b : Option α) : Prop := ∀ r, a = some r → b = some r
theorem Le.refl {α : Type} (a : Option α) : Le a a := fun _ h => h
section
variable {α β γ δ ε ζ η θ ι κ σ ρ : Type}
theorem Le.bind {a b : Option α} {f g : α → Option β} (h : Le a b) (hf : ∀ x, Le (f x) (g x)) : Le (a.bind f) (b.bind g) := by
  intro r hr
  cases ha : a with
  | none => rw [ha] at hr; cases hr
  | some x => rw [ha] at hr; rw [h x ha]; exact hf x r hr
theorem Le.ite {c : Prop} [Decidable c] {a b a' b' : Option α} (h1 : Le a a') (h2 : Le b b') : Le (if c then a else b) (if c then a' else b') := by
  split
  · exact h1
  · exact h2
theorem Le.gd {g : Bool} {d : α} {a b : Option α} (h : Le a b) : Le (gd g d a) (gd g d b) := by
  cases g
  · exact fun r hr => hr
  · exact h
theorem Le.loop {b b' : σ → Option (σ ⊕ ρ)} {s : σ} (h : ∀ s, Le (b s) (b' s)) : Le (Qk b s) (loop b' s) := by
  have key : ∀ n s r, Nat.rec (motive := fun _ => σ → Option ρ) (fun _ => none) (fun _ ih s => match b s with | none => none | some (.inl s') => ih s' | some (.inr r) => some r) n s = some r → JU b' n s = some r := by
    intro n
    induction n with
    | zero => intro s r hr; cases hr
    | succ n ih =>
      intro s r hr
      simp only at hr
      cases hb : b s with
      | none => rw [hb] at hr; cases hr
      | some o =>
        rw [hb] at hr
        simp only [JU, h s o hb, Option.bind_some]
        cases o with
        | inl s' => exact ih s' r hr
        | inr r' => exact hr
  intro r hr
  exact Zfy (key 1000000 s r hr)
theorem Le.t0 {f g : Option κ} {p : Unit} (h : Le f g) : Le (t0 f p) (t0 g p) := h
theorem Le.t1 {f g : α → Option κ} {p : α} (h : ∀ a, Le (f a) (g a)) : Le (t1 f p) (t1 g p) := h _
theorem Le.t2 {f g : α → β → Option κ} {p : α × β} (h : ∀ a b, Le (f a b) (g a b)) : Le (t2 f p) (t2 g p) := h _ _
theorem Le.t3 {f g : α → β → γ → Option κ} {p : α × β × γ} (h : ∀ a b c, Le (f a b c) (g a b c)) : Le (t3 f p) (t3 g p) := h _ _ _
theorem Le.t4 {f g : α → β → γ → δ → Option κ} {p : α × β × γ × δ} (h : ∀ a b c d, Le (f a b c d) (g a b c d)) : Le (t4 f p) (t4 g p) := h _ _ _ _
theorem Le.t5 {f g : α → β → γ → δ → ε → Option κ} {p : α × β × γ × δ × ε} (h : ∀ a b c d e, Le (f a b c d e) (g a b c d e)) : Le (t5 f p) (t5 g p) := h _ _ _ _ _
theorem Le.t6 {f g : α → β → γ → δ → ε → ζ → Option κ} {p : α × β × γ × δ × ε × ζ} (h : ∀ a b c d e x, Le (f a b c d e x) (g a b c d e x)) : Le (t6 f p) (t6 g p) := h _ _ _ _ _ _
theorem Le.t7 {f g : α → β → γ → δ → ε → ζ → η → Option κ} {p : α × β × γ × δ × ε × ζ × η} (h : ∀ a b c d e x y, Le (f a b c d e x y) (g a b c d e x y)) : Le (t7 f p) (t7 g p) := h _ _ _ _ _ _ _
theorem Le.t8 {f g : α → β → γ → δ → ε → ζ → η → θ → Option κ} {p : α × β × γ × δ × ε × ζ × η × θ} (h : ∀ a b c d e x y z, Le (f a b c d e x y z) (g a b c d e x y z)) : Le (t8 f p) (t8 g p) := h _ _ _ _ _ _ _ _
theorem Le.t9 {ι : Type} {f g : α → β → γ → δ → ε → ζ → η → θ → ι → Option κ} {p : α × β × γ × δ × ε × ζ × η × θ × ι} (h : ∀ a b c d e x y z w, Le (f a b c d e x y z w) (g a b c d e x y z w)) : Le (t9 f p) (t9 g p) := h _ _ _ _ _ _ _ _ _
theorem Le.elim {f f' : α → Option κ} {g g' : β → Option κ} {s : α ⊕ β} (h1 : ∀ a, Le (f a) (f' a)) (h2 : ∀ b, Le (g b) (g' b)) : Le (Sum.elim f g s) (Sum.elim f' g' s) := by
  cases s with
  | inl a => exact h1 a
  | inr b => exact h2 b
end
end Go.Vx

namespace Go.Vx
open Go Go.RowKit
def ZkO : List Int → Option (List Int)
  | [x] => some [x]
  | _ => none
theorem ZjL (xs : List Int) : Le (ZkO xs) (Zgj xs) := by
  intro r h
  match xs, h with
  | [x], h => cases h; unfold Zgj; rw [if_pos (by simp), List.mergeSort_singleton]
end Go.Vx

namespace Go.Vx
open Go Go.RowKit
set_option linter.unusedVariables false

noncomputable def Zc0 (data : List Int) (f2 : Vector Int 64) (i : Int) : Option (((Vector Int 64) × Int) ⊕ ((Vector Int 64) × Int) ⊕ ((Vector Int 64))) :=
  if (decide (i < (data.length : Int))) = true then
  (idx data i).bind fun x3 =>
  if ((decide (x3 < 0)) || (decide (2047 < x3))) = true then
  some (.inr (.inl ((#v[0, 0, 0, 0, 0, 0, 0, 0, 0, 0, 0, 0, 0, 0, 0, 0, 0, 0, 0, 0, 0, 0, 0, 0, 0, 0, 0, 0, 0, 0, 0, 0, 0, 0, 0, 0, 0, 0, 0, 0, 0, 0, 0, 0, 0, 0, 0, 0, 0, 0, 0, 0, 0, 0, 0, 0, 0, 0, 0, 0, 0, 0, 0, 0] : Vector Int 64), 9)))
  else
  (ZT f2 (i64 (3 + i))).bind fun x4 =>
  some (.inl ((XM f2 (i64 (3 + i)) (u16 x3)), (i64 (i + 1))))
  else
  some (.inr (.inr f2))
theorem ZgZ (data : List Int) (f2 : Vector Int 64) (i : Int) : Le (Zc0 data f2 i) (ZcX data f2 i) := by
  unfold Zc0 ZcX
  with_reducible repeat' (first | exact Le.refl _ | apply Le.bind | apply Le.ite | intro _)

noncomputable def ZcZ (n2 : Int) (ones2 : Int) : Option ((Int × Int) ⊕ (Int)) :=
  if (decide (0 < n2)) = true then
  (rem n2 2).bind fun q =>
  (quo .i64 n2 2).bind fun q2 =>
  some (.inl (q2, (i64 (ones2 + q))))
  else
  some (.inr ones2)
theorem ZgS (n2 : Int) (ones2 : Int) : Le (ZcZ n2 ones2) (ZcV n2 ones2) := by
  unfold ZcZ ZcV
  with_reducible repeat' (first | exact Le.refl _ | apply Le.bind | apply Le.ite | intro _)

noncomputable def ZeU (n : Int) : Option Bool :=
  ((Qk (t2 (ZcZ)) (n, 0)) : Option ((Int))).bind (t1 fun (ones : Int) =>
  (rem ones 2).bind fun q3 =>
  some (decide (q3 = 1)))
theorem Zie (n : Int) : Le (ZeU n) (Zd3 n) := by
  unfold ZeU Zd3
  with_reducible repeat' (first | exact Le.refl _ | apply Le.bind | apply Le.loop | apply Le.t1 | apply Le.t2 | apply ZgS | intro _)

noncomputable def Zaw (data : Int) : Option Int :=
  (ZeU data).bind fun y =>
  if y = true then
  some data
  else
  some (i64 (data + 2048))
theorem Zdo (data : Int) : Le (Zaw data) (Zav data) := by
  unfold Zaw Zav
  with_reducible repeat' (first | exact Le.refl _ | apply Le.bind | apply Le.ite | apply Zie | intro _)

noncomputable def Zbu (f3 : Vector Int 64) (i : Int) : Option (((Vector Int 64) × Int) ⊕ ((Vector Int 64))) :=
  if (decide (i ≤ 60)) = true then
  (ZT f3 i).bind fun x =>
  (rem (i64 x) 2048).bind fun q =>
  (Zaw q).bind fun y =>
  (ZT f3 i).bind fun x2 =>
  some (.inl ((XM f3 i (u16 y)), (i64 (i + 1))))
  else
  some (.inr f3)
theorem Zfh (f3 : Vector Int 64) (i : Int) : Le (Zbu f3 i) (Za0 f3 i) := by
  unfold Zbu Za0
  with_reducible repeat' (first | exact Le.refl _ | apply Le.bind | apply Le.ite | apply Zdo | intro _)

noncomputable def ZbX (f : Vector Int 64) : Option Int :=
  (ZT f 1).bind fun x =>
  (rem (i64 x) 2048).bind fun q =>
  (ZT f 2).bind fun x2 =>
  (rem (i64 x2) 2048).bind fun q2 =>
  some (i64 (q + (i64 (q2 * 2048))))
theorem Zgc (f : Vector Int 64) : Le (ZbX f) (JW f) := by
  unfold ZbX JW
  with_reducible repeat' (first | exact Le.refl _ | apply Le.bind | intro _)

noncomputable def Zc4 (number : Int) : Option Int :=
  (rem number 4).bind fun q =>
  (ZT (#v[583, 1464, 2631, 3512] : Vector Int 4) q).bind fun x =>
  some x
theorem Zg3 (number : Int) : Le (Zc4 number) (ZbQ number) := by
  unfold Zc4 ZbQ
  with_reducible repeat' (first | exact Le.refl _ | apply Le.bind | intro _)

noncomputable def Zc9 (f : Vector Int 64) (x2 : Int) (i : Int) : Option ((Int × Int) ⊕ (Int)) :=
  if (decide (i ≤ 60)) = true then
  (ZT f i).bind fun x3 =>
  (rem (i64 x3) 2048).bind fun q =>
  some (.inl ((Zef .i64 x2 q), (i64 (i + 1))))
  else
  some (.inr x2)
theorem ZgY (f : Vector Int 64) (x2 : Int) (i : Int) : Le (Zc9 f x2 i) (ZcY f x2 i) := by
  unfold Zc9 ZcY
  with_reducible repeat' (first | exact Le.refl _ | apply Le.bind | apply Le.ite | intro _)

noncomputable def ZeX (f : Vector Int 64) : Option Int :=
  ((Qk (t2 (Zc9 f)) (0, 1)) : Option ((Int))).bind (t1 fun (x : Int) =>
  some x)
theorem ZiC (f : Vector Int 64) : Le (ZeX f) (Zee f) := by
  unfold ZeX Zee
  with_reducible repeat' (first | exact Le.refl _ | apply Le.bind | apply Le.loop | apply Le.t1 | apply Le.t2 | apply ZgY | intro _)

noncomputable def Zb2 (f : Vector Int 64) (rest2 : Int) (i : Int) : Option ((Int × Int) ⊕ (Int)) :=
  if (decide (i < 766)) = true then
  ((if (decide (i < 744)) = true then
  (quo .i64 i 12).bind fun q =>
  (ZT f q).bind fun x =>
  (rem i 12).bind fun q2 =>
  (shr .i64 (i64 x) (i64 (11 - q2))).bind fun q3 =>
  some (Xu .i64 q3 1)
  else
  some 0) : Option ((Int))).bind (t1 fun (bit : Int) =>
  if (decide (4194304 ≤ (i64 ((i64 (rest2 * 2)) + bit)))) = true then
  some (.inl ((Zef .i64 (i64 ((i64 (rest2 * 2)) + bit)) 6291471), (i64 (i + 1))))
  else
  some (.inl ((i64 ((i64 (rest2 * 2)) + bit)), (i64 (i + 1)))))
  else
  some (.inr rest2)
theorem Zgf (f : Vector Int 64) (rest2 : Int) (i : Int) : Le (Zb2 f rest2 i) (ZbG f rest2 i) := by
  unfold Zb2 ZbG
  with_reducible repeat' (first | exact Le.refl _ | apply Le.bind | apply Le.ite | apply Le.t1 | intro _)

noncomputable def Zds (f : Vector Int 64) : Option Int :=
  ((Qk (t2 (Zb2 f)) (0, 0)) : Option ((Int))).bind (t1 fun (rest : Int) =>
  some rest)
theorem Zho (f : Vector Int 64) : Le (Zds f) (ZcB f) := by
  unfold Zds ZcB
  with_reducible repeat' (first | exact Le.refl _ | apply Le.bind | apply Le.loop | apply Le.t1 | apply Le.t2 | apply Zgf | intro _)

noncomputable def Zcr (f : Vector Int 64) : Option (Vector Int 64) :=
  (Zds f).bind fun y =>
  (quo .i64 y 2048).bind fun q =>
  (Zaw q).bind fun y2 =>
  (rem y 2048).bind fun q2 =>
  (Zaw q2).bind fun y3 =>
  (ZT f 62).bind fun x =>
  (ZT (XM f 62 (u16 y2)) 63).bind fun x2 =>
  some (XM (XM f 62 (u16 y2)) 63 (u16 y3))
theorem Zgv (f : Vector Int 64) : Le (Zcr f) (ZaZ f) := by
  unfold Zcr ZaZ
  with_reducible repeat' (first | exact Le.refl _ | apply Le.bind | apply Zho | apply Zdo | intro _)

noncomputable def Zc1 (f : Vector Int 64) : Option (Vector Int 64) :=
  ((Qk (t2 (Zbu)) (f, 1)) : Option (((Vector Int 64)))).bind (t1 fun (f2 : Vector Int 64) =>
  (ZbX f2).bind fun y2 =>
  (Zc4 y2).bind fun y3 =>
  (ZT f2 0).bind fun x3 =>
  (ZeX (XM f2 0 (u16 y3))).bind fun y4 =>
  (Zaw y4).bind fun y5 =>
  (ZT (XM f2 0 (u16 y3)) 61).bind fun x4 =>
  (Zcr (XM (XM f2 0 (u16 y3)) 61 (u16 y5))).bind fun y6 =>
  some y6)
theorem Zhc (f : Vector Int 64) : Le (Zc1 f) (ZbO f) := by
  unfold Zc1 ZbO
  with_reducible repeat' (first | exact Le.refl _ | apply Le.bind | apply Le.loop | apply Le.t1 | apply Le.t2 | apply Zfh | apply Zgc | apply Zg3 | apply ZiC | apply Zdo | apply Zgv | intro _)

noncomputable def ZeV (number : Int) (data : List Int) : Option ((Vector Int 64) × Int) :=
  if ((decide (number < 0)) || (decide (4194304 ≤ number))) = true then
  some ((#v[0, 0, 0, 0, 0, 0, 0, 0, 0, 0, 0, 0, 0, 0, 0, 0, 0, 0, 0, 0, 0, 0, 0, 0, 0, 0, 0, 0, 0, 0, 0, 0, 0, 0, 0, 0, 0, 0, 0, 0, 0, 0, 0, 0, 0, 0, 0, 0, 0, 0, 0, 0, 0, 0, 0, 0, 0, 0, 0, 0, 0, 0, 0, 0] : Vector Int 64), 9)
  else
  if (!decide ((data.length : Int) = 58)) = true then
  some ((#v[0, 0, 0, 0, 0, 0, 0, 0, 0, 0, 0, 0, 0, 0, 0, 0, 0, 0, 0, 0, 0, 0, 0, 0, 0, 0, 0, 0, 0, 0, 0, 0, 0, 0, 0, 0, 0, 0, 0, 0, 0, 0, 0, 0, 0, 0, 0, 0, 0, 0, 0, 0, 0, 0, 0, 0, 0, 0, 0, 0, 0, 0, 0, 0] : Vector Int 64), 3)
  else
  (rem number 2048).bind fun q =>
  (quo .i64 number 2048).bind fun q2 =>
  (ZT (#v[0, 0, 0, 0, 0, 0, 0, 0, 0, 0, 0, 0, 0, 0, 0, 0, 0, 0, 0, 0, 0, 0, 0, 0, 0, 0, 0, 0, 0, 0, 0, 0, 0, 0, 0, 0, 0, 0, 0, 0, 0, 0, 0, 0, 0, 0, 0, 0, 0, 0, 0, 0, 0, 0, 0, 0, 0, 0, 0, 0, 0, 0, 0, 0] : Vector Int 64) 1).bind fun x =>
  (ZT (XM (#v[0, 0, 0, 0, 0, 0, 0, 0, 0, 0, 0, 0, 0, 0, 0, 0, 0, 0, 0, 0, 0, 0, 0, 0, 0, 0, 0, 0, 0, 0, 0, 0, 0, 0, 0, 0, 0, 0, 0, 0, 0, 0, 0, 0, 0, 0, 0, 0, 0, 0, 0, 0, 0, 0, 0, 0, 0, 0, 0, 0, 0, 0, 0, 0] : Vector Int 64) 1 (u16 q)) 2).bind fun x2 =>
  ((Qk (t2 (Zc0 data)) ((XM (XM (#v[0, 0, 0, 0, 0, 0, 0, 0, 0, 0, 0, 0, 0, 0, 0, 0, 0, 0, 0, 0, 0, 0, 0, 0, 0, 0, 0, 0, 0, 0, 0, 0, 0, 0, 0, 0, 0, 0, 0, 0, 0, 0, 0, 0, 0, 0, 0, 0, 0, 0, 0, 0, 0, 0, 0, 0, 0, 0, 0, 0, 0, 0, 0, 0] : Vector Int 64) 1 (u16 q)) 2 (u16 q2)), 0)) : Option (((Vector Int 64) × Int) ⊕ ((Vector Int 64)))).bind (Sum.elim (fun q' => some q') (t1 fun (f : Vector Int 64) =>
  (Zc1 f).bind fun y =>
  some (y, 0)))
theorem Zim (number : Int) (data : List Int) : Le (ZeV number data) (Zd2 number data) := by
  unfold ZeV Zd2
  with_reducible repeat' (first | exact Le.refl _ | apply Le.bind | apply Le.ite | apply Le.loop | apply Le.t1 | apply Le.t2 | apply Le.elim | apply ZgZ | apply Zhc | intro _)

noncomputable def Qf (n : Int) (low : Int) (high : Int) : Option Bool :=
  some ((decide (low ≤ n)) && (decide (n ≤ high)))
theorem Xg (n : Int) (low : Int) (high : Int) : Le (Qf n low high) (Z6 n low high) := by
  unfold Qf Z6
  with_reducible repeat' (first | exact Le.refl _ | apply Le.bind | intro _)

noncomputable def XY (slots : Int) : Option Int :=
  some (i64 (16 + (i64 (slots * 97))))
theorem Zb9 (slots : Int) : Le (XY slots) (QO slots) := by
  unfold XY QO
  with_reducible repeat' (first | exact Le.refl _ | apply Le.bind | intro _)

noncomputable def Zdp (x : Int) (y : Int) : Option (Int × Int) :=
  (shr .u64 x 32).bind fun q =>
  (shr .u64 y 32).bind fun q2 =>
  (shr .u64 (u64 ((Xu .u64 x 4294967295) * (Xu .u64 y 4294967295))) 32).bind fun q3 =>
  (shr .u64 (u64 ((u64 (q * (Xu .u64 y 4294967295))) + q3)) 32).bind fun q4 =>
  (shr .u64 (u64 ((Xu .u64 (u64 ((u64 (q * (Xu .u64 y 4294967295))) + q3)) 4294967295) + (u64 ((Xu .u64 x 4294967295) * q2)))) 32).bind fun q5 =>
  some ((u64 ((u64 ((u64 (q * q2)) + q4)) + q5)), (u64 (x * y)))
theorem Zhr (x : Int) (y : Int) : Le (Zdp x y) (Zcw x y) := by
  unfold Zdp Zcw
  with_reducible repeat' (first | exact Le.refl _ | apply Le.bind | intro _)

noncomputable def ZeT (x : Int) (y : Int) : Option (Int × Int) :=
  (Zdp x y).bind fun y2 =>
  some (y2.1, y2.2)
theorem ZiA (x : Int) (y : Int) : Le (ZeT x y) (Zcy x y) := by
  unfold ZeT Zcy
  with_reducible repeat' (first | exact Le.refl _ | apply Le.bind | apply Zhr | intro _)

noncomputable def Q5 (newslice2 : List Int) (n : Int) : Option (((List Int) × Int) ⊕ ((List Int))) :=
  if (decide (n < (newslice2.length : Int))) = true then
  (slq newslice2 n (newslice2.length : Int)).bind fun u =>
  (slq newslice2 0 n).bind fun u2 =>
  some (.inl ((cpy newslice2 n.toNat (Int.toNat ((newslice2.length : Int) - n)) (Int.toNat 0) (Int.toNat (n - 0))), (i64 (n + ((min (Int.toNat (n - 0)) (Int.toNat ((newslice2.length : Int) - n)) : Nat) : Int)))))
  else
  some (.inr newslice2)
theorem ZbI (newslice2 : List Int) (n : Int) : Le (Q5 newslice2 n) (ZV newslice2 n) := by
  unfold Q5 ZV
  with_reducible repeat' (first | exact Le.refl _ | apply Le.bind | apply Le.ite | intro _)

noncomputable def Xp (x : List Int) (count : Int) : Option (List Int) :=
  if (decide (count < 0)) = true then
  none
  else
  (ZeT (u64 (x.length : Int)) (u64 count)).bind fun y =>
  if ((decide (0 < y.1)) || (decide (9223372036854775807 < y.2))) = true then
  none
  else
  (mks (i64 y.2) 0).bind fun l =>
  ((Qk (t2 (Q5)) ((Zfi l x), ((min x.length l.length : Nat) : Int))) : Option (((List Int)))).bind (t1 fun (newslice : List Int) =>
  some newslice)
theorem Zct (x : List Int) (count : Int) : Le (Xp x count) (Z3 x count) := by
  unfold Xp Z3
  with_reducible repeat' (first | exact Le.refl _ | apply Le.bind | apply Le.ite | apply Le.loop | apply Le.t1 | apply Le.t2 | apply ZiA | apply ZbI | intro _)

noncomputable def JO (sectors : Int) (slots : Int) (Sectors2 : List (List Int)) (i : Int) : Option (((List (List Int)) × Int) ⊕ ((List (List Int)))) :=
  if (decide (i < sectors)) = true then
  (((XY slots).bind fun y4 =>
  (Xp ([255] : List Int) y4).bind fun y5 =>
  (app Sectors2 [y5]).bind fun l3 =>
  some l3) : Option (((List (List Int))))).bind (t1 fun (Sectors3 : List (List Int)) =>
  some (.inl (Sectors3, (i64 (i + 1)))))
  else
  some (.inr Sectors2)
theorem Zeh (sectors : Int) (slots : Int) (Sectors2 : List (List Int)) (i : Int) : Le (JO sectors slots Sectors2 i) (Q1 sectors slots Sectors2 i) := by
  unfold JO Q1
  with_reducible repeat' (first | exact Le.refl _ | apply Le.bind | apply Le.ite | apply Le.t1 | apply Zb9 | apply Zct | intro _)

noncomputable def Zbj (sectors : Int) (slots : Int) (limit : Int) : Option (api_Memory × Int) :=
  (Qf sectors 2 64).bind fun y =>
  (gd ((!y) == false) false (Qf slots 1 64)).bind fun y2 =>
  (gd (((!y) || (!y2)) == false) false (Qf limit 1 1000000)).bind fun y3 =>
  if (((!y) || (!y2)) || (!y3)) = true then
  some ((api_Memory.mk 0 0 [] [] []), 9)
  else
  (((mkz 8 sectors 0).bind fun l =>
  (mkz 1 sectors false).bind fun l2 =>
  some (l, l2)) : Option (((List Int) × (List Bool)))).bind (t2 fun (Wear : List Int) (Bad : List Bool) =>
  ((Qk (t2 (JO sectors slots)) ([], 0)) : Option (((List (List Int))))).bind (t1 fun (Sectors : List (List Int)) =>
  some ((api_Memory.mk slots limit Sectors Wear Bad), 0)))
theorem ZfJ (sectors : Int) (slots : Int) (limit : Int) : Le (Zbj sectors slots limit) (Qa sectors slots limit) := by
  unfold Zbj Qa
  with_reducible repeat' (first | exact Le.refl _ | apply Le.bind | apply Le.ite | apply Le.gd | apply Le.loop | apply Le.t1 | apply Le.t2 | apply Xg | apply Zeh | intro _)

noncomputable def Jg (m : api_Memory) (i : Int) : Option ((Int) ⊕ (Int) ⊕ (Unit)) :=
  if (decide (i < (m.Sectors.length : Int))) = true then
  (idx m.Sectors i).bind fun x =>
  (XY m.Slots).bind fun y4 =>
  if (!decide ((x.length : Int) = y4)) = true then
  some (.inr (.inl 3))
  else
  (idx m.Wear i).bind fun x2 =>
  (Qf x2 0 m.Limit).bind fun y5 =>
  if (!y5) = true then
  some (.inr (.inl 9))
  else
  some (.inl (i64 (i + 1)))
  else
  some (.inr (.inr ()))
theorem Zdm (m : api_Memory) (i : Int) : Le (Jg m i) (XI m i) := by
  unfold Jg XI
  with_reducible repeat' (first | exact Le.refl _ | apply Le.bind | apply Le.ite | apply Zb9 | apply Xg | intro _)

noncomputable def Zaj (m : api_Memory) : Option Int :=
  (Qf m.Slots 1 64).bind fun y =>
  (gd ((!y) == false) false (Qf m.Limit 1 1000000)).bind fun y2 =>
  (gd (((!y) || (!y2)) == false) false (Qf (m.Sectors.length : Int) 2 64)).bind fun y3 =>
  if (((!y) || (!y2)) || (!y3)) = true then
  some 9
  else
  if ((!decide ((m.Wear.length : Int) = (m.Sectors.length : Int))) || (!decide ((m.Bad.length : Int) = (m.Sectors.length : Int)))) = true then
  some 2
  else
  ((Qk (t1 (Jg m)) 0) : Option ((Int) ⊕ (Unit))).bind (Sum.elim (fun q' => some q') (t0 (some 0)))
theorem Zex (m : api_Memory) : Le (Zaj m) (XO m) := by
  unfold Zaj XO
  with_reducible repeat' (first | exact Le.refl _ | apply Le.bind | apply Le.ite | apply Le.gd | apply Le.loop | apply Le.t0 | apply Le.t1 | apply Le.elim | apply Xg | apply Zdm | intro _)

noncomputable def Zai (l : List api_Memory) (i : Int) : Option ((Int) ⊕ (Int) ⊕ (Unit)) :=
  if (decide (i < (l.length : Int))) = true then
  (idx l i).bind fun x =>
  (Zaj x).bind fun y2 =>
  if (!decide (y2 = 0)) = true then
  some (.inr (.inl y2))
  else
  some (.inl (i64 (i + 1)))
  else
  some (.inr (.inr ()))
theorem ZeK (l : List api_Memory) (i : Int) : Le (Zai l i) (Jw l i) := by
  unfold Zai Jw
  with_reducible repeat' (first | exact Le.refl _ | apply Le.bind | apply Le.ite | apply Zex | intro _)

noncomputable def J9 (l : List api_Memory) : Option Int :=
  (Qf (l.length : Int) 1 8).bind fun y =>
  if (!y) = true then
  some 3
  else
  ((Qk (t1 (Zai l)) 0) : Option ((Int) ⊕ (Unit))).bind (Sum.elim (fun q' => some q') (t0 (some 0)))
theorem Zdd (l : List api_Memory) : Le (J9 l) (Jd l) := by
  unfold J9 Jd
  with_reducible repeat' (first | exact Le.refl _ | apply Le.bind | apply Le.ite | apply Le.loop | apply Le.t0 | apply Le.t1 | apply Le.elim | apply Xg | apply ZeK | intro _)

noncomputable def Jo (m : api_Memory) (sectors2 : List (List Int)) (i : Int) : Option (((List (List Int)) × Int) ⊕ ((List (List Int)))) :=
  if (decide (i < (m.Sectors.length : Int))) = true then
  (idx m.Sectors i).bind fun x =>
  (ZdB 1 x).bind fun y =>
  (app sectors2 [y]).bind fun l =>
  some (.inl (l, (i64 (i + 1))))
  else
  some (.inr sectors2)
theorem ZdQ (m : api_Memory) (sectors2 : List (List Int)) (i : Int) : Le (Jo m sectors2 i) (X3 m sectors2 i) := by
  unfold Jo X3
  with_reducible repeat' (first | exact Le.refl _ | apply Le.bind | apply Le.ite | intro _)

noncomputable def Za1 (m : api_Memory) : Option api_Memory :=
  ((Qk (t2 (Jo m)) ([], 0)) : Option (((List (List Int))))).bind (t1 fun (sectors : List (List Int)) =>
  (ZdB 8 m.Wear).bind fun y2 =>
  (ZdB 1 m.Bad).bind fun y3 =>
  some (api_Memory.mk m.Slots m.Limit sectors y2 y3))
theorem Ze0 (m : api_Memory) : Le (Za1 m) (Jc m) := by
  unfold Za1 Jc
  with_reducible repeat' (first | exact Le.refl _ | apply Le.bind | apply Le.loop | apply Le.t1 | apply Le.t2 | apply ZdQ | intro _)

noncomputable def ZaH (l : List api_Memory) (out2 : List api_Memory) (i : Int) : Option (((List api_Memory) × Int) ⊕ ((List api_Memory))) :=
  if (decide (i < (l.length : Int))) = true then
  (idx l i).bind fun x =>
  (Za1 x).bind fun y =>
  (app out2 [y]).bind fun l2 =>
  some (.inl (l2, (i64 (i + 1))))
  else
  some (.inr out2)
theorem ZeP (l : List api_Memory) (out2 : List api_Memory) (i : Int) : Le (ZaH l out2 i) (Ja l out2 i) := by
  unfold ZaH Ja
  with_reducible repeat' (first | exact Le.refl _ | apply Le.bind | apply Le.ite | apply Ze0 | intro _)

noncomputable def ZaT (l : List api_Memory) : Option (List api_Memory) :=
  ((Qk (t2 (ZaH l)) ([], 0)) : Option (((List api_Memory)))).bind (t1 fun (out : List api_Memory) =>
  some out)
theorem ZdG (l : List api_Memory) : Le (ZaT l) (Xz l) := by
  unfold ZaT Xz
  with_reducible repeat' (first | exact Le.refl _ | apply Le.bind | apply Le.loop | apply Le.t1 | apply Le.t2 | apply ZeP | intro _)

noncomputable def Zbq (sequence : Int) (out2 : List Int) (shift : Int) : Option (((List Int) × Int) ⊕ ((List Int))) :=
  if (decide (0 ≤ shift)) = true then
  (shr .i64 sequence shift).bind fun q =>
  (apz 1 out2 ([(u8 q)] : List Int)).bind fun l =>
  some (.inl (l, (i64 (shift - 8))))
  else
  some (.inr out2)
theorem Zfg (sequence : Int) (out2 : List Int) (shift : Int) : Le (Zbq sequence out2 shift) (Zay sequence out2 shift) := by
  unfold Zbq Zay
  with_reducible repeat' (first | exact Le.refl _ | apply Le.bind | apply Le.ite | intro _)

noncomputable def Zbs (out : List Int) (out4 : List Int) (i : Int) : Option (((List Int) × Int) ⊕ ((List Int))) :=
  if (decide (i < ((Int.toNat (6 - 2) : Nat) : Int))) = true then
  (ck (decide ((0 : Int) ≤ i) && decide (i < ((Int.toNat (6 - 2) : Nat) : Int)))).bind fun u2 =>
  (idx out (2 + i)).bind fun x2 =>
  (apz 1 out4 ([(Zef .u8 255 x2)] : List Int)).bind fun l2 =>
  some (.inl (l2, (i64 (i + 1))))
  else
  some (.inr out4)
theorem Zfu (out : List Int) (out4 : List Int) (i : Int) : Le (Zbs out out4 i) (Zbc out out4 i) := by
  unfold Zbs Zbc
  with_reducible repeat' (first | exact Le.refl _ | apply Le.bind | apply Le.ite | intro _)

noncomputable def Zbz (sequence : Int) : Option (List Int) :=
  ((Qk (t2 (Zbq sequence)) (([79, 66] : List Int), 24)) : Option (((List Int)))).bind (t1 fun (out : List Int) =>
  (((slp out 2 6).bind fun u =>
  Qk (t2 (Zbs out)) (out, 0)) : Option (((List Int)))).bind (t1 fun (out3 : List Int) =>
  some out3))
theorem Zd7 (sequence : Int) : Le (Zbz sequence) (Zar sequence) := by
  unfold Zbz Zar
  with_reducible repeat' (first | exact Le.refl _ | apply Le.bind | apply Le.loop | apply Le.t1 | apply Le.t2 | apply Zfg | apply Zfu | intro _)

noncomputable def Q9 (s1 : List Int) (s2 : List Int) (i : Int) : Option ((Int) ⊕ (Bool) ⊕ (Unit)) :=
  if (decide (i < (s1.length : Int))) = true then
  (idx s1 i).bind fun x =>
  (idx s2 i).bind fun x2 =>
  if (!decide (x = x2)) = true then
  some (.inr (.inl false))
  else
  some (.inl (i64 (i + 1)))
  else
  some (.inr (.inr ()))
theorem Zb1 (s1 : List Int) (s2 : List Int) (i : Int) : Le (Q9 s1 s2 i) (QI s1 s2 i) := by
  unfold Q9 QI
  with_reducible repeat' (first | exact Le.refl _ | apply Le.bind | apply Le.ite | intro _)

noncomputable def XG (s1 : List Int) (s2 : List Int) : Option Bool :=
  if (!decide ((s1.length : Int) = (s2.length : Int))) = true then
  some false
  else
  ((Qk (t1 (Q9 s1 s2)) 0) : Option ((Bool) ⊕ (Unit))).bind (Sum.elim (fun q' => some q') (t0 (some true)))
theorem ZcK (s1 : List Int) (s2 : List Int) : Le (XG s1 s2) (QB s1 s2) := by
  unfold XG QB
  with_reducible repeat' (first | exact Le.refl _ | apply Le.bind | apply Le.ite | apply Le.loop | apply Le.t0 | apply Le.t1 | apply Le.elim | apply Zb1 | intro _)

noncomputable def Jq (s : List Int) : Option (Int × Bool × Bool) :=
  if (decide ((s.length : Int) < 16)) = true then
  some (0, false, false)
  else
  (slc s 0 16).bind fun l =>
  (tov 16 l).bind fun v =>
  (ZT v 2).bind fun x =>
  (shl .i64 (i64 x) 24).bind fun q =>
  (ZT v 3).bind fun x2 =>
  (shl .i64 (i64 x2) 16).bind fun q2 =>
  (ZT v 4).bind fun x3 =>
  (shl .i64 (i64 x3) 8).bind fun q3 =>
  (ZT v 5).bind fun x4 =>
  (Qf (bor .i64 (bor .i64 (bor .i64 q q2) q3) (i64 x4)) 1 1073741824).bind fun y =>
  (gd ((!y) == false) [] (slc v.toList 0 10)).bind fun l2 =>
  (gd ((!y) == false) [] (Zbz (bor .i64 (bor .i64 (bor .i64 q q2) q3) (i64 x4)))).bind fun y2 =>
  (gd ((!y) == false) false (XG l2 y2)).bind fun y3 =>
  if ((!y) || (!y3)) = true then
  some (0, false, false)
  else
  (ZT v 10).bind fun x5 =>
  some ((bor .i64 (bor .i64 (bor .i64 q q2) q3) (i64 x4)), (!decide (x5 = 255)), true)
theorem Zbb (s : List Int) : Le (Jq s) (JC s) := by
  unfold Jq JC
  with_reducible repeat' (first | exact Le.refl _ | apply Le.bind | apply Le.ite | apply Le.gd | apply Xg | apply Zd7 | apply ZcK | intro _)

noncomputable def ZaB (m : api_Memory) (out2 : List Int) (i : Int) : Option (((List Int) × Int) ⊕ ((List Int))) :=
  if (decide (i < (m.Sectors.length : Int))) = true then
  (idx m.Sectors i).bind fun x =>
  (Jq x).bind fun y =>
  (gd (y.2.2 == true) false (idx m.Bad i)).bind fun x2 =>
  if (y.2.2 && (!x2)) = true then
  (apz 8 out2 ([i] : List Int)).bind fun l =>
  some (.inl (l, (i64 (i + 1))))
  else
  some (.inl (out2, (i64 (i + 1))))
  else
  some (.inr out2)
theorem Zfa (m : api_Memory) (out2 : List Int) (i : Int) : Le (ZaB m out2 i) (Zab m out2 i) := by
  unfold ZaB Zab
  with_reducible repeat' (first | exact Le.refl _ | apply Le.bind | apply Le.ite | apply Le.gd | apply Zbb | intro _)

noncomputable def Qo (a : Int) (cmp : Int → Int → Option Int) (o3 : List Int) (j : Int) : Option (((List Int) × Int) ⊕ ((List Int))) :=
  (gd ((decide (a < j)) == true) 0 (idx o3 j)).bind fun x =>
  (gd ((decide (a < j)) == true) 0 (idx o3 (i64 (j - 1)))).bind fun x2 =>
  (gd ((decide (a < j)) == true) 0 (cmp x x2)).bind fun y =>
  if ((decide (a < j)) && (decide (y < 0))) = true then
  (idx o3 (i64 (j - 1))).bind fun x3 =>
  (idx o3 j).bind fun x4 =>
  (idx o3 j).bind fun x5 =>
  (idx (o3.set j.toNat x3) (i64 (j - 1))).bind fun x6 =>
  some (.inl (((o3.set j.toNat x3).set (i64 (j - 1)).toNat x4), (i64 (j - 1))))
  else
  some (.inr o3)
theorem Jy (a : Int) (cmp : Int → Int → Option Int) (o3 : List Int) (j : Int) (cmp' : Int → Int → Option Int) (h_cmp : ∀ z0 z1, Le (cmp z0 z1) (cmp' z0 z1)) : Le (Qo a cmp o3 j) (ZH a cmp' o3 j) := by
  unfold Qo ZH
  with_reducible repeat' (first | exact Le.refl _ | apply Le.bind | apply Le.ite | apply Le.gd | apply h_cmp | intro _)

noncomputable def Qq (a : Int) (b : Int) (cmp : Int → Int → Option Int) (o : List Int) (i : Int) : Option (((List Int) × Int) ⊕ ((List Int))) :=
  if (decide (i < b)) = true then
  ((Qk (t2 (Qo a cmp)) (o, i)) : Option (((List Int)))).bind (t1 fun (o2 : List Int) =>
  some (.inl (o2, (i64 (i + 1)))))
  else
  some (.inr o)
theorem Jx (a : Int) (b : Int) (cmp : Int → Int → Option Int) (o : List Int) (i : Int) (cmp' : Int → Int → Option Int) (h_cmp : ∀ z0 z1, Le (cmp z0 z1) (cmp' z0 z1)) : Le (Qq a b cmp o i) (ZI a b cmp' o i) := by
  unfold Qq ZI
  with_reducible repeat' (first | exact Le.refl _ | apply Le.bind | apply Le.ite | apply Le.loop | apply Le.t1 | apply Le.t2 | apply Jy | apply h_cmp | intro _)

noncomputable def Qc (data : List Int) (a : Int) (b : Int) (cmp : Int → Int → Option Int) : Option (List Int) :=
  Qk (t2 (Qq a b cmp)) (data, (i64 (a + 1)))
theorem Xh (data : List Int) (a : Int) (b : Int) (cmp : Int → Int → Option Int) (cmp' : Int → Int → Option Int) (h_cmp : ∀ z0 z1, Le (cmp z0 z1) (cmp' z0 z1)) : Le (Qc data a b cmp) (ZG data a b cmp') := by
  unfold Qc ZG
  with_reducible repeat' (first | exact Le.refl _ | apply Le.bind | apply Le.loop | apply Le.t2 | apply Jx | apply h_cmp | intro _)

noncomputable def QQ (n : Int) (cmp : Int → Int → Option Int) (o2 : List Int) (a2 : Int) (b : Int) : Option (((List Int) × Int × Int) ⊕ ((List Int) × Int)) :=
  if (decide (b ≤ n)) = true then
  (Qc o2 a2 b cmp).bind fun y =>
  some (.inl (y, b, (i64 (b + 20))))
  else
  some (.inr (o2, a2))
theorem Zbo (n : Int) (cmp : Int → Int → Option Int) (o2 : List Int) (a2 : Int) (b : Int) (cmp' : Int → Int → Option Int) (h_cmp : ∀ z0 z1, Le (cmp z0 z1) (cmp' z0 z1)) : Le (QQ n cmp o2 a2 b) (ZU n cmp' o2 a2 b) := by
  unfold QQ ZU
  with_reducible repeat' (first | exact Le.refl _ | apply Le.bind | apply Le.ite | apply Xh | apply h_cmp | intro _)

noncomputable def QV (n : Int) (blockSize : Int) : Option ((Unit) ⊕ (Unit)) :=
  if (decide ((i64 (2 * blockSize)) ≤ n)) = true then
  none
  else
  some (.inr ())
theorem Zbm (n : Int) (blockSize : Int) : Le (QV n blockSize) (Qw n blockSize) := by
  unfold QV Qw
  with_reducible repeat' (first | exact Le.refl _ | apply Le.bind | apply Le.ite | intro _)

noncomputable def QR (n : Int) (y2 : (List Int)) (blockSize : Int) : Option ((Int) ⊕ ((List Int))) :=
  if (decide (blockSize < n)) = true then
  ((Qk (t0 (QV n blockSize)) ()) : Option ((Unit))).bind (t0 (if (decide ((i64 (0 + blockSize)) < n)) = true then
  none
  else
  some (.inl (i64 (blockSize * 2)))))
  else
  some (.inr y2)
theorem Zbx (n : Int) (y2 : (List Int)) (blockSize : Int) : Le (QR n y2 blockSize) (Z0 n y2 blockSize) := by
  unfold QR Z0
  with_reducible repeat' (first | exact Le.refl _ | apply Le.bind | apply Le.ite | apply Le.loop | apply Le.t0 | apply Zbm | intro _)

noncomputable def Xi (data : List Int) (n : Int) (cmp : Int → Int → Option Int) : Option (List Int) :=
  ((Qk (t3 (QQ n cmp)) (data, 0, 20)) : Option (((List Int) × Int))).bind (t2 fun (o : List Int) (a : Int) =>
  (Qc o a n cmp).bind fun y2 =>
  Qk (t1 (QR n y2)) 20)
theorem Zch (data : List Int) (n : Int) (cmp : Int → Int → Option Int) (cmp' : Int → Int → Option Int) (h_cmp : ∀ z0 z1, Le (cmp z0 z1) (cmp' z0 z1)) : Le (Xi data n cmp) (Qe data n cmp') := by
  unfold Xi Qe
  with_reducible repeat' (first | exact Le.refl _ | apply Le.bind | apply Le.loop | apply Le.t1 | apply Le.t2 | apply Le.t3 | apply Zbo | apply Xh | apply Zbx | apply h_cmp | intro _)

noncomputable def QE (x : List Int) (cmp : Int → Int → Option Int) : Option (List Int) :=
  (Xi x (x.length : Int) cmp).bind fun y =>
  some y
theorem Za7 (x : List Int) (cmp : Int → Int → Option Int) (cmp' : Int → Int → Option Int) (h_cmp : ∀ z0 z1, Le (cmp z0 z1) (cmp' z0 z1)) : Le (QE x cmp) (ZO x cmp') := by
  unfold QE ZO
  with_reducible repeat' (first | exact Le.refl _ | apply Le.bind | apply Zch | apply h_cmp | intro _)

noncomputable def Jz (i : Int) (c0 : api_Memory) : Option Int :=
  (idx c0.Sectors i).bind fun x =>
  (Jq x).bind fun y =>
  some y.1
theorem Zfz (i : Int) (c0 : api_Memory) : Le (Jz i c0) (XR i c0) := by
  unfold Jz XR
  with_reducible repeat' (first | exact Le.refl _ | apply Le.bind | apply Zbb | intro _)

noncomputable def Zbp (a : Int) (b : Int) (k : api_Memory) : Option Int :=
  (Jz a k).bind fun y =>
  (Jz b k).bind fun y2 =>
  some (i64 (y - y2))
theorem Zfq (a : Int) (b : Int) (k : api_Memory) : Le (Zbp a b k) (Jn a b k) := by
  unfold Zbp Jn
  with_reducible repeat' (first | exact Le.refl _ | apply Le.bind | apply Zfz | intro _)

noncomputable def ZaY (m : api_Memory) : Option (List Int) :=
  ((Qk (t2 (ZaB m)) ([], 0)) : Option (((List Int)))).bind (t1 fun (out : List Int) =>
  (QE out (fun z0 z1 => Zbp z0 z1 m)).bind fun y2 =>
  some y2)
theorem ZdH (m : api_Memory) : Le (ZaY m) (JH m) := by
  unfold ZaY JH
  with_reducible repeat' (first | exact Le.refl _ | apply Le.bind | apply Le.loop | apply Le.t1 | apply Le.t2 | apply Zfa | apply Za7 | apply Zfq | intro _)

noncomputable def Zby (s : List Int) (i : Int) : Option (Vector Int 97) :=
  (slc s (i64 (16 + (i64 (i * 97)))) (i64 ((i64 (16 + (i64 (i * 97)))) + 97))).bind fun l =>
  (tov 97 l).bind fun v =>
  some v
theorem Zd9 (s : List Int) (i : Int) : Le (Zby s i) (Zas s i) := by
  unfold Zby Zas
  with_reducible repeat' (first | exact Le.refl _ | apply Le.bind | intro _)

noncomputable def QG (s : List Int) (f : Int → Option Bool) (i : Int) : Option ((Int) ⊕ (Int) ⊕ (Unit)) :=
  if (decide (i < (s.length : Int))) = true then
  (idx s i).bind fun x =>
  (f x).bind fun y =>
  if y = true then
  some (.inr (.inl i))
  else
  some (.inl (i64 (i + 1)))
  else
  some (.inr (.inr ()))
theorem ZaR (s : List Int) (f : Int → Option Bool) (i : Int) (f' : Int → Option Bool) (h_f : ∀ z0, Le (f z0) (f' z0)) : Le (QG s f i) (Qs s f' i) := by
  unfold QG Qs
  with_reducible repeat' (first | exact Le.refl _ | apply Le.bind | apply Le.ite | apply h_f | intro _)

noncomputable def Q7 (s : List Int) (f : Int → Option Bool) : Option Int :=
  ((Qk (t1 (QG s f)) 0) : Option ((Int) ⊕ (Unit))).bind (Sum.elim (fun q' => some q') (t0 (some (-1))))
theorem ZbP (s : List Int) (f : Int → Option Bool) (f' : Int → Option Bool) (h_f : ∀ z0, Le (f z0) (f' z0)) : Le (Q7 s f) (Qh s f') := by
  unfold Q7 Qh
  with_reducible repeat' (first | exact Le.refl _ | apply Le.bind | apply Le.loop | apply Le.t0 | apply Le.t1 | apply Le.elim | apply ZaR | apply h_f | intro _)

noncomputable def QD (s : List Int) (f : Int → Option Bool) : Option Bool :=
  (Q7 s f).bind fun y =>
  some (decide (0 ≤ y))
theorem ZaQ (s : List Int) (f : Int → Option Bool) (f' : Int → Option Bool) (h_f : ∀ z0, Le (f z0) (f' z0)) : Le (QD s f) (Z5 s f') := by
  unfold QD Z5
  with_reducible repeat' (first | exact Le.refl _ | apply Le.bind | apply ZbP | apply h_f | intro _)

noncomputable def Zbi (b : Int) : Option Bool :=
  some (!decide (b = 255))
theorem ZfH (b : Int) : Le (Zbi b) (Js b) := by
  unfold Zbi Js
  with_reducible repeat' (first | exact Le.refl _ | apply Le.bind | intro _)

noncomputable def ZaC (p : Vector Int 97) : Option Int :=
  (ZT p 96).bind fun x =>
  if (decide (x = 0)) = true then
  some 1
  else
  (slc p.toList 0 (97 : Int)).bind fun l =>
  (QD l (fun z0 => Zbi z0)).bind fun y =>
  if y = true then
  some 2
  else
  some 0
theorem ZdO (p : Vector Int 97) : Le (ZaC p) (JG p) := by
  unfold ZaC JG
  with_reducible repeat' (first | exact Le.refl _ | apply Le.bind | apply Le.ite | apply ZaQ | apply ZfH | intro _)

noncomputable def Zam (m : api_Memory) (x : Int) (slot2 : Int) (i : Int) : Option ((Int × Int) ⊕ (Int)) :=
  if (decide (i < m.Slots)) = true then
  (idx m.Sectors x).bind fun x2 =>
  (Zby x2 i).bind fun y2 =>
  (ZaC y2).bind fun y3 =>
  if (!decide (y3 = 0)) = true then
  some (.inl ((i64 (i + 1)), (i64 (i + 1))))
  else
  some (.inl (slot2, (i64 (i + 1))))
  else
  some (.inr slot2)
theorem ZeB (m : api_Memory) (x : Int) (slot2 : Int) (i : Int) : Le (Zam m x slot2 i) (JB m x slot2 i) := by
  unfold Zam JB
  with_reducible repeat' (first | exact Le.refl _ | apply Le.bind | apply Le.ite | apply Zd9 | apply ZdO | intro _)

noncomputable def Zb7 (m : api_Memory) : Option ring_spot :=
  (ZaY m).bind fun y =>
  if (decide ((y.length : Int) = 0)) = true then
  some (ring_spot.mk (-1) 0)
  else
  (idx y (i64 ((y.length : Int) - 1))).bind fun x =>
  ((Qk (t2 (Zam m x)) (0, 0)) : Option ((Int))).bind (t1 fun (slot : Int) =>
  some (ring_spot.mk x slot))
theorem Zgh (m : api_Memory) : Le (Zb7 m) (JT m) := by
  unfold Zb7 JT
  with_reducible repeat' (first | exact Le.refl _ | apply Le.bind | apply Le.ite | apply Le.loop | apply Le.t1 | apply Le.t2 | apply ZdH | apply ZeB | intro _)

noncomputable def ZbW (y3 : (List api_Memory)) (spots2 : List ring_spot) (frozen2 : Bool) (i : Int) : Option (((List ring_spot) × Bool × Int) ⊕ ((List ring_spot) × Bool)) :=
  if (decide (i < (y3.length : Int))) = true then
  (idx y3 i).bind fun x =>
  (Zb7 x).bind fun y4 =>
  (apz 16 spots2 ([y4] : List ring_spot)).bind fun l2 =>
  if (decide (0 ≤ y4.sector)) = true then
  (idx x.Sectors y4.sector).bind fun x2 =>
  (Jq x2).bind fun y5 =>
  some (.inl (l2, (frozen2 || y5.2.1), (i64 (i + 1))))
  else
  some (.inl (l2, frozen2, (i64 (i + 1))))
  else
  some (.inr (spots2, frozen2))
theorem Zf4 (y3 : (List api_Memory)) (spots2 : List ring_spot) (frozen2 : Bool) (i : Int) : Le (ZbW y3 spots2 frozen2 i) (ZbD y3 spots2 frozen2 i) := by
  unfold ZbW ZbD
  with_reducible repeat' (first | exact Le.refl _ | apply Le.bind | apply Le.ite | apply Zgh | apply Zbb | intro _)

noncomputable def Zdq (l : List api_Memory) (copies : Int) : Option ((Int) ⊕ (ring_Recorder × Int)) :=
  (J9 l).bind fun y =>
  if (!decide (y = 0)) = true then
  some (Sum.inl y)
  else
  (Qf copies 1 (l.length : Int)).bind fun y2 =>
  if (!y2) = true then
  some (Sum.inl 9)
  else
  (ZaT l).bind fun y3 =>
  ((Qk (t3 (ZbW y3)) ([], false, 0)) : Option (((List ring_spot) × Bool))).bind (t2 fun (spots : List ring_spot) (frozen : Bool) =>
  some (Sum.inr ((ring_Recorder.mk (ring_bank.mk y3 spots) copies frozen false 0 false), 0)))
theorem Zhk (l : List api_Memory) (copies : Int) : Le (Zdq l copies) (Zah l copies) := by
  unfold Zdq Zah
  with_reducible repeat' (first | exact Le.refl _ | apply Le.bind | apply Le.ite | apply Le.loop | apply Le.t2 | apply Le.t3 | apply Le.elim | apply Zdd | apply Xg | apply ZdG | apply Zf4 | intro _)

noncomputable def Jm (r_ : ring_Recorder) (power : Int) : Option Int :=
  if r_.stopped = true then
  some 15
  else
  if r_.frozen = true then
  some 11
  else
  (Qf power 0 1000000000).bind fun y =>
  if (!y) = true then
  some 9
  else
  some 0
theorem ZdT (r_ : ring_Recorder) (power : Int) : Le (Jm r_ power) (Xe r_ power) := by
  unfold Jm Xe
  with_reducible repeat' (first | exact Le.refl _ | apply Le.bind | apply Le.ite | apply Xg | intro _)

noncomputable def Zbw (f : Vector Int 64) (out2 : List api_Flaw) (i : Int) : Option (((List api_Flaw) × Int) ⊕ ((List api_Flaw))) :=
  if (decide (i < 64)) = true then
  (ZT f i).bind fun x =>
  if (decide (4095 < x)) = true then
  (app out2 ([(api_Flaw.mk i 5)] : List api_Flaw)).bind fun l =>
  some (.inl (l, (i64 (i + 1))))
  else
  some (.inl (out2, (i64 (i + 1))))
  else
  some (.inr out2)
theorem Zfo (f : Vector Int 64) (out2 : List api_Flaw) (i : Int) : Le (Zbw f out2 i) (Za4 f out2 i) := by
  unfold Zbw Za4
  with_reducible repeat' (first | exact Le.refl _ | apply Le.bind | apply Le.ite | intro _)

noncomputable def Xy (w : Int) : Option Int :=
  some (i64 (Xu .u16 w 2047))
theorem Zc7 (w : Int) : Le (Xy w) (XF w) := by
  unfold Xy XF
  with_reducible repeat' (first | exact Le.refl _ | apply Le.bind | intro _)

noncomputable def JD (f : Vector Int 64) : Option Int :=
  (ZT f 1).bind fun x =>
  (Xy x).bind fun y =>
  (ZT f 2).bind fun x2 =>
  (Xy x2).bind fun y2 =>
  (shl .i64 y2 11).bind fun q =>
  some (bor .i64 y q)
theorem ZcQ (f : Vector Int 64) : Le (JD f) (XJ f) := by
  unfold JD XJ
  with_reducible repeat' (first | exact Le.refl _ | apply Le.bind | apply Zc7 | intro _)

noncomputable def Zaq (x : Int) : Option Int :=
  (shr .u16 x 8).bind fun q =>
  (Zjg [0, 1, 1, 2, 1, 2, 2, 3, 1, 2, 2, 3, 2, 3, 3, 4, 1, 2, 2, 3, 2, 3, 3, 4, 2, 3, 3, 4, 3, 4, 4, 5, 1, 2, 2, 3, 2, 3, 3, 4, 2, 3, 3, 4, 3, 4, 4, 5, 2, 3, 3, 4, 3, 4, 4, 5, 3, 4, 4, 5, 4, 5, 5, 6, 1, 2, 2, 3, 2, 3, 3, 4, 2, 3, 3, 4, 3, 4, 4, 5, 2, 3, 3, 4, 3, 4, 4, 5, 3, 4, 4, 5, 4, 5, 5, 6, 2, 3, 3, 4, 3, 4, 4, 5, 3, 4, 4, 5, 4, 5, 5, 6, 3, 4, 4, 5, 4, 5, 5, 6, 4, 5, 5, 6, 5, 6, 6, 7, 1, 2, 2, 3, 2, 3, 3, 4, 2, 3, 3, 4, 3, 4, 4, 5, 2, 3, 3, 4, 3, 4, 4, 5, 3, 4, 4, 5, 4, 5, 5, 6, 2, 3, 3, 4, 3, 4, 4, 5, 3, 4, 4, 5, 4, 5, 5, 6, 3, 4, 4, 5, 4, 5, 5, 6, 4, 5, 5, 6, 5, 6, 6, 7, 2, 3, 3, 4, 3, 4, 4, 5, 3, 4, 4, 5, 4, 5, 5, 6, 3, 4, 4, 5, 4, 5, 5, 6, 4, 5, 5, 6, 5, 6, 6, 7, 3, 4, 4, 5, 4, 5, 5, 6, 4, 5, 5, 6, 5, 6, 6, 7, 4, 5, 5, 6, 5, 6, 6, 7, 5, 6, 6, 7, 6, 7, 7, 8] q).bind fun b =>
  (Zjg [0, 1, 1, 2, 1, 2, 2, 3, 1, 2, 2, 3, 2, 3, 3, 4, 1, 2, 2, 3, 2, 3, 3, 4, 2, 3, 3, 4, 3, 4, 4, 5, 1, 2, 2, 3, 2, 3, 3, 4, 2, 3, 3, 4, 3, 4, 4, 5, 2, 3, 3, 4, 3, 4, 4, 5, 3, 4, 4, 5, 4, 5, 5, 6, 1, 2, 2, 3, 2, 3, 3, 4, 2, 3, 3, 4, 3, 4, 4, 5, 2, 3, 3, 4, 3, 4, 4, 5, 3, 4, 4, 5, 4, 5, 5, 6, 2, 3, 3, 4, 3, 4, 4, 5, 3, 4, 4, 5, 4, 5, 5, 6, 3, 4, 4, 5, 4, 5, 5, 6, 4, 5, 5, 6, 5, 6, 6, 7, 1, 2, 2, 3, 2, 3, 3, 4, 2, 3, 3, 4, 3, 4, 4, 5, 2, 3, 3, 4, 3, 4, 4, 5, 3, 4, 4, 5, 4, 5, 5, 6, 2, 3, 3, 4, 3, 4, 4, 5, 3, 4, 4, 5, 4, 5, 5, 6, 3, 4, 4, 5, 4, 5, 5, 6, 4, 5, 5, 6, 5, 6, 6, 7, 2, 3, 3, 4, 3, 4, 4, 5, 3, 4, 4, 5, 4, 5, 5, 6, 3, 4, 4, 5, 4, 5, 5, 6, 4, 5, 5, 6, 5, 6, 6, 7, 3, 4, 4, 5, 4, 5, 5, 6, 4, 5, 5, 6, 5, 6, 6, 7, 4, 5, 5, 6, 5, 6, 6, 7, 5, 6, 6, 7, 6, 7, 7, 8] (Xu .u16 x 255)).bind fun b2 =>
  some (i64 (u8 (b + b2)))
theorem Zey (x : Int) : Le (Zaq x) (XS x) := by
  unfold Zaq XS
  with_reducible repeat' (first | exact Le.refl _ | apply Le.bind | intro _)

noncomputable def ZbL (w : Int) : Option Bool :=
  (gd ((decide (w ≤ 4095)) == true) 0 (Zaq w)).bind fun y =>
  (gd ((decide (w ≤ 4095)) == true) 0 (rem y 2)).bind fun q =>
  some ((decide (w ≤ 4095)) && (decide (q = 1)))
theorem ZfP (w : Int) : Le (ZbL w) (Zbv w) := by
  unfold ZbL Zbv
  with_reducible repeat' (first | exact Le.refl _ | apply Le.bind | apply Le.gd | apply Zey | intro _)

noncomputable def Zbn (f : Vector Int 64) (out5 : List api_Flaw) (i2 : Int) : Option (((List api_Flaw) × Int) ⊕ ((List api_Flaw))) :=
  if (decide (i2 < 64)) = true then
  (ZT f i2).bind fun x4 =>
  (ZbL x4).bind fun y2 =>
  if (!y2) = true then
  (app out5 ([(api_Flaw.mk i2 2)] : List api_Flaw)).bind fun l3 =>
  some (.inl (l3, (i64 (i2 + 1))))
  else
  some (.inl (out5, (i64 (i2 + 1))))
  else
  some (.inr out5)
theorem Zfw (f : Vector Int 64) (out5 : List api_Flaw) (i2 : Int) : Le (Zbn f out5 i2) (ZaV f out5 i2) := by
  unfold Zbn ZaV
  with_reducible repeat' (first | exact Le.refl _ | apply Le.bind | apply Le.ite | apply ZfP | intro _)

noncomputable def Zbl (f : Vector Int 64) (n2 : Int) (i : Int) : Option ((Int × Int) ⊕ (Int)) :=
  if (decide (i < 60)) = true then
  (ZT f (i64 (i + 1))).bind fun x =>
  (Xy x).bind fun y =>
  some (.inl ((Zef .i64 n2 y), (i64 (i + 1))))
  else
  some (.inr n2)
theorem ZfQ (f : Vector Int 64) (n2 : Int) (i : Int) : Le (Zbl f n2 i) (ZaJ f n2 i) := by
  unfold Zbl ZaJ
  with_reducible repeat' (first | exact Le.refl _ | apply Le.bind | apply Le.ite | apply Zc7 | intro _)

noncomputable def Zc8 (f : Vector Int 64) : Option Int :=
  ((Qk (t2 (Zbl f)) (0, 0)) : Option ((Int))).bind (t1 fun (n : Int) =>
  some n)
theorem Zg7 (f : Vector Int 64) : Le (Zc8 f) (ZbU f) := by
  unfold Zc8 ZbU
  with_reducible repeat' (first | exact Le.refl _ | apply Le.bind | apply Le.loop | apply Le.t1 | apply Le.t2 | apply ZfQ | intro _)

noncomputable def Zap (f : Vector Int 64) (i : Int) (n4 : Int) (k : Int) : Option ((Int × Int) ⊕ (Int)) :=
  if (decide (0 ≤ k)) = true then
  (shl .i64 n4 1).bind fun q =>
  (ZT f i).bind fun x =>
  (shr .u16 x k).bind fun q2 =>
  if (!((!decide ((Xu .i64 n4 2097152) = 0)) == (decide ((Xu .u16 q2 1) = 1)))) = true then
  some (.inl ((Zef .i64 (Xu .i64 q 4194303) 2097167), (i64 (k - 1))))
  else
  some (.inl ((Xu .i64 q 4194303), (i64 (k - 1))))
  else
  some (.inr n4)
theorem ZeC (f : Vector Int 64) (i : Int) (n4 : Int) (k : Int) : Le (Zap f i n4 k) (Jv f i n4 k) := by
  unfold Zap Jv
  with_reducible repeat' (first | exact Le.refl _ | apply Le.bind | apply Le.ite | intro _)

noncomputable def Zaf (f : Vector Int 64) (n2 : Int) (i : Int) : Option ((Int × Int) ⊕ (Int)) :=
  if (decide (i < 62)) = true then
  ((Qk (t2 (Zap f i)) (n2, 11)) : Option ((Int))).bind (t1 fun (n3 : Int) =>
  some (.inl (n3, (i64 (i + 1)))))
  else
  some (.inr n2)
theorem ZeE (f : Vector Int 64) (n2 : Int) (i : Int) : Le (Zaf f n2 i) (JF f n2 i) := by
  unfold Zaf JF
  with_reducible repeat' (first | exact Le.refl _ | apply Le.bind | apply Le.ite | apply Le.loop | apply Le.t1 | apply Le.t2 | apply ZeC | intro _)

noncomputable def Zb4 (f : Vector Int 64) : Option Int :=
  ((Qk (t2 (Zaf f)) (0, 0)) : Option ((Int))).bind (t1 fun (n : Int) =>
  some n)
theorem Zf2 (f : Vector Int 64) : Le (Zb4 f) (J3 f) := by
  unfold Zb4 J3
  with_reducible repeat' (first | exact Le.refl _ | apply Le.bind | apply Le.loop | apply Le.t1 | apply Le.t2 | apply ZeE | intro _)

noncomputable def ZbC (f : Vector Int 64) : Option (List api_Flaw) :=
  ((Qk (t2 (Zbw f)) ([], 0)) : Option (((List api_Flaw)))).bind (t1 fun (out : List api_Flaw) =>
  if (decide (0 < (out.length : Int))) = true then
  some out
  else
  (((ZT f 0).bind fun x2 =>
  (JD f).bind fun y =>
  (rem y 4).bind fun q =>
  (ZT gv_frame_syncs q).bind fun x3 =>
  if (!decide (x2 = x3)) = true then
  (app out ([(api_Flaw.mk 0 1)] : List api_Flaw)).bind fun l2 =>
  some l2
  else
  some out) : Option (((List api_Flaw)))).bind (t1 fun (out3 : List api_Flaw) =>
  ((Qk (t2 (Zbn f)) (out3, 1)) : Option (((List api_Flaw)))).bind (t1 fun (out4 : List api_Flaw) =>
  (((ZT f 61).bind fun x5 =>
  (Xy x5).bind fun y3 =>
  (Zc8 f).bind fun y4 =>
  if (!decide (y3 = y4)) = true then
  (app out4 ([(api_Flaw.mk 61 3)] : List api_Flaw)).bind fun l4 =>
  some l4
  else
  some out4) : Option (((List api_Flaw)))).bind (t1 fun (out6 : List api_Flaw) =>
  (ZT f 62).bind fun x6 =>
  (Xy x6).bind fun y5 =>
  (shl .i64 y5 11).bind fun q2 =>
  (ZT f 63).bind fun x7 =>
  (Xy x7).bind fun y6 =>
  (Zb4 f).bind fun y7 =>
  if (!decide ((bor .i64 q2 y6) = y7)) = true then
  (app out6 ([(api_Flaw.mk 62 4)] : List api_Flaw)).bind fun l5 =>
  some l5
  else
  some out6))))
theorem Zd5 (f : Vector Int 64) : Le (ZbC f) (Zau f) := by
  unfold ZbC Zau
  with_reducible repeat' (first | exact Le.refl _ | apply Le.bind | apply Le.ite | apply Le.loop | apply Le.t1 | apply Le.t2 | apply Zfo | apply ZcQ | apply Zfw | apply Zc7 | apply Zg7 | apply Zf2 | intro _)

noncomputable def ZaE (f : Vector Int 64) : Option (Int × Bool) :=
  (ZT f 1).bind fun x =>
  (ZbL x).bind fun y =>
  (gd ((!y) == false) 0 (ZT f 2)).bind fun x2 =>
  (gd ((!y) == false) false (ZbL x2)).bind fun y2 =>
  if ((!y) || (!y2)) = true then
  some (0, false)
  else
  (JD f).bind fun y3 =>
  some (y3, true)
theorem ZdE (f : Vector Int 64) : Le (ZaE f) (JA f) := by
  unfold ZaE JA
  with_reducible repeat' (first | exact Le.refl _ | apply Le.bind | apply Le.ite | apply Le.gd | apply ZfP | apply ZcQ | intro _)

noncomputable def ZaS (number : Int) (memories : Int) (copies : Int) (out2 : List Int) (i : Int) : Option (((List Int) × Int) ⊕ ((List Int))) :=
  if (decide (i < copies)) = true then
  (rem (i64 (number + i)) memories).bind fun q =>
  (apz 8 out2 ([q] : List Int)).bind fun l =>
  some (.inl (l, (i64 (i + 1))))
  else
  some (.inr out2)
theorem Ze6 (number : Int) (memories : Int) (copies : Int) (out2 : List Int) (i : Int) : Le (ZaS number memories copies out2 i) (J5 number memories copies out2 i) := by
  unfold ZaS J5
  with_reducible repeat' (first | exact Le.refl _ | apply Le.bind | apply Le.ite | intro _)

noncomputable def Zcv (number : Int) (memories : Int) (copies : Int) : Option (List Int) :=
  ((Qk (t2 (ZaS number memories copies)) ([], 0)) : Option (((List Int)))).bind (t1 fun (out : List Int) =>
  some out)
theorem Zgw (number : Int) (memories : Int) (copies : Int) : Le (Zcv number memories copies) (ZaU number memories copies) := by
  unfold Zcv ZaU
  with_reducible repeat' (first | exact Le.refl _ | apply Le.bind | apply Le.loop | apply Le.t1 | apply Le.t2 | apply Ze6 | intro _)

noncomputable def Xk (b : ring_bank) (k : Int) : Option Bool :=
  (idx b.spots k).bind fun x =>
  (gd ((decide (x.sector < 0)) == false) (ring_spot.mk 0 0) (idx b.spots k)).bind fun x2 =>
  (gd ((decide (x.sector < 0)) == false) (api_Memory.mk 0 0 [] [] []) (idx b.memories k)).bind fun x3 =>
  some ((decide (x.sector < 0)) || (decide (x2.slot = x3.Slots)))
theorem JQ (b : ring_bank) (k : Int) : Le (Xk b k) (QP b k) := by
  unfold Xk QP
  with_reducible repeat' (first | exact Le.refl _ | apply Le.bind | apply Le.gd | intro _)

noncomputable def JP (b : ring_bank) (k : Int) (x : api_Memory) (i : Int) : Option ((Int) ⊕ (Int) ⊕ (Unit)) :=
  if (decide (i < (x.Sectors.length : Int))) = true then
  (idx b.spots k).bind fun x2 =>
  (rem (i64 ((i64 (x2.sector + 1)) + i)) (x.Sectors.length : Int)).bind fun q =>
  (idx x.Bad q).bind fun x3 =>
  (gd ((!x3) == true) 0 (idx x.Wear q)).bind fun x4 =>
  if ((!x3) && (decide (x4 < x.Limit))) = true then
  some (.inr (.inl q))
  else
  some (.inl (i64 (i + 1)))
  else
  some (.inr (.inr ()))
theorem Zej (b : ring_bank) (k : Int) (x : api_Memory) (i : Int) : Le (JP b k x i) (Jk b k x i) := by
  unfold JP Jk
  with_reducible repeat' (first | exact Le.refl _ | apply Le.bind | apply Le.ite | apply Le.gd | intro _)

noncomputable def XP (b : ring_bank) (k : Int) : Option Int :=
  (idx b.memories k).bind fun x =>
  ((Qk (t1 (JP b k x)) 0) : Option ((Int) ⊕ (Unit))).bind (Sum.elim (fun q' => some q') (t0 (some (-1))))
theorem ZaF (b : ring_bank) (k : Int) : Le (XP b k) (Xc b k) := by
  unfold XP Xc
  with_reducible repeat' (first | exact Le.refl _ | apply Le.bind | apply Le.loop | apply Le.t0 | apply Le.t1 | apply Le.elim | apply Zej | intro _)

noncomputable def Ju (b : ring_bank) (l : List Int) (i : Int) : Option ((Int) ⊕ (Int) ⊕ (Unit)) :=
  if (decide (i < (l.length : Int))) = true then
  (idx l i).bind fun x =>
  (Xk b x).bind fun y =>
  (gd (y == true) 0 (XP b x)).bind fun y2 =>
  if (y && (decide (y2 < 0))) = true then
  some (.inr (.inl 4))
  else
  some (.inl (i64 (i + 1)))
  else
  some (.inr (.inr ()))
theorem ZdR (b : ring_bank) (l : List Int) (i : Int) : Le (Ju b l i) (XV b l i) := by
  unfold Ju XV
  with_reducible repeat' (first | exact Le.refl _ | apply Le.bind | apply Le.ite | apply Le.gd | apply JQ | apply ZaF | intro _)

noncomputable def XN (sector : Int) (x : api_Memory) (most2 : Int) (i : Int) : Option ((Int × Int) ⊕ (Int)) :=
  if (decide (i < (x.Sectors.length : Int))) = true then
  (idx x.Sectors i).bind fun x2 =>
  (Jq x2).bind fun y =>
  if (y.2.2 && (!decide (i = sector))) = true then
  some (.inl ((max most2 y.1), (i64 (i + 1))))
  else
  some (.inl (most2, (i64 (i + 1))))
  else
  some (.inr most2)
theorem Zc5 (sector : Int) (x : api_Memory) (most2 : Int) (i : Int) : Le (XN sector x most2 i) (Xm sector x most2 i) := by
  unfold XN Xm
  with_reducible repeat' (first | exact Le.refl _ | apply Le.bind | apply Le.ite | apply Zbb | intro _)

noncomputable def Xw (b : ring_bank) (k : Int) (sector : Int) : Option Int :=
  (((idx b.memories k).bind fun x =>
  Qk (t2 (XN sector x)) (0, 0)) : Option ((Int))).bind (t1 fun (most : Int) =>
  some (i64 (most + 1)))
theorem Zbe (b : ring_bank) (k : Int) (sector : Int) : Le (Xw b k sector) (QN b k sector) := by
  unfold Xw QN
  with_reducible repeat' (first | exact Le.refl _ | apply Le.bind | apply Le.loop | apply Le.t1 | apply Le.t2 | apply Zc5 | intro _)

noncomputable def Jr (b : ring_bank) (l : List Int) (i2 : Int) : Option ((Int) ⊕ (Int) ⊕ (Unit)) :=
  if (decide (i2 < (l.length : Int))) = true then
  (idx l i2).bind fun x2 =>
  (Xk b x2).bind fun y3 =>
  (gd (y3 == true) 0 (XP b x2)).bind fun y4 =>
  (gd (y3 == true) 0 (Xw b x2 y4)).bind fun y5 =>
  if (y3 && (decide (1073741824 < y5))) = true then
  some (.inr (.inl 3))
  else
  some (.inl (i64 (i2 + 1)))
  else
  some (.inr (.inr ()))
theorem ZdV (b : ring_bank) (l : List Int) (i2 : Int) : Le (Jr b l i2) (X2 b l i2) := by
  unfold Jr X2
  with_reducible repeat' (first | exact Le.refl _ | apply Le.bind | apply Le.ite | apply Le.gd | apply JQ | apply ZaF | apply Zbe | intro _)

noncomputable def Za6 (b : ring_bank) (l : List Int) : Option Int :=
  ((Qk (t1 (Ju b l)) 0) : Option ((Int) ⊕ (Unit))).bind (Sum.elim (fun q' => some q') (t0 (((Qk (t1 (Jr b l)) 0) : Option ((Int) ⊕ (Unit))).bind (Sum.elim (fun q' => some q') (t0 (some 0))))))
theorem Ze7 (b : ring_bank) (l : List Int) : Le (Za6 b l) (X5 b l) := by
  unfold Za6 X5
  with_reducible repeat' (first | exact Le.refl _ | apply Le.bind | apply Le.loop | apply Le.t0 | apply Le.t1 | apply Le.elim | apply ZdR | apply ZdV | intro _)

noncomputable def ZbV (f : Vector Int 64) (i : Int) : Option ((Int) ⊕ (Bool) ⊕ (Unit)) :=
  if (decide (i < 64)) = true then
  (ZT f i).bind fun x =>
  if (decide (4095 < x)) = true then
  some (.inr (.inl true))
  else
  some (.inl (i64 (i + 1)))
  else
  some (.inr (.inr ()))
theorem ZfX (f : Vector Int 64) (i : Int) : Le (ZbV f i) (ZbE f i) := by
  unfold ZbV ZbE
  with_reducible repeat' (first | exact Le.refl _ | apply Le.bind | apply Le.ite | intro _)

noncomputable def ZdC (f : Vector Int 64) : Option Bool :=
  ((Qk (t1 (ZbV f)) 0) : Option ((Bool) ⊕ (Unit))).bind (Sum.elim (fun q' => some q') (t0 (some false)))
theorem Zht (f : Vector Int 64) : Le (ZdC f) (Zcz f) := by
  unfold ZdC Zcz
  with_reducible repeat' (first | exact Le.refl _ | apply Le.bind | apply Le.loop | apply Le.t0 | apply Le.t1 | apply Le.elim | apply ZfX | intro _)

noncomputable def ZaL (p : Vector Int 96) (i : Int) (w : Int) : Option (Vector Int 96) :=
  (quo .i64 i 2).bind fun q =>
  (rem i 2).bind fun q2 =>
  if (decide (q2 = 0)) = true then
  (shr .u16 w 4).bind fun q3 =>
  (ZT p (i64 ((i64 (q * 3)) + 1))).bind fun x =>
  (ZT p (i64 (q * 3))).bind fun x2 =>
  (shl .u16 (Xu .u16 w 15) 4).bind fun q4 =>
  (ZT (XM p (i64 (q * 3)) (u8 q3)) (i64 ((i64 (q * 3)) + 1))).bind fun x3 =>
  some (XM (XM p (i64 (q * 3)) (u8 q3)) (i64 ((i64 (q * 3)) + 1)) (bor .u8 (u8 q4) (Xu .u8 x 15)))
  else
  (ZT p (i64 ((i64 (q * 3)) + 1))).bind fun x4 =>
  (shr .u16 w 8).bind fun q5 =>
  (ZT p (i64 ((i64 (q * 3)) + 1))).bind fun x5 =>
  (ZT (XM p (i64 ((i64 (q * 3)) + 1)) (bor .u8 (Xu .u8 x4 240) (u8 q5))) (i64 ((i64 (q * 3)) + 2))).bind fun x6 =>
  some (XM (XM p (i64 ((i64 (q * 3)) + 1)) (bor .u8 (Xu .u8 x4 240) (u8 q5))) (i64 ((i64 (q * 3)) + 2)) (u8 w))
theorem Ze1 (p : Vector Int 96) (i : Int) (w : Int) : Le (ZaL p i w) (X9 p i w) := by
  unfold ZaL X9
  with_reducible repeat' (first | exact Le.refl _ | apply Le.bind | apply Le.ite | intro _)

noncomputable def Zb3 (f : Vector Int 64) (o : Vector Int 96) (i : Int) : Option (((Vector Int 96) × Int) ⊕ ((Vector Int 96))) :=
  if (decide (i < 64)) = true then
  (ZT f i).bind fun x =>
  (ZaL o i x).bind fun y =>
  some (.inl (y, (i64 (i + 1))))
  else
  some (.inr o)
theorem Zf1 (f : Vector Int 64) (o : Vector Int 96) (i : Int) : Le (Zb3 f o i) (ZbB f o i) := by
  unfold Zb3 ZbB
  with_reducible repeat' (first | exact Le.refl _ | apply Le.bind | apply Le.ite | apply Ze1 | intro _)

noncomputable def Zdu (p : Vector Int 96) (f : Vector Int 64) : Option (Vector Int 96) :=
  Qk (t2 (Zb3 f)) (p, 0)
theorem Zhn (p : Vector Int 96) (f : Vector Int 64) : Le (Zdu p f) (Zcx p f) := by
  unfold Zdu Zcx
  with_reducible repeat' (first | exact Le.refl _ | apply Le.bind | apply Le.loop | apply Le.t2 | apply Zf1 | intro _)

noncomputable def Zb6 (f : Vector Int 64) : Option ((List Int) × Int) :=
  (ZdC f).bind fun y =>
  if y = true then
  some ([], 9)
  else
  (Zdu (Vector.replicate 96 0) f).bind fun y2 =>
  (slc y2.toList 0 (96 : Int)).bind fun l =>
  some (l, 0)
theorem ZfZ (f : Vector Int 64) : Le (Zb6 f) (JZ f) := by
  unfold Zb6 JZ
  with_reducible repeat' (first | exact Le.refl _ | apply Le.bind | apply Le.ite | apply Zht | apply Zhn | intro _)

noncomputable def Jh (q : Int) (o2 : List Int) (i : Int) : Option (((List Int) × Int) ⊕ ((List Int))) :=
  if (decide (i < ((Int.toNat (q - 0) : Nat) : Int))) = true then
  (ck (decide ((0 : Int) ≤ i) && decide (i < ((Int.toNat (q - 0) : Nat) : Int)))).bind fun u2 =>
  (idx o2 (0 + i)).bind fun x2 =>
  some (.inl ((o2.set (0 + i).toNat 255), (i64 (i + 1))))
  else
  some (.inr o2)
theorem Zdz (q : Int) (o2 : List Int) (i : Int) : Le (Jh q o2 i) (Qr q o2 i) := by
  unfold Jh Qr
  with_reducible repeat' (first | exact Le.refl _ | apply Le.bind | apply Le.ite | intro _)

noncomputable def Jf (s : List Int) (o4 : List Int) (i2 : Int) : Option (((List Int) × Int) ⊕ ((List Int))) :=
  if (decide (i2 < (s.length : Int))) = true then
  (idx o4 i2).bind fun x3 =>
  some (.inl ((o4.set i2.toNat 255), (i64 (i2 + 1))))
  else
  some (.inr o4)
theorem Zdk (s : List Int) (o4 : List Int) (i2 : Int) : Le (Jf s o4 i2) (Qn s o4 i2) := by
  unfold Jf Qn
  with_reducible repeat' (first | exact Le.refl _ | apply Le.bind | apply Le.ite | intro _)

noncomputable def Zao (s : List Int) (power : Int) : Option (Int × Bool × (List Int)) :=
  if (decide (power = 0)) = true then
  (quo .i64 (s.length : Int) 2).bind fun q =>
  (slp s 0 q).bind fun u =>
  ((Qk (t2 (Jh q)) (s, 0)) : Option (((List Int)))).bind (t1 fun (o : List Int) =>
  some ((max (i64 (power - 1)) 0), (decide (0 < power)), o))
  else
  ((Qk (t2 (Jf s)) (s, 0)) : Option (((List Int)))).bind (t1 fun (o3 : List Int) =>
  some ((max (i64 (power - 1)) 0), (decide (0 < power)), o3))
theorem ZeH (s : List Int) (power : Int) : Le (Zao s power) (QM s power) := by
  unfold Zao QM
  with_reducible repeat' (first | exact Le.refl _ | apply Le.bind | apply Le.ite | apply Le.loop | apply Le.t1 | apply Le.t2 | apply Zdz | apply Zdk | intro _)

noncomputable def Zak (at_ : Int) (data : List Int) (o2 : List Int) (power3 : Int) (i : Int) : Option (((List Int) × Int × Int) ⊕ (Int × Bool × (List Int)) ⊕ ((List Int) × Int)) :=
  if (decide (i < (data.length : Int))) = true then
  (idx data i).bind fun x =>
  if (decide (power3 = 0)) = true then
  (idx o2 (i64 (at_ + i))).bind fun x2 =>
  (idx o2 (i64 (at_ + i))).bind fun x3 =>
  some (.inr (.inl (0, false, (o2.set (i64 (at_ + i)).toNat (Xu .u8 x2 (bor .u8 x 15))))))
  else
  (idx o2 (i64 (at_ + i))).bind fun x4 =>
  (idx o2 (i64 (at_ + i))).bind fun x5 =>
  some (.inl ((o2.set (i64 (at_ + i)).toNat (Xu .u8 x4 x)), (i64 (power3 - 1)), (i64 (i + 1))))
  else
  some (.inr (.inr (o2, power3)))
theorem ZeJ (at_ : Int) (data : List Int) (o2 : List Int) (power3 : Int) (i : Int) : Le (Zak at_ data o2 power3 i) (QL at_ data o2 power3 i) := by
  unfold Zak QL
  with_reducible repeat' (first | exact Le.refl _ | apply Le.bind | apply Le.ite | intro _)

noncomputable def J7 (s : List Int) (at_ : Int) (data : List Int) (power : Int) : Option (Int × Bool × (List Int)) :=
  ((Qk (t3 (Zak at_ data)) (s, power, 0)) : Option ((Int × Bool × (List Int)) ⊕ ((List Int) × Int))).bind (Sum.elim (fun q' => some q') (t2 fun (o : List Int) (power2 : Int) =>
  some (power2, true, o)))
theorem Zde (s : List Int) (at_ : Int) (data : List Int) (power : Int) : Le (J7 s at_ data power) (Xa s at_ data power) := by
  unfold J7 Xa
  with_reducible repeat' (first | exact Le.refl _ | apply Le.bind | apply Le.loop | apply Le.t2 | apply Le.t3 | apply Le.elim | apply ZeJ | intro _)

noncomputable def JN (b : ring_Recorder) (k : Int) (power : Int) : Option (Int × Bool × ring_Recorder) :=
  (idx b.bank.memories k).bind fun x =>
  (XP b.bank k).bind fun y =>
  (Xw b.bank k y).bind fun y2 =>
  (idx x.Wear y).bind fun x2 =>
  (idx x.Wear y).bind fun x3 =>
  (idx x.Sectors y).bind fun x8 =>
  (Zao x8 power).bind fun y3 =>
  if (!y3.2.1) = true then
  some (y3.1, false, (ring_Recorder.mk (ring_bank.mk ((b.bank.memories.set k.toNat (api_Memory.mk x.Slots x.Limit x.Sectors (x.Wear.set y.toNat (i64 (x2 + 1))) x.Bad)).set k.toNat (api_Memory.mk x.Slots x.Limit (x.Sectors.set y.toNat y3.2.2) (x.Wear.set y.toNat (i64 (x2 + 1))) x.Bad)) b.bank.spots) b.copies b.frozen b.stopped b.last b.some_))
  else
  (((idx ((b.bank.memories.set k.toNat (api_Memory.mk x.Slots x.Limit x.Sectors (x.Wear.set y.toNat (i64 (x2 + 1))) x.Bad)).set k.toNat (api_Memory.mk x.Slots x.Limit (x.Sectors.set y.toNat y3.2.2) (x.Wear.set y.toNat (i64 (x2 + 1))) x.Bad)) k).bind fun x14 =>
  (idx x14.Sectors y).bind fun x15 =>
  (idx x14.Sectors y).bind fun x16 =>
  (Zbz y2).bind fun y4 =>
  (J7 x15 0 y4 y3.1).bind fun y5 =>
  if y5.2.1 = true then
  (idx b.bank.spots k).bind fun x22 =>
  some ((((b.bank.memories.set k.toNat (api_Memory.mk x.Slots x.Limit x.Sectors (x.Wear.set y.toNat (i64 (x2 + 1))) x.Bad)).set k.toNat (api_Memory.mk x.Slots x.Limit (x.Sectors.set y.toNat y3.2.2) (x.Wear.set y.toNat (i64 (x2 + 1))) x.Bad)).set k.toNat (api_Memory.mk x14.Slots x14.Limit (x14.Sectors.set y.toNat y5.2.2) x14.Wear x14.Bad)), (b.bank.spots.set k.toNat (ring_spot.mk y 0)), y5.1, y5.2.1)
  else
  some ((((b.bank.memories.set k.toNat (api_Memory.mk x.Slots x.Limit x.Sectors (x.Wear.set y.toNat (i64 (x2 + 1))) x.Bad)).set k.toNat (api_Memory.mk x.Slots x.Limit (x.Sectors.set y.toNat y3.2.2) (x.Wear.set y.toNat (i64 (x2 + 1))) x.Bad)).set k.toNat (api_Memory.mk x14.Slots x14.Limit (x14.Sectors.set y.toNat y5.2.2) x14.Wear x14.Bad)), b.bank.spots, y5.1, y5.2.1)) : Option (((List api_Memory) × (List ring_spot) × Int × Bool))).bind (t4 fun (memories : List api_Memory) (spots : List ring_spot) (power2 : Int) (all : Bool) =>
  some (power2, all, (ring_Recorder.mk (ring_bank.mk memories spots) b.copies b.frozen b.stopped b.last b.some_)))
theorem Zd4 (b : ring_Recorder) (k : Int) (power : Int) : Le (JN b k power) (Xv b k power) := by
  unfold JN Xv
  with_reducible repeat' (first | exact Le.refl _ | apply Le.bind | apply Le.ite | apply Le.t4 | apply ZaF | apply Zbe | apply ZeH | apply Zd7 | apply Zde | intro _)

noncomputable def ZaD (b : ring_Recorder) (k : Int) (data : List Int) (power : Int) : Option (Int × Bool × ring_Recorder) :=
  (((Xk b.bank k).bind fun y =>
  if y = true then
  (JN b k power).bind fun y2 =>
  if (!y2.2.1) = true then
  some (.inl (y2.1, false, y2.2.2))
  else
  some (.inr (y2.2.2.bank.memories, y2.2.2.bank.spots, y2.2.2.copies, y2.2.2.frozen, y2.2.2.stopped, y2.2.2.last, y2.2.2.some_, y2.1))
  else
  some (.inr (b.bank.memories, b.bank.spots, b.copies, b.frozen, b.stopped, b.last, b.some_, power))) : Option ((Int × Bool × ring_Recorder) ⊕ ((List api_Memory) × (List ring_spot) × Int × Bool × Bool × Int × Bool × Int))).bind (Sum.elim (fun q' => some q') (t8 fun (memories : List api_Memory) (spots : List ring_spot) (copies : Int) (frozen : Bool) (stopped : Bool) (last : Int) (some_ : Bool) (power2 : Int) =>
  (idx spots k).bind fun x =>
  (idx memories k).bind fun x2 =>
  (idx x2.Sectors x.sector).bind fun x3 =>
  (idx memories k).bind fun x4 =>
  (idx x2.Sectors x.sector).bind fun x5 =>
  (apz 1 data ([0] : List Int)).bind fun l =>
  (J7 x3 (i64 (16 + (i64 (x.slot * 97)))) l power2).bind fun y3 =>
  some (y3.1, y3.2.1, (ring_Recorder.mk (ring_bank.mk (memories.set k.toNat (api_Memory.mk x2.Slots x2.Limit (x2.Sectors.set x.sector.toNat y3.2.2) x2.Wear x2.Bad)) (spots.set k.toNat (ring_spot.mk x.sector (i64 (x.slot + 1))))) copies frozen stopped last some_))))
theorem Ze9 (b : ring_Recorder) (k : Int) (data : List Int) (power : Int) : Le (ZaD b k data power) (X6 b k data power) := by
  unfold ZaD X6
  with_reducible repeat' (first | exact Le.refl _ | apply Le.bind | apply Le.ite | apply Le.t8 | apply Le.elim | apply JQ | apply Zd4 | apply Zde | intro _)

noncomputable def Xr (y4 : (List Int)) (y6 : (List Int) × Int) (memories2 : List api_Memory) (spots2 : List ring_spot) (copies2 : Int) (frozen2 : Bool) (stopped2 : Bool) (last2 : Int) (some_2 : Bool) (power3 : Int) (i : Int) : Option (((List api_Memory) × (List ring_spot) × Int × Bool × Bool × Int × Bool × Int × Int) ⊕ (Int × Bool × Int × ring_Recorder) ⊕ ((List api_Memory) × (List ring_spot) × Int × Bool × Bool × Int × Bool × Int)) :=
  if (decide (i < (y4.length : Int))) = true then
  (idx y4 i).bind fun x =>
  (slc y6.1 0 (y6.1.length : Int)).bind fun l =>
  (ZaD (ring_Recorder.mk (ring_bank.mk memories2 spots2) copies2 frozen2 stopped2 last2 some_2) x l power3).bind fun y7 =>
  if (!y7.2.1) = true then
  some (.inr (.inl (y7.1, false, 0, (ring_Recorder.mk y7.2.2.bank y7.2.2.copies y7.2.2.frozen true y7.2.2.last y7.2.2.some_))))
  else
  some (.inl (y7.2.2.bank.memories, y7.2.2.bank.spots, y7.2.2.copies, y7.2.2.frozen, y7.2.2.stopped, y7.2.2.last, y7.2.2.some_, y7.1, (i64 (i + 1))))
  else
  some (.inr (.inr (memories2, spots2, copies2, frozen2, stopped2, last2, some_2, power3)))
theorem ZcG (y4 : (List Int)) (y6 : (List Int) × Int) (memories2 : List api_Memory) (spots2 : List ring_spot) (copies2 : Int) (frozen2 : Bool) (stopped2 : Bool) (last2 : Int) (some_2 : Bool) (power3 : Int) (i : Int) : Le (Xr y4 y6 memories2 spots2 copies2 frozen2 stopped2 last2 some_2 power3 i) (Q3 y4 y6 memories2 spots2 copies2 frozen2 stopped2 last2 some_2 power3 i) := by
  unfold Xr Q3
  with_reducible repeat' (first | exact Le.refl _ | apply Le.bind | apply Le.ite | apply Ze9 | intro _)

noncomputable def X1 (r_ : ring_Recorder) (f : Vector Int 64) (power : Int) : Option (Int × Bool × Int × ring_Recorder) :=
  (Jm r_ power).bind fun y =>
  if (!decide (y = 0)) = true then
  some (0, false, y, r_)
  else
  (ZbC f).bind fun y2 =>
  if (decide (0 < (y2.length : Int))) = true then
  some (0, false, 2, r_)
  else
  (ZaE f).bind fun y3 =>
  (Zcv y3.1 (r_.bank.memories.length : Int) r_.copies).bind fun y4 =>
  (Za6 r_.bank y4).bind fun y5 =>
  if (!decide (y5 = 0)) = true then
  some (0, false, y5, r_)
  else
  (Zb6 f).bind fun y6 =>
  ((Qk (t9 (Xr y4 y6)) (r_.bank.memories, r_.bank.spots, r_.copies, r_.frozen, r_.stopped, r_.last, r_.some_, power, 0)) : Option ((Int × Bool × Int × ring_Recorder) ⊕ ((List api_Memory) × (List ring_spot) × Int × Bool × Bool × Int × Bool × Int))).bind (Sum.elim (fun q' => some q') (t8 fun (memories : List api_Memory) (spots : List ring_spot) (copies : Int) (frozen : Bool) (stopped : Bool) (last : Int) (some_ : Bool) (power2 : Int) =>
  some (power2, true, 0, (ring_Recorder.mk (ring_bank.mk memories spots) copies frozen stopped y3.1 true))))
theorem Zdg (r_ : ring_Recorder) (f : Vector Int 64) (power : Int) : Le (X1 r_ f power) (QT r_ f power) := by
  unfold X1 QT
  with_reducible repeat' (first | exact Le.refl _ | apply Le.bind | apply Le.ite | apply Le.loop | apply Le.t8 | apply Le.t9 | apply Le.elim | apply ZdT | apply Zd5 | apply ZdE | apply Zgw | apply Ze7 | apply ZfZ | apply ZcG | intro _)

noncomputable def XD (r_ : ring_Recorder) : Option (List api_Memory) :=
  (ZaT r_.bank.memories).bind fun y =>
  some y
theorem ZcH (r_ : ring_Recorder) : Le (XD r_) (Qz r_) := by
  unfold XD Qz
  with_reducible repeat' (first | exact Le.refl _ | apply Le.bind | apply ZdG | intro _)

noncomputable def ZcC (p : Vector Int 96) (i : Int) : Option Int :=
  (quo .i64 i 2).bind fun q =>
  (rem i 2).bind fun q2 =>
  if (decide (q2 = 0)) = true then
  (ZT p (i64 (q * 3))).bind fun x =>
  (shl .u16 (u16 x) 4).bind fun q3 =>
  (ZT p (i64 ((i64 (q * 3)) + 1))).bind fun x2 =>
  (shr .u16 (u16 x2) 4).bind fun q4 =>
  some (bor .u16 q3 q4)
  else
  (ZT p (i64 ((i64 (q * 3)) + 1))).bind fun x3 =>
  (shl .u16 (Xu .u16 (u16 x3) 15) 8).bind fun q5 =>
  (ZT p (i64 ((i64 (q * 3)) + 2))).bind fun x4 =>
  some (bor .u16 q5 (u16 x4))
theorem Zgx (p : Vector Int 96) (i : Int) : Le (ZcC p i) (ZaI p i) := by
  unfold ZcC ZaI
  with_reducible repeat' (first | exact Le.refl _ | apply Le.bind | apply Le.ite | intro _)

noncomputable def Zb5 (p : Vector Int 96) (f2 : Vector Int 64) (i : Int) : Option (((Vector Int 64) × Int) ⊕ ((Vector Int 64))) :=
  if (decide (i < 64)) = true then
  (ZcC p i).bind fun y =>
  (ZT f2 i).bind fun x =>
  some (.inl ((XM f2 i y), (i64 (i + 1))))
  else
  some (.inr f2)
theorem Zf8 (p : Vector Int 96) (f2 : Vector Int 64) (i : Int) : Le (Zb5 p f2 i) (ZbF p f2 i) := by
  unfold Zb5 ZbF
  with_reducible repeat' (first | exact Le.refl _ | apply Le.bind | apply Le.ite | apply Zgx | intro _)

noncomputable def Zdx (p : Vector Int 96) : Option (Vector Int 64) :=
  ((Qk (t2 (Zb5 p)) ((Vector.replicate 64 0), 0)) : Option (((Vector Int 64)))).bind (t1 fun (f : Vector Int 64) =>
  some f)
theorem Zhp (p : Vector Int 96) : Le (Zdx p) (ZcA p) := by
  unfold Zdx ZcA
  with_reducible repeat' (first | exact Le.refl _ | apply Le.bind | apply Le.loop | apply Le.t1 | apply Le.t2 | apply Zf8 | intro _)

noncomputable def Za8 (b : List Int) : Option ((Vector Int 64) × Int) :=
  if (decide ((b.length : Int) < 96)) = true then
  some ((#v[0, 0, 0, 0, 0, 0, 0, 0, 0, 0, 0, 0, 0, 0, 0, 0, 0, 0, 0, 0, 0, 0, 0, 0, 0, 0, 0, 0, 0, 0, 0, 0, 0, 0, 0, 0, 0, 0, 0, 0, 0, 0, 0, 0, 0, 0, 0, 0, 0, 0, 0, 0, 0, 0, 0, 0, 0, 0, 0, 0, 0, 0, 0, 0] : Vector Int 64), 3)
  else
  (slc b 0 96).bind fun l =>
  (tov 96 l).bind fun v =>
  (Zdx v).bind fun y =>
  some (y, 0)
theorem ZeZ (b : List Int) : Le (Za8 b) (Jb b) := by
  unfold Za8 Jb
  with_reducible repeat' (first | exact Le.refl _ | apply Le.bind | apply Le.ite | apply Zhp | intro _)

noncomputable def Za9 (i : Int) (x : api_Memory) (x2 : Int) (y3 : Int × Bool × Bool) (out6 : List api_Kept) (i3 : Int) : Option (((List api_Kept) × Int) ⊕ ((List api_Kept))) :=
  if (decide (i3 < x.Slots)) = true then
  (idx x.Sectors x2).bind fun x4 =>
  (Zby x4 i3).bind fun y4 =>
  (ZaC y4).bind fun y5 =>
  if (decide (y5 = 1)) = true then
  (slc y4.toList 0 (97 : Int)).bind fun l2 =>
  (Za8 l2).bind fun y6 =>
  (apz 160 out6 ([(api_Kept.mk i x2 y3.1 i3 y6.1)] : List api_Kept)).bind fun l3 =>
  some (.inl (l3, (i64 (i3 + 1))))
  else
  some (.inl (out6, (i64 (i3 + 1))))
  else
  some (.inr out6)
theorem Zfc (i : Int) (x : api_Memory) (x2 : Int) (y3 : Int × Bool × Bool) (out6 : List api_Kept) (i3 : Int) : Le (Za9 i x x2 y3 out6 i3) (Zac i x x2 y3 out6 i3) := by
  unfold Za9 Zac
  with_reducible repeat' (first | exact Le.refl _ | apply Le.bind | apply Le.ite | apply Zd9 | apply ZdO | apply ZeZ | intro _)

noncomputable def ZaO (i : Int) (x : api_Memory) (y2 : (List Int)) (out4 : List api_Kept) (i2 : Int) : Option (((List api_Kept) × Int) ⊕ ((List api_Kept))) :=
  if (decide (i2 < (y2.length : Int))) = true then
  (((idx y2 i2).bind fun x2 =>
  (idx x.Sectors x2).bind fun x3 =>
  (Jq x3).bind fun y3 =>
  Qk (t2 (Za9 i x x2 y3)) (out4, 0)) : Option (((List api_Kept)))).bind (t1 fun (out5 : List api_Kept) =>
  some (.inl (out5, (i64 (i2 + 1)))))
  else
  some (.inr out4)
theorem Ze4 (i : Int) (x : api_Memory) (y2 : (List Int)) (out4 : List api_Kept) (i2 : Int) : Le (ZaO i x y2 out4 i2) (J6 i x y2 out4 i2) := by
  unfold ZaO J6
  with_reducible repeat' (first | exact Le.refl _ | apply Le.bind | apply Le.ite | apply Le.loop | apply Le.t1 | apply Le.t2 | apply Zbb | apply Zfc | intro _)

noncomputable def ZaW (l : List api_Memory) (out2 : List api_Kept) (i : Int) : Option (((List api_Kept) × Int) ⊕ ((List api_Kept))) :=
  if (decide (i < (l.length : Int))) = true then
  (((idx l i).bind fun x =>
  (ZaY x).bind fun y2 =>
  Qk (t2 (ZaO i x y2)) (out2, 0)) : Option (((List api_Kept)))).bind (t1 fun (out3 : List api_Kept) =>
  some (.inl (out3, (i64 (i + 1)))))
  else
  some (.inr out2)
theorem ZeY (l : List api_Memory) (out2 : List api_Kept) (i : Int) : Le (ZaW l out2 i) (Zad l out2 i) := by
  unfold ZaW Zad
  with_reducible repeat' (first | exact Le.refl _ | apply Le.bind | apply Le.ite | apply Le.loop | apply Le.t1 | apply Le.t2 | apply ZdH | apply Ze4 | intro _)

noncomputable def ZcF (l : List api_Memory) : Option ((List api_Kept) × Int) :=
  (J9 l).bind fun y =>
  if (!decide (y = 0)) = true then
  some ([], y)
  else
  ((Qk (t2 (ZaW l)) ([], 0)) : Option (((List api_Kept)))).bind (t1 fun (out : List api_Kept) =>
  some (out, 0))
theorem Zgy (l : List api_Memory) : Le (ZcF l) (Zax l) := by
  unfold ZcF Zax
  with_reducible repeat' (first | exact Le.refl _ | apply Le.bind | apply Le.ite | apply Le.loop | apply Le.t1 | apply Le.t2 | apply Zdd | apply ZeY | intro _)

noncomputable def Zbr (y : (List api_Kept) × Int) (best2 : List (Int × api_Kept)) (numbers2 : List Int) (i : Int) : Option (((List (Int × api_Kept)) × (List Int) × Int) ⊕ ((List (Int × api_Kept)) × (List Int))) :=
  if (decide (i < (y.1.length : Int))) = true then
  (idx y.1 i).bind fun x =>
  (ZbC x.Frame).bind fun y2 =>
  if (decide (0 < (y2.length : Int))) = true then
  some (.inl (best2, numbers2, (i64 (i + 1))))
  else
  (ZaE x.Frame).bind fun y3 =>
  (some (Zfk kqI best2 y3.1)).bind fun o =>
  ((if (!o.isSome) = true then
  (apz 8 numbers2 ([y3.1] : List Int)).bind fun l2 =>
  some l2
  else
  some numbers2) : Option (((List Int)))).bind (t1 fun (numbers3 : List Int) =>
  if ((!o.isSome) || (decide (((o.getD (api_Kept.mk 0 0 0 0 (Vector.replicate 64 0))).Sequence) < x.Sequence))) = true then
  some (.inl ((Zio kqI best2 y3.1 x), numbers3, (i64 (i + 1))))
  else
  some (.inl (best2, numbers3, (i64 (i + 1)))))
  else
  some (.inr (best2, numbers2))
theorem ZfO (y : (List api_Kept) × Int) (best2 : List (Int × api_Kept)) (numbers2 : List Int) (i : Int) : Le (Zbr y best2 numbers2 i) (ZaP y best2 numbers2 i) := by
  unfold Zbr ZaP
  with_reducible repeat' (first | exact Le.refl _ | apply Le.bind | apply Le.ite | apply Le.t1 | apply Zd5 | apply ZdE | intro _)

noncomputable def Zbh (best : List (Int × api_Kept)) (y4 : List Int) (out2 : List (Vector Int 64)) (i2 : Int) : Option (((List (Vector Int 64)) × Int) ⊕ ((List (Vector Int 64)))) :=
  if (decide (i2 < (y4.length : Int))) = true then
  (idx y4 i2).bind fun x2 =>
  (some ((Zfk kqI best x2).getD (api_Kept.mk 0 0 0 0 (Vector.replicate 64 0)))).bind fun o2 =>
  (apz 128 out2 ([o2.Frame] : List (Vector Int 64))).bind fun l3 =>
  some (.inl (l3, (i64 (i2 + 1))))
  else
  some (.inr out2)
theorem Zfm (best : List (Int × api_Kept)) (y4 : List Int) (out2 : List (Vector Int 64)) (i2 : Int) : Le (Zbh best y4 out2 i2) (Za3 best y4 out2 i2) := by
  unfold Zbh Za3
  with_reducible repeat' (first | exact Le.refl _ | apply Le.bind | apply Le.ite | intro _)

noncomputable def Zc6 (l : List api_Memory) : Option ((List (Vector Int 64)) × Int) :=
  (ZcF l).bind fun y =>
  if (!decide (y.2 = 0)) = true then
  some ([], y.2)
  else
  ((Qk (t3 (Zbr y)) (([] : List (Int × api_Kept)), [], 0)) : Option (((List (Int × api_Kept)) × (List Int)))).bind (t2 fun (best : List (Int × api_Kept)) (numbers : List Int) =>
  (ZkO numbers).bind fun y4 =>
  ((Qk (t2 (Zbh best y4)) ([], 0)) : Option (((List (Vector Int 64))))).bind (t1 fun (out : List (Vector Int 64)) =>
  some (out, 0)))
theorem ZgW (l : List api_Memory) : Le (Zc6 l) (ZbM l) := by
  unfold Zc6 ZbM
  with_reducible repeat' (first | exact Le.refl _ | apply Le.bind | apply Le.ite | apply Le.loop | apply Le.t1 | apply Le.t2 | apply Le.t3 | apply Zgy | apply ZfO | apply Zfm | apply ZjL | intro _)

noncomputable def Zea : Option Bool :=
  (mkz 8 58 0).bind fun l =>
  (ZeV 4 l).bind fun y =>
  (Zbj 2 1 3).bind fun y2 =>
  if (!decide (y2.2 = 0)) = true then
  some false
  else
  (Zdq ([y2.1] : List api_Memory) 1).bind (Sum.elim (fun y3 =>
  if (!decide (y3 = 0)) = true then
  some false
  else
  none) (fun y3 =>
  if (!decide (y3.2 = 0)) = true then
  some false
  else
  (X1 y3.1 y.1 109).bind fun y4 =>
  (XD y4.2.2.2).bind fun y5 =>
  (Zc6 y5).bind fun y6 =>
  (gd ((((((decide (y4.1 = 1)) && y4.2.1) && (decide (y4.2.2.1 = 0))) && (decide (y6.2 = 0))) && (decide ((y6.1.length : Int) = 1))) == true) (Vector.replicate 64 0) (idx y6.1 0)).bind fun x =>
  some ((((((decide (y4.1 = 1)) && y4.2.1) && (decide (y4.2.2.1 = 0))) && (decide (y6.2 = 0))) && (decide ((y6.1.length : Int) = 1))) && (decide (x = y.1)))))
theorem ZhK : Le (Zea ) (Zcl ) := by
  unfold Zea Zcl
  with_reducible repeat' (first | exact Le.refl _ | apply Le.bind | apply Le.ite | apply Le.gd | apply Le.elim | apply Zim | apply ZfJ | apply Zhk | apply Zdg | apply ZcH | apply ZgW | intro _)
end Go.Vx

namespace Go.Vx
open Go Go.RowKit
theorem Zln : Zea = some true := by decide +kernel
theorem ZjS : Zcl = some true := ZhK true Zln
end Go.Vx

namespace Go.Vx
open Go Go.RowKit
theorem Zgb {α : Type} {s n : Nat} (h : n ≤ 140737488355328 / s) (z : α) : mkz s (n : Int) z = some (List.replicate n z) := by
  unfold mkz; rw [if_pos ⟨by omega, by simpa using h⟩]; simp
theorem ixr {n k x : Nat} (h : (List.range n)[k]? = some x) : x = k ∧ k < n := by
  have hl := (List.getElem?_eq_some_iff.1 h).1
  rw [List.length_range] at hl
  rw [List.getElem?_range hl] at h
  cases h; exact ⟨rfl, hl⟩
theorem ZjD {β : Type} {n : Nat} {body : List β → Int → Option ((List β × Int) ⊕ List β)} (g : Nat → β)
    (hstep : ∀ (k : Nat) acc, k < n → acc.length = k → body acc k = some (.inl (acc ++ [g k], (k : Int) + 1)))
    (hend : ∀ acc, body acc n = some (.inr acc)) : loop (t2 body) ([], 0) = some ((List.range n).map g) :=
  ZjJ g (fun k x acc hx ha => by obtain ⟨rfl, h⟩ := ixr hx; exact hstep _ acc h ha) (fun acc => by rw [List.length_range]; exact hend acc)
theorem ZhM {α : Type} [DecidableEq α] {a b : List α} {body : Int → Option (Int ⊕ (Bool ⊕ Unit))} (hl : a.length = b.length)
    (h : ∀ (k : Nat) x y, a[k]? = some x → b[k]? = some y → body k = if x = y then some (.inl ((k : Int) + 1)) else some (.inr (.inl false)))
    (hend : body a.length = some (.inr (.inr ()))) : loop (t1 body) 0 = some (if a = b then .inr () else .inl false) := by
  refine (ZjE (xs := a) (fun k => if a.drop k = b.drop k then (.inr () : Bool ⊕ Unit) else .inl false) (fun k x hx => ?_) ?_).trans (by simp)
  · have hk := (List.getElem?_eq_some_iff.1 hx).1
    obtain ⟨y, hy⟩ := ZhV (xs := b) (k := k) (by omega)
    rw [h k x y hx hy, Zep hx, Zep hy]
    by_cases e : x = y
    · left; subst e; refine ⟨by rw [if_pos rfl], ?_⟩
      simp
    · right; rw [if_neg e, if_neg (by simp [e])]
  · rw [hend, if_pos (by rw [List.drop_length, hl, List.drop_length])]
theorem eqI {a b : List Int} (ha : a.length ≤ 9223372036854775807) : QU a b = some (decide (a = b)) := by
  unfold QU
  by_cases hl : a.length = b.length
  · rw [if_neg (by simp [hl]), ZhM (a := a) (b := b) hl (fun k x y hx hy => ?_) (by simp [QZ])]
    · by_cases e : a = b <;> simp [e]
    · have hlt := Zi7 hx
      simp only [QZ, hlt, decide_true, if_true, Zf7 hx, Zf7 hy, Option.bind_some]
      rw [show i64 ((k : Int) + 1) = (k : Int) + 1 from Zc2 (by omega) (by omega)]
      by_cases e : x = y <;> simp [e]
  · rw [if_pos (by simpa using fun e => hl (by omega))]
    rw [decide_eq_false (fun e => hl (by rw [e]))]
theorem eqB {a b : List Bool} (ha : a.length ≤ 9223372036854775807) : Qy a b = some (decide (a = b)) := by
  unfold Qy
  by_cases hl : a.length = b.length
  · rw [if_neg (by simp [hl]), ZhM (a := a) (b := b) hl (fun k x y hx hy => ?_) (by simp [QJ])]
    · by_cases e : a = b <;> simp [e]
    · have hlt := Zi7 hx
      simp only [QJ, hlt, decide_true, if_true, Zf7 hx, Zf7 hy, Option.bind_some]
      rw [show i64 ((k : Int) + 1) = (k : Int) + 1 from Zc2 (by omega) (by omega)]
      by_cases e : x = y <;> simp [e]
  · rw [if_pos (by simpa using fun e => hl (by omega))]
    rw [decide_eq_false (fun e => hl (by rw [e]))]
theorem eqF {a : List (List Int)} (ha : a.length ≤ 9223372036854775807) : ZS a a (fun z0 z1 => ZbT z0 z1) = some true := by
  unfold ZS
  rw [if_neg (by simp), ZhM (a := a) (b := a) rfl (fun k x y hx hy => ?_) (by simp [ZX])]
  · simp
  · have hlt := Zi7 hx
    rw [hx] at hy; cases hy
    simp only [ZX, hlt, decide_true, if_true, Zf7 hx, Option.bind_some, ZbT]
    rw [show i64 ((k : Int) + 1) = (k : Int) + 1 from Zc2 (by omega) (by omega)]
    simp
theorem Zj2 (m : api_Memory) (h1 : m.Sectors.length ≤ 9223372036854775807) (h2 : m.Wear.length ≤ 9223372036854775807) (h3 : m.Bad.length ≤ 9223372036854775807) : X8 m m = some true := by
  unfold X8
  simp [eqF h1, eqI h2, eqB h3, gd]
end Go.Vx

namespace Go.Vx
open Go Go.RowKit
theorem ZjQ {n : Nat} (h : n ≤ 140737488355328) : ZbN (n : Int) = some (List.replicate n 255) := by
  unfold ZbN
  rw [Zgb (by omega), Option.bind_some]
  rw [Zkj (xs := List.replicate n (0 : Int)) (fun _ => (255 : Int)) (fun k x acc hx hl ha => ?_) (fun acc => ?_)]
  · simp
  · refine ⟨_, ?_, rfl⟩
    have hk := Zi7 hx
    unfold ZaK
    rw [if_pos (by simpa using hk), Zf7 ha, Option.bind_some]
    rw [List.length_replicate] at hk
    rw [show i64 ((k : Int) + 1) = (k : Int) + 1 from Zc2 (by omega) (by omega)]; rfl
  · unfold ZaK
    rw [if_neg (by simp)]
theorem Zkl : (List.range 7000).all (fun n => decide (Zcy 1 (n : Int) = some (0, (n : Int)))) = true := by decide +kernel
theorem ZlK {n : Nat} (h : n < 7000) : Zcy 1 (n : Int) = some (0, (n : Int)) := of_decide_eq_true (List.all_eq_true.1 Zkl n (List.mem_range.2 h))
theorem ZlN {n : Nat} (h0 : 0 < n) (h : n < 7000) : Z3 [255] (n : Int) = some (List.replicate n 255) := by
  unfold Z3
  rw [if_neg (by simp)]
  rw [show u64 (([255] : List Int).length : Int) = 1 from rfl, show u64 (n : Int) = (n : Int) from Zle (by omega) (by omega), ZlK h, Option.bind_some]
  rw [if_neg (by first | (simp; done) | (simp; omega))]
  rw [show i64 (0, (n : Int)).2 = (n : Int) from Zc2 (by first | (simp; done) | (simp; omega)) (by first | (simp; done) | (simp; omega)), show mks (n : Int) (0 : Int) = some (List.replicate n 0) from Zgb (by omega) 0, Option.bind_some]
  have hc : Zfi (List.replicate n (0 : Int)) [255] = List.replicate 1 255 ++ List.replicate (n - 1) 0 := by
    obtain ⟨m, rfl⟩ : ∃ m, n = m + 1 := ⟨n - 1, by omega⟩
    unfold Zfi; simp [List.replicate_succ]
  rw [hc, show (((min ([255] : List Int).length (List.replicate n (0 : Int)).length : Nat)) : Int) = ((1 : Nat) : Int) by simp; omega]
  have key : loop (t2 ZV) (List.replicate 1 (255 : Int) ++ List.replicate (n - 1) 0, ((1 : Nat) : Int)) = some (List.replicate n 255) := by
    refine ZgH (body := t2 ZV) (fun s => ∃ k : Nat, 1 ≤ k ∧ k ≤ n ∧ s = (List.replicate k (255 : Int) ++ List.replicate (n - k) 0, (k : Int))) (fun s => n - s.2.toNat) (fun _ => List.replicate n 255) ?_ _ ⟨1, by omega, by omega, rfl⟩
    rintro s ⟨k, h1, h2, rfl⟩
    simp only [ZdK]
    unfold ZV
    have hl : (List.replicate k (255 : Int) ++ List.replicate (n - k) 0).length = n := by simp; omega
    rcases Nat.lt_or_ge k n with hk | hk
    · left
      rw [hl, if_pos (by simpa using hk)]
      have s1 : slq (List.replicate k (255 : Int) ++ List.replicate (n - k) 0) (k : Int) (n : Int) = some () := by
        unfold slq; rw [hl]; have e1 : (k : Int) ≤ n := by omega
        have e2 : 0 < n := by omega
        simp [e1, e2]; rfl
      have s2 : slq (List.replicate k (255 : Int) ++ List.replicate (n - k) 0) 0 (k : Int) = some () := by
        unfold slq; rw [hl]; have e1 : (k : Int) ≤ n := by omega
        have e2 : 0 < n := by omega
        simp [e1, e2]; rfl
      rw [s1, s2]
      simp only [Option.bind_some, Int.sub_zero, Int.toNat_natCast]
      have e3 : Int.toNat ((n : Int) - (k : Int)) = n - k := by omega
      rw [e3]
      refine ⟨_, rfl, ⟨k + min k (n - k), by omega, by omega, ?_⟩, ?_, trivial⟩
      · rw [show i64 ((k : Int) + ((min k (n - k) : Nat) : Int)) = ((k + min k (n - k) : Nat) : Int) from (Zc2 (by omega) (by omega)).trans (by push_cast; rfl)]
        congr 1
        unfold cpy
        have a1 : (List.replicate k (255 : Int) ++ List.replicate (n - k) 0).take k = List.replicate k 255 := by
          rw [List.take_append_of_le_length (by simp)]; simp
        have a2 : ((List.replicate k (255 : Int) ++ List.replicate (n - k) 0).drop (Int.toNat 0)).take (min k (n - k)) = List.replicate (min k (n - k)) 255 := by
          simp only [Int.toNat_zero, List.drop_zero]
          rw [List.take_append_of_le_length (by simp; omega)]; first | (simp; done) | (simp; omega)
        have a3 : (List.replicate k (255 : Int) ++ List.replicate (n - k) 0).drop (k + min k (n - k)) = List.replicate (n - (k + min k (n - k))) 0 := by
          rw [List.drop_append, List.drop_of_length_le (by simp)]; first | (simp; done) | (simp; omega)
        rw [a1, a2, a3, ← List.append_assoc, List.replicate_append_replicate]
      · simp only
        rw [show i64 ((k : Int) + ((min k (n - k) : Nat) : Int)) = ((k + min k (n - k) : Nat) : Int) from (Zc2 (by omega) (by omega)).trans (by push_cast; rfl)]
        simp only [Int.toNat_natCast]; omega
    · right
      have : k = n := by omega
      subst this
      rw [hl, if_neg (by simp)]; simp
  rw [key]; rfl
def ZiV (sectors slots limit : Int) : api_Memory :=
  ⟨slots, limit, (List.range sectors.toNat).map fun _ => List.replicate (16 + slots * 97).toNat 255, List.replicate sectors.toNat 0, List.replicate sectors.toNat false⟩
theorem ZkN {slots : Int} (h : 1 ≤ slots ∧ slots ≤ 64) : i64 (16 + i64 (slots * 97)) = ((16 + slots * 97).toNat : Int) ∧ 0 < (16 + slots * 97).toNat ∧ (16 + slots * 97).toNat < 7000 := by
  refine ⟨?_, by omega, by omega⟩
  rw [show i64 (slots * 97) = slots * 97 from Zc2 (by omega) (by omega), show i64 (16 + slots * 97) = 16 + slots * 97 from Zc2 (by omega) (by omega)]; omega
theorem Zh5 {sectors slots : Int} {row : List Int} (h : 0 ≤ sectors ∧ sectors ≤ 64) {body : List (List Int) → Int → Option ((List (List Int) × Int) ⊕ List (List Int))}
    (hb : ∀ acc i, body acc i = if (decide (i < sectors)) = true then (((app acc [row]).bind fun l3 => some l3)).bind (t1 fun z => some (.inl (z, i64 (i + 1)))) else some (.inr acc)) :
    loop (t2 body) ([], 0) = some ((List.range sectors.toNat).map fun _ => row) := by
  refine ZjD (fun _ => row) (fun k acc hk ha => ?_) (fun acc => ?_)
  · rw [hb, if_pos (by simp; omega), Zlh (by simp; omega)]
    simp only [Option.bind_some, Zke]
    rw [show i64 ((k : Int) + 1) = (k : Int) + 1 from Zc2 (by omega) (by omega)]
  · rw [hb, if_neg (by simp; omega)]
theorem ZlJ {sectors slots limit : Int} (h1 : 2 ≤ sectors ∧ sectors ≤ 64) (h2 : 1 ≤ slots ∧ slots ≤ 64) (h3 : 1 ≤ limit ∧ limit ≤ 1000000) :
    Qa sectors slots limit = some (ZiV sectors slots limit, 0) := by
  obtain ⟨e, r0, r1⟩ := ZkN h2
  unfold Qa Z6
  rw [Zh5 (sectors := sectors) (slots := slots) (row := List.replicate (16 + slots * 97).toNat 255) (by omega) (fun acc i => ?_)]
  · obtain ⟨n, rfl⟩ := Int.eq_ofNat_of_zero_le (show 0 ≤ sectors by omega)
    rw [Zgb (by omega), Zgb (by omega)]
    simp [h1.1, h1.2, h2.1, h2.2, h3.1, h3.2, gd, ZiV, t2]
  · unfold Q1 QO
    rw [e]
    simp only [Option.bind_some, ZlN r0 r1]
theorem Zlp {sectors slots limit : Int} (h1 : 2 ≤ sectors ∧ sectors ≤ 64) (h2 : 1 ≤ slots ∧ slots ≤ 64) (h3 : 1 ≤ limit ∧ limit ≤ 1000000) :
    Xl sectors slots limit = some (ZiV sectors slots limit, 0) := by
  obtain ⟨e, r0, r1⟩ := ZkN h2
  unfold Xl XX
  rw [Zh5 (sectors := sectors) (slots := slots) (row := List.replicate (16 + slots * 97).toNat 255) (by omega) (fun acc i => ?_)]
  · obtain ⟨n, rfl⟩ := Int.eq_ofNat_of_zero_le (show 0 ≤ sectors by omega)
    rw [Zgb (by omega), Zgb (by omega)]
    have a1 : ¬ ((n : Int) < 2) := by omega
    have a2 : ¬ (64 < (n : Int)) := by omega
    have a3 : ¬ (slots < 1) := by omega
    have a4 : ¬ (64 < slots) := by omega
    have a5 : ¬ (limit < 1) := by omega
    have a6 : ¬ (1000000 < limit) := by omega
    simp [a1, a2, a3, a4, a5, a6, gd, ZiV, t2]
  · unfold ZaA
    rw [e, ZjQ (by omega)]
    simp only [Option.bind_some]
theorem Zlt {sectors slots limit : Int} (h : ¬ ((2 ≤ sectors ∧ sectors ≤ 64) ∧ (1 ≤ slots ∧ slots ≤ 64) ∧ (1 ≤ limit ∧ limit ≤ 1000000))) :
    Qa sectors slots limit = some (⟨0, 0, [], [], []⟩, 9) ∧ Xl sectors slots limit = some (⟨0, 0, [], [], []⟩, 9) := by
  have hn : ∀ {x a b : Int}, (decide (x < a) || decide (b < x)) = !(decide (a ≤ x) && decide (x ≤ b)) := by
    intro x a b
    by_cases h1 : a ≤ x <;> by_cases h2 : x ≤ b <;> simp [h1, h2] <;> omega
  unfold Qa Z6 Xl XX
  simp only [hn, Option.bind_some]
  generalize hA : (decide (2 ≤ sectors) && decide (sectors ≤ 64)) = A
  generalize hB : (decide (1 ≤ slots) && decide (slots ≤ 64)) = B
  generalize hC : (decide (1 ≤ limit) && decide (limit ≤ 1000000)) = C
  have : ¬ (A = true ∧ B = true ∧ C = true) := by
    rintro ⟨rfl, rfl, rfl⟩
    simp at hA hB hC
    exact h ⟨hA, hB, hC⟩
  cases A <;> cases B <;> cases C <;> simp_all [gd]
theorem ZjB (sectors slots limit : Int) : Q4 sectors slots limit = some true := by
  unfold Q4
  by_cases h : (2 ≤ sectors ∧ sectors ≤ 64) ∧ (1 ≤ slots ∧ slots ≤ 64) ∧ (1 ≤ limit ∧ limit ≤ 1000000)
  · obtain ⟨h1, h2, h3⟩ := h
    rw [ZlJ h1 h2 h3, Zlp h1 h2 h3]
    simp only [Option.bind_some]
    rw [Zj2 _ (by simp [ZiV]; omega) (by simp [ZiV]; omega) (by simp [ZiV]; omega), ZjS]
    simp [gd]
  · obtain ⟨e1, e2⟩ := Zlt h
    rw [e1, e2]
    simp only [Option.bind_some]
    rw [Zj2 _ (by simp) (by simp) (by simp), ZjS]
    simp [gd]
end Go.Vx
