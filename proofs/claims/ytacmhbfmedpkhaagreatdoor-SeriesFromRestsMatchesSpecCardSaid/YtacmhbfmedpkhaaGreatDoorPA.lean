/- A text of the proof: a verified executor of the program form, or the contracts of the functions that the law reaches. -/
import Derived.Test.YtacmhbfmedpkhaaGreatDoorShLib
import Derived.Test.YtacmhbfmedpkhaaGreatDoorShT
import Derived.Test.YtacmhbfmedpkhaaGreatDoorVH
import Derived.Test.YtacmhbfmedpkhaaGreatDoorVP
set_option linter.all false
namespace Go.Vx
open Go Go.RowKit
theorem Q2 {z : Int} (h1 : -9223372036854775808 ≤ z) (h2 : z ≤ 9223372036854775807) : IntKind.i64.wrap z = z := w64 h1 h2
theorem Zq7 {z : Int} (h1 : 0 ≤ z) (h2 : z < 18446744073709551616) : IntKind.u64.wrap z = z := ZsC h1 h2
@[simp] theorem ZhM {α : Type} {d : α} {o : Option α} : gd true d o = o := rfl
@[simp] theorem Zl7 {α : Type} {d : α} {o : Option α} : gd false d o = some d := rfl
@[simp] theorem Zgk {α : Type} {d : α} {o : Option α} : gd (true == true) d o = o := rfl
theorem ZD {α : Type} {xs : List α} {k : Nat} {x : α} (h : xs[k]? = some x) : idx xs (k : Int) = some x := by simp [idx, h]
theorem QU {α : Type} {xs : List α} {k : Nat} {x : α} (h : xs[k]? = some x) : (k : Int) < (xs.length : Int) := by
  have := (List.getElem?_eq_some_iff.1 h).1; omega
theorem ZU {α : Type} {xs : List α} {k : Nat} (h : k < xs.length) : ∃ x, xs[k]? = some x := ⟨xs[k], List.getElem?_eq_getElem h⟩
theorem ZN {α : Type} {xs : List α} {k : Nat} {x : α} (h : xs[k]? = some x) : xs.drop k = x :: xs.drop (k + 1) := by
  obtain ⟨hk, rfl⟩ := List.getElem?_eq_some_iff.1 h
  exact List.drop_eq_getElem_cons hk
theorem XJ {α : Type} {xs ys : List α} (h : xs.length + ys.length ≤ 4294967296) : app xs ys = some (xs ++ ys) := by simp [app, h]

section loops
variable {σ ρ : Type}
theorem JR {body : σ → Option (σ ⊕ ρ)} (I : σ → Prop) (μ : σ → Nat) (F : σ → ρ) (step : ∀ s, I s → (∃ s', body s = some (.inl s') ∧ I s' ∧ μ s' < μ s ∧ F s = F s') ∨ body s = some (.inr (F s))) :
    ∀ s, I s → loop body s = some (F s) := by
  intro s hs
  obtain ⟨r, h1, h2⟩ := ZdD (body := body) (fun s' => I s' ∧ F s = F s') μ (fun r => r = F s) (fun s' ⟨h1, h2⟩ => by
    rcases step s' h1 with ⟨s2, e1, e2, e3, e4⟩ | e
    · exact .inl ⟨s2, e1, ⟨e2, h2.trans e4⟩, e3⟩
    · exact .inr ⟨_, e, h2.symm⟩) s ⟨hs, rfl⟩
  rw [h1, h2]
variable {α : Type} {xs : List α}
theorem ZfI {body : Int → Option (Int ⊕ ρ)} (F : Nat → ρ)
    (hstep : ∀ (k : Nat) x, xs[k]? = some x → (body k = some (.inl ((k : Int) + 1)) ∧ F k = F (k + 1)) ∨ body k = some (.inr (F k)))
    (hend : body xs.length = some (.inr (F xs.length))) : loop (t1 body) 0 = some (F 0) := by
  refine JR (body := t1 body) (fun i => ∃ k : Nat, i = k ∧ k ≤ xs.length) (fun i => xs.length - i.toNat) (fun i => F i.toNat) ?_ 0 ⟨0, rfl, Nat.zero_le _⟩
  rintro i ⟨k, rfl, hk⟩
  simp only [Int.toNat_natCast, JA]
  rcases Nat.lt_or_ge k xs.length with h | h
  · obtain ⟨x, hx⟩ := ZU h
    rcases hstep k x hx with ⟨h1, h2⟩ | h1
    · exact .inl ⟨_, h1, ⟨k + 1, by push_cast; rfl, h⟩, by omega, by rw [h2]; rfl⟩
    · exact .inr h1
  · have : k = xs.length := by omega
    subst this
    exact .inr hend
theorem Zdw {body : σ → Int → Option ((σ × Int) ⊕ ρ)} (I : σ → Nat → Prop) (F : σ → Nat → ρ)
    (hstep : ∀ a (k : Nat) x, I a k → xs[k]? = some x → (∃ a', body a k = some (.inl (a', (k : Int) + 1)) ∧ I a' (k + 1) ∧ F a k = F a' (k + 1)) ∨ body a k = some (.inr (F a k)))
    (hend : ∀ a, I a xs.length → body a xs.length = some (.inr (F a xs.length))) {a0 : σ} (h0 : I a0 0) : loop (t2 body) (a0, 0) = some (F a0 0) := by
  refine JR (body := t2 body) (fun p => ∃ k : Nat, p.2 = k ∧ k ≤ xs.length ∧ I p.1 k) (fun p => xs.length - p.2.toNat) (fun p => F p.1 p.2.toNat) ?_ (a0, 0) ⟨0, rfl, Nat.zero_le _, h0⟩
  rintro ⟨a, i⟩ ⟨k, hi, hk, hI⟩
  simp only at hi hI
  subst hi
  simp only [Int.toNat_natCast, Zaf]
  rcases Nat.lt_or_ge k xs.length with h | h
  · obtain ⟨x, hx⟩ := ZU h
    rcases hstep a k x hI hx with ⟨a', h1, h2, h3⟩ | h1
    · exact .inl ⟨_, h1, ⟨k + 1, by push_cast; rfl, h, h2⟩, by simp only; omega, by rw [h3]; rfl⟩
    · exact .inr h1
  · have : k = xs.length := by omega
    subst this
    exact .inr (hend a hI)
end loops
end Go.Vx

namespace Go.Vx
open Go Go.RowKit
section err
variable {α ε : Type}
def Zh6 (xs : List α) (k : Nat) : Option α := if k = 0 then none else xs[k - 1]?
def Zhv (g : Option α → α → Option ε) : Option α → List α → Option ε
  | _, [] => none
  | p, x :: tl => match g p x with | some e => some e | none => Zhv g (some x) tl
theorem Zmx {xs : List α} {k : Nat} {x : α} (h : xs[k]? = some x) : Zh6 xs (k + 1) = some x := by simp [Zh6, h]
theorem ZnU {xs : List α} {k : Nat} (hk : 0 < k) (h : k ≤ xs.length) : ∃ y, xs[k - 1]? = some y ∧ Zh6 xs k = some y ∧ idx xs ((k : Int) - 1) = some y := by
  obtain ⟨y, hy⟩ := ZU (xs := xs) (k := k - 1) (by omega)
  refine ⟨y, hy, by simp [Zh6, hy]; omega, ?_⟩
  have : ((k : Int) - 1) = ((k - 1 : Nat) : Int) := by omega
  rw [this, ZD hy]
def Jy {ρ : Type} (A : ε → ρ) (Z : ρ) : Option ε → ρ
  | some e => A e
  | none => Z
@[simp] theorem ZqI {ρ : Type} (A : ε → ρ) (Z : ρ) (e : ε) : Jy A Z (some e) = A e := rfl
@[simp] theorem ZeE {ρ : Type} (A : ε → ρ) (Z : ρ) : Jy A Z none = Z := rfl
theorem ZoC {ρ : Type} {xs : List α} (g : Option α → α → Option ε) (A : ε → ρ) (Z : ρ) {body : Int → Option (Int ⊕ ρ)}
    (h : ∀ (k : Nat) x, xs[k]? = some x → body k = match g (Zh6 xs k) x with | some e => some (.inr (A e)) | none => some (.inl ((k : Int) + 1)))
    (hend : body xs.length = some (.inr Z)) : loop (t1 body) 0 = some (Jy A Z (Zhv g none xs)) := by
  refine ZfI (xs := xs) (fun k => Jy A Z (Zhv g (Zh6 xs k) (xs.drop k))) (fun k x hx => ?_) ?_
  · rw [h k x hx, ZN hx]
    simp only [Zhv]
    cases hg : g (Zh6 xs k) x with
    | some e => right; rfl
    | none => left; exact ⟨rfl, by rw [Zmx hx]⟩
  · rw [hend]; simp [Zhv]
theorem ZjV {g : Option α → α → Option ε} : ∀ {p : Option α} {xs : List α}, Zhv g p xs = none → ∀ (k : Nat) x, xs[k]? = some x → g (if k = 0 then p else xs[k - 1]?) x = none
  | p, [], _, k, x, hx => by simp at hx
  | p, y :: tl, h, k, x, hx => by
    simp only [Zhv] at h
    cases hg : g p y with
    | some e => rw [hg] at h; cases h
    | none =>
      rw [hg] at h
      cases k with
      | zero => simp only [List.getElem?_cons_zero, Option.some.injEq] at hx; subst hx; simpa using hg
      | succ k =>
        have := ZjV h k x (by simpa using hx)
        cases k with
        | zero => simpa using this
        | succ k => simpa using this
def Zai (g : α → Option ε) : List α → Option ε
  | [] => none
  | x :: tl => match g x with | some e => some e | none => Zai g tl
theorem Zet {ρ : Type} {xs : List α} (g : α → Option ε) (A : ε → ρ) (Z : ρ) {body : Int → Option (Int ⊕ ρ)}
    (h : ∀ (k : Nat) x, xs[k]? = some x → body k = match g x with | some e => some (.inr (A e)) | none => some (.inl ((k : Int) + 1)))
    (hend : body xs.length = some (.inr Z)) : loop (t1 body) 0 = some (Jy A Z (Zai g xs)) := by
  refine ZfI (xs := xs) (fun k => Jy A Z (Zai g (xs.drop k))) (fun k x hx => ?_) ?_
  · rw [h k x hx, ZN hx]
    simp only [Zai]
    cases hg : g x with
    | some e => right; rfl
    | none => left; exact ⟨rfl, rfl⟩
  · rw [hend]; simp [Zai]
end err
theorem ZlB {α β : Type} {xs : List α} {body : List β → Int → Option ((List β × Int) ⊕ (List β))} (g : α → β)
    (hstep : ∀ (k : Nat) x acc, xs[k]? = some x → acc.length = k → body acc k = some (.inl (acc ++ [g x], (k : Int) + 1)))
    (hend : ∀ acc, body acc xs.length = some (.inr acc)) : loop (t2 body) ([], 0) = some (xs.map g) := by
  refine (JR (body := t2 body) (fun p => ∃ k : Nat, p.2 = k ∧ k ≤ xs.length ∧ p.1.length = k) (fun p => xs.length - p.2.toNat) (fun p => p.1 ++ (xs.drop p.2.toNat).map g) ?_ ([], 0) ⟨0, rfl, Nat.zero_le _, rfl⟩).trans (by simp)
  rintro ⟨acc, i⟩ ⟨k, hi, hk, ha⟩
  simp only at hi ha
  subst hi
  simp only [Zaf, Int.toNat_natCast]
  rcases Nat.lt_or_ge k xs.length with h | h
  · obtain ⟨x, hx⟩ := ZU h
    left
    refine ⟨_, hstep k x acc hx ha, ⟨k + 1, by push_cast; rfl, h, by simp [ha]⟩, by simp only; omega, ?_⟩
    rw [ZN hx]
    simp
  · have : k = xs.length := by omega
    subst this
    right
    rw [hend]; simp
theorem Zoo {α : Type} {xs : List α} {body : List α → Int → Option ((List α × Int) ⊕ (List α))} (g : α → α)
    (hstep : ∀ (k : Nat) x acc, xs[k]? = some x → acc.length = xs.length → acc[k]? = some x → ∃ acc', body acc k = some (.inl (acc', (k : Int) + 1)) ∧ acc' = acc.set k (g x))
    (hend : ∀ acc, body acc xs.length = some (.inr acc)) : loop (t2 body) (xs, 0) = some (xs.map g) := by
  refine (JR (body := t2 body) (fun p => ∃ k : Nat, p.2 = k ∧ k ≤ xs.length ∧ p.1 = (xs.take k).map g ++ xs.drop k) (fun p => xs.length - p.2.toNat) (fun _ => xs.map g) ?_ (xs, 0) ⟨0, rfl, Nat.zero_le _, by simp⟩)
  rintro ⟨acc, i⟩ ⟨k, hi, hk, ha⟩
  simp only at hi ha
  subst hi
  simp only [Zaf]
  rcases Nat.lt_or_ge k xs.length with h | h
  · obtain ⟨x, hx⟩ := ZU h
    left
    have hlen : acc.length = xs.length := by rw [ha]; simp; omega
    have hm : (xs.take k).length = k := by simp; omega
    have hax : acc[k]? = some x := by
      rw [ha, List.getElem?_append_right (by simp; omega)]
      simp [hm, hx, show min k xs.length = k by omega]
    obtain ⟨acc', h1, h2⟩ := hstep k x acc hx hlen hax
    refine ⟨_, h1, ⟨k + 1, by push_cast; rfl, h, ?_⟩, by simp only; omega, trivial⟩
    simp only
    rw [h2, ha, ZN hx]
    have e1 : xs.take (k + 1) = xs.take k ++ [x] := by
      rw [List.take_succ, hx]; rfl
    rw [e1, List.map_append, List.set_append, if_neg (by simp; omega)]
    have : k - ((xs.take k).map g).length = 0 := by simp; omega
    rw [this]
    simp
  · have : k = xs.length := by omega
    subst this
    right
    rw [hend, ha]; simp
end Go.Vx

namespace Go.Vx
open Go Go.RowKit
section
variable {α ε : Type}
def Z5 (g : Nat → α → Option ε) : Nat → List α → Option ε
  | _, [] => none
  | k, x :: tl => match g k x with | some e => some e | none => Z5 g (k + 1) tl
theorem JQ {ρ : Type} {xs : List α} (g : Nat → α → Option ε) (A : ε → ρ) (Z : ρ) {body : Int → Option (Int ⊕ ρ)}
    (h : ∀ (k : Nat) x, xs[k]? = some x → body k = Jy (fun e => some (.inr (A e))) (some (.inl ((k : Int) + 1))) (g k x))
    (hend : body xs.length = some (.inr Z)) : loop (t1 body) 0 = some (Jy A Z (Z5 g 0 xs)) := by
  refine ZfI (xs := xs) (fun k => Jy A Z (Z5 g k (xs.drop k))) (fun k x hx => ?_) ?_
  · rw [h k x hx, ZN hx]
    simp only [Z5]
    cases hg : g k x with
    | some e => right; rfl
    | none => left; exact ⟨rfl, rfl⟩
  · rw [hend]; simp [Z5]
theorem ZhU {g g' : Nat → α → Option ε} : ∀ (k : Nat) (xs : List α), (∀ (j : Nat) x, xs[j]? = some x → g (k + j) x = g' (k + j) x) → Z5 g k xs = Z5 g' k xs
  | _, [], _ => rfl
  | k, x :: tl, h => by
    have h0 := h 0 x rfl
    rw [Nat.add_zero] at h0
    have ih := ZhU (g := g) (g' := g') (k + 1) tl fun j y hy => by
      have := h (j + 1) y (by simpa using hy)
      rwa [show k + (j + 1) = k + 1 + j by omega] at this
    simp only [Z5, h0]
    rw [ih]
theorem Zjh {g : Nat → α → Option ε} : ∀ (k : Nat) (xs : List α), Z5 g k xs = none → ∀ (j : Nat) x, xs[j]? = some x → g (k + j) x = none
  | _, [], _, j, x, hx => by simp at hx
  | k, y :: tl, h, j, x, hx => by
    simp only [Z5] at h
    cases hy : g k y with
    | some e => rw [hy] at h; cases h
    | none =>
      rw [hy] at h
      cases j with
      | zero => simp at hx; subst hx; simpa using hy
      | succ j =>
        have := Zjh (k + 1) tl h j x (by simpa using hx)
        rwa [show k + 1 + j = k + (j + 1) by omega] at this
theorem ZjY {p : α → Bool} : ∀ (k : Nat) (xs : List α), Z5 (fun _ x => if p x then none else some ()) k xs = if xs.all p then none else some ()
  | _, [] => rfl
  | k, x :: tl => by
    have ih := ZjY (p := p) (k + 1) tl
    simp only [Z5, List.all_cons]
    by_cases hp : p x = true
    · simp only [hp, if_true, Bool.true_and]; exact ih
    · have hp' : p x = false := by simpa using hp
      simp [hp']
end
theorem Zpu {k : Nat} {n : Nat} (h : k < n) (hn : n ≤ 9223372036854775807) : i64 ((k : Int) + 1) = (k : Int) + 1 := Q2 (by omega) (by omega)
theorem Zp6 {s : Str} {k : Nat} {b : UInt8} (h : s[k]? = some b) : ZjH s (k : Int) = some ((b.toNat : Nat) : Int) := by simp [ZjH, h]
def lcI (z : Int) : Bool := decide (97 ≤ z) && decide (z ≤ 122)
def nbI (z : Int) : Bool := (lcI z || (decide (48 ≤ z) && decide (z ≤ 57))) || decide (z = 45)
def lcB (b : UInt8) : Bool := lcI (b.toNat : Int)
def nbB (b : UInt8) : Bool := nbI (b.toNat : Int)
theorem Zqr {z : Int} (h : lcI z = true) : nbI z = true := by simp [nbI, h]
theorem ZkX {α : Type} {body : List α → Int → Option ((List α × Int) ⊕ (List α))} (n : Nat) (g : Nat → α)
    (hstep : ∀ (k : Nat) acc, k < n → acc.length = k → body acc k = some (.inl (acc ++ [g k], (k : Int) + 1)))
    (hend : ∀ acc, body acc n = some (.inr acc)) : loop (t2 body) ([], 0) = some ((List.range n).map g) := by
  have := JR (body := t2 body) (fun p => ∃ k : Nat, p.2 = k ∧ k ≤ n ∧ p.1 = (List.range k).map g) (fun p => n - p.2.toNat) (fun _ => (List.range n).map g) (by
    rintro ⟨acc, i⟩ ⟨k, hi, hk, ha⟩
    simp only at hi ha
    subst hi ha
    simp only [Zaf]
    rcases Nat.lt_or_ge k n with h | h
    · left
      refine ⟨_, hstep k _ h (by simp), ⟨k + 1, by push_cast; rfl, h, by simp [List.range_succ]⟩, by simp only; omega, trivial⟩
    · have : k = n := by omega
      subst this
      exact .inr (hend _)) ([], 0) ⟨0, rfl, Nat.zero_le _, rfl⟩
  exact this
end Go.Vx

namespace Go.Vx
open Go Go.RowKit
theorem Zry {s : ByteArray} {i : Nat} (h : (s.get! i).toNat < 128) : Utf8.decode s i = ((s.get! i).toNat, 1) := by
  simp only [Utf8.decode, Nat.add_zero]
  rw [if_pos h]
theorem Zro {s : ByteArray} {i : Nat} (h : ¬ (s.get! i).toNat < 128) : 128 ≤ (Utf8.decode s i).1 := by
  simp only [Utf8.decode, Nat.add_zero]
  rw [if_neg h]
  repeat' split
  all_goals first
    | (simp only [Utf8.runeError]; omega)
    | (simp only [Bool.and_eq_true, decide_eq_true_eq] at *; omega)
    | (simp only; omega)
theorem Zpf {s : Str} {k : Nat} {b : UInt8} (h : s[k]? = some b) : (ByteArray.mk s.toArray).get! k = b := by
  simp [ByteArray.get!, h]
theorem ZmH {p : Nat → Bool} (hp : ∀ x, 128 ≤ x → p x = true) {s : Str} : ∀ (f pos : Nat), s.length ≤ pos + f →
    decide (0 ≤ Lib.idxFuncFrom p true ⟨s.toArray⟩ f pos) = (s.drop pos).any fun b => p b.toNat
  | 0, pos, h => by
    have : s.drop pos = [] := List.drop_eq_nil_of_le (by omega)
    rw [this]; simp [Lib.idxFuncFrom]
  | f + 1, pos, h => by
    have hsz : (ByteArray.mk s.toArray).size = s.length := by simp [ByteArray.size]
    unfold Lib.idxFuncFrom
    rw [hsz]
    rcases Nat.lt_or_ge pos s.length with hl | hl
    · obtain ⟨b, hb⟩ := ZU hl
      rw [if_pos hl, ZN hb, List.any_cons]
      have hg := Zpf hb
      by_cases h8 : b.toNat < 128
      · have hd : Utf8.decode ⟨s.toArray⟩ pos = (b.toNat, 1) := by rw [Zry (by rw [hg]; exact h8), hg]
        rw [hd]
        by_cases hpb : p b.toNat = true
        · rw [if_pos hpb]; simp only [hpb, Bool.true_or]; rw [decide_eq_true_eq]; omega
        · rw [if_neg hpb]
          have hpb' : p b.toNat = false := by simpa using hpb
          rw [hpb', Bool.false_or]
          exact ZmH hp f (pos + 1) (by omega)
      · have hd := Zro (s := ⟨s.toArray⟩) (i := pos) (by rw [hg]; exact h8)
        rw [if_pos (hp _ hd), hp b.toNat (by omega), Bool.true_or, decide_eq_true_eq]; omega
    · have : s.drop pos = [] := List.drop_eq_nil_of_le (by omega)
      rw [if_neg (by omega), this]; simp
theorem ZpE {s : Str} {f : Int → Option Bool} {p : Nat → Bool} (hf : ∀ x : Nat, f x = some (p x)) (hp : ∀ x, 128 ≤ x → p x = true) :
    Za3 s f = some (s.any fun b => p b.toNat) := by
  unfold Za3
  rw [if_pos (fun x _ => by rw [hf]; rfl)]
  have e : (fun x : Nat => (f x).getD false) = p := by funext x; rw [hf]; rfl
  rw [e]
  have := ZmH hp (s := s) s.length 0 (by omega)
  rw [List.drop_zero] at this
  rw [← this]
  have hsz : (ByteArray.mk s.toArray).size = s.length := by simp [ByteArray.size]
  unfold Lib.idxFunc
  rw [hsz]
def nmL (s : Str) : Bool := match s with
  | [] => false
  | c :: tl => decide (tl.length ≤ 29) && lcB c && tl.all nbB
theorem ZnI (x : Nat) : ZbE x = some (!nbI x) := rfl
theorem Zsb (x : Nat) (h : 128 ≤ x) : (!nbI x) = true := by
  have h1 : decide ((x : Int) ≤ 122) = false := by rw [decide_eq_false_iff_not]; omega
  have h2 : decide ((x : Int) ≤ 57) = false := by rw [decide_eq_false_iff_not]; omega
  have h3 : decide ((x : Int) = 45) = false := by rw [decide_eq_false_iff_not]; omega
  unfold nbI lcI
  rw [h1, h2, h3]; simp
theorem ZoE : ∀ s : Str, (s.any fun b => !nbI (b.toNat : Int)) = !(s.all nbB)
  | [] => rfl
  | c :: tl => by
    rw [List.any_cons, List.all_cons, Bool.not_and, ZoE tl]; rfl
theorem Zlo (s : Str) : Zam s = some (nmL s) := by
  unfold Zam
  cases s with
  | nil => simp [nmL, gd]
  | cons c tl =>
    have h0 : ZjH (c :: tl) 0 = some ((c.toNat : Nat) : Int) := rfl
    have h1 : ¬ ((c :: tl).length : Int) < 1 := by simp; omega
    rw [ZpE ZnI Zsb, h0]
    simp only [h1, decide_false, Bool.false_or, nmL]
    by_cases h2 : 30 < ((c :: tl).length : Int)
    · have h3 : ¬ tl.length ≤ 29 := by simp at h2; omega
      simp only [h2, h3, decide_true, decide_false, Bool.true_or, Bool.false_and, if_true]
      simp [gd]
    · have h3 : tl.length ≤ 29 := by simp at h2; omega
      have ea : ((c :: tl).any fun b => !nbI (b.toNat : Int)) = !(nbB c && tl.all nbB) := ZoE (c :: tl)
      rw [ea]
      simp only [h2, h3, decide_false, decide_true, Bool.false_or, ZhM, Option.bind_some, beq_self_eq_true, Bool.true_and]
      by_cases h4 : (c.toNat : Int) < 97
      · have : lcB c = false := by simp [lcB, lcI]; omega
        simp [h4, this, gd]
      · by_cases h5 : 122 < (c.toNat : Int)
        · have : lcB c = false := by simp [lcB, lcI]; omega
          simp [h4, h5, this]
        · have e1 : lcB c = true := by simp [lcB, lcI]; omega
          have e2 : nbB c = true := Zqr e1
          simp [h4, h5, e1, e2]
theorem ZmI (s : Str) (hs : s.length ≤ 9223372036854775807) : ZbT s = some (nmL s) := by
  unfold ZbT
  have hloop : loop (t1 (JM s)) 0 = some (Jy (fun _ => Sum.inl false) (Sum.inr ()) (Z5 (fun k b => if (lcB b || (decide (0 < k) && nbB b)) = true then none else some ()) 0 s)) := by
    refine JQ (xs := s) (body := JM s) _ _ _ (fun k x hx => ?_) (by simp [JM])
    have hlt := QU hx
    have e1 : i64 ((k : Int) + 1) = (k : Int) + 1 := Zpu (n := s.length) (by omega) hs
    simp only [JM, hlt, decide_true, if_true, Zp6 hx, Option.bind_some, e1]
    have e2 : (((decide (97 ≤ ((x.toNat : Nat) : Int))) && (decide (((x.toNat : Nat) : Int) ≤ 122))) || ((decide (0 < (k : Int))) && (((decide (48 ≤ ((x.toNat : Nat) : Int))) && (decide (((x.toNat : Nat) : Int) ≤ 57))) || (decide (((x.toNat : Nat) : Int) = 45))))) = (lcB x || (decide (0 < k) && nbB x)) := by
      show (lcB x || (_ && _)) = _
      have ek : decide (0 < (k : Int)) = decide (0 < k) := by rw [decide_eq_decide]; omega
      rw [ek]
      unfold nbB nbI
      show _ = (lcB x || (_ && ((lcB x || _) || _)))
      cases lcB x <;> simp
    rw [e2]
    cases (lcB x || (decide (0 < k) && nbB x)) <;> simp
  rw [hloop]
  cases s with
  | nil => simp [nmL, Z5]
  | cons c tl =>
    have htl : Z5 (fun k b => if (lcB b || (decide (0 < k) && nbB b)) = true then none else some ()) 1 tl = if tl.all nbB then none else some () := by
      rw [← ZjY 1]
      refine ZhU 1 tl fun j x _ => ?_
      have : decide (0 < 1 + j) = true := decide_eq_true (by omega)
      rw [this, Bool.true_and]
      cases h : lcB x with
      | false => simp
      | true => have : nbB x = true := Zqr h; simp [this]
    simp only [Z5, htl, nmL]
    cases hc : lcB c with
    | false => simp
    | true =>
      cases ha : tl.all nbB with
      | false => simp
      | true =>
        have e1 : decide (1 ≤ ((c :: tl).length : Int)) = true := by rw [decide_eq_true_eq]; simp; omega
        have e2 : decide (((c :: tl).length : Int) ≤ 30) = decide (tl.length ≤ 29) := by rw [decide_eq_decide]; simp; omega
        simp only [e1, e2]; simp
theorem Zis (p : api_Param) : Zcy p = XN p := rfl
end Go.Vx

namespace Go.Vx
open Go Go.RowKit
theorem ZZ {z : Int} (h1 : -9223372036854775808 ≤ z) (h2 : z ≤ 9223372036854775807) : i64 z = z := Q2 h1 h2
theorem Zol {n : Nat} (h : n ≤ 61) : (1 : Int) ≤ 2 ^ n ∧ (2 : Int) ^ n ≤ 2305843009213693952 := by
  have e : ((2 ^ n : Nat) : Int) = (2 : Int) ^ n := by push_cast; rfl
  have h1 : 1 ≤ 2 ^ n := Nat.one_le_two_pow
  have h2 : 2 ^ n ≤ 2 ^ 61 := Nat.pow_le_pow_right (by decide) h
  rw [show (2 : Nat) ^ 61 = 2305843009213693952 by decide] at h2
  omega
theorem ZcX {v : Int} {n : Nat} (hn : n ≤ 61) : Ju .i64 v ((2 : Int) ^ n - 1) = v % (2 : Int) ^ n := by
  have hb := Zol hn
  have e : ((2 : Int) ^ n - 1) = ((2 ^ n - 1 : Nat) : Int) := by
    have h1 : 1 ≤ 2 ^ n := Nat.one_le_two_pow
    have h2 : ((2 ^ n : Nat) : Int) = (2 : Int) ^ n := by push_cast; rfl
    omega
  have h2 : 2 ^ n ≤ 2 ^ 61 := Nat.pow_le_pow_right (by decide) hn
  have h2p : 0 < 2 ^ n := Nat.two_pow_pos n
  have e2 : (BitVec.ofInt 64 ((2 : Int) ^ n - 1)).toNat = 2 ^ n - 1 := by
    rw [e, BitVec.ofInt_natCast, BitVec.toNat_ofNat]
    exact Nat.mod_eq_of_lt (by have : (2 : Nat) ^ 61 < 2 ^ 64 := by decide
                               omega)
  have e3 : ((BitVec.ofInt 64 v).toNat : Int) = v % (2 : Int) ^ 64 := by
    rw [BitVec.toNat_ofInt]
    have : (0 : Int) ≤ v % ((2 ^ 64 : Nat) : Int) := Int.emod_nonneg _ (by decide)
    rw [Int.toNat_of_nonneg this]; rfl
  have e4 : ((BitVec.ofInt 64 v &&& BitVec.ofInt 64 ((2 : Int) ^ n - 1)).toNat : Int) = v % (2 : Int) ^ n := by
    rw [BitVec.toNat_and, e2, Nat.and_two_pow_sub_one_eq_mod]
    push_cast
    rw [e3]
    have : ((2 : Int) ^ n) ∣ (2 : Int) ^ 64 := ⟨(2 : Int) ^ (64 - n), by rw [← Int.pow_add]; congr 1; omega⟩
    exact Int.emod_emod_of_dvd v this
  have hp : (0 : Int) < (2 : Int) ^ n := by omega
  have b1 := Int.emod_nonneg v (show (2 : Int) ^ n ≠ 0 by omega)
  have b2 := Int.emod_lt_of_pos v hp
  unfold Ju
  have : IntKind.i64.bits = 64 := rfl
  rw [this, e4]
  exact ZZ (by omega) (by omega)
theorem Zoc {a b n : Nat} (ha : a < 2 ^ n) (hb : a + 2 ^ n * b < 2 ^ 62) : bor .i64 (a : Int) ((2 ^ n * b : Nat) : Int) = ((a + 2 ^ n * b : Nat) : Int) := by
  unfold bor
  have e0 : IntKind.i64.bits = 64 := rfl
  have h64 : (2 : Nat) ^ 62 < 2 ^ 64 := by decide
  have e1 : (BitVec.ofInt 64 (a : Int)).toNat = a := by
    rw [BitVec.ofInt_natCast, BitVec.toNat_ofNat]; exact Nat.mod_eq_of_lt (by omega)
  have e2 : (BitVec.ofInt 64 ((2 ^ n * b : Nat) : Int)).toNat = 2 ^ n * b := by
    rw [BitVec.ofInt_natCast, BitVec.toNat_ofNat]; exact Nat.mod_eq_of_lt (by omega)
  rw [e0, BitVec.toNat_or, e1, e2, Nat.or_comm, ← Nat.two_pow_add_eq_or_of_lt ha, Nat.add_comm]
  have h62 : (2 : Nat) ^ 62 = 4611686018427387904 := by decide
  exact ZZ (by omega) (by omega)
end Go.Vx

namespace Go.Vx
open Go Go.RowKit
def wiL (n a b : Int) : Bool := decide (a ≤ n) && decide (n ≤ b)
theorem Zhe {n a b : Int} : wiL n a b = true ↔ a ≤ n ∧ n ≤ b := by simp [wiL]
theorem Zek (n a b : Int) : QK n a b = some (wiL n a b) := rfl
theorem Zdz (n a b : Int) : QD n a b = some (!wiL n a b) := by
  unfold QD wiL
  congr 1
  rw [Bool.not_and]
  have e1 : decide (n < a) = !decide (a ≤ n) := by rw [← decide_not, decide_eq_decide]; omega
  have e2 : decide (b < n) = !decide (n ≤ b) := by rw [← decide_not, decide_eq_decide]; omega
  rw [e1, e2]
def bitsN (p : api_Param) : Int := (p.Parts.map (·.Bits)).sum
def Zda (x : api_Part) : Bool := wiL x.Frame 0 15 && wiL x.Word 4 60 && wiL x.Low 0 10 && wiL x.Bits 1 (11 - x.Low)
def lenOK (p : api_Param) : Prop := p.Parts.length ≤ 8 ∧ ∀ x ∈ p.Parts, Zda x = true
theorem Zbu {x : api_Part} : Zda x = true ↔ (0 ≤ x.Frame ∧ x.Frame ≤ 15) ∧ (4 ≤ x.Word ∧ x.Word ≤ 60) ∧ (0 ≤ x.Low ∧ x.Low ≤ 10) ∧ (1 ≤ x.Bits ∧ x.Bits ≤ 11 - x.Low) := by
  simp [Zda, wiL, and_assoc]
theorem Zoy {l : List api_Part} (h : ∀ x ∈ l, Zda x = true) : (l.length : Int) ≤ (l.map (·.Bits)).sum ∧ (l.map (·.Bits)).sum ≤ 11 * (l.length : Int) := by
  induction l with
  | nil => simp
  | cons x l ih =>
    obtain ⟨h1, h2⟩ := ih fun y hy => h y (List.mem_cons_of_mem _ hy)
    have := Zbu.1 (h x List.mem_cons_self)
    simp only [List.map_cons, List.sum_cons, List.length_cons]
    push_cast
    omega
theorem ZgM {p : api_Param} (h : lenOK p) : XN p = some (bitsN p) := by
  have key : loop (t2 (XR p)) (0, 0) = some (bitsN p) := by
    have := Zdw (xs := p.Parts) (body := XR p) (I := fun n k => n + ((p.Parts.drop k).map (·.Bits)).sum = bitsN p ∧ 0 ≤ n ∧ n ≤ 11 * k) (F := fun _ _ => bitsN p)
      (fun n k x hI hx => by
        obtain ⟨h1, h2, h3⟩ := hI
        have hp := Zbu.1 (h.2 x (List.mem_of_getElem? hx))
        have hlt := QU hx
        have h8 := h.1
        rw [ZN hx, List.map_cons, List.sum_cons] at h1
        left
        refine ⟨n + x.Bits, ?_, ⟨by omega, by omega, by push_cast; omega⟩, rfl⟩
        simp only [XR, hlt, decide_true, if_true, ZD hx, Option.bind_some]
        rw [ZZ (by omega) (by omega), ZZ (by omega) (by omega)])
      (fun n hI => by
        obtain ⟨h1, _, _⟩ := hI
        rw [List.drop_length] at h1
        simp at h1
        simp [XR, h1]) (a0 := 0) ⟨by simp [bitsN], by omega, by omega⟩
    exact this
  unfold XN
  rw [key]; rfl
theorem Zne {xs : List Int} {v : Int} (hl : xs.length ≤ 9223372036854775807) : QQ xs v = some (decide (v ∈ xs)) := by
  have key : loop (t1 (Qs xs v)) 0 = some (Jy Sum.inl (Sum.inr ()) (Z5 (fun k x => if v = x then some (k : Int) else none) 0 xs)) := by
    refine JQ (xs := xs) (body := Qs xs v) _ _ _ (fun k x hx => ?_) (by simp [Qs])
    have hlt := QU hx
    simp only [Qs, hlt, decide_true, if_true, ZD hx, Option.bind_some]
    rw [Zpu (n := xs.length) (by omega) hl]
    by_cases h : v = x <;> simp [h]
  have fnd : ∀ (k : Nat) (l : List Int), (v ∈ l ∧ ∃ j : Nat, Z5 (fun k x => if v = x then some (k : Int) else none) k l = some (j : Int)) ∨ (v ∉ l ∧ Z5 (fun k x => if v = x then some (k : Int) else none) k l = none) := by
    intro k l
    induction l generalizing k with
    | nil => right; simp [Z5]
    | cons x l ih =>
      by_cases h : v = x
      · left; subst h; exact ⟨List.mem_cons_self, k, by simp [Z5]⟩
      · rcases ih (k + 1) with ⟨h1, j, h2⟩ | ⟨h1, h2⟩
        · left; exact ⟨List.mem_cons_of_mem _ h1, j, by simp [Z5, h, h2]⟩
        · right; exact ⟨by simp [h, h1], by simp [Z5, h, h2]⟩
  unfold QQ Jr
  rw [key]
  rcases fnd 0 xs with ⟨h1, j, h2⟩ | ⟨h1, h2⟩
  · rw [h2]; simp [h1]
  · rw [h2]; simp [h1]
theorem ZnF {xs : List Str} {v : Str} (hl : xs.length ≤ 9223372036854775807) : Qm xs v = some (decide (v ∈ xs)) := by
  have key : loop (t1 (Z8 xs v)) 0 = some (Jy Sum.inl (Sum.inr ()) (Z5 (fun k x => if v = x then some (k : Int) else none) 0 xs)) := by
    refine JQ (xs := xs) (body := Z8 xs v) _ _ _ (fun k x hx => ?_) (by simp [Z8])
    have hlt := QU hx
    simp only [Z8, hlt, decide_true, if_true, ZD hx, Option.bind_some]
    rw [Zpu (n := xs.length) (by omega) hl]
    by_cases h : v = x <;> simp [h]
  have fnd : ∀ (k : Nat) (l : List Str), (v ∈ l ∧ ∃ j : Nat, Z5 (fun k x => if v = x then some (k : Int) else none) k l = some (j : Int)) ∨ (v ∉ l ∧ Z5 (fun k x => if v = x then some (k : Int) else none) k l = none) := by
    intro k l
    induction l generalizing k with
    | nil => right; simp [Z5]
    | cons x l ih =>
      by_cases h : v = x
      · left; subst h; exact ⟨List.mem_cons_self, k, by simp [Z5]⟩
      · rcases ih (k + 1) with ⟨h1, j, h2⟩ | ⟨h1, h2⟩
        · left; exact ⟨List.mem_cons_of_mem _ h1, j, by simp [Z5, h, h2]⟩
        · right; exact ⟨by simp [h, h1], by simp [Z5, h, h2]⟩
  unfold Qm QX
  rw [key]
  rcases fnd 0 xs with ⟨h1, j, h2⟩ | ⟨h1, h2⟩
  · rw [h2]; simp [h1]
  · rw [h2]; simp [h1]
theorem Zhf {α : Type} {xs : List α} (p : α → Bool) {body : Int → Option (Int ⊕ Int ⊕ Unit)} (e : Int) (hl : xs.length ≤ 9223372036854775807)
    (h : ∀ (k : Nat) x, xs[k]? = some x → i64 ((k : Int) + 1) = (k : Int) + 1 → decide ((k : Int) < (xs.length : Int)) = true → body k = cond (p x) (some (.inl ((k : Int) + 1))) (some (.inr (.inl e))))
    (hend : body xs.length = some (.inr (.inr ()))) : loop (t1 body) 0 = some (if xs.all p = true then .inr () else .inl e) := by
  have := Zet (xs := xs) (fun x => if p x = true then none else some ()) (fun _ => (Sum.inl e : Int ⊕ Unit)) (Sum.inr ()) (body := body) (fun k x hx => by
    rw [h k x hx (Zpu (n := xs.length) (by have := QU hx; omega) hl) (by have := QU hx; simpa using this)]
    by_cases hp : p x = true <;> simp [hp]) hend
  rw [this]
  congr 1
  clear this h hend hl
  induction xs with
  | nil => rfl
  | cons x xs ih =>
    by_cases hp : p x = true
    · simp only [Zai, List.all_cons, hp, if_true, Bool.true_and]; exact ih
    · have : p x = false := by simpa using hp
      simp [Zai, this]
theorem ZjT (p : api_Param) (hl : p.Parts.length ≤ 8) : loop (t1 (Qx p)) 0 = some (if p.Parts.all Zda = true then .inr () else .inl 9) := by
  refine Zhf (xs := p.Parts) Zda 9 (by omega) (fun k x hx hi hlt => ?_) (by simp [Qx])
  simp only [Qx, hlt, if_true, ZD hx, Option.bind_some, Zek, hi, Zda]
  cases wiL x.Frame 0 15
  · rfl
  cases wiL x.Word 4 60
  · rfl
  cases h3 : wiL x.Low 0 10
  · rfl
  have := Zhe.1 h3
  rw [ZZ (by omega) (by omega)]
  cases wiL x.Bits 1 (11 - x.Low) <;> rfl
theorem Zor (p : api_Param) : JY p = Qx p := by
  funext i
  simp only [JY, Qx, Zek, Zdz, Option.bind_some]
  split
  · congr 1; funext x
    cases wiL x.Frame 0 15 <;> cases wiL x.Word 4 60 <;> cases wiL x.Low 0 10 <;> cases wiL x.Bits 1 (i64 (11 - x.Low)) <;> rfl
  · rfl
def stepOK (p : api_Param) (x : api_Part) : Bool := decide (p.Step ≤ 60) && decide (x.Word + (p.Times - 1) * p.Step ≤ 60)
def timA (p : api_Param) : Bool := decide (p.Every ∈ ([1, 2, 4, 8, 16] : List Int)) && wiL p.First 0 (p.Every - 1) && wiL p.Times 1 57 && decide (0 ≤ p.Step) && (decide (p.Step = 0) == decide (p.Times = 1))
def ZgO (p : api_Param) : Int := if timA p = true then (if p.Parts.all (stepOK p) = true then 0 else 9) else 9
def Zge (p : api_Param) : Int := if p.Parts.length = 0 then 13 else if 8 < p.Parts.length then 3 else if p.Parts.all Zda = true then (if 40 < bitsN p then 3 else 0) else 9
theorem XX {p : api_Param} (h : timA p = true) : (p.Every = 1 ∨ p.Every = 2 ∨ p.Every = 4 ∨ p.Every = 8 ∨ p.Every = 16) ∧ (0 ≤ p.First ∧ p.First ≤ p.Every - 1) ∧ (1 ≤ p.Times ∧ p.Times ≤ 57) ∧ 0 ≤ p.Step ∧ (p.Step = 0 ↔ p.Times = 1) := by
  simp only [timA, Bool.and_eq_true, decide_eq_true_eq, Zhe, beq_iff_eq, decide_eq_decide] at h
  obtain ⟨⟨⟨⟨h1, h2⟩, h3⟩, h4⟩, h5⟩ := h
  exact ⟨by simpa using h1, h2, h3, h4, h5⟩
theorem ZmY {t s : Int} (h1 : 1 ≤ t ∧ t ≤ 57) (h2 : 0 ≤ s) (h3 : s ≤ 60) : 0 ≤ (t - 1) * s ∧ (t - 1) * s ≤ 56 * 60 :=
  ⟨Int.mul_nonneg (by omega) h2, Int.mul_le_mul (by omega) h3 h2 (by omega)⟩
theorem Znl {p : api_Param} (hp : lenOK p) (ht : timA p = true) : loop (t1 (Xk p)) 0 = some (if p.Parts.all (stepOK p) = true then .inr () else .inl 9) := by
  obtain ⟨_, _, h3, h4, _⟩ := XX ht
  have h8 := hp.1
  refine Zhf (xs := p.Parts) (stepOK p) 9 (by omega) (fun k x hx hi hlt => ?_) (by simp [Xk])
  simp only [Xk, hlt, if_true, ZD hx, Option.bind_some, hi, stepOK]
  have hx' := Zbu.1 (hp.2 x (List.mem_of_getElem? hx))
  by_cases h6 : p.Step ≤ 60
  · have h7 : ¬ 60 < p.Step := by omega
    have hb := ZmY h3 h4 h6
    rw [ZZ (z := p.Times - 1) (by omega) (by omega), ZZ (z := (p.Times - 1) * p.Step) (by omega) (by omega), ZZ (by omega) (by omega)]
    by_cases h9 : x.Word + (p.Times - 1) * p.Step ≤ 60
    · have : ¬ 60 < x.Word + (p.Times - 1) * p.Step := by omega
      simp [h6, h7, h9, this]
    · have : 60 < x.Word + (p.Times - 1) * p.Step := by omega
      simp [h6, h7, h9, this]
  · have h7 : 60 < p.Step := by omega
    simp [h6, h7]
theorem Zmo {p : api_Param} (hp : lenOK p) (ht : timA p = true) : loop (t1 (XW p)) 0 = some (if p.Parts.all (stepOK p) = true then .inr () else .inl 9) := by
  obtain ⟨_, _, h3, h4, h5⟩ := XX ht
  have h8 := hp.1
  refine Zhf (xs := p.Parts) (stepOK p) 9 (by omega) (fun k x hx hi hlt => ?_) (by simp [XW])
  simp only [XW, hlt, if_true, ZD hx, Option.bind_some, hi, stepOK]
  have hx' := Zbu.1 (hp.2 x (List.mem_of_getElem? hx))
  by_cases h1 : p.Times = 1
  · have hs := h5.2 h1
    rw [hs, h1]
    have h60 : ¬ (60 : Int) < x.Word := by omega
    have h61 : x.Word ≤ 60 := by omega
    rw [ZZ (z := 1 - 1) (by decide) (by decide), ZZ (z := (1 - 1) * 0) (by decide) (by decide), ZZ (by omega) (by omega)]
    simp [h60, h61]
  · have h1' : 1 < p.Times := by omega
    by_cases h6 : p.Step ≤ 57
    · have h7 : ¬ 57 < p.Step := by omega
      have h60 : p.Step ≤ 60 := by omega
      have hb := ZmY h3 h4 h60
      rw [ZZ (z := p.Times - 1) (by omega) (by omega), ZZ (z := (p.Times - 1) * p.Step) (by omega) (by omega), ZZ (by omega) (by omega)]
      by_cases h9 : x.Word + (p.Times - 1) * p.Step ≤ 60
      · have : ¬ 60 < x.Word + (p.Times - 1) * p.Step := by omega
        simp [h6, h7, h9, this, h60]
      · have : 60 < x.Word + (p.Times - 1) * p.Step := by omega
        simp [h6, h7, h9, this]
    · have h7 : 57 < p.Step := by omega
      have hm : 1 * p.Step ≤ (p.Times - 1) * p.Step := Int.mul_le_mul_of_nonneg_right (by omega) h4
      have h9 : ¬ x.Word + (p.Times - 1) * p.Step ≤ 60 := by omega
      simp [h1', h7, h9]
theorem Ziw {p : api_Param} (h1 : ¬ 8 < p.Parts.length) (h2 : p.Parts.all Zda = true) : lenOK p :=
  ⟨by omega, fun x hx => List.all_eq_true.1 h2 x hx⟩
theorem Zej {p : api_Param} (h : Zge p = 0) : lenOK p ∧ 1 ≤ p.Parts.length ∧ bitsN p ≤ 40 := by
  unfold Zge at h
  split at h
  · cases h
  · split at h
    · cases h
    · split at h
      · rename_i h1 h2 h3
        split at h
        · cases h
        · exact ⟨Ziw h2 h3, by omega, by omega⟩
      · cases h
theorem Zom (p : api_Param) : Zaa p = some (Zge p) := by
  unfold Zaa Zge
  by_cases h0 : p.Parts.length = 0
  · have : ((p.Parts.length : Nat) : Int) = 0 := by omega
    simp [h0]
  · have h0' : ¬ ((p.Parts.length : Nat) : Int) = 0 := by omega
    by_cases h8 : 8 < p.Parts.length
    · have h8' : (8 : Int) < ((p.Parts.length : Nat) : Int) := by omega
      rw [if_neg (by simpa using h0'), if_pos (by simpa using h8'), if_neg h0, if_pos h8]
    · have h8' : ¬ (8 : Int) < ((p.Parts.length : Nat) : Int) := by omega
      rw [if_neg (by simpa using h0'), if_neg (by simpa using h8'), if_neg h0, if_neg h8, Zor, ZjT p (by omega)]
      by_cases ha : p.Parts.all Zda = true
      · rw [if_pos ha, if_pos ha, Zis, ZgM (Ziw h8 ha)]
        by_cases hb : 40 < bitsN p <;> simp [hb]
      · rw [if_neg ha, if_neg ha]; rfl
theorem Zps (p : api_Param) : Jo p = some (if Zge p = 0 then ZgO p else Zge p) := by
  unfold Jo Zge
  by_cases h0 : p.Parts.length = 0
  · have : ((p.Parts.length : Nat) : Int) = 0 := by omega
    simp [h0]
  · have h0' : ¬ ((p.Parts.length : Nat) : Int) = 0 := by omega
    by_cases h8 : 8 < p.Parts.length
    · have h8' : (8 : Int) < ((p.Parts.length : Nat) : Int) := by omega
      rw [if_neg (by simpa using h0'), if_pos (by simpa using h8'), if_neg h0, if_pos h8]; rfl
    · have h8' : ¬ (8 : Int) < ((p.Parts.length : Nat) : Int) := by omega
      rw [if_neg (by simpa using h0'), if_neg (by simpa using h8'), if_neg h0, if_neg h8, ZjT p (by omega)]
      by_cases ha : p.Parts.all Zda = true
      · have hp := Ziw h8 ha
        rw [if_pos ha, if_pos ha, ZgM hp]
        by_cases hb : 40 < bitsN p
        · simp [hb]
        · simp only [Option.bind_some, Sum.elim_inr, t0, hb, decide_false, if_false, Zne (by decide : ([1, 2, 4, 8, 16] : List Int).length ≤ 9223372036854775807), Zek, Bool.false_eq_true, if_true]
          have hcond : (∃ a b c, (a = decide (p.Every ∈ ([1, 2, 4, 8, 16] : List Int))) ∧ b = wiL p.First 0 (i64 (p.Every - 1)) ∧ c = wiL p.Times 1 57) := ⟨_, _, _, rfl, rfl, rfl⟩
          by_cases hE : p.Every ∈ ([1, 2, 4, 8, 16] : List Int)
          · have hE' : p.Every = 1 ∨ p.Every = 2 ∨ p.Every = 4 ∨ p.Every = 8 ∨ p.Every = 16 := by simpa using hE
            rw [ZZ (z := p.Every - 1) (by omega) (by omega)]
            by_cases hA : timA p = true
            · have hA' := hA
              simp only [timA, Bool.and_eq_true] at hA'
              obtain ⟨⟨⟨⟨_, a2⟩, a3⟩, a4⟩, a5⟩ := hA'
              have a6 : decide (p.Step < 0) = false := by
                rw [decide_eq_false_iff_not]
                have := of_decide_eq_true a4
                omega
              simp only [hE, decide_true, Bool.not_true, beq_self_eq_true, ZhM, a2, a3, a5, a6, Option.bind_some, Bool.or_false, Bool.false_eq_true, if_false, Znl hp hA, ZgO, hA, if_true]
              by_cases hs : p.Parts.all (stepOK p) = true
              · rw [if_pos hs, if_pos hs]; rfl
              · rw [if_neg hs, if_neg hs]; rfl
            · have hA2 : timA p = false := by simpa using hA
              have e4 : decide (p.Step < 0) = !decide (0 ≤ p.Step) := by rw [← decide_not, decide_eq_decide]; omega
              simp only [timA, hE, decide_true, Bool.true_and] at hA2
              simp only [ZgO, if_neg hA, hE, decide_true, Bool.not_true, e4]
              revert hA2
              cases wiL p.First 0 (p.Every - 1) <;> cases wiL p.Times 1 57 <;> cases decide (0 ≤ p.Step) <;> cases (decide (p.Step = 0) == decide (p.Times = 1)) <;> intro hA2 <;> first | rfl | (exact absurd hA2 (by decide))
          · have hA : ¬ timA p = true := by simp [timA, hE]
            simp only [ZgO, if_neg hA, hE, decide_false, Bool.not_false]
            rfl
      · rw [if_neg ha, if_neg ha]; rfl
theorem ZoZ {p : api_Param} (h : Zge p = 0) : Zae p = some (ZgO p) := by
  obtain ⟨hp, _, _⟩ := Zej h
  unfold Zae
  have e4 : decide (p.Step < 0) = !decide (0 ≤ p.Step) := by rw [← decide_not, decide_eq_decide]; omega
  by_cases hE : p.Every ∈ ([1, 2, 4, 8, 16] : List Int)
  · have hE' : p.Every = 1 ∨ p.Every = 2 ∨ p.Every = 4 ∨ p.Every = 8 ∨ p.Every = 16 := by simpa using hE
    have hsw : ((if (decide (p.Every = 1)) = true then
  if (decide (p.Every = 1)) = true then
  some (.inr ())
  else
  some (.inl 9)
  else
  if (decide (p.Every = 2)) = true then
  if (decide (p.Every = 2)) = true then
  some (.inr ())
  else
  some (.inl 9)
  else
  if (decide (p.Every = 4)) = true then
  if (decide (p.Every = 4)) = true then
  some (.inr ())
  else
  some (.inl 9)
  else
  if (decide (p.Every = 8)) = true then
  if (decide (p.Every = 8)) = true then
  some (.inr ())
  else
  some (.inl 9)
  else
  if (decide (p.Every = 16)) = true then
  some (.inr ())
  else
  some (.inl 9)) : Option ((Int) ⊕ (Unit))) = some (.inr ()) := by
      rcases hE' with h | h | h | h | h <;> rw [h] <;> rfl
    rw [hsw]
    simp only [Option.bind_some, Sum.elim_inr, t0, Zdz]
    rw [ZZ (z := p.Every - 1) (by omega) (by omega), e4]
    by_cases hA : timA p = true
    · have hA' := hA
      simp only [timA, Bool.and_eq_true] at hA'
      obtain ⟨⟨⟨⟨_, a2⟩, a3⟩, a4⟩, a5⟩ := hA'
      simp only [a2, a3, a4, a5, Bool.not_true, beq_self_eq_true, ZhM, Option.bind_some, Bool.or_false, Bool.false_eq_true, if_false, Zmo hp hA, ZgO, hA, if_true]
      by_cases hs : p.Parts.all (stepOK p) = true
      · rw [if_pos hs, if_pos hs]; rfl
      · rw [if_neg hs, if_neg hs]; rfl
    · have hA2 : timA p = false := by simpa using hA
      simp only [timA, hE, decide_true, Bool.true_and] at hA2
      simp only [ZgO, if_neg hA]
      revert hA2
      cases wiL p.First 0 (p.Every - 1) <;> cases wiL p.Times 1 57 <;> cases decide (0 ≤ p.Step) <;> cases (decide (p.Step = 0) == decide (p.Times = 1)) <;> intro hA2 <;> first | rfl | (exact absurd hA2 (by decide))
  · have hA : ¬ timA p = true := by simp [timA, hE]
    have hE' : ¬ p.Every = 1 ∧ ¬ p.Every = 2 ∧ ¬ p.Every = 4 ∧ ¬ p.Every = 8 ∧ ¬ p.Every = 16 := by simpa using hE
    obtain ⟨n1, n2, n4, n8, n16⟩ := hE'
    simp [n1, n2, n4, n8, n16, ZgO, hA]
end Go.Vx

namespace Go.Vx
open Go Go.RowKit
def Ze8 (x : api_Part) : Prop := (wfI .i64) x.Frame ∧ (wfI .i64) x.Word ∧ (wfI .i64) x.Low ∧ (wfI .i64) x.Bits ∧ True
def Xg (x : api_Param) : Prop := wfS x.Name ∧ (wfI .i64) x.Kind ∧ (wfL Ze8) x.Parts ∧ (wfI .i64) x.First ∧ (wfI .i64) x.Every ∧ (wfI .i64) x.Times ∧ (wfI .i64) x.Step ∧ (wfL wfS) x.Names ∧ True
def ZbH (x : api_Map) : Prop := (wfI .i64) x.Version ∧ (wfL Xg) x.Params ∧ True
def Zfg (x : api_Line) : Prop := (wfI .i64) x.From ∧ (wfI .i64) x.To ∧ (wfI .i64) x.A_ ∧ (wfI .i64) x.B ∧ True
def Zgt (x : api_Calibration) : Prop := (wfI .i64) x.Den ∧ (wfL Zfg) x.Lines ∧ (wfI .i64) x.Low ∧ (wfI .i64) x.High ∧ True
def XM (x : api_Rest) : Prop := (wfI .i64) x.Number ∧ (wfV (wfI .u16)) x.Frame ∧ (wfV (wfI .i64)) x.States ∧ wfT x.Sound ∧ (wfI .i64) x.Copies ∧ wfT x.Conflict ∧ True
end Go.Vx


namespace Go.Vx
open Go Go.RowKit
theorem ZnT {y : Int} (h0 : 0 ≤ y) (h1 : y ≤ 61) : shl .i64 1 y = some ((2 : Int) ^ y.toNat) := by
  have e : min y.toNat IntKind.i64.bits = y.toNat := by
    have : IntKind.i64.bits = 64 := rfl
    omega
  have hb := Zol (n := y.toNat) (by omega)
  simp only [shl, if_neg (show ¬ y < 0 by omega), e, Int.one_mul]
  have := ZZ (z := (2 : Int) ^ y.toNat) (by omega) (by omega)
  unfold i64 at this
  rw [this]
def ZeG (p : api_Param) : Bool := (((decide (p.Kind = 4)) && (!decide ((bitsN p).tmod 4 = 0))) || ((decide (p.Kind = 5)) && (!decide (bitsN p = 1)))) || (((decide (p.Kind = 2)) || (decide (p.Kind = 3))) && (decide (bitsN p = 1)))
def nmG (l : List Str) (k : Nat) (x : Str) : Option Int := if nmL x = true then (if x ∈ l.take k then some 5 else none) else some 8
def ZlJ (p : api_Param) : Int := if ZeG p = true then 2 else if p.Kind = 6 then (if p.Names.length = 0 then 13 else if (decide (64 < p.Names.length) || decide ((2 : Int) ^ (bitsN p).toNat < p.Names.length)) = true then 3 else Jy id 0 (Z5 (nmG p.Names) 0 p.Names))
  else if 0 < p.Names.length then 2 else 0
theorem Zpr {α : Type} {xs : List α} {k : Nat} (h : k ≤ xs.length) : slc xs 0 (k : Int) = some (xs.take k) := by
  unfold slc
  rw [if_pos ⟨by omega, by omega, by omega⟩]
  simp
theorem Zmq {p : api_Param} (hl : p.Names.length ≤ 64) : loop (t1 (Xj p)) 0 = some (Jy Sum.inl (Sum.inr ()) (Z5 (nmG p.Names) 0 p.Names)) := by
  refine JQ (xs := p.Names) _ _ _ (fun k x hx => ?_) (by simp [Xj])
  have hlt := QU hx
  have hk : i64 ((k : Int) + 1) = (k : Int) + 1 := ZZ (by omega) (by omega)
  simp only [Xj, hlt, decide_true, if_true, ZD hx, Option.bind_some, Zlo, hk, nmG]
  cases h : nmL x
  · rfl
  · rw [Zpr (by omega), Option.bind_some, ZnF (by rw [List.length_take]; omega)]
    by_cases hm : x ∈ p.Names.take k <;> simp [hm]
theorem ZlK {p : api_Param} (hl : p.Names.length ≤ 64) (hs : ∀ x ∈ p.Names, x.length ≤ 9223372036854775807) : loop (t1 (Ji p)) 0 = some (Jy Sum.inl (Sum.inr ()) (Z5 (nmG p.Names) 0 p.Names)) := by
  refine JQ (xs := p.Names) _ _ _ (fun k x hx => ?_) (by simp [Ji])
  have hlt := QU hx
  have hk : i64 ((k : Int) + 1) = (k : Int) + 1 := ZZ (by omega) (by omega)
  simp only [Ji, hlt, decide_true, if_true, ZD hx, Option.bind_some, ZmI x (hs x (List.mem_of_getElem? hx)), hk, nmG]
  cases h : nmL x
  · rfl
  · have hL := Zhf (xs := p.Names.take k) (fun y => !decide (x = y)) (body := Jl x (p.Names.take k)) 5 (by rw [List.length_take]; omega) (fun j y hy hj hlt2 => by
      simp only [Jl, hlt2, if_true, ZD hy, Option.bind_some, hj]
      by_cases hxy : x = y <;> simp [hxy]) (by simp [Jl])
    rw [Zpr (by omega), Option.bind_some]
    simp only [Bool.not_true, if_false, Bool.false_eq_true]
    rw [hL]
    by_cases hm : x ∈ p.Names.take k
    · have : (p.Names.take k).all (fun y => !decide (x = y)) = false := by
        rw [List.all_eq_false]; exact ⟨x, hm, by simp⟩
      simp [hm, this]
    · have : (p.Names.take k).all (fun y => !decide (x = y)) = true := by
        rw [List.all_eq_true]; intro y hy
        have : x ≠ y := by rintro rfl; exact hm hy
        simp [this]
      simp [hm, this]
theorem ZlS {p : api_Param} {β : Type} (f : Int → Option β) (g : Bool → Option β) (hfg : ∀ q, f q = g ((((decide (p.Kind = 4)) && (!decide (q = 0))) || ((decide (p.Kind = 5)) && (!decide (bitsN p = 1)))) || (((decide (p.Kind = 2)) || (decide (p.Kind = 3))) && (decide (bitsN p = 1))))) :
    (gd ((decide (p.Kind = 4)) == true) 0 (rem (bitsN p) 4)).bind f = g (ZeG p) := by
  by_cases h4 : p.Kind = 4
  · have : rem (bitsN p) 4 = some ((bitsN p).tmod 4) := by simp [rem]
    simp only [h4, decide_true, Zgk, this, Option.bind_some, hfg, ZeG]
  · simp only [h4, decide_false, hfg, ZeG, Bool.false_and, Bool.false_or]
    show (some (0 : Int)).bind f = _
    rw [Option.bind_some, hfg]
    simp only [h4, decide_false, Bool.false_and, Bool.false_or]
theorem Zj0 {p : api_Param} (hb : 0 ≤ bitsN p ∧ bitsN p ≤ 40) {o : Option (Int ⊕ Unit)} (ho : p.Names.length ≤ 64 → o = some (Jy Sum.inl (Sum.inr ()) (Z5 (nmG p.Names) 0 p.Names))) (b : Bool) :
    (if b = true then
  some 2
  else
  if (!decide (p.Kind = 6)) = true then
  if (decide (0 < (p.Names.length : Int))) = true then
  some 2
  else
  some 0
  else
  if (decide ((p.Names.length : Int) = 0)) = true then
  some 13
  else
  (gd ((decide (64 < (p.Names.length : Int))) == false) 0 (shl .i64 1 (bitsN p))).bind fun q2 =>
  if ((decide (64 < (p.Names.length : Int))) || (decide (q2 < (p.Names.length : Int)))) = true then
  some 3
  else
  o.bind (Sum.elim (fun v => some v) (t0 (some 0)))) = some (if b = true then 2 else if p.Kind = 6 then (if p.Names.length = 0 then 13 else if (decide (64 < p.Names.length) || decide ((2 : Int) ^ (bitsN p).toNat < p.Names.length)) = true then 3 else Jy id 0 (Z5 (nmG p.Names) 0 p.Names))
  else if 0 < p.Names.length then 2 else 0) := by
  cases b
  · simp only [Bool.false_eq_true, if_false]
    by_cases h6 : p.Kind = 6
    · by_cases h0 : p.Names.length = 0
      · have : ((p.Names.length : Nat) : Int) = 0 := by omega
        simp [h6, h0]
      · have h0' : ¬ ((p.Names.length : Nat) : Int) = 0 := by omega
        by_cases h64 : 64 < p.Names.length
        · have h64' : (64 : Int) < ((p.Names.length : Nat) : Int) := by omega
          have e : decide (64 < p.Names.length) = true := decide_eq_true h64
          simp only [h6, h0, e, h64', decide_true, decide_false, Bool.not_true, Bool.true_or, if_true, if_false, Bool.false_eq_true, h0']
          rfl
        · have h64' : ¬ (64 : Int) < ((p.Names.length : Nat) : Int) := by omega
          simp only [h6, h0, h64, h64', decide_true, decide_false, Bool.not_true, Bool.false_or, if_true, if_false, Bool.false_eq_true, h0', beq_self_eq_true, ZhM, ZnT hb.1 (by omega : bitsN p ≤ 61), Option.bind_some]
          by_cases h7 : (2 : Int) ^ (bitsN p).toNat < ((p.Names.length : Nat) : Int)
          · simp [h7]
          · simp only [h7, decide_false, Bool.false_eq_true, if_false]
            rw [ho (by omega)]
            cases Z5 (nmG p.Names) 0 p.Names <;> rfl
    · by_cases h0 : 0 < p.Names.length
      · have h0' : (0 : Int) < ((p.Names.length : Nat) : Int) := by omega
        rw [if_neg h6, if_pos h0, if_pos (by simpa using h6), if_pos (by simpa using h0')]
      · have h0' : ¬ (0 : Int) < ((p.Names.length : Nat) : Int) := by omega
        rw [if_neg h6, if_neg h0, if_pos (by simpa using h6), if_neg (by simpa using h0')]
  · rfl
theorem ZmP {p : api_Param} (h : lenOK p) : 0 ≤ bitsN p := by
  have := (Zoy h.2).1
  unfold bitsN; omega
theorem Zp9 {p : api_Param} (h : Zge p = 0) : Jg p = some (ZlJ p) := by
  obtain ⟨hp, _, h40⟩ := Zej h
  unfold Jg
  rw [ZgM hp, Option.bind_some]
  rw [ZlS (g := fun b => some (if b = true then 2 else if p.Kind = 6 then (if p.Names.length = 0 then 13 else if (decide (64 < p.Names.length) || decide ((2 : Int) ^ (bitsN p).toNat < p.Names.length)) = true then 3 else Jy id 0 (Z5 (nmG p.Names) 0 p.Names)) else if 0 < p.Names.length then 2 else 0))]
  · rfl
  · intro q
    exact Zj0 ⟨ZmP hp, h40⟩ Zmq _
theorem ZpB {p : api_Param} (h : Zge p = 0) (hs : ∀ x ∈ p.Names, x.length ≤ 9223372036854775807) : ZaX p = some (ZlJ p) := by
  obtain ⟨hp, _, h40⟩ := Zej h
  unfold ZaX
  rw [Zis, ZgM hp, Option.bind_some]
  rw [ZlS (g := fun b => some (if b = true then 2 else if p.Kind = 6 then (if p.Names.length = 0 then 13 else if (decide (64 < p.Names.length) || decide ((2 : Int) ^ (bitsN p).toNat < p.Names.length)) = true then 3 else Jy id 0 (Z5 (nmG p.Names) 0 p.Names)) else if 0 < p.Names.length then 2 else 0))]
  · rfl
  · intro q
    exact Zj0 ⟨ZmP hp, h40⟩ (fun hl => ZlK hl hs) _
end Go.Vx

namespace Go.Vx
open Go Go.RowKit
theorem ZpO {a b A B : Int} (h0 : 0 ≤ a) (h1 : a ≤ A) (h2 : 0 ≤ b) (h3 : b ≤ B) : 0 ≤ a * b ∧ a * b ≤ A * B :=
  ⟨Int.mul_nonneg h0 h2, Int.mul_le_mul h1 h3 h2 (by omega)⟩
def Zax (p : api_Param) (f : Int) : Bool := p.Parts.all fun x => decide (f + x.Frame < 16)
def stL (p : api_Param) : Nat → Int → List Int
  | 0, _ => []
  | n + 1, f => if f < 16 then (if Zax p f then f :: stL p n (f + p.Every) else stL p n (f + p.Every)) else []
theorem ZkT (p : api_Param) : ∀ n f, (stL p n f).length ≤ n
  | 0, _ => Nat.le_refl _
  | n + 1, f => by
    have := ZkT p n (f + p.Every)
    unfold stL
    split
    · split
      · simp only [List.length_cons]; omega
      · omega
    · simp
theorem Zg1 {p : api_Param} (h1 : 1 ≤ p.Every) : ∀ n f x, 0 ≤ f → x ∈ stL p n f → 0 ≤ x ∧ x < 16 ∧ Zax p x = true
  | 0, _, _, _, hx => by cases hx
  | n + 1, f, x, h0, hx => by
    unfold stL at hx
    split at hx
    · split at hx
      · rcases List.mem_cons.1 hx with rfl | hx
        · exact ⟨h0, by assumption, by assumption⟩
        · exact Zg1 h1 n _ x (by omega) hx
      · exact Zg1 h1 n _ x (by omega) hx
    · cases hx
def Zdy (p : api_Param) (f j : Int) (x : api_Part) : api_Place := ⟨f + x.Frame, x.Word + j * p.Step, x.Low, x.Bits⟩
def Zci (number : Int) (p : api_Param) (idx f : Int) (j : Nat) : api_Cell := ⟨number, idx, f, p.Parts.map (Zdy p f j)⟩
def ZcW (number : Int) (p : api_Param) (out : List api_Cell) (f : Int) : List api_Cell := out ++ (List.range p.Times.toNat).map fun j => Zci number p ((out.length + j : Nat) : Int) f j
def J6 (p : api_Param) : List Int := stL p 17 p.First
def cellsN (number : Int) (p : api_Param) : List api_Cell := (J6 p).foldl (ZcW number p) []
structure PartsOK (p : api_Param) : Prop where
  len : lenOK p
  tim : timA p = true
  stp : ∀ x ∈ p.Parts, stepOK p x = true
theorem Zmb {p : api_Param} (h : PartsOK p) {f : Int} (hf : 0 ≤ f ∧ f < 16) : ZX p.Parts (fun z0 => Je z0 f) = some (!Zax p f) := by
  have h8 := h.len.1
  have key : loop (t1 (ZW p.Parts (fun z0 => Je z0 f))) 0 = some (Jy Sum.inl (Sum.inr ()) (Z5 (fun k (x : api_Part) => if f + x.Frame < 16 then none else some (k : Int)) 0 p.Parts)) := by
    refine JQ (xs := p.Parts) _ _ _ (fun k x hx => ?_) (by simp [ZW])
    have hlt := QU hx
    have hk : i64 ((k : Int) + 1) = (k : Int) + 1 := ZZ (by omega) (by omega)
    have hp := Zbu.1 (h.len.2 x (List.mem_of_getElem? hx))
    have hs : i64 (f + x.Frame) = f + x.Frame := ZZ (by omega) (by omega)
    simp only [ZW, Je, hlt, decide_true, if_true, ZD hx, Option.bind_some, hk, hs]
    by_cases h16 : f + x.Frame < 16
    · have : ¬ 16 ≤ f + x.Frame := by omega
      simp [h16, this]
    · have : 16 ≤ f + x.Frame := by omega
      simp [h16, this]
  have fnd : ∀ (k : Nat) (l : List api_Part), ((l.all fun x => decide (f + x.Frame < 16)) = true ∧ Z5 (fun k (x : api_Part) => if f + x.Frame < 16 then none else some (k : Int)) k l = none) ∨ ((l.all fun x => decide (f + x.Frame < 16)) = false ∧ ∃ j : Nat, Z5 (fun k (x : api_Part) => if f + x.Frame < 16 then none else some (k : Int)) k l = some (j : Int)) := by
    intro k l
    induction l generalizing k with
    | nil => left; exact ⟨rfl, rfl⟩
    | cons x l ih =>
      by_cases hx : f + x.Frame < 16
      · rcases ih (k + 1) with ⟨h1, h2⟩ | ⟨h1, j, h2⟩
        · left; exact ⟨by simp only [List.all_cons, hx, decide_true, Bool.true_and]; exact h1, by simp only [Z5, hx, if_true]; exact h2⟩
        · right; exact ⟨by simp only [List.all_cons, hx, decide_true, Bool.true_and]; exact h1, j, by simp only [Z5, hx, if_true]; exact h2⟩
      · right; exact ⟨by simp [hx], k, by simp [Z5, hx]⟩
  unfold ZX Qn
  rw [key]
  unfold Zax
  rcases fnd 0 p.Parts with ⟨h1, h2⟩ | ⟨h1, j, h2⟩
  · rw [h2, h1]; rfl
  · rw [h2, h1]
    simp [Jy]
theorem ZfG {p : api_Param} (h : PartsOK p) : ∀ (n : Nat) (out : List Int) (f : Int), 0 ≤ f → f ≤ 32 → out.length + n ≤ 100 → 16 - f < n → loop (t2 (QP p)) (out, f) = some (out ++ stL p n f)
  | 0, out, f, h0, h1, h2, h3 => by
    have h16 : ¬ f < 16 := by omega
    rw [ZV]
    simp [QP, h16, stL]
  | n + 1, out, f, h0, h1, h2, h3 => by
    obtain ⟨hE, _⟩ := XX h.tim
    rw [ZV]
    by_cases h16 : f < 16
    · have e : i64 (f + p.Every) = f + p.Every := ZZ (by omega) (by omega)
      simp only [Zaf, QP, h16, decide_true, if_true, Zmb h ⟨h0, h16⟩, Option.bind_some, Bool.not_not, e]
      cases hi : Zax p f
      · simp only [Bool.false_eq_true, if_false, Option.bind_some, t1]
        show loop (t2 (QP p)) (out, f + p.Every) = _
        rw [ZfG h n out _ (by omega) (by omega) (by omega) (by omega)]
        simp [stL, h16, hi]
      · simp only [if_true]
        rw [XJ (by simp; omega)]
        simp only [Option.bind_some, t1]
        show loop (t2 (QP p)) (out ++ [f], f + p.Every) = _
        rw [ZfG h n _ _ (by omega) (by omega) (by simp; omega) (by omega)]
        simp [stL, h16, hi]
    · simp [QP, h16, stL]
theorem Zlz {p : api_Param} (h : PartsOK p) : Zav p = some (J6 p) := by
  obtain ⟨hE, hF, _⟩ := XX h.tim
  unfold Zav
  rw [ZfG h 17 [] p.First (by omega) (by omega) (by simp) (by omega)]
  rfl
theorem Zls {p : api_Param} (h : PartsOK p) {f : Int} (hf : 0 ≤ f ∧ f < 16) {j : Nat} (hj : (j : Int) < p.Times) : loop (t2 (QH p f j)) ([], 0) = some (p.Parts.map (Zdy p f j)) := by
  have h8 := h.len.1
  obtain ⟨_, _, hT, hS, _⟩ := XX h.tim
  refine ZlB (Zdy p f j) (fun k x acc hx ha => ?_) (fun acc => by simp [QH])
  have hlt := QU hx
  have hk : i64 ((k : Int) + 1) = (k : Int) + 1 := ZZ (by omega) (by omega)
  have hp := Zbu.1 (h.len.2 x (List.mem_of_getElem? hx))
  have hst := h.stp x (List.mem_of_getElem? hx)
  simp only [stepOK, Bool.and_eq_true, decide_eq_true_eq] at hst
  have hm := ZpO (a := (j : Int)) (b := p.Step) (A := 57) (B := 60) (by omega) (by omega) hS hst.1
  simp only [QH, hlt, decide_true, if_true, ZD hx, Option.bind_some, ZaT, hk]
  rw [ZZ (z := f + x.Frame) (by omega) (by omega), ZZ (z := (j : Int) * p.Step) (by omega) (by omega), ZZ (z := x.Word + (j : Int) * p.Step) (by omega) (by omega), XJ (by simp; omega)]
  rfl
theorem Zml (p : api_Param) (f : Int) (j : Int) : ZcI p f j = QH p f j := by
  funext l i
  simp only [ZcI, QH, ZaT, Option.bind_some]
theorem ZlZ {number : Int} {p : api_Param} (h : PartsOK p) {f : Int} (hf : 0 ≤ f ∧ f < 16) {body : List api_Cell → Int → Option ((List api_Cell × Int) ⊕ List api_Cell)} (out : List api_Cell) (ho : out.length ≤ 100000)
    (hb : ∀ acc i, body acc i = if decide (i < p.Times) = true then
      ((loop (t2 (QH p f i)) ([], 0)) : Option (((List api_Place)))).bind (t1 fun (Places : List api_Place) =>
      (app acc ([(api_Cell.mk number (acc.length : Int) f Places)] : List api_Cell)).bind fun l2 =>
      some (.inl (l2, (i64 (i + 1)))))
      else some (.inr acc)) : loop (t2 body) (out, 0) = some (ZcW number p out f) := by
  obtain ⟨_, _, hT, _⟩ := XX h.tim
  have hTn : (p.Times.toNat : Int) = p.Times := by omega
  have := JR (body := t2 body) (fun s => ∃ k : Nat, s.2 = k ∧ k ≤ p.Times.toNat ∧ s.1 = out ++ (List.range k).map fun j => Zci number p ((out.length + j : Nat) : Int) f j) (fun s => p.Times.toNat - s.2.toNat) (fun _ => ZcW number p out f) (by
    rintro ⟨acc, i⟩ ⟨k, hi, hk, ha⟩
    simp only at hi ha
    subst hi
    simp only [Zaf, hb]
    rcases Nat.lt_or_ge k p.Times.toNat with hlt | hge
    · left
      have h1 : ((k : Nat) : Int) < p.Times := by omega
      have hlen : acc.length = out.length + k := by rw [ha]; simp
      simp only [h1, decide_true, if_true, Zls h hf h1, Option.bind_some, t1]
      rw [XJ (by simp; omega), ZZ (by omega) (by omega)]
      refine ⟨_, rfl, ⟨k + 1, by push_cast; rfl, hlt, ?_⟩, by simp only; omega, trivial⟩
      simp only [List.range_succ, List.map_append, List.map_cons, List.map_nil]
      rw [← List.append_assoc, ← ha, hlen]
      rfl
    · have : k = p.Times.toNat := by omega
      subst this
      right
      rw [if_neg (by simp; omega), ha]
      rfl) (out, 0) ⟨0, rfl, Nat.zero_le _, by simp⟩
  exact this
theorem Zld {number : Int} {p : api_Param} (hT : p.Times ≤ 57) : ∀ (fs : List Int) (out : List api_Cell), (fs.foldl (ZcW number p) out).length ≤ out.length + 57 * fs.length
  | [], out => by simp
  | f :: fs, out => by
    have := Zld (number := number) hT fs (ZcW number p out f)
    have h2 : (ZcW number p out f).length ≤ out.length + 57 := by unfold ZcW; simp; omega
    simp only [List.foldl_cons, List.length_cons]
    omega
theorem ZkF {p : api_Param} (h : PartsOK p) (number : Int) : Xm number p = some (cellsN number p) := by
  obtain ⟨hE, hF, hT, _⟩ := XX h.tim
  have hlen : (J6 p).length ≤ 17 := ZkT p 17 _
  unfold Xm
  rw [Zlz h, Option.bind_some]
  have key : loop (t2 (Xo number p (J6 p))) ([], 0) = some (cellsN number p) := by
    have := Zdw (xs := J6 p) (body := Xo number p (J6 p)) (I := fun acc k => acc.length ≤ 57 * k) (F := fun acc k => ((J6 p).drop k).foldl (ZcW number p) acc)
      (fun acc k f hI hx => by
        have hlt := QU hx
        have hf := Zg1 (p := p) (by omega) 17 p.First f hF.1 (List.mem_of_getElem? hx)
        left
        refine ⟨ZcW number p acc f, ?_, ?_, by rw [ZN hx]; rfl⟩
        · simp only [Xo, hlt, decide_true, if_true, ZD hx, Option.bind_some]
          rw [ZlZ (number := number) (body := Zcj number p f) h ⟨hf.1, hf.2.1⟩ acc (by omega) (fun acc i => rfl), ZZ (by omega) (by omega)]
          rfl
        · unfold ZcW; simp; omega)
      (fun acc hI => by simp [Xo]) (a0 := []) (by simp)
    exact this
  rw [key]
  rfl
theorem Zk3 {p : api_Param} (h : PartsOK p) {f : Int} (hf : 0 ≤ f ∧ f < 16) : loop (t2 (Zap p f)) (true, 0) = some (Zax p f) := by
  have h8 := h.len.1
  have := Zdw (xs := p.Parts) (body := Zap p f) (I := fun _ _ => True) (F := fun b k => b && ((p.Parts.drop k).all fun x => decide (f + x.Frame < 16)))
    (fun b k x _ hx => by
      have hlt := QU hx
      have hp := Zbu.1 (h.len.2 x (List.mem_of_getElem? hx))
      left
      refine ⟨b && decide (f + x.Frame < 16), ?_, trivial, by rw [ZN hx, List.all_cons, Bool.and_assoc]⟩
      simp only [Zap, hlt, decide_true, if_true, ZD hx, Option.bind_some]
      rw [ZZ (z := f + x.Frame) (by omega) (by omega), ZZ (by omega) (by omega)])
    (fun b _ => by simp [Zap]) (a0 := true) trivial
  rw [this]
  simp [Zax]
theorem ZfN {p : api_Param} (h : PartsOK p) (number : Int) : ∀ (n : Nat) (out : List api_Cell) (f : Int), 0 ≤ f → f ≤ 32 → out.length + 57 * n ≤ 10000 → 16 - f < n → loop (t2 (XL p number)) (out, f) = some ((stL p n f).foldl (ZcW number p) out)
  | 0, out, f, h0, h1, h2, h3 => by
    have h16 : ¬ f < 16 := by omega
    rw [ZV]
    simp [XL, h16, stL]
  | n + 1, out, f, h0, h1, h2, h3 => by
    obtain ⟨hE, _, hT, _⟩ := XX h.tim
    rw [ZV]
    by_cases h16 : f < 16
    · have e : i64 (f + p.Every) = f + p.Every := ZZ (by omega) (by omega)
      simp only [Zaf, XL, h16, decide_true, if_true, Zk3 h ⟨h0, h16⟩, Option.bind_some, t1, e]
      cases hi : Zax p f
      · have hL : loop (t2 (Zau p number f false)) (out, 0) = some out := by
          rw [ZV]; simp [Zau]
        rw [hL]
        show loop (t2 (XL p number)) (out, f + p.Every) = _
        rw [ZfN h number n out _ (by omega) (by omega) (by omega) (by omega)]
        simp [stL, h16, hi]
      · rw [ZlZ (number := number) h ⟨h0, h16⟩ (body := Zau p number f true) out (by omega) (fun acc i => by
          simp only [Zau, Bool.and_true, Zml])]
        show loop (t2 (XL p number)) (ZcW number p out f, f + p.Every) = _
        have h2' : (ZcW number p out f).length ≤ out.length + 57 := by unfold ZcW; simp; omega
        rw [ZfN h number n _ _ (by omega) (by omega) (by omega) (by omega)]
        simp [stL, h16, hi]
    · simp [XL, h16, stL]
theorem Zg4 {p : api_Param} (h : PartsOK p) (number : Int) : JV p number = some (cellsN number p) := by
  obtain ⟨hE, hF, _⟩ := XX h.tim
  unfold JV
  rw [ZfN h number 17 [] p.First (by omega) (by omega) (by simp) (by omega)]
  rfl
end Go.Vx

namespace Go.Vx
open Go Go.RowKit

section
variable {K V : Type} {eq : K → K → Bool}
def mkeys (m : List (K × V)) : List K := m.map (·.1)
theorem ZhN (he : ∀ a b, eq a b = true ↔ a = b) {m : List (K × V)} {k : K} : (JX eq m k).isSome = true ↔ k ∈ mkeys m := by
  unfold JX mkeys
  rw [Option.isSome_map, List.find?_isSome]
  simp only [List.mem_map]
  constructor
  · rintro ⟨p, hp, h⟩; exact ⟨p, hp, ((he _ _).1 h).symm⟩
  · rintro ⟨p, hp, rfl⟩; exact ⟨p, hp, (he _ _).2 rfl⟩
theorem ZjU (he : ∀ a b, eq a b = true ↔ a = b) {m : List (K × V)} {k : K} (h : k ∉ mkeys m) : JX eq m k = none := by
  cases hm : JX eq m k with
  | none => rfl
  | some v => exact absurd ((ZhN he).1 (by rw [hm]; rfl)) h
theorem Zlx (he : ∀ a b, eq a b = true ↔ a = b) {m : List (K × V)} {k : K} {v : V} (h : k ∉ mkeys m) : Zei eq m k v = m ++ [(k, v)] := by
  unfold Zei
  have : (m.findIdx? fun p => eq k p.1) = none := by
    rw [List.findIdx?_eq_none_iff]
    intro p hp
    cases hq : eq k p.1 with
    | false => rfl
    | true => exact absurd (List.mem_map.2 ⟨p, hp, ((he _ _).1 hq).symm⟩) h
  rw [this]
theorem Zpb [DecidableEq K] (he : ∀ a b, eq a b = true ↔ a = b) {m : List (K × V)} {k x : K} {v : V} : JX eq (Zei eq m k v) x = if x = k then some v else JX eq m x := by
  unfold Zei
  cases hq : m.findIdx? fun p => eq k p.1 with
  | none =>
    rw [List.findIdx?_eq_none_iff] at hq
    simp only [JX, List.find?_append]
    by_cases hx : x = k
    · subst hx
      have : m.find? (fun p => eq x p.1) = none := List.find?_eq_none.2 fun p hp => by rw [hq p hp]; simp
      simp [this, (he x x).2 rfl]
    · have : eq x k = false := by
        cases h : eq x k with
        | false => rfl
        | true => exact absurd ((he _ _).1 h) hx
      simp [hx, this]
  | some i =>
    obtain ⟨hi, h1, h2⟩ := List.findIdx?_eq_some_iff_getElem.1 hq
    have e := (he _ _).1 h1
    rw [ZiT, ZiT]
    have hf : ((m.set i (k, v)).findIdx? fun p => eq x p.1) = m.findIdx? fun p => eq x p.1 := by
      have e1 : ∀ l : List (K × V), (l.findIdx? fun p => eq x p.1) = (l.map (·.1)).findIdx? (eq x) := fun l => by rw [List.findIdx?_map]; rfl
      rw [e1, e1]
      congr 1
      apply List.ext_getElem?
      intro j
      rw [List.getElem?_map, List.getElem?_map, List.getElem?_set]
      split
      · rename_i hj
        subst hj
        simp [hi, e]
      · rfl
    rw [hf]
    by_cases hx : x = k
    · subst hx
      rw [hq]; simp [hi]
    · rw [if_neg hx]
      cases hf2 : m.findIdx? fun p => eq x p.1 with
      | none => rfl
      | some j =>
        obtain ⟨hj, g1, _⟩ := List.findIdx?_eq_some_iff_getElem.1 hf2
        have : i ≠ j := by
          rintro rfl
          exact hx (((he _ _).1 g1).trans e.symm)
        simp [List.getElem?_set_ne this]
end
theorem Zkn {n : Nat} (a b : Vector Int n) : kqV a b = true ↔ a = b := by simp [kqV]
end Go.Vx

namespace Go.Vx
open Go Go.RowKit
theorem kqB_iff (a b : layout_bit) : kq_layout_bit a b = true ↔ a = b := by
  cases a; cases b; simp [kq_layout_bit]
instance : DecidableEq layout_bit := fun a b => decidable_of_iff (kq_layout_bit a b = true) (kqB_iff a b)
def Zbw (x : api_Place) : List layout_bit := (List.range x.Bits.toNat).map fun (i : Nat) => ⟨x.Frame, x.Word, x.Low + i⟩
def JD (l : List api_Place) : List layout_bit := l.flatMap Zbw
def okB : List layout_bit → List layout_bit → Bool
  | _, [] => true
  | K, b :: bs => if b ∈ K then false else okB (K ++ [b]) bs
theorem ZdV : ∀ (K a b : List layout_bit), okB K (a ++ b) = (okB K a && okB (K ++ a) b)
  | K, [], b => by simp [okB]
  | K, x :: a, b => by
    simp only [List.cons_append, okB]
    split
    · rfl
    · rw [ZdV (K ++ [x]) a b]; simp
def ZdS (x : api_Place) : Prop := 0 ≤ x.Low ∧ x.Low ≤ 10 ∧ 0 ≤ x.Bits ∧ x.Bits ≤ 11
theorem ZoP {x : api_Place} (h : ZdS x) : ZbA x = some (Zbw x) := by
  obtain ⟨h1, h2, h3, h4⟩ := h
  have hn : (x.Bits.toNat : Int) = x.Bits := by omega
  have := ZkX (body := JC x) x.Bits.toNat (fun i => (⟨x.Frame, x.Word, x.Low + i⟩ : layout_bit)) (fun k acc hk ha => by
    have h5 : ((k : Nat) : Int) < x.Bits := by omega
    simp only [JC, h5, decide_true, if_true]
    rw [ZZ (by omega) (by omega), XJ (by simp; omega), ZZ (by omega) (by omega)]
    rfl) (fun acc => by simp [JC, hn])
  unfold ZbA
  rw [this]; rfl
theorem ZlT {K V : Type} {o : List (K × V)} {b : K} {v : V} : mkeys (o ++ [(b, v)]) = mkeys o ++ [b] := by simp [mkeys]
theorem ZpZ {y : List layout_bit} (owner : Int) (hy : y.length ≤ 1000) (o : List (layout_bit × Int)) : ∃ q, loop (t2 (XY owner y)) (o, 0) = some (cond (okB (mkeys o) y) (.inr (o ++ y.map fun b => (b, owner))) (.inl (false, q))) := by
  have key : ∀ (n k : Nat) (o : List (layout_bit × Int)), k + n = y.length → ∃ q, loop (t2 (XY owner y)) (o, (k : Int)) = some (cond (okB (mkeys o) (y.drop k)) (.inr (o ++ (y.drop k).map fun b => (b, owner))) (.inl (false, q))) := by
    intro n
    induction n with
    | zero =>
      intro k o hk
      have : k = y.length := by omega
      subst this
      refine ⟨[], ?_⟩
      rw [ZV]
      simp [XY, okB]
    | succ n ih =>
      intro k o hk
      obtain ⟨x, hx⟩ := ZU (xs := y) (k := k) (by omega)
      have hlt := QU hx
      rw [ZN hx, ZV]
      simp only [Zaf, XY, hlt, decide_true, if_true, ZD hx, Option.bind_some, okB]
      by_cases hm : x ∈ mkeys o
      · refine ⟨o, ?_⟩
        rw [if_pos ((ZhN kqB_iff).2 hm), if_pos hm]
        rfl
      · have hg : (JX kq_layout_bit o x).isSome = false := by rw [ZjU kqB_iff hm]; rfl
        rw [hg, Zlx kqB_iff hm, if_neg hm, ZZ (by omega) (by omega)]
        obtain ⟨q, h2⟩ := ih (k + 1) (o ++ [(x, owner)]) (by omega)
        refine ⟨q, ?_⟩
        simp only [Bool.false_eq_true, if_false]
        have e : ((k : Nat) : Int) + 1 = ((k + 1 : Nat) : Int) := by push_cast; rfl
        rw [e]
        rw [ZlT] at h2
        show loop (t2 (XY owner y)) (o ++ [(x, owner)], ((k + 1 : Nat) : Int)) = _
        rw [h2]
        simp
  exact key y.length 0 o (by omega)
theorem ZnE {x : api_Place} (h : ZdS x) : (Zbw x).length ≤ 11 := by
  obtain ⟨_, _, h3, h4⟩ := h
  simp [Zbw]; omega
theorem ZoA {l : List api_Place} (owner : Int) (hl : l.length ≤ 1000000) (hp : ∀ x ∈ l, ZdS x) (o : List (layout_bit × Int)) :
    ∃ q, ZbU o owner l = some (okB (mkeys o) (JD l), q) ∧ (okB (mkeys o) (JD l) = true → q = o ++ (JD l).map fun b => (b, owner)) := by
  have key : ∀ (n k : Nat) (o : List (layout_bit × Int)), k + n = l.length → ∃ q, loop (t2 (XU owner l)) (o, (k : Int)) = some (cond (okB (mkeys o) (JD (l.drop k))) (.inr (o ++ (JD (l.drop k)).map fun b => (b, owner))) (.inl (false, q))) := by
    intro n
    induction n with
    | zero =>
      intro k o hk
      have : k = l.length := by omega
      subst this
      refine ⟨[], ?_⟩
      rw [ZV]
      simp [XU, okB, JD]
    | succ n ih =>
      intro k o hk
      obtain ⟨x, hx⟩ := ZU (xs := l) (k := k) (by omega)
      have hlt := QU hx
      have hpx := hp x (List.mem_of_getElem? hx)
      obtain ⟨q, h2⟩ := ZpZ owner (y := Zbw x) (by have := ZnE hpx; omega) o
      have e : JD (l.drop k) = Zbw x ++ JD (l.drop (k + 1)) := by rw [ZN hx]; simp [JD]
      rw [e, ZdV, ZV]
      simp only [Zaf, XU, hlt, decide_true, if_true, ZD hx, Option.bind_some, ZoP hpx, h2]
      by_cases hm : okB (mkeys o) (Zbw x) = true
      · obtain ⟨q', h3⟩ := ih (k + 1) (o ++ (Zbw x).map fun b => (b, owner)) (by omega)
        refine ⟨q', ?_⟩
        rw [hm, Bool.true_and, ZZ (by omega) (by omega)]
        have e2 : ((k : Nat) : Int) + 1 = ((k + 1 : Nat) : Int) := by push_cast; rfl
        rw [e2]
        show loop (t2 (XU owner l)) (o ++ (Zbw x).map (fun b => (b, owner)), ((k + 1 : Nat) : Int)) = _
        rw [h3]
        have e3 : mkeys (o ++ (Zbw x).map fun b => (b, owner)) = mkeys o ++ Zbw x := by simp [mkeys, Function.comp_def]
        rw [e3]
        simp
      · refine ⟨q, ?_⟩
        have hm' : okB (mkeys o) (Zbw x) = false := by simpa using hm
        rw [hm']
        rfl
  obtain ⟨q, h⟩ := key l.length 0 o (by omega)
  unfold ZbU
  have h' : loop (t2 (XU owner l)) (o, 0) = _ := h
  rw [h']
  rw [List.drop_zero]
  by_cases hm : okB (mkeys o) (JD l) = true
  · rw [hm]; exact ⟨_, rfl, fun _ => rfl⟩
  · have hm' : okB (mkeys o) (JD l) = false := by simpa using hm
    rw [hm']
    refine ⟨q, rfl, ?_⟩
    intro h; cases h
def trB (b : layout_bit) : Vector Int 3 := #v[b.frame, b.word, b.bit]
theorem Zm5 {a b : layout_bit} (h : trB a = trB b) : a = b := by
  cases a; cases b
  simp only [trB] at h
  have h0 := congrArg (fun v : Vector Int 3 => v[0]) h
  have h1 := congrArg (fun v : Vector Int 3 => v[1]) h
  have h2 := congrArg (fun v : Vector Int 3 => v[2]) h
  simp at h0 h1 h2
  subst h0 h1 h2
  rfl
abbrev RT := List (Vector Int 3 × Bool)
structure RK (o : RT) (K : List layout_bit) : Prop where
  keys : mkeys o = K.map trB
  vals : ∀ p ∈ o, p.2 = true
theorem RK.get {o : RT} {K : List layout_bit} (h : RK o K) (b : layout_bit) : (JX kqV o (trB b)).getD false = decide (b ∈ K) := by
  by_cases hb : b ∈ K
  · have hm : trB b ∈ mkeys o := by rw [h.keys]; exact List.mem_map.2 ⟨b, hb, rfl⟩
    obtain ⟨v, hv⟩ := Option.isSome_iff_exists.1 ((ZhN Zkn).2 hm)
    have : v = true := by
      unfold JX at hv
      obtain ⟨p, hp, rfl⟩ := Option.map_eq_some_iff.1 hv
      exact h.vals p (List.mem_of_find?_eq_some hp)
    rw [hv, this]; simp [hb]
  · have hm : trB b ∉ mkeys o := by
      rw [h.keys]
      intro hm
      obtain ⟨c, hc, he⟩ := List.mem_map.1 hm
      rw [Zm5 he] at hc
      exact hb hc
    rw [ZjU Zkn hm]; simp [hb]
theorem RK.put {o : RT} {K : List layout_bit} (h : RK o K) {b : layout_bit} (hb : b ∉ K) : RK (Zei kqV o (trB b) true) (K ++ [b]) := by
  have hm : trB b ∉ mkeys o := by
    rw [h.keys]
    intro hm
    obtain ⟨c, hc, he⟩ := List.mem_map.1 hm
    rw [Zm5 he] at hc
    exact hb hc
  rw [Zlx Zkn hm]
  refine ⟨by rw [ZlT, h.keys]; simp, fun p hp => ?_⟩
  rcases List.mem_append.1 hp with hp | hp
  · exact h.vals p hp
  · simp at hp; rw [hp]
theorem ZoV {x : api_Place} (hx : ZdS x) (o : RT) (ok : Bool) :
    ∃ o' ok', loop (t3 (Q9 x)) (o, ok, x.Low) = some (o', ok') ∧ (ok = false → ok' = false) ∧ ∀ K, ok = true → RK o K → ok' = okB K (Zbw x) ∧ (ok' = true → RK o' (K ++ Zbw x)) := by
  obtain ⟨h1, h2, h3, h4⟩ := hx
  have hs : i64 (x.Low + x.Bits) = x.Low + x.Bits := ZZ (by omega) (by omega)
  have key : ∀ (n k : Nat) (o : RT) (ok : Bool), k + n = x.Bits.toNat → ∃ o' ok', loop (t3 (Q9 x)) (o, ok, x.Low + k) = some (o', ok') ∧ (ok = false → ok' = false) ∧
      ∀ K, ok = true → RK o K → ok' = okB K ((Zbw x).drop k) ∧ (ok' = true → RK o' (K ++ (Zbw x).drop k)) := by
    intro n
    induction n with
    | zero =>
      intro k o ok hk
      have hge : ¬ (x.Low + (k : Int) < x.Low + x.Bits) := by omega
      refine ⟨o, ok, ?_, fun h => h, fun K h hK => ?_⟩
      · rw [ZV]
        simp only [Ziv, Q9, hs, hge, decide_false, Bool.false_eq_true, if_false]
        rfl
      · have : (Zbw x).drop k = [] := List.drop_eq_nil_of_le (by simp [Zbw]; omega)
        rw [this]
        exact ⟨by simp [okB, h], fun _ => by simpa using hK⟩
    | succ n ih =>
      intro k o ok hk
      have hlt : (x.Low + (k : Int) < x.Low + x.Bits) := by omega
      have hb : (Zbw x)[k]? = some ⟨x.Frame, x.Word, x.Low + k⟩ := by
        simp only [Zbw, List.getElem?_map]
        rw [List.getElem?_range (by omega)]
        rfl
      have he : (#v[x.Frame, x.Word, x.Low + (k : Int)] : Vector Int 3) = trB ⟨x.Frame, x.Word, x.Low + k⟩ := rfl
      have e1 : x.Low + ((k : Nat) : Int) + 1 = x.Low + ((k + 1 : Nat) : Int) := by push_cast; omega
      have hi : i64 (x.Low + (k : Int) + 1) = x.Low + ((k + 1 : Nat) : Int) := by rw [ZZ (by omega) (by omega), e1]
      rw [ZV]
      simp only [Ziv, Q9, hs, hlt, decide_true, if_true, hi, he]
      cases ok with
      | false =>
        obtain ⟨o', ok', g1, g2, _⟩ := ih (k + 1) (Zei kqV o (trB ⟨x.Frame, x.Word, x.Low + k⟩) true) false (by omega)
        exact ⟨o', ok', g1, fun _ => g2 rfl, fun K h => by cases h⟩
      | true =>
        simp only [Zgk, Option.bind_some, Bool.true_and]
        obtain ⟨o', ok', g1, g2, g3⟩ := ih (k + 1) (Zei kqV o (trB ⟨x.Frame, x.Word, x.Low + k⟩) true) (!(JX kqV o (trB ⟨x.Frame, x.Word, x.Low + k⟩)).getD false) (by omega)
        refine ⟨o', ok', g1, (fun h => by cases h), fun K _ hK => ?_⟩
        rw [ZN hb]
        simp only [okB]
        rw [hK.get] at g2 g3
        by_cases hm : (⟨x.Frame, x.Word, x.Low + k⟩ : layout_bit) ∈ K
        · rw [if_pos hm]
          have hf := g2 (by simp [hm])
          exact ⟨hf, fun h => by rw [hf] at h; cases h⟩
        · rw [if_neg hm]
          obtain ⟨a1, a2⟩ := g3 (K ++ [⟨x.Frame, x.Word, x.Low + k⟩]) (by simp [hm]) (hK.put hm)
          refine ⟨a1, fun h => ?_⟩
          have := a2 h
          simpa using this
  have := key x.Bits.toNat 0 o ok (by omega)
  simpa using this
theorem ZpC {l : List api_Place} (hl : l.length ≤ 1000000) (hp : ∀ x ∈ l, ZdS x) (o : RT) :
    ∃ o' ok', Zag o l = some (ok', o') ∧ ∀ K, RK o K → ok' = okB K (JD l) ∧ (ok' = true → RK o' (K ++ JD l)) := by
  have key : ∀ (n k : Nat) (o : RT) (ok : Bool), k + n = l.length → ∃ o' ok', loop (t3 (Q8 l)) (o, ok, (k : Int)) = some (o', ok') ∧ (ok = false → ok' = false) ∧
      ∀ K, ok = true → RK o K → ok' = okB K (JD (l.drop k)) ∧ (ok' = true → RK o' (K ++ JD (l.drop k))) := by
    intro n
    induction n with
    | zero =>
      intro k o ok hk
      have : k = l.length := by omega
      subst this
      refine ⟨o, ok, ?_, fun h => h, fun K h hK => ?_⟩
      · rw [ZV]
        simp [Q8]
      · simp [JD, okB, h, hK]
    | succ n ih =>
      intro k o ok hk
      obtain ⟨x, hx⟩ := ZU (xs := l) (k := k) (by omega)
      have hlt := QU hx
      have hpx := hp x (List.mem_of_getElem? hx)
      obtain ⟨o1, ok1, h1, h2, h3⟩ := ZoV hpx o ok
      obtain ⟨o2, ok2, g1, g2, g3⟩ := ih (k + 1) o1 ok1 (by omega)
      have e : JD (l.drop k) = Zbw x ++ JD (l.drop (k + 1)) := by rw [ZN hx]; simp [JD]
      have e2 : ((k : Nat) : Int) + 1 = ((k + 1 : Nat) : Int) := by push_cast; rfl
      refine ⟨o2, ok2, ?_, fun h => g2 (h2 h), fun K h hK => ?_⟩
      · rw [ZV]
        simp only [Ziv, Q8, hlt, decide_true, if_true, ZD hx, Option.bind_some, h1, Zaf]
        rw [ZZ (by omega) (by omega), e2]
        exact g1
      · rw [e, ZdV]
        obtain ⟨a1, a2⟩ := h3 K h hK
        cases hok : ok1 with
        | false =>
          rw [← a1, hok, Bool.false_and]
          have := g2 hok
          exact ⟨this, fun h => by rw [this] at h; cases h⟩
        | true =>
          rw [← a1, hok, Bool.true_and]
          obtain ⟨b1, b2⟩ := g3 _ hok (a2 hok)
          exact ⟨b1, fun h => by have := b2 h; simpa using this⟩
  obtain ⟨o', ok', h1, _, h3⟩ := key l.length 0 o true (by omega)
  unfold Zag
  have h1' : loop (t3 (Q8 l)) (o, true, 0) = _ := h1
  rw [h1']
  exact ⟨o', ok', rfl, fun K hK => by simpa using h3 K rfl hK⟩
def bitsC (l : List api_Cell) : List layout_bit := l.flatMap fun c => JD c.Places
def Zit (l : List api_Cell) : Prop := l.length ≤ 1000000 ∧ ∀ c ∈ l, c.Places.length ≤ 1000000 ∧ ∀ x ∈ c.Places, ZdS x
theorem Zi3 {l : List api_Cell} (hl : Zit l) (o : RT) :
    ∃ o' ok', Xa o l = some (ok', o') ∧ ∀ K, RK o K → ok' = okB K (bitsC l) ∧ (ok' = true → RK o' (K ++ bitsC l)) := by
  have hl0 := hl.1
  have key : ∀ (n k : Nat) (o : RT) (ok : Bool), k + n = l.length → ∃ o' ok', loop (t3 (QI l)) (o, ok, (k : Int)) = some (o', ok') ∧ (ok = false → ok' = false) ∧
      ∀ K, ok = true → RK o K → ok' = okB K (bitsC (l.drop k)) ∧ (ok' = true → RK o' (K ++ bitsC (l.drop k))) := by
    intro n
    induction n with
    | zero =>
      intro k o ok hk
      have : k = l.length := by omega
      subst this
      refine ⟨o, ok, ?_, fun h => h, fun K h hK => ?_⟩
      · rw [ZV]
        simp [QI]
      · simp [bitsC, okB, h, hK]
    | succ n ih =>
      intro k o ok hk
      obtain ⟨c, hc⟩ := ZU (xs := l) (k := k) (by omega)
      have hlt := QU hc
      obtain ⟨hp1, hp2⟩ := hl.2 c (List.mem_of_getElem? hc)
      obtain ⟨o1, ok1, h1, h3⟩ := ZpC hp1 hp2 o
      obtain ⟨o2, ok2, g1, g2, g3⟩ := ih (k + 1) o1 (if ok1 = true then ok else false) (by omega)
      have e : bitsC (l.drop k) = JD c.Places ++ bitsC (l.drop (k + 1)) := by rw [ZN hc]; simp [bitsC]
      have e2 : ((k : Nat) : Int) + 1 = ((k + 1 : Nat) : Int) := by push_cast; rfl
      refine ⟨o2, ok2, ?_, fun h => g2 (by simp [h]), fun K h hK => ?_⟩
      · rw [ZV]
        simp only [Ziv, QI, hlt, decide_true, if_true, ZD hc, Option.bind_some, h1]
        rw [ZZ (by omega) (by omega), e2]
        cases ok1 <;> exact g1
      · rw [e, ZdV]
        obtain ⟨a1, a2⟩ := h3 K hK
        cases hok : ok1 with
        | false =>
          rw [← a1, hok, Bool.false_and]
          have := g2 (by simp [hok])
          exact ⟨this, fun h => by rw [this] at h; cases h⟩
        | true =>
          rw [← a1, hok, Bool.true_and]
          obtain ⟨b1, b2⟩ := g3 _ (by simp [hok, h]) (a2 hok)
          exact ⟨b1, fun h => by have := b2 h; simpa using this⟩
  obtain ⟨o', ok', h1, _, h3⟩ := key l.length 0 o true (by omega)
  unfold Xa
  have h1' : loop (t3 (QI l)) (o, true, 0) = _ := h1
  rw [h1']
  exact ⟨o', ok', rfl, fun K hK => by simpa using h3 K rfl hK⟩
end Go.Vx

namespace Go.Vx
open Go Go.RowKit
theorem PartsOK.of {p : api_Param} (h1 : Zge p = 0) (h2 : ZgO p = 0) : PartsOK p := by
  obtain ⟨hl, _, _⟩ := Zej h1
  unfold ZgO at h2
  split at h2
  · split at h2
    · rename_i ha hb
      exact ⟨hl, ha, fun x hx => List.all_eq_true.1 hb x hx⟩
    · cases h2
  · cases h2
theorem Zos {number : Int} {p : api_Param} {out : List api_Cell} {f : Int} {c : api_Cell} (h : c ∈ ZcW number p out f) : c ∈ out ∨ ∃ (i : Int) (j : Nat), j < p.Times.toNat ∧ c = Zci number p i f j := by
  unfold ZcW at h
  rcases List.mem_append.1 h with h | h
  · exact .inl h
  · obtain ⟨j, hj, rfl⟩ := List.mem_map.1 h
    exact .inr ⟨_, j, by simpa using hj, rfl⟩
theorem ZlA {number : Int} {p : api_Param} {c : api_Cell} : ∀ (fs : List Int) (out : List api_Cell), c ∈ fs.foldl (ZcW number p) out → c ∈ out ∨ ∃ (i f : Int) (j : Nat), f ∈ fs ∧ j < p.Times.toNat ∧ c = Zci number p i f j
  | [], out, h => .inl h
  | f :: fs, out, h => by
    rcases ZlA fs _ h with h | ⟨i, g, j, h1, h2, h3⟩
    · rcases Zos h with h | ⟨i, j, h1, h2⟩
      · exact .inl h
      · exact .inr ⟨i, f, j, List.mem_cons_self, h1, h2⟩
    · exact .inr ⟨i, g, j, List.mem_cons_of_mem _ h1, h2, h3⟩
theorem Zgo {number : Int} {p : api_Param} {c : api_Cell} (h : c ∈ cellsN number p) : ∃ (i f : Int) (j : Nat), f ∈ J6 p ∧ j < p.Times.toNat ∧ c = Zci number p i f j := by
  rcases ZlA _ _ h with h | h
  · cases h
  · exact h
theorem ZaV {number : Int} {p : api_Param} (h : PartsOK p) : (cellsN number p).length ≤ 969 := by
  obtain ⟨_, _, hT, _⟩ := XX h.tim
  have h1 := Zld (number := number) (p := p) hT.2 (J6 p) []
  have h2 : (J6 p).length ≤ 17 := ZkT p 17 _
  unfold cellsN
  simp only [List.length_nil] at h1
  omega
theorem ZnM {p : api_Param} (h : PartsOK p) {x : api_Part} (hx : x ∈ p.Parts) (f j : Int) : ZdS (Zdy p f j x) := by
  have := Zbu.1 (h.len.2 x hx)
  unfold ZdS Zdy
  simp only
  omega
theorem ZfV {number : Int} {p : api_Param} (h : PartsOK p) : Zit (cellsN number p) := by
  have h0 := ZaV (number := number) h
  refine ⟨by omega, fun c hc => ?_⟩
  obtain ⟨i, f, j, _, _, rfl⟩ := Zgo hc
  have h8 := h.len.1
  refine ⟨by simp [Zci]; omega, fun x hx => ?_⟩
  obtain ⟨y, hy, rfl⟩ := List.mem_map.1 hx
  exact ZnM h hy _ _
theorem Zok {l : List api_Cell} (hl : Zit l) : loop (t2 (QR l)) (([] : List (layout_bit × Int)), 0) = some (cond (okB [] (bitsC l)) (.inr ()) (.inl 5)) := by
  have hl0 := hl.1
  have key : ∀ (n k : Nat) (o : List (layout_bit × Int)), k + n = l.length → loop (t2 (QR l)) (o, (k : Int)) = some (cond (okB (mkeys o) (bitsC (l.drop k))) (.inr ()) (.inl 5)) := by
    intro n
    induction n with
    | zero =>
      intro k o hk
      have : k = l.length := by omega
      subst this
      rw [ZV]
      simp [QR, okB, bitsC]
    | succ n ih =>
      intro k o hk
      obtain ⟨c, hc⟩ := ZU (xs := l) (k := k) (by omega)
      have hlt := QU hc
      obtain ⟨hp1, hp2⟩ := hl.2 c (List.mem_of_getElem? hc)
      obtain ⟨q, h1, h2⟩ := ZoA 0 hp1 hp2 o
      have e : bitsC (l.drop k) = JD c.Places ++ bitsC (l.drop (k + 1)) := by rw [ZN hc]; simp [bitsC]
      have e2 : ((k : Nat) : Int) + 1 = ((k + 1 : Nat) : Int) := by push_cast; rfl
      rw [e, ZdV, ZV]
      simp only [Zaf, QR, hlt, decide_true, if_true, ZD hc, Option.bind_some, h1]
      rw [ZZ (by omega) (by omega), e2]
      cases hok : okB (mkeys o) (JD c.Places) with
      | false => rfl
      | true =>
        have h3 := h2 hok
        have := ih (k + 1) q (by omega)
        have e3 : mkeys q = mkeys o ++ JD c.Places := by rw [h3]; simp [mkeys, Function.comp_def]
        rw [e3] at this
        exact this
  have := key l.length 0 [] (by omega)
  exact this
def ZeD (p : api_Param) : Int := if nmL p.Name = true then (if wiL p.Kind 1 6 = true then (if Zge p = 0 then (if ZgO p = 0 then (if ZlJ p = 0 then (if okB [] (bitsC (cellsN 0 p)) = true then (if (cellsN 0 p).length = 0 then 13 else 0) else 5) else ZlJ p) else ZgO p) else Zge p) else 7) else 8
theorem Zko (p : api_Param) : Jh p = some (ZeD p) := by
  unfold Jh ZeD
  rw [Zlo, Option.bind_some]
  cases h1 : nmL p.Name
  · rfl
  simp only [Bool.not_true, Bool.false_eq_true, if_false, if_true, Zek, Option.bind_some]
  cases h2 : wiL p.Kind 1 6
  · rfl
  simp only [Bool.not_true, Bool.false_eq_true, if_false, if_true, Zps, Option.bind_some]
  by_cases h3 : Zge p = 0
  · by_cases h4 : ZgO p = 0
    · simp only [h3, h4, if_true, decide_true, Bool.not_true, Bool.false_eq_true, if_false, Zp9 h3, Option.bind_some]
      by_cases h5 : ZlJ p = 0
      · have hP := PartsOK.of h3 h4
        simp only [h5, if_true, decide_true, Bool.not_true, Bool.false_eq_true, if_false, ZkF hP, Option.bind_some, Zok (ZfV hP)]
        cases okB [] (bitsC (cellsN 0 p))
        · rfl
        · by_cases h6 : (cellsN 0 p).length = 0
          · simp [h6]
          · have : ¬ (((cellsN 0 p).length : Nat) : Int) = 0 := by omega
            simp only [if_true, if_neg h6, Option.bind_some, cond_true, Sum.elim_inr, t0, this, decide_false, Bool.false_eq_true, if_false]
      · simp [h5]
    · simp [h3, h4]
  · simp [h3]
theorem Zgl (p : api_Param) (hs : Xg p) : Jf p = some (ZeD p) := by
  obtain ⟨w1, _, _, _, _, _, _, w2, _⟩ := hs
  unfold Jf ZeD
  rw [ZmI _ w1, Option.bind_some]
  cases h1 : nmL p.Name
  · rfl
  simp only [Bool.not_true, Bool.false_eq_true, if_false, if_true, Zdz, Option.bind_some]
  cases h2 : wiL p.Kind 1 6
  · rfl
  simp only [Bool.not_true, Bool.false_eq_true, if_false, if_true, Zom, Option.bind_some]
  by_cases h3 : Zge p = 0
  · simp only [h3, if_true, decide_true, Bool.not_true, Bool.false_eq_true, if_false, ZoZ h3, Option.bind_some]
    by_cases h4 : ZgO p = 0
    · simp only [h4, if_true, decide_true, Bool.not_true, Bool.false_eq_true, if_false, ZpB h3 (fun x hx => w2.2 x hx), Option.bind_some]
      by_cases h5 : ZlJ p = 0
      · have hP := PartsOK.of h3 h4
        obtain ⟨o', ok', g1, g2⟩ := Zi3 (ZfV (number := 0) hP) []
        obtain ⟨g3, _⟩ := g2 [] ⟨rfl, fun p hp => by cases hp⟩
        simp only [h5, if_true, decide_true, Bool.not_true, Bool.false_eq_true, if_false, Zg4 hP, Option.bind_some, g1, g3]
        cases okB [] (bitsC (cellsN 0 p))
        · rfl
        · by_cases h6 : (cellsN 0 p).length = 0
          · simp [h6]
          · have : ¬ (((cellsN 0 p).length : Nat) : Int) = 0 := by omega
            simp only [if_true, if_neg h6, this, decide_false, Bool.false_eq_true, if_false, Bool.not_true]
      · simp [h5]
    · simp [h4]
  · simp [h3]
structure ParOK (p : api_Param) : Prop extends PartsOK p where
  kind : 1 ≤ p.Kind ∧ p.Kind ≤ 6
  bits : 1 ≤ bitsN p ∧ bitsN p ≤ 40
  k4 : p.Kind = 4 → (bitsN p).tmod 4 = 0
  k5 : p.Kind = 5 → bitsN p = 1
  k23 : p.Kind = 2 ∨ p.Kind = 3 → 2 ≤ bitsN p
  k6 : p.Kind = 6 → 1 ≤ p.Names.length ∧ p.Names.length ≤ 64 ∧ (p.Names.length : Int) ≤ 2 ^ (bitsN p).toNat
  uniq : okB [] (bitsC (cellsN 0 p)) = true
theorem ZgC {p : api_Param} (h : ZeD p = 0) : ParOK p := by
  unfold ZeD at h
  by_cases h1 : nmL p.Name = true
  case neg => rw [if_neg h1] at h; cases h
  rw [if_pos h1] at h
  by_cases h2 : wiL p.Kind 1 6 = true
  case neg => rw [if_neg h2] at h; cases h
  rw [if_pos h2] at h
  by_cases h3 : Zge p = 0
  case neg => rw [if_neg h3] at h; exact absurd h h3
  rw [if_pos h3] at h
  by_cases h4 : ZgO p = 0
  case neg => rw [if_neg h4] at h; exact absurd h h4
  rw [if_pos h4] at h
  by_cases h5 : ZlJ p = 0
  case neg => rw [if_neg h5] at h; exact absurd h h5
  rw [if_pos h5] at h
  by_cases h6 : okB [] (bitsC (cellsN 0 p)) = true
  case neg => rw [if_neg h6] at h; cases h
  obtain ⟨hl, hl1, hl40⟩ := Zej h3
  have hb1 : 1 ≤ bitsN p := by
    have := (Zoy hl.2).1
    unfold bitsN; omega
  have h5' := h5
  unfold ZlJ at h5'
  have hk : ZeG p = false := by
    cases hk : ZeG p
    · rfl
    · rw [hk] at h5'; cases h5'
  rw [hk] at h5'
  simp only [ZeG, Bool.or_eq_false_iff, Bool.and_eq_false_iff] at hk
  refine { toPartsOK := PartsOK.of h3 h4, kind := Zhe.1 h2, bits := ⟨hb1, hl40⟩, k4 := ?_, k5 := ?_, k23 := ?_, k6 := ?_, uniq := h6 }
  · intro e; simp [e] at hk; exact hk
  · intro e; simp [e] at hk; exact hk
  · intro e
    have : bitsN p ≠ 1 := by
      intro eb
      rcases e with e | e <;> simp [e, eb] at hk
    omega
  · intro e
    simp only [e, Bool.false_eq_true, if_false, if_true] at h5'
    split at h5'
    · cases h5'
    · split at h5'
      · cases h5'
      · rename_i a b
        simp only [Bool.or_eq_true, decide_eq_true_eq, not_or] at b
        exact ⟨by omega, by omega, by omega⟩
end Go.Vx

namespace Go.Vx
open Go Go.RowKit
theorem Zk6 {p : api_Param} (h1 : 1 ≤ p.Every) : ∀ (n : Nat) (f : Int), (stL p n f).Pairwise (· < ·) ∧ ∀ x ∈ stL p n f, f ≤ x
  | 0, f => ⟨.nil, fun x h => by cases h⟩
  | n + 1, f => by
    obtain ⟨a, b⟩ := Zk6 h1 n (f + p.Every)
    unfold stL
    split
    · split
      · refine ⟨List.pairwise_cons.2 ⟨fun x hx => by have := b x hx; omega, a⟩, fun x hx => ?_⟩
        rcases List.mem_cons.1 hx with rfl | hx
        · omega
        · have := b x hx; omega
      · exact ⟨a, fun x hx => by have := b x hx; omega⟩
    · exact ⟨.nil, fun x h => by cases h⟩
def tmN (p : api_Param) (first : Int) (c : api_Cell) : Int := 64 * (first + c.Frame) + 64 * (c.Index % p.Times) / p.Times
structure CellInv (p : api_Param) (first : Int) (fs : List Int) (out : List api_Cell) : Prop where
  mod : ∃ q : Nat, out.length = q * p.Times.toNat
  low : ∀ c ∈ out, ∀ f ∈ fs, c.Frame < f
  idx : ∀ (k : Nat) c, out[k]? = some c → (c.Index % p.Times) = (((out.take k).countP fun d => decide (d.Frame = c.Frame) : Nat) : Int)
  sort : (out.map (tmN p first)).Pairwise (· < ·)
  pos : ∀ c ∈ out, 0 ≤ c.Index
theorem Zkp {x T : Int} (hT : 1 ≤ T) (h0 : 0 ≤ x) (h1 : x < T) : 0 ≤ 64 * x / T ∧ 64 * x / T < 64 := by
  refine ⟨Int.ediv_nonneg (by omega) (by omega), Int.ediv_lt_of_lt_mul (by omega) (by omega)⟩
theorem ZqH {x y T : Int} (hT : 1 ≤ T) (hT2 : T ≤ 64) (h : x < y) : 64 * x / T < 64 * y / T := by
  have h1 : (64 * x + T * 1) / T = 64 * x / T + 1 := Int.add_mul_ediv_left _ _ (by omega)
  have h2 : (64 * x + T * 1) / T ≤ 64 * y / T := Int.ediv_le_ediv (by omega) (by omega)
  omega
theorem Zo7 {number : Int} {p : api_Param} {first : Int} (hT : 1 ≤ p.Times ∧ p.Times ≤ 57) {f : Int} {fs : List Int} {out : List api_Cell} (hf : (f :: fs).Pairwise (· < ·)) (h : CellInv p first (f :: fs) out) : CellInv p first fs (ZcW number p out f) := by
  obtain ⟨q, hq⟩ := h.mod
  have hTN : p.Times = (p.Times.toNat : Int) := by omega
  obtain ⟨T, hTe⟩ : ∃ T, T = p.Times.toNat := ⟨_, rfl⟩
  rw [← hTe] at hTN hq
  have hmod : ∀ j : Nat, j < T → ((out.length + j : Nat) : Int) % p.Times = (j : Int) := fun j hj => by
    rw [hTN, ← Int.natCast_emod, hq, Nat.mul_comm, Nat.mul_add_mod, Nat.mod_eq_of_lt hj]
  have hrow : ∀ j : Nat, ((List.range T).map fun j => Zci number p ((out.length + j : Nat) : Int) f j)[j]? = if j < T then some (Zci number p ((out.length + j : Nat) : Int) f j) else none := fun j => by
    rw [List.getElem?_map]
    by_cases hj : j < T
    · rw [if_pos hj, List.getElem?_range hj]; rfl
    · rw [if_neg hj, List.getElem?_eq_none (by simpa using hj)]; rfl
  have hlow : ∀ c ∈ out, c.Frame < f := fun c hc => h.low c hc f (List.mem_cons_self ..)
  have htm : ∀ j : Nat, j < T → tmN p first (Zci number p ((out.length + j : Nat) : Int) f j) = 64 * (first + f) + 64 * (j : Int) / p.Times := fun j hj => by
    unfold tmN Zci
    simp only
    rw [hmod j hj]
  unfold ZcW
  rw [← hTe]
  refine ⟨⟨q + 1, by simp [hq, ← hTe, Nat.add_mul]⟩, fun c hc g hg => ?_, fun k c hk => ?_, ?_, fun c hc => ?_⟩
  · rcases List.mem_append.1 hc with hc | hc
    · exact h.low c hc g (List.mem_cons_of_mem _ hg)
    · obtain ⟨j, _, rfl⟩ := List.mem_map.1 hc
      exact (List.pairwise_cons.1 hf).1 g hg
  · rcases Nat.lt_or_ge k out.length with hl | hl
    · rw [List.getElem?_append_left hl] at hk
      rw [List.take_append_of_le_length (Nat.le_of_lt hl)]
      exact h.idx k c hk
    · obtain ⟨j, rfl⟩ : ∃ j, k = out.length + j := ⟨k - out.length, by omega⟩
      rw [List.getElem?_append_right (by omega), Nat.add_sub_cancel_left, hrow] at hk
      by_cases hj : j < T
      · rw [if_pos hj] at hk
        cases hk
        rw [List.take_append, List.countP_append, List.take_of_length_le (by omega), Nat.add_sub_cancel_left]
        have e1 : (out.countP fun d => decide (d.Frame = (Zci number p ((out.length + j : Nat) : Int) f j).Frame)) = 0 := by
          rw [List.countP_eq_zero]
          intro d hd
          have := hlow d hd
          show ¬ decide (d.Frame = f) = true
          rw [decide_eq_true_eq]
          omega
        have e2 : ((((List.range T).map fun j => Zci number p ((out.length + j : Nat) : Int) f j).take j).countP fun d => decide (d.Frame = (Zci number p ((out.length + j : Nat) : Int) f j).Frame)) = j := by
          have : ∀ d ∈ (((List.range T).map fun j => Zci number p ((out.length + j : Nat) : Int) f j).take j), decide (d.Frame = (Zci number p ((out.length + j : Nat) : Int) f j).Frame) = true := by
            intro d hd
            obtain ⟨i, _, rfl⟩ := List.mem_map.1 (List.mem_of_mem_take hd)
            simp [Zci]
          rw [List.countP_eq_length.2 this]
          simp; omega
        rw [e1, e2, Nat.zero_add]
        exact hmod j hj
      · rw [if_neg hj] at hk; cases hk
  · rw [List.map_append, List.pairwise_append]
    refine ⟨h.sort, ?_, fun a ha b hb => ?_⟩
    · rw [List.map_map, List.pairwise_map]
      refine (List.pairwise_lt_range (n := T)).imp_of_mem fun {i j} hi hj hij => ?_
      have hi := List.mem_range.1 hi
      have hj := List.mem_range.1 hj
      simp only [Function.comp]
      rw [htm i hi, htm j hj]
      have := ZqH (x := (i : Int)) (y := (j : Int)) hT.1 (by omega) (by omega)
      omega
    · obtain ⟨c, hc, rfl⟩ := List.mem_map.1 ha
      obtain ⟨d, hd, rfl⟩ := List.mem_map.1 hb
      obtain ⟨j, hj, rfl⟩ := List.mem_map.1 hd
      have hj := List.mem_range.1 hj
      rw [htm j hj]
      have h1 := hlow c hc
      have h2 := Zkp (x := c.Index % p.Times) (T := p.Times) hT.1 (Int.emod_nonneg _ (by omega)) (Int.emod_lt_of_pos _ (by omega))
      have h3 := Zkp (x := (j : Int)) (T := p.Times) hT.1 (by omega) (by omega)
      unfold tmN
      omega
  · rcases List.mem_append.1 hc with hc | hc
    · exact h.pos c hc
    · obtain ⟨j, _, rfl⟩ := List.mem_map.1 hc
      show (0 : Int) ≤ ((out.length + j : Nat) : Int)
      omega
theorem ZlL {number : Int} {p : api_Param} {first : Int} (hT : 1 ≤ p.Times ∧ p.Times ≤ 57) : ∀ (fs : List Int) (out : List api_Cell), fs.Pairwise (· < ·) → CellInv p first fs out → CellInv p first [] (fs.foldl (ZcW number p) out)
  | [], out, _, h => h
  | f :: fs, out, hf, h => ZlL hT fs _ (List.pairwise_cons.1 hf).2 (Zo7 hT hf h)
theorem Zni {p : api_Param} (h : ParOK p) (number first : Int) : CellInv p first [] (cellsN number p) := by
  obtain ⟨hE, hF, hT, _⟩ := XX h.tim
  have h0 : CellInv p first (J6 p) [] := { mod := ⟨0, by simp⟩, low := (fun c hc => by cases hc), idx := (fun k c hk => by simp at hk), sort := List.Pairwise.nil, pos := (fun c hc => by cases hc) }
  exact ZlL hT _ _ (Zk6 (by omega) 17 p.First).1 h0
end Go.Vx

namespace Go.Vx
open Go Go.RowKit
theorem ZqJ (v : Int) : Ju .i64 v 15 = v % 16 := ZcX (n := 4) (by decide)
theorem Zr8 {b : Int} (h : 1 ≤ b) : (2 : Int) ^ b.toNat = 2 * (2 : Int) ^ (b - 1).toNat := by
  have : b.toNat = (b - 1).toNat + 1 := by omega
  rw [this, Int.pow_succ, Int.mul_comm]
def HH (p : api_Param) : Int := (2 : Int) ^ (bitsN p - 1).toNat
theorem Zk9 {p : api_Param} (h : ParOK p) : 1 ≤ HH p ∧ HH p ≤ 549755813888 ∧ (2 : Int) ^ (bitsN p).toNat = 2 * HH p := by
  have hb := h.bits
  have e : ((2 ^ (bitsN p - 1).toNat : Nat) : Int) = HH p := by unfold HH; push_cast; rfl
  have h1 : 1 ≤ 2 ^ (bitsN p - 1).toNat := Nat.one_le_two_pow
  have h2 : 2 ^ (bitsN p - 1).toNat ≤ 2 ^ 39 := Nat.pow_le_pow_right (by decide) (by omega)
  rw [show (2 : Nat) ^ 39 = 549755813888 by decide] at h2
  refine ⟨by omega, by omega, Zr8 hb.1⟩
def NN (p : api_Param) : Nat := ((bitsN p).tdiv 4).toNat
theorem Zpv {p : api_Param} (h : ParOK p) (h4 : p.Kind = 4) : bitsN p = 4 * (NN p : Int) ∧ 1 ≤ NN p ∧ NN p ≤ 10 := by
  have hb := h.bits
  have hk := h.k4 h4
  have e1 : (bitsN p).tmod 4 = bitsN p % 4 := Int.tmod_eq_emod_of_nonneg (by omega)
  have e2 : (bitsN p).tdiv 4 = bitsN p / 4 := Int.tdiv_eq_ediv_of_nonneg (by omega)
  rw [e1] at hk
  unfold NN
  rw [e2]
  omega
def lims (p : api_Param) : Int × Int := if p.Kind = 1 then (0, 2 * HH p - 1) else if p.Kind = 5 then (0, 1) else if p.Kind = 6 then (0, (p.Names.length : Int) - 1) else if p.Kind = 2 then (-HH p, HH p - 1) else if p.Kind = 3 then (1 - HH p, HH p - 1) else (0, 10 ^ NN p - 1)
def bcd : Nat → Nat → Nat
  | 0, _ => 0
  | n + 1, v => v % 10 + 16 * bcd n (v / 10)
def enc (p : api_Param) (v : Int) : Int := if p.Kind = 2 then (if v < 0 then 2 * HH p + v else v) else if p.Kind = 3 then (if v < 0 then HH p - v else v) else if p.Kind = 4 then (bcd (NN p) v.toNat : Int) else v
def dig (raw : Int) (m : Nat) : Int := Ju .i64 (raw.fdiv (2 ^ (4 * m))) 15
def Zd4 (raw : Int) : Nat → Int → Bool → Int × Bool
  | 0, v, ok => (v, ok)
  | m + 1, v, ok => Zd4 raw m (i64 (i64 (v * 10) + dig raw m)) (ok && decide (dig raw m < 10))
def clr (x : Int × Bool) : Int × Bool := if x.2 = true then (x.1, true) else (0, false)
def dec (p : api_Param) (raw : Int) : Int × Bool := if p.Kind = 1 then (raw, true) else if p.Kind = 5 then (raw, true) else if p.Kind = 6 then (if (p.Names.length : Int) ≤ raw then (0, false) else (raw, true)) else if p.Kind = 2 then (if HH p ≤ raw then (raw - 2 * HH p, true) else (raw, true))
  else if p.Kind = 3 then (if raw = HH p then (0, false) else if HH p < raw then (HH p - raw, true) else (raw, true)) else clr (Zd4 raw (NN p) 0 true)
theorem ZiE {n : Nat} (h : n ≤ 10) : (1 : Int) ≤ 10 ^ n ∧ (10 : Int) ^ n ≤ 10000000000 := by
  have e : ((10 ^ n : Nat) : Int) = (10 : Int) ^ n := by push_cast; rfl
  have h1 : 1 ≤ 10 ^ n := Nat.one_le_pow _ _ (by decide)
  have h2 : 10 ^ n ≤ 10 ^ 10 := Nat.pow_le_pow_right (by decide) h
  rw [show (10 : Nat) ^ 10 = 10000000000 by decide] at h2
  omega
theorem Zn4 {n : Nat} (hn : n ≤ 10) {body : Int → Int → Option ((Int × Int) ⊕ Int)} (hb : ∀ a i, body a i = if decide (i < (n : Int)) = true then some (.inl (i64 (a * 10), i64 (i + 1))) else some (.inr a)) :
    loop (t2 body) (1, 0) = some ((10 : Int) ^ n) := by
  have := JR (body := t2 body) (fun s => ∃ k : Nat, s.2 = k ∧ k ≤ n ∧ s.1 = 10 ^ k) (fun s => n - s.2.toNat) (fun _ => (10 : Int) ^ n) (by
    rintro ⟨a, i⟩ ⟨k, hi, hk, ha⟩
    simp only at hi ha
    subst hi ha
    simp only [Zaf, hb]
    rcases Nat.lt_or_ge k n with h | h
    · left
      have h1 : ((k : Nat) : Int) < (n : Int) := by omega
      have hp := ZiE (n := k) (by omega)
      simp only [h1, decide_true, if_true]
      rw [ZZ (by omega) (by omega), ZZ (by omega) (by omega)]
      exact ⟨_, rfl, ⟨k + 1, by push_cast; rfl, h, by simp only; rw [Int.pow_succ]⟩, by simp only; omega, trivial⟩
    · have : k = n := by omega
      subst this
      right
      simp) (1, 0) ⟨0, rfl, Nat.zero_le _, rfl⟩
  exact this
theorem ZlP : ∀ n, bcd n 0 = 0
  | 0 => rfl
  | n + 1 => by simp [bcd, ZlP n]
theorem ZoI : ∀ n v, bcd n v < 16 ^ n
  | 0, _ => by simp [bcd]
  | n + 1, v => by
    have := ZoI n (v / 10)
    have h2 := Nat.mod_lt v (show 0 < 10 by decide)
    rw [bcd, Nat.pow_succ]; omega
theorem p16 (k : Nat) : (16 : Nat) ^ k = 2 ^ (4 * k) := by rw [Nat.pow_mul]
theorem ZlF {v k : Nat} (hk : k ≤ 10) : rem (v : Int) 10 = some ((v % 10 : Nat) : Int) ∧ shl .i64 ((v % 10 : Nat) : Int) ((4 * k : Nat) : Int) = some ((2 ^ (4 * k) * (v % 10) : Nat) : Int) ∧ (v < 2 ^ 62 → quo .i64 (v : Int) 10 = some ((v / 10 : Nat) : Int)) := by
  refine ⟨?_, ?_, ?_⟩
  · simp only [rem]
    rw [if_neg (by decide)]
    rw [Int.tmod_eq_emod_of_nonneg (by omega)]; rfl
  · have h1 : v % 10 < 10 := Nat.mod_lt _ (by decide)
    have h2 : 2 ^ (4 * k) ≤ 2 ^ 40 := Nat.pow_le_pow_right (by decide) (by omega)
    have h3 : 2 ^ (4 * k) * (v % 10) ≤ 2 ^ 40 * 10 := Nat.mul_le_mul h2 (by omega)
    have h4 : (2 : Nat) ^ 40 * 10 = 10995116277760 := by decide
    have hm : min (((4 * k : Nat) : Int)).toNat IntKind.i64.bits = 4 * k := by
      have : IntKind.i64.bits = 64 := rfl
      rw [Int.toNat_natCast]; omega
    unfold shl
    rw [if_neg (by omega), hm]
    have e : (((v % 10 : Nat) : Int) * 2 ^ (4 * k)) = ((2 ^ (4 * k) * (v % 10) : Nat) : Int) := by push_cast; rw [Int.mul_comm]
    rw [e]
    congr 1
    exact ZZ (by omega) (by omega)
  · intro hv
    have h62 : (2 : Nat) ^ 62 = 4611686018427387904 := by decide
    simp only [quo]
    rw [if_neg (by decide), Int.tdiv_eq_ediv_of_nonneg (by omega)]
    congr 1
    exact ZZ (by omega) (by omega)
theorem Zrt {raw k n v : Nat} (hr : raw < 2 ^ (4 * k)) (hkn : k + n ≤ 10) : raw + 2 ^ (4 * k) * bcd n v < 2 ^ 62 := by
  have h1 := ZoI n v
  rw [p16] at h1
  have h2 : 2 ^ (4 * k) * bcd n v ≤ 2 ^ (4 * k) * (2 ^ (4 * n) - 1) := Nat.mul_le_mul_left _ (by omega)
  have h3 : 2 ^ (4 * k) * (2 ^ (4 * n) - 1) = 2 ^ (4 * k + 4 * n) - 2 ^ (4 * k) := by rw [Nat.mul_sub, Nat.mul_one, Nat.pow_add]
  have h4 : 2 ^ (4 * k + 4 * n) ≤ 2 ^ 40 := Nat.pow_le_pow_right (by decide) (by omega)
  have h5 : (2 : Nat) ^ 40 < 2 ^ 62 := by decide
  have h6 : 2 ^ (4 * k) ≤ 2 ^ (4 * k + 4 * n) := Nat.pow_le_pow_right (by decide) (by omega)
  omega
theorem t10 : (10 : Nat) ^ 10 = 10000000000 := by decide
theorem t62 : (2 : Nat) ^ 62 = 4611686018427387904 := by decide
theorem ZqS {k v : Nat} (hv : v < 10000000000) (hk : k ≤ 10) : quo .i64 (v : Int) 10 = some ((v / 10 : Nat) : Int) := by
  obtain ⟨e1, e2, e3⟩ := ZlF (v := v) (k := k) hk
  exact e3 (by rw [t62]; omega)
theorem Zrj {k v raw : Nat} (hr : raw < 2 ^ (4 * k)) (hk : k + 1 ≤ 10) : raw + 2 ^ (4 * k) * (v % 10) < 2 ^ 62 := by
  have hb := Zrt (v := v) (n := 1) hr hk
  simp only [bcd, Nat.mul_zero, Nat.add_zero] at hb
  exact hb
theorem ZnO {n k v raw : Nat} (h0 : v ≠ 0) (hv : v < 10000000000) (hr : raw < 2 ^ (4 * k)) (hkn : k + (n + 1) ≤ 10) : Qd (v : Int) (raw : Int) ((4 * k : Nat) : Int) = some (.inl (((v / 10 : Nat) : Int), ((raw + 2 ^ (4 * k) * (v % 10) : Nat) : Int), ((4 * (k + 1) : Nat) : Int))) := by
  have hpos : decide ((0 : Int) < (v : Int)) = true := by rw [decide_eq_true_eq]; omega
  obtain ⟨e1, e2, _⟩ := ZlF (v := v) (k := k) (by omega)
  have e3 := ZqS (k := k) hv (by omega)
  have hb := Zrj (v := v) hr (by omega)
  have hb2 := Zoc hr hb
  have e4 : i64 (((4 * k : Nat) : Int) + 4) = ((4 * (k + 1) : Nat) : Int) := by rw [ZZ (by omega) (by omega)]; push_cast; omega
  unfold Qd
  rw [if_pos hpos, e1, Option.bind_some, e2, Option.bind_some, e3, Option.bind_some, hb2, e4]
theorem Zow {k v raw : Nat} (hr : raw < 2 ^ (4 * k)) : raw + 2 ^ (4 * k) * (v % 10) < 2 ^ (4 * (k + 1)) := by
  have h1 : v % 10 < 10 := Nat.mod_lt _ (by decide)
  have h2 : 2 ^ (4 * (k + 1)) = 2 ^ (4 * k) * 16 := by rw [show 4 * (k + 1) = 4 * k + 4 by omega, Nat.pow_add]
  have h3 : 2 ^ (4 * k) * (v % 10) ≤ 2 ^ (4 * k) * 9 := Nat.mul_le_mul_left _ (by omega)
  omega
theorem Zpz (n k v raw : Nat) : raw + 2 ^ (4 * k) * (v % 10) + 2 ^ (4 * (k + 1)) * bcd n (v / 10) = raw + 2 ^ (4 * k) * bcd (n + 1) v := by
  have h2 : 2 ^ (4 * (k + 1)) = 2 ^ (4 * k) * 16 := by rw [show 4 * (k + 1) = 4 * k + 4 by omega, Nat.pow_add]
  rw [h2, bcd, Nat.mul_add, ← Nat.mul_assoc, Nat.add_assoc]
theorem Zsd (n : Nat) : 10 ^ (n + 1) = 10 ^ n * 10 := Nat.pow_succ ..
theorem ZnA : ∀ (n k v raw : Nat), v < 10 ^ n → raw < 2 ^ (4 * k) → k + n ≤ 10 → loop (t3 Qd) ((v : Int), (raw : Int), ((4 * k : Nat) : Int)) = some ((raw + 2 ^ (4 * k) * bcd n v : Nat) : Int) := by
  intro n
  induction n with
  | zero =>
    intro k v raw hv hr hkn
    have : v = 0 := by simpa using hv
    subst this
    rw [ZV]
    simp [Qd, bcd]
  | succ n ih =>
    intro k v raw hv hr hkn
    by_cases h0 : v = 0
    · subst h0
      rw [ZV]
      simp [Qd, ZlP]
    · have h10 : v < 10000000000 := Nat.lt_of_lt_of_le hv (Nat.le_trans (Nat.pow_le_pow_right (by decide) (by omega : n + 1 ≤ 10)) (Nat.le_of_eq t10))
      have hv2 : v / 10 < 10 ^ n := by
        rw [Zsd] at hv
        exact Nat.div_lt_of_lt_mul (by rw [Nat.mul_comm]; exact hv)
      rw [ZV, Ziv, ZnO (n := n) h0 h10 hr hkn]
      have := ih (k + 1) (v / 10) _ hv2 (Zow (v := v) hr) (by omega)
      rw [Zpz] at this
      exact this
end Go.Vx

namespace Go.Vx
open Go Go.RowKit
theorem Zqj {raw : Int} {m : Nat} (hm : m ≤ 15) : shr .i64 raw ((4 * m : Nat) : Int) = some (raw.fdiv (2 ^ (4 * m))) := by
  have e : min (((4 * m : Nat) : Int)).toNat IntKind.i64.bits = 4 * m := by
    have : IntKind.i64.bits = 64 := rfl
    rw [Int.toNat_natCast]; omega
  unfold shr
  rw [if_neg (by omega), e]
theorem Znr (raw : Int) : ∀ (m : Nat) (v : Int) (ok : Bool), m ≤ 16 → loop (t3 (Jm raw)) (v, ok, ((4 * m : Nat) : Int) - 4) = some (Zd4 raw m v ok) := by
  intro m
  induction m with
  | zero =>
    intro v ok _
    rw [ZV]
    simp [Jm, Zd4]
  | succ m ih =>
    intro v ok hm
    have h1 : ((4 * (m + 1) : Nat) : Int) - 4 = ((4 * m : Nat) : Int) := by push_cast; omega
    have h2 : decide ((0 : Int) ≤ ((4 * m : Nat) : Int)) = true := by rw [decide_eq_true_eq]; omega
    have h3 : i64 (((4 * m : Nat) : Int) - 4) = ((4 * m : Nat) : Int) - 4 := ZZ (by omega) (by omega)
    rw [h1, ZV, Ziv]
    unfold Jm
    rw [if_pos h2, Zqj (by omega), Option.bind_some, h3]
    exact ih _ _ (by omega)
theorem Zq9 (raw : Int) : ZaY raw = some (Zd4 raw 16 0 true) := by
  unfold ZaY
  have := Znr raw 16 0 true (by omega)
  have e : ((4 * 16 : Nat) : Int) - 4 = 60 := by decide
  rw [e] at this
  rw [this]; generalize Zd4 raw 16 0 true = x; rfl
theorem Zjf (raw : Int) : ∀ m v, (Zd4 raw m v false).2 = false
  | 0, _ => rfl
  | m + 1, v => by simp only [Zd4, Bool.false_and]; exact Zjf raw m _
theorem ZrK (raw : Int) (m : Nat) : dig raw m = raw.fdiv (2 ^ (4 * m)) % 16 := by unfold dig; rw [ZqJ]
theorem ZrA {raw : Int} {n m : Nat} (h0 : 0 ≤ raw) (h1 : raw < 2 ^ (4 * n)) (hm : n ≤ m) : dig raw m = 0 := by
  rw [ZrK]
  have hle : (2 : Nat) ^ (4 * n) ≤ 2 ^ (4 * m) := Nat.pow_le_pow_right (by decide) (by omega)
  have e1 : ((2 ^ (4 * n) : Nat) : Int) = (2 : Int) ^ (4 * n) := by push_cast; rfl
  have e2 : ((2 ^ (4 * m) : Nat) : Int) = (2 : Int) ^ (4 * m) := by push_cast; rfl
  have hlt : raw < (2 : Int) ^ (4 * m) := by omega
  rw [Int.fdiv_eq_ediv_of_nonneg _ (by omega), Int.ediv_eq_zero_of_lt h0 hlt]
  rfl
theorem ZmA {raw : Int} {n : Nat} (h0 : 0 ≤ raw) (h1 : raw < 2 ^ (4 * n)) : ∀ d, Zd4 raw (n + d) 0 true = Zd4 raw n 0 true
  | 0 => rfl
  | d + 1 => by
    have e : n + (d + 1) = (n + d) + 1 := by omega
    rw [e, Zd4, ZrA h0 h1 (by omega)]
    have : i64 (i64 (0 * 10) + 0) = 0 := by decide
    rw [this]
    simpa using ZmA h0 h1 d
theorem Znt (raw : Int) : ∀ (m : Nat) (v : Int), m ≤ 10 → loop (t2 (ZaO raw)) (v, ((4 * m : Nat) : Int) - 4) = some (if (Zd4 raw m v true).2 = true then .inr (Zd4 raw m v true).1 else .inl (0, false)) := by
  intro m
  induction m with
  | zero =>
    intro v _
    rw [ZV]
    simp [ZaO, Zd4]
  | succ m ih =>
    intro v hm
    have h1 : ((4 * (m + 1) : Nat) : Int) - 4 = ((4 * m : Nat) : Int) := by push_cast; omega
    have h2 : decide ((0 : Int) ≤ ((4 * m : Nat) : Int)) = true := by rw [decide_eq_true_eq]; omega
    have h3 : i64 (((4 * m : Nat) : Int) - 4) = ((4 * m : Nat) : Int) - 4 := ZZ (by omega) (by omega)
    rw [h1, ZV, Zaf]
    unfold ZaO
    rw [if_pos h2, Zqj (by omega), Option.bind_some, h3]
    have hd : Ju .i64 (raw.fdiv (2 ^ (4 * m))) 15 = dig raw m := rfl
    rw [hd]
    by_cases h9 : dig raw m < 10
    · have h9' : ¬ 9 < dig raw m := by omega
      have e : Zd4 raw (m + 1) v true = Zd4 raw m (i64 (i64 (10 * v) + dig raw m)) true := by
        rw [Zd4, Int.mul_comm 10 v]; simp [h9]
      rw [if_neg (by simpa using h9'), e]
      exact ih _ (by omega)
    · have h9' : 9 < dig raw m := by omega
      have e : (Zd4 raw (m + 1) v true).2 = false := by
        simp only [Zd4, h9, decide_false, Bool.and_false]
        exact Zjf raw m _
      rw [if_pos (by simpa using h9'), e]
      rfl
theorem Zsq {b : Int} (h : 1 ≤ b ∧ b ≤ 40) : quo .i64 b 4 = some (b.tdiv 4) := by
  simp only [quo]
  rw [if_neg (by decide)]
  congr 1
  rw [Int.tdiv_eq_ediv_of_nonneg (by omega)]
  exact ZZ (by omega) (by omega)
structure NumOK (p : api_Param) (n : layout_number) : Prop where
  low : n.low = (lims p).1
  high : n.high = (lims p).2
  encode : ∀ v, (lims p).1 ≤ v → v ≤ (lims p).2 → n.encode.fn v = some (enc p v)
  decode : ∀ raw, 0 ≤ raw → raw < 2 * HH p → ∃ y, n.decode.fn raw = some y ∧ clr y = dec p raw
theorem Zpx {p : api_Param} (h : ParOK p) (h4 : p.Kind = 4) {v : Int} (h0 : 0 ≤ v) (h1 : v ≤ 10 ^ NN p - 1) : v = (v.toNat : Int) ∧ v.toNat < 10 ^ NN p ∧ v.toNat < 2 ^ 62 := by
  obtain ⟨_, _, hN⟩ := Zpv h h4
  have e : ((10 ^ NN p : Nat) : Int) = (10 : Int) ^ NN p := by push_cast; rfl
  have hp := ZiE hN
  rw [t62]
  omega
theorem HH4 {p : api_Param} (h : ParOK p) (h4 : p.Kind = 4) : 2 * HH p = 2 ^ (4 * NN p) := by
  obtain ⟨e, _, _⟩ := Zpv h h4
  rw [← (Zk9 h).2.2, e]
  congr 1
theorem Zl1 {p : api_Param} (h : ParOK p) : ∃ n, Q1 p = some n ∧ NumOK p n := by
  obtain ⟨hH1, hH2, hH3⟩ := Zk9 h
  have hb := h.bits
  have hk := h.kind
  unfold Q1
  rw [ZgM h.len, Option.bind_some, ZZ (by omega) (by omega), ZnT (by omega) (by omega), Option.bind_some]
  have eH : (2 : Int) ^ (bitsN p - 1).toNat = HH p := rfl
  rw [eH]
  by_cases k1 : p.Kind = 1
  · have e2 : i64 (i64 (2 * HH p) - 1) = 2 * HH p - 1 := by rw [ZZ (z := 2 * HH p) (by omega) (by omega), ZZ (by omega) (by omega)]
    rw [if_pos (by simpa using k1)]
    refine ⟨_, rfl, ?_, ?_, ?_, ?_⟩
    · simp [lims, k1]
    · simp only [lims, k1, if_true]; exact e2
    · intro v _ _; simp [enc, k1, Xq]
    · intro raw r0 r1
      refine ⟨_, rfl, ?_⟩
      rw [e2]
      have : raw ≤ 2 * HH p - 1 := by omega
      simp [clr, dec, k1, this]
  rw [if_neg (by simpa using k1)]
  by_cases k5 : p.Kind = 5
  · have hb1 := h.k5 k5
    have hHv : HH p = 1 := by unfold HH; rw [hb1]; rfl
    rw [if_pos (by simpa using k5)]
    refine ⟨_, rfl, ?_, ?_, ?_, ?_⟩
    · simp [lims, k5]
    · simp [lims, k5]
    · intro v _ _; simp [enc, k5, Xq]
    · intro raw r0 r1
      refine ⟨_, rfl, ?_⟩
      have : raw ≤ 1 := by omega
      simp [clr, dec, k5, this]
  rw [if_neg (by simpa using k5)]
  by_cases k6 : p.Kind = 6
  · obtain ⟨n1, n2, n3⟩ := h.k6 k6
    have e2 : i64 ((p.Names.length : Int) - 1) = (p.Names.length : Int) - 1 := ZZ (by omega) (by omega)
    rw [if_pos (by simpa using k6)]
    refine ⟨_, rfl, ?_, ?_, ?_, ?_⟩
    · simp [lims, k6]
    · simp only [lims, k6]; exact e2
    · intro v _ _; simp [enc, k6, Xq]
    · intro raw r0 r1
      refine ⟨_, rfl, ?_⟩
      rw [e2]
      by_cases hr : (p.Names.length : Int) ≤ raw
      · have : ¬ raw ≤ (p.Names.length : Int) - 1 := by omega
        simp [clr, dec, k6, this, hr]
      · have : raw ≤ (p.Names.length : Int) - 1 := by omega
        simp [clr, dec, k6, this, hr]
  rw [if_neg (by simpa using k6)]
  by_cases k2 : p.Kind = 2
  · rw [if_pos (by simpa using k2)]
    refine ⟨_, rfl, ?_, ?_, ?_, ?_⟩
    · simp only [lims, k2]; exact ZZ (by omega) (by omega)
    · simp only [lims, k2]; exact ZZ (by omega) (by omega)
    · intro v v0 v1
      have l1 : (lims p).1 = -HH p := by simp [lims, k2]
      have l2 : (lims p).2 = HH p - 1 := by simp [lims, k2]
      rw [l1] at v0; rw [l2] at v1
      show some (Ju .i64 v (i64 (i64 (2 * HH p) - 1))) = _
      rw [ZZ (z := 2 * HH p) (by omega) (by omega), ZZ (z := 2 * HH p - 1) (by omega) (by omega), ← hH3, ZcX (by omega), hH3]
      congr 1
      by_cases hv : v < 0
      · have : v % (2 * HH p) = 2 * HH p + v := by
          rw [← Int.add_emod_left, Int.emod_eq_of_lt (by omega) (by omega)]
        simp [enc, k2, hv, this]
      · rw [Int.emod_eq_of_lt (by omega) (by omega)]
        simp [enc, k2, hv]
    · intro raw r0 r1
      show ∃ y, XE raw (HH p) = some y ∧ _
      unfold XE
      by_cases hr : HH p ≤ raw
      · rw [if_pos (by simpa using hr)]
        refine ⟨_, rfl, ?_⟩
        rw [ZZ (z := 2 * HH p) (by omega) (by omega), ZZ (by omega) (by omega)]
        simp [clr, dec, k2, hr]
      · rw [if_neg (by simpa using hr)]
        exact ⟨_, rfl, by simp [clr, dec, k2, hr]⟩
  rw [if_neg (by simpa using k2)]
  by_cases k3 : p.Kind = 3
  · rw [if_pos (by simpa using k3)]
    refine ⟨_, rfl, ?_, ?_, ?_, ?_⟩
    · simp only [lims, k3]; exact ZZ (by omega) (by omega)
    · simp only [lims, k3]; exact ZZ (by omega) (by omega)
    · intro v v0 v1
      have l1 : (lims p).1 = 1 - HH p := by simp [lims, k3]
      have l2 : (lims p).2 = HH p - 1 := by simp [lims, k3]
      rw [l1] at v0; rw [l2] at v1
      show XB v (HH p) = _
      unfold XB
      by_cases hv : v < 0
      · rw [if_pos (by simpa using hv), ZZ (by omega) (by omega)]; simp [enc, k3, hv]
      · rw [if_neg (by simpa using hv)]; simp [enc, k3, hv]
    · intro raw r0 r1
      show ∃ y, XF raw (HH p) = some y ∧ _
      unfold XF
      by_cases hr : HH p ≤ raw
      · rw [if_pos (by simpa using hr)]
        refine ⟨_, rfl, ?_⟩
        rw [ZZ (by omega) (by omega)]
        by_cases he : raw = HH p
        · simp [clr, dec, k3, he]
        · have : HH p < raw := by omega
          simp [clr, dec, k3, he, this]
      · have h1 : ¬ raw = HH p := by omega
        have h2 : ¬ HH p < raw := by omega
        rw [if_neg (by simpa using hr)]
        exact ⟨_, rfl, by simp [clr, dec, k3, h1, h2]⟩
  rw [if_neg (by simpa using k3)]
  have k4 : p.Kind = 4 := by omega
  rw [if_pos (by simpa using k4)]
  obtain ⟨hN1, hN2, hN3⟩ := Zpv h k4
  have hNt : (bitsN p).tdiv 4 = (NN p : Int) := by
    rw [Int.tdiv_eq_ediv_of_nonneg (by omega)]; omega
  have hp10 := ZiE hN3
  unfold QW
  rw [Zsq hb, hNt]
  have hL := Zn4 hN3 (body := ZaG (NN p : Int)) (fun a i => rfl)
  simp only [Option.bind_some]
  rw [hL]
  refine ⟨_, rfl, ?_, ?_, ?_, ?_⟩
  · simp [lims, k4]
  · simp only [lims, k4]; exact ZZ (by omega) (by omega)
  · intro v v0 v1
    have l1 : (lims p).1 = 0 := by simp [lims, k4]
    have l2 : (lims p).2 = 10 ^ NN p - 1 := by simp [lims, k4]
    rw [l1] at v0; rw [l2] at v1
    show XC v = _
    obtain ⟨ev, hv, _⟩ := Zpx h k4 v0 v1
    have := ZnA (NN p) 0 v.toNat 0 hv (by simp) (by omega)
    unfold XC
    rw [← ev] at this
    have this' : loop (t3 Qd) (v, 0, 0) = _ := this
    rw [this']
    simp [enc, k4, t1]
  · intro raw r0 r1
    refine ⟨_, Zq9 raw, ?_⟩
    have hlt : raw < 2 ^ (4 * NN p) := by rw [← HH4 h k4]; exact r1
    have := ZmA r0 hlt (16 - NN p)
    rw [show NN p + (16 - NN p) = 16 by omega] at this
    rw [this]
    simp [dec, k4]
theorem Znw {p : api_Param} (h : ParOK p) {raw : Int} (r0 : 0 ≤ raw) (r1 : raw < 2 * HH p) : ZcS p raw = some (dec p raw) := by
  obtain ⟨hH1, hH2, hH3⟩ := Zk9 h
  have hb := h.bits
  have hk := h.kind
  have eH : shl .i64 1 (i64 (bitsN p - 1)) = some (HH p) := by rw [ZZ (by omega) (by omega), ZnT (by omega) (by omega)]; rfl
  have eH2 : shl .i64 1 (bitsN p) = some (2 * HH p) := by rw [ZnT (by omega) (by omega), hH3]
  unfold ZcS
  rw [Zis, ZgM h.len, Option.bind_some, eH, eH2]
  simp only [Option.bind_some]
  by_cases k2 : p.Kind = 2
  · rw [if_pos (by simpa using k2)]
    by_cases hr : HH p ≤ raw
    · rw [if_pos (by simpa using hr), ZZ (by omega) (by omega)]; simp [dec, k2, hr, t1]
    · rw [if_neg (by simpa using hr)]; simp [dec, k2, hr, t1]
  rw [if_neg (by simpa using k2)]
  by_cases k3 : p.Kind = 3
  · rw [if_pos (by simpa using k3)]
    by_cases he : raw = HH p
    · rw [if_pos (by simpa using he)]; simp [dec, k3, he]
    · rw [if_neg (by simpa using he)]
      by_cases hr : HH p < raw
      · rw [if_pos (by simpa using hr), ZZ (by omega) (by omega)]; simp [dec, k3, he, hr, t1]
      · rw [if_neg (by simpa using hr)]; simp [dec, k3, he, hr, t1]
  rw [if_neg (by simpa using k3)]
  by_cases k4 : p.Kind = 4
  · obtain ⟨hN1, hN2, hN3⟩ := Zpv h k4
    have e : i64 (bitsN p - 4) = ((4 * NN p : Nat) : Int) - 4 := by rw [ZZ (by omega) (by omega), hN1]; push_cast; rfl
    rw [if_pos (by simpa using k4), e, Znt raw (NN p) 0 hN3]
    have : dec p raw = clr (Zd4 raw (NN p) 0 true) := by simp [dec, k4]
    rw [this]
    unfold clr
    by_cases hd : (Zd4 raw (NN p) 0 true).2 = true
    · rw [if_pos hd, if_pos hd]; rfl
    · rw [if_neg hd, if_neg hd]; rfl
  rw [if_neg (by simpa using k4)]
  by_cases k6 : p.Kind = 6
  · rw [if_pos (by simpa using k6)]
    by_cases hr : (p.Names.length : Int) ≤ raw
    · rw [if_pos (by simpa using hr)]; simp [dec, k6, hr]
    · rw [if_neg (by simpa using hr)]; simp [dec, k6, hr, t1]
  rw [if_neg (by simpa using k6)]
  have k15 : p.Kind = 1 ∨ p.Kind = 5 := by omega
  rcases k15 with k | k <;> simp [dec, k, t1]
end Go.Vx

namespace Go.Vx
open Go Go.RowKit
theorem ZmD {x : Int} (h : x ≠ 0) : (!decide (x = 0)) = true := by simp [h]
theorem ZnL {p : api_Param} (h : ParOK p) {raw : Int} (r0 : 0 ≤ raw) (r1 : raw < 2 * HH p) : ZaP p raw = some (dec p raw) := by
  obtain ⟨n, h1, h2⟩ := Zl1 h
  obtain ⟨y, h3, h4⟩ := h2.decode raw r0 r1
  unfold ZaP
  rw [h1, Option.bind_some, h3, Option.bind_some, ← h4]
  obtain ⟨y1, y2⟩ := y
  cases y2 <;> rfl
end Go.Vx
