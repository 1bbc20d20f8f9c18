/- A text of the proof: a verified executor of the program form, or the contracts of the functions that the law reaches. -/
import Derived.Test.YtjjlfkjacmhcmaaShT
import Derived.Test.YtjjlfkjacmhcmaaShLib
import Derived.Test.YtjjlfkjacmhcmaaVH
import Derived.Test.YtjjlfkjacmhcmaaVP
set_option linter.all false
namespace Go.Vx
open Go Go.RowKit
theorem ZeO {α : Type} {n : Nat} (v : Vector α n) (i j : Int) (x : α) (hi : 0 ≤ i) (hj : 0 ≤ j) (hl : i.toNat < n) : Qj (JT v i x) j = if j = i then some x else Qj v j := by
  unfold Qj
  rw [if_pos hj, if_pos hj, JK]
  by_cases e : j = i
  · subst e; rw [if_pos rfl]; simp [hl]
  · rw [if_neg e, List.getElem?_set_ne]
    omega
theorem ZiP {α : Type} {n : Nat} (v : Vector α n) (i j : Int) (x y : α) (hij : i.toNat ≠ j.toNat) : JT (JT v i x) j y = JT (JT v j y) i x := by
  apply Vector.toList_inj.1
  rw [JK, JK, JK, JK, List.set_comm _ _ hij]
theorem ZdU (x y : layout_bit × Int) (s : Vector Int 16) : (ZZ x s).bind (ZZ y) = (ZZ y s).bind (ZZ x) := by
  have e : ∀ (z : layout_bit × Int) (s : Vector Int 16), ZZ z s = (Qj s z.1.frame).map fun a => JT s z.1.frame (i64 (a - 1)) := fun z s => by
    unfold ZZ
    cases Qj s z.1.frame <;> rfl
  have e2 : ∀ (z z' : layout_bit × Int), (ZZ z s).bind (ZZ z') = (Qj s z.1.frame).bind fun a => (Qj (JT s z.1.frame (i64 (a - 1))) z'.1.frame).map fun b => JT (JT s z.1.frame (i64 (a - 1))) z'.1.frame (i64 (b - 1)) := fun z z' => by
    rw [e]
    cases Qj s z.1.frame with
    | none => rfl
    | some a => simp only [Option.map_some, Option.bind_some, e]
  rw [e2, e2]
  cases hx : Qj s x.1.frame with
  | none =>
    cases hy : Qj s y.1.frame with
    | none => rfl
    | some b =>
      have hy2 := Xj hy
      simp only [Option.bind_none, Option.bind_some]
      by_cases h0 : 0 ≤ x.1.frame
      · rw [ZeO _ _ _ _ (by omega) h0 hy2.2.1]
        by_cases e3 : x.1.frame = y.1.frame
        · rw [e3, hy] at hx; cases hx
        · rw [if_neg e3, hx]; rfl
      · unfold Qj; rw [if_neg h0]; rfl
  | some a =>
    have hx2 := Xj hx
    cases hy : Qj s y.1.frame with
    | none =>
      simp only [Option.bind_none, Option.bind_some]
      by_cases h0 : 0 ≤ y.1.frame
      · rw [ZeO _ _ _ _ (by omega) h0 hx2.2.1]
        by_cases e3 : y.1.frame = x.1.frame
        · rw [e3, hx] at hy; cases hy
        · rw [if_neg e3, hy]; rfl
      · unfold Qj; rw [if_neg h0]; rfl
    | some b =>
      have hy2 := Xj hy
      simp only [Option.bind_some]
      rw [ZeO _ _ _ _ (by omega) (by omega) hx2.2.1, ZeO _ _ _ _ (by omega) (by omega) hy2.2.1]
      by_cases e3 : y.1.frame = x.1.frame
      · have e4 : a = b := by rw [e3, hx] at hy; exact Option.some.inj hy
        subst e4
        rw [if_pos e3, if_pos e3.symm, e3]
      · rw [if_neg e3, if_neg (fun h => e3 h.symm), hx, hy]
        simp only [Option.map_some]
        rw [ZiP]
        omega
end Go.Vx

namespace Go.Vx
open Go Go.RowKit
theorem Zjz {z : Int} (h1 : -9223372036854775808 ≤ z) (h2 : z ≤ 9223372036854775807) : IntKind.i64.wrap z = z := w64 h1 h2
@[simp] theorem ZjZ {α : Type} {d : α} {o : Option α} : gd true d o = o := rfl
@[simp] theorem ZmG {α : Type} {d : α} {o : Option α} : gd false d o = some d := rfl
@[simp] theorem ZkU {α : Type} {d : α} {o : Option α} : gd (true == true) d o = o := rfl
theorem Qd {α : Type} {xs : List α} {k : Nat} {x : α} (h : xs[k]? = some x) : idx xs (k : Int) = some x := by simp [idx, h]
theorem Q9 {α : Type} {xs : List α} {k : Nat} {x : α} (h : xs[k]? = some x) : (k : Int) < (xs.length : Int) := by
  have := (List.getElem?_eq_some_iff.1 h).1; omega
theorem Xl {α : Type} {xs : List α} {k : Nat} (h : k < xs.length) : ∃ x, xs[k]? = some x := ⟨xs[k], List.getElem?_eq_getElem h⟩
theorem ZP {α : Type} {xs : List α} {k : Nat} {x : α} (h : xs[k]? = some x) : xs.drop k = x :: xs.drop (k + 1) := by
  obtain ⟨hk, rfl⟩ := List.getElem?_eq_some_iff.1 h
  exact List.drop_eq_getElem_cons hk
theorem Zgs {α : Type} {xs ys : List α} (h : xs.length + ys.length ≤ 4294967296) : app xs ys = some (xs ++ ys) := by unfold app apz; rw [if_pos (by omega)]

section loops
variable {σ ρ : Type}
theorem ZeX {body : σ → Option (σ ⊕ ρ)} (I : σ → Prop) (μ : σ → Nat) (F : σ → ρ) (step : ∀ s, I s → (∃ s', body s = some (.inl s') ∧ I s' ∧ μ s' < μ s ∧ F s = F s') ∨ body s = some (.inr (F s))) :
    ∀ s, I s → loop body s = some (F s) := by
  intro s hs
  obtain ⟨r, h1, h2⟩ := ZjL (body := body) (fun s' => I s' ∧ F s = F s') μ (fun r => r = F s) (fun s' ⟨h1, h2⟩ => by
    rcases step s' h1 with ⟨s2, e1, e2, e3, e4⟩ | e
    · exact .inl ⟨s2, e1, ⟨e2, h2.trans e4⟩, e3⟩
    · exact .inr ⟨_, e, h2.symm⟩) s ⟨hs, rfl⟩
  rw [h1, h2]
variable {α : Type} {xs : List α}
theorem Zhx {body : Int → Option (Int ⊕ ρ)} (F : Nat → ρ)
    (hstep : ∀ (k : Nat) x, xs[k]? = some x → (body k = some (.inl ((k : Int) + 1)) ∧ F k = F (k + 1)) ∨ body k = some (.inr (F k)))
    (hend : body xs.length = some (.inr (F xs.length))) : loop (t1 body) 0 = some (F 0) := by
  refine ZeX (body := t1 body) (fun i => ∃ k : Nat, i = k ∧ k ≤ xs.length) (fun i => xs.length - i.toNat) (fun i => F i.toNat) ?_ 0 ⟨0, rfl, Nat.zero_le _⟩
  rintro i ⟨k, rfl, hk⟩
  simp only [Int.toNat_natCast, Zl2]
  rcases Nat.lt_or_ge k xs.length with h | h
  · obtain ⟨x, hx⟩ := Xl h
    rcases hstep k x hx with ⟨h1, h2⟩ | h1
    · exact .inl ⟨_, h1, ⟨k + 1, by push_cast; rfl, h⟩, by omega, by rw [h2]; rfl⟩
    · exact .inr h1
  · have : k = xs.length := by omega
    subst this
    exact .inr hend
theorem ZeF {body : σ → Int → Option ((σ × Int) ⊕ ρ)} (I : σ → Nat → Prop) (F : σ → Nat → ρ)
    (hstep : ∀ a (k : Nat) x, I a k → xs[k]? = some x → (∃ a', body a k = some (.inl (a', (k : Int) + 1)) ∧ I a' (k + 1) ∧ F a k = F a' (k + 1)) ∨ body a k = some (.inr (F a k)))
    (hend : ∀ a, I a xs.length → body a xs.length = some (.inr (F a xs.length))) {a0 : σ} (h0 : I a0 0) : loop (t2 body) (a0, 0) = some (F a0 0) := by
  refine ZeX (body := t2 body) (fun p => ∃ k : Nat, p.2 = k ∧ k ≤ xs.length ∧ I p.1 k) (fun p => xs.length - p.2.toNat) (fun p => F p.1 p.2.toNat) ?_ (a0, 0) ⟨0, rfl, Nat.zero_le _, h0⟩
  rintro ⟨a, i⟩ ⟨k, hi, hk, hI⟩
  simp only at hi hI
  subst hi
  simp only [Int.toNat_natCast, JS]
  rcases Nat.lt_or_ge k xs.length with h | h
  · obtain ⟨x, hx⟩ := Xl h
    rcases hstep a k x hI hx with ⟨a', h1, h2, h3⟩ | h1
    · exact .inl ⟨_, h1, ⟨k + 1, by push_cast; rfl, h, h2⟩, by simp only; omega, by rw [h3]; rfl⟩
    · exact .inr h1
  · have : k = xs.length := by omega
    subst this
    exact .inr (hend a hI)
end loops
end Go.Vx

namespace Go.Vx
open Go Go.RowKit
section err
variable {α ε : Type}
def Jw {ρ : Type} (A : ε → ρ) (Z : ρ) : Option ε → ρ
  | some e => A e
  | none => Z
@[simp] theorem Zlk {ρ : Type} (A : ε → ρ) (Z : ρ) (e : ε) : Jw A Z (some e) = A e := rfl
@[simp] theorem X0 {ρ : Type} (A : ε → ρ) (Z : ρ) : Jw A Z none = Z := rfl
def Zc5 (g : α → Option ε) : List α → Option ε
  | [] => none
  | x :: tl => match g x with | some e => some e | none => Zc5 g tl
theorem ZdR {ρ : Type} {xs : List α} (g : α → Option ε) (A : ε → ρ) (Z : ρ) {body : Int → Option (Int ⊕ ρ)}
    (h : ∀ (k : Nat) x, xs[k]? = some x → body k = match g x with | some e => some (.inr (A e)) | none => some (.inl ((k : Int) + 1)))
    (hend : body xs.length = some (.inr Z)) : loop (t1 body) 0 = some (Jw A Z (Zc5 g xs)) := by
  refine Zhx (xs := xs) (fun k => Jw A Z (Zc5 g (xs.drop k))) (fun k x hx => ?_) ?_
  · rw [h k x hx, ZP hx]
    simp only [Zc5]
    cases hg : g x with
    | some e => right; rfl
    | none => left; exact ⟨rfl, rfl⟩
  · rw [hend]; simp [Zc5]
end err
theorem Zkk {α β : Type} {xs : List α} {body : List β → Int → Option ((List β × Int) ⊕ (List β))} (g : α → β)
    (hstep : ∀ (k : Nat) x acc, xs[k]? = some x → acc.length = k → body acc k = some (.inl (acc ++ [g x], (k : Int) + 1)))
    (hend : ∀ acc, body acc xs.length = some (.inr acc)) : loop (t2 body) ([], 0) = some (xs.map g) := by
  refine (ZeX (body := t2 body) (fun p => ∃ k : Nat, p.2 = k ∧ k ≤ xs.length ∧ p.1.length = k) (fun p => xs.length - p.2.toNat) (fun p => p.1 ++ (xs.drop p.2.toNat).map g) ?_ ([], 0) ⟨0, rfl, Nat.zero_le _, rfl⟩).trans (by simp)
  rintro ⟨acc, i⟩ ⟨k, hi, hk, ha⟩
  simp only at hi ha
  subst hi
  simp only [JS, Int.toNat_natCast]
  rcases Nat.lt_or_ge k xs.length with h | h
  · obtain ⟨x, hx⟩ := Xl h
    left
    refine ⟨_, hstep k x acc hx ha, ⟨k + 1, by push_cast; rfl, h, by simp [ha]⟩, by simp only; omega, ?_⟩
    rw [ZP hx]
    simp
  · have : k = xs.length := by omega
    subst this
    right
    rw [hend]; simp
end Go.Vx

namespace Go.Vx
open Go Go.RowKit
section
variable {α ε : Type}
def ZN (g : Nat → α → Option ε) : Nat → List α → Option ε
  | _, [] => none
  | k, x :: tl => match g k x with | some e => some e | none => ZN g (k + 1) tl
theorem XX {ρ : Type} {xs : List α} (g : Nat → α → Option ε) (A : ε → ρ) (Z : ρ) {body : Int → Option (Int ⊕ ρ)}
    (h : ∀ (k : Nat) x, xs[k]? = some x → body k = Jw (fun e => some (.inr (A e))) (some (.inl ((k : Int) + 1))) (g k x))
    (hend : body xs.length = some (.inr Z)) : loop (t1 body) 0 = some (Jw A Z (ZN g 0 xs)) := by
  refine Zhx (xs := xs) (fun k => Jw A Z (ZN g k (xs.drop k))) (fun k x hx => ?_) ?_
  · rw [h k x hx, ZP hx]
    simp only [ZN]
    cases hg : g k x with
    | some e => right; rfl
    | none => left; exact ⟨rfl, rfl⟩
  · rw [hend]; simp [ZN]
theorem Zfz {g g' : Nat → α → Option ε} : ∀ (k : Nat) (xs : List α), (∀ (j : Nat) x, xs[j]? = some x → g (k + j) x = g' (k + j) x) → ZN g k xs = ZN g' k xs
  | _, [], _ => rfl
  | k, x :: tl, h => by
    have h0 := h 0 x rfl
    rw [Nat.add_zero] at h0
    have ih := Zfz (g := g) (g' := g') (k + 1) tl fun j y hy => by
      have := h (j + 1) y (by simpa using hy)
      rwa [show k + (j + 1) = k + 1 + j by omega] at this
    simp only [ZN, h0]
    rw [ih]
theorem Zgi {g : Nat → α → Option ε} : ∀ (k : Nat) (xs : List α), ZN g k xs = none → ∀ (j : Nat) x, xs[j]? = some x → g (k + j) x = none
  | _, [], _, j, x, hx => by simp at hx
  | k, y :: tl, h, j, x, hx => by
    simp only [ZN] at h
    cases hy : g k y with
    | some e => rw [hy] at h; cases h
    | none =>
      rw [hy] at h
      cases j with
      | zero => simp at hx; subst hx; simpa using hy
      | succ j =>
        have := Zgi (k + 1) tl h j x (by simpa using hx)
        rwa [show k + 1 + j = k + (j + 1) by omega] at this
theorem ZgV {p : α → Bool} : ∀ (k : Nat) (xs : List α), ZN (fun _ x => if p x then none else some ()) k xs = if xs.all p then none else some ()
  | _, [] => rfl
  | k, x :: tl => by
    have ih := ZgV (p := p) (k + 1) tl
    simp only [ZN, List.all_cons]
    by_cases hp : p x = true
    · simp only [hp, if_true, Bool.true_and]; exact ih
    · have hp' : p x = false := by simpa using hp
      simp [hp']
end
theorem Zks {k : Nat} {n : Nat} (h : k < n) (hn : n ≤ 9223372036854775807) : i64 ((k : Int) + 1) = (k : Int) + 1 := Zjz (by omega) (by omega)
theorem Zkn {s : Str} {k : Nat} {b : UInt8} (h : s[k]? = some b) : ZhJ s (k : Int) = some ((b.toNat : Nat) : Int) := by simp [ZhJ, h]
def lcI (z : Int) : Bool := decide (97 ≤ z) && decide (z ≤ 122)
def nbI (z : Int) : Bool := (lcI z || (decide (48 ≤ z) && decide (z ≤ 57))) || decide (z = 45)
def lcB (b : UInt8) : Bool := lcI (b.toNat : Int)
def nbB (b : UInt8) : Bool := nbI (b.toNat : Int)
theorem ZkW {z : Int} (h : lcI z = true) : nbI z = true := by simp [nbI, h]
theorem ZhA {α : Type} {body : List α → Int → Option ((List α × Int) ⊕ (List α))} (n : Nat) (g : Nat → α)
    (hstep : ∀ (k : Nat) acc, k < n → acc.length = k → body acc k = some (.inl (acc ++ [g k], (k : Int) + 1)))
    (hend : ∀ acc, body acc n = some (.inr acc)) : loop (t2 body) ([], 0) = some ((List.range n).map g) := by
  have := ZeX (body := t2 body) (fun p => ∃ k : Nat, p.2 = k ∧ k ≤ n ∧ p.1 = (List.range k).map g) (fun p => n - p.2.toNat) (fun _ => (List.range n).map g) (by
    rintro ⟨acc, i⟩ ⟨k, hi, hk, ha⟩
    simp only at hi ha
    subst hi ha
    simp only [JS]
    rcases Nat.lt_or_ge k n with h | h
    · left
      refine ⟨_, hstep k _ h (by simp), ⟨k + 1, by push_cast; rfl, h, by simp [List.range_succ]⟩, by simp only; omega, trivial⟩
    · have : k = n := by omega
      subst this
      exact .inr (hend _)) ([], 0) ⟨0, rfl, Nat.zero_le _, rfl⟩
  exact this
end Go.Vx

namespace Go.Vx
open Go Go.RowKit
theorem ZlC {s : ByteArray} {i : Nat} (h : (s.get! i).toNat < 128) : Utf8.decode s i = ((s.get! i).toNat, 1) := by
  simp only [Utf8.decode, Nat.add_zero]
  rw [if_pos h]
theorem Zlu {s : ByteArray} {i : Nat} (h : ¬ (s.get! i).toNat < 128) : 128 ≤ (Utf8.decode s i).1 := by
  simp only [Utf8.decode, Nat.add_zero]
  rw [if_neg h]
  repeat' split
  all_goals first
    | (simp only [Utf8.runeError]; omega)
    | (simp only [Bool.and_eq_true, decide_eq_true_eq] at *; omega)
    | (simp only; omega)
theorem Zjx {s : Str} {k : Nat} {b : UInt8} (h : s[k]? = some b) : (ByteArray.mk s.toArray).get! k = b := by
  simp [ByteArray.get!, h]
theorem ZiH {p : Nat → Bool} (hp : ∀ x, 128 ≤ x → p x = true) {s : Str} : ∀ (f pos : Nat), s.length ≤ pos + f →
    decide (0 ≤ Lib.idxFuncFrom p true ⟨s.toArray⟩ f pos) = (s.drop pos).any fun b => p b.toNat
  | 0, pos, h => by
    have : s.drop pos = [] := List.drop_eq_nil_of_le (by omega)
    rw [this]; simp [Lib.idxFuncFrom]
  | f + 1, pos, h => by
    have hsz : (ByteArray.mk s.toArray).size = s.length := by simp [ByteArray.size]
    unfold Lib.idxFuncFrom
    rw [hsz]
    rcases Nat.lt_or_ge pos s.length with hl | hl
    · obtain ⟨b, hb⟩ := Xl hl
      rw [if_pos hl, ZP hb, List.any_cons]
      have hg := Zjx hb
      by_cases h8 : b.toNat < 128
      · have hd : Utf8.decode ⟨s.toArray⟩ pos = (b.toNat, 1) := by rw [ZlC (by rw [hg]; exact h8), hg]
        rw [hd]
        by_cases hpb : p b.toNat = true
        · rw [if_pos hpb]; simp only [hpb, Bool.true_or]; rw [decide_eq_true_eq]; omega
        · rw [if_neg hpb]
          have hpb' : p b.toNat = false := by simpa using hpb
          rw [hpb', Bool.false_or]
          exact ZiH hp f (pos + 1) (by omega)
      · have hd := Zlu (s := ⟨s.toArray⟩) (i := pos) (by rw [hg]; exact h8)
        rw [if_pos (hp _ hd), hp b.toNat (by omega), Bool.true_or, decide_eq_true_eq]; omega
    · have : s.drop pos = [] := List.drop_eq_nil_of_le (by omega)
      rw [if_neg (by omega), this]; simp
theorem ZkC {s : Str} {f : Int → Option Bool} {p : Nat → Bool} (hf : ∀ x : Nat, f x = some (p x)) (hp : ∀ x, 128 ≤ x → p x = true) :
    JG s f = some (s.any fun b => p b.toNat) := by
  unfold JG
  rw [if_pos (fun x _ => by rw [hf]; rfl)]
  have e : (fun x : Nat => (f x).getD false) = p := by funext x; rw [hf]; rfl
  rw [e]
  have := ZiH hp (s := s) s.length 0 (by omega)
  rw [List.drop_zero] at this
  rw [← this]
  have hsz : (ByteArray.mk s.toArray).size = s.length := by simp [ByteArray.size]
  unfold Lib.idxFunc
  rw [hsz]
def nmL (s : Str) : Bool := match s with
  | [] => false
  | c :: tl => decide (tl.length ≤ 29) && lcB c && tl.all nbB
theorem ZiU (x : Nat) : Zah x = some (!nbI x) := rfl
theorem Zmb (x : Nat) (h : 128 ≤ x) : (!nbI x) = true := by
  have h1 : decide ((x : Int) ≤ 122) = false := by rw [decide_eq_false_iff_not]; omega
  have h2 : decide ((x : Int) ≤ 57) = false := by rw [decide_eq_false_iff_not]; omega
  have h3 : decide ((x : Int) = 45) = false := by rw [decide_eq_false_iff_not]; omega
  unfold nbI lcI
  rw [h1, h2, h3]; simp
theorem Zj8 : ∀ s : Str, (s.any fun b => !nbI (b.toNat : Int)) = !(s.all nbB)
  | [] => rfl
  | c :: tl => by
    rw [List.any_cons, List.all_cons, Bool.not_and, Zj8 tl]; rfl
theorem Zgc (s : Str) : XI s = some (nmL s) := by
  unfold XI
  cases s with
  | nil => simp [nmL, gd]
  | cons c tl =>
    have h0 : ZhJ (c :: tl) 0 = some ((c.toNat : Nat) : Int) := rfl
    have h1 : ¬ ((c :: tl).length : Int) < 1 := by simp; omega
    rw [ZkC ZiU Zmb, h0]
    simp only [h1, decide_false, Bool.false_or, nmL]
    by_cases h2 : 30 < ((c :: tl).length : Int)
    · have h3 : ¬ tl.length ≤ 29 := by simp at h2; omega
      simp only [h2, h3, decide_true, decide_false, Bool.true_or, Bool.false_and, if_true]
      simp [gd]
    · have h3 : tl.length ≤ 29 := by simp at h2; omega
      have ea : ((c :: tl).any fun b => !nbI (b.toNat : Int)) = !(nbB c && tl.all nbB) := Zj8 (c :: tl)
      rw [ea]
      simp only [h2, h3, decide_false, decide_true, Bool.false_or, ZjZ, Option.bind_some, beq_self_eq_true, Bool.true_and]
      by_cases h4 : (c.toNat : Int) < 97
      · have : lcB c = false := by simp [lcB, lcI]; omega
        simp [h4, this, gd]
      · by_cases h5 : 122 < (c.toNat : Int)
        · have : lcB c = false := by simp [lcB, lcI]; omega
          simp [h4, h5, this]
        · have e1 : lcB c = true := by simp [lcB, lcI]; omega
          have e2 : nbB c = true := ZkW e1
          simp [h4, h5, e1, e2]
theorem Ziu (s : Str) (hs : s.length ≤ 9223372036854775807) : Zay s = some (nmL s) := by
  unfold Zay
  have hloop : loop (t1 (XS s)) 0 = some (Jw (fun _ => Sum.inl false) (Sum.inr ()) (ZN (fun k b => if (lcB b || (decide (0 < k) && nbB b)) = true then none else some ()) 0 s)) := by
    refine XX (xs := s) (body := XS s) _ _ _ (fun k x hx => ?_) (by simp [XS])
    have hlt := Q9 hx
    have e1 : i64 ((k : Int) + 1) = (k : Int) + 1 := Zks (n := s.length) (by omega) hs
    simp only [XS, hlt, decide_true, if_true, Zkn hx, Option.bind_some, e1]
    have e2 : (((decide (97 ≤ ((x.toNat : Nat) : Int))) && (decide (((x.toNat : Nat) : Int) ≤ 122))) || ((decide (0 < (k : Int))) && (((decide (48 ≤ ((x.toNat : Nat) : Int))) && (decide (((x.toNat : Nat) : Int) ≤ 57))) || (decide (((x.toNat : Nat) : Int) = 45))))) = (lcB x || (decide (0 < k) && nbB x)) := by
      show (lcB x || (_ && _)) = _
      have ek : decide (0 < (k : Int)) = decide (0 < k) := by rw [decide_eq_decide]; omega
      rw [ek]
      unfold nbB nbI
      show _ = (lcB x || (_ && ((lcB x || _) || _)))
      cases lcB x <;> simp
    rw [e2]
    cases (lcB x || (decide (0 < k) && nbB x)) <;> simp
  rw [hloop]
  cases s with
  | nil => simp [nmL, ZN]
  | cons c tl =>
    have htl : ZN (fun k b => if (lcB b || (decide (0 < k) && nbB b)) = true then none else some ()) 1 tl = if tl.all nbB then none else some () := by
      rw [← ZgV 1]
      refine Zfz 1 tl fun j x _ => ?_
      have : decide (0 < 1 + j) = true := decide_eq_true (by omega)
      rw [this, Bool.true_and]
      cases h : lcB x with
      | false => simp
      | true => have : nbB x = true := ZkW h; simp [this]
    simp only [ZN, htl, nmL]
    cases hc : lcB c with
    | false => simp
    | true =>
      cases ha : tl.all nbB with
      | false => simp
      | true =>
        have e1 : decide (1 ≤ ((c :: tl).length : Int)) = true := by rw [decide_eq_true_eq]; simp; omega
        have e2 : decide (((c :: tl).length : Int) ≤ 30) = decide (tl.length ≤ 29) := by rw [decide_eq_decide]; simp; omega
        simp only [e1, e2]; simp
theorem ZiG (p : api_Param) : Zcm p = Qu p := rfl
end Go.Vx

namespace Go.Vx
open Go Go.RowKit
theorem Qy {z : Int} (h1 : -9223372036854775808 ≤ z) (h2 : z ≤ 9223372036854775807) : i64 z = z := Zjz h1 h2
theorem Zk8 {n : Nat} (h : n ≤ 61) : (1 : Int) ≤ 2 ^ n ∧ (2 : Int) ^ n ≤ 2305843009213693952 := by
  have e : ((2 ^ n : Nat) : Int) = (2 : Int) ^ n := by push_cast; rfl
  have h1 : 1 ≤ 2 ^ n := Nat.one_le_two_pow
  have h2 : 2 ^ n ≤ 2 ^ 61 := Nat.pow_le_pow_right (by decide) h
  rw [show (2 : Nat) ^ 61 = 2305843009213693952 by decide] at h2
  omega
end Go.Vx

namespace Go.Vx
open Go Go.RowKit
def wiL (n a b : Int) : Bool := decide (a ≤ n) && decide (n ≤ b)
theorem ZfZ {n a b : Int} : wiL n a b = true ↔ a ≤ n ∧ n ≤ b := by simp [wiL]
theorem XV (n a b : Int) : ZU n a b = some (wiL n a b) := rfl
theorem XJ (n a b : Int) : Qx n a b = some (!wiL n a b) := by
  unfold Qx wiL
  congr 1
  rw [Bool.not_and]
  have e1 : decide (n < a) = !decide (a ≤ n) := by rw [← decide_not, decide_eq_decide]; omega
  have e2 : decide (b < n) = !decide (n ≤ b) := by rw [← decide_not, decide_eq_decide]; omega
  rw [e1, e2]
def bitsN (p : api_Param) : Int := (p.Parts.map (·.Bits)).sum
def Zb8 (x : api_Part) : Bool := wiL x.Frame 0 15 && wiL x.Word 4 60 && wiL x.Low 0 10 && wiL x.Bits 1 (11 - x.Low)
def lenOK (p : api_Param) : Prop := p.Parts.length ≤ 8 ∧ ∀ x ∈ p.Parts, Zb8 x = true
theorem ZaQ {x : api_Part} : Zb8 x = true ↔ (0 ≤ x.Frame ∧ x.Frame ≤ 15) ∧ (4 ≤ x.Word ∧ x.Word ≤ 60) ∧ (0 ≤ x.Low ∧ x.Low ≤ 10) ∧ (1 ≤ x.Bits ∧ x.Bits ≤ 11 - x.Low) := by
  simp [Zb8, wiL, and_assoc]
theorem Zj2 {l : List api_Part} (h : ∀ x ∈ l, Zb8 x = true) : (l.length : Int) ≤ (l.map (·.Bits)).sum ∧ (l.map (·.Bits)).sum ≤ 11 * (l.length : Int) := by
  induction l with
  | nil => simp
  | cons x l ih =>
    obtain ⟨h1, h2⟩ := ih fun y hy => h y (List.mem_cons_of_mem _ hy)
    have := ZaQ.1 (h x List.mem_cons_self)
    simp only [List.map_cons, List.sum_cons, List.length_cons]
    push_cast
    omega
theorem Zhd {p : api_Param} (h : lenOK p) : Qu p = some (bitsN p) := by
  have key : loop (t2 (QA p)) (0, 0) = some (bitsN p) := by
    have := ZeF (xs := p.Parts) (body := QA p) (I := fun n k => n + ((p.Parts.drop k).map (·.Bits)).sum = bitsN p ∧ 0 ≤ n ∧ n ≤ 11 * k) (F := fun _ _ => bitsN p)
      (fun n k x hI hx => by
        obtain ⟨h1, h2, h3⟩ := hI
        have hp := ZaQ.1 (h.2 x (List.mem_of_getElem? hx))
        have hlt := Q9 hx
        have h8 := h.1
        rw [ZP hx, List.map_cons, List.sum_cons] at h1
        left
        refine ⟨n + x.Bits, ?_, ⟨by omega, by omega, by push_cast; omega⟩, rfl⟩
        simp only [QA, hlt, decide_true, if_true, Qd hx, Option.bind_some]
        rw [Qy (by omega) (by omega), Qy (by omega) (by omega)])
      (fun n hI => by
        obtain ⟨h1, _, _⟩ := hI
        rw [List.drop_length] at h1
        simp at h1
        simp [QA, h1]) (a0 := 0) ⟨by simp [bitsN], by omega, by omega⟩
    exact this
  unfold Qu
  rw [key]; rfl
theorem Zjd {xs : List Int} {v : Int} (hl : xs.length ≤ 9223372036854775807) : Z0 xs v = some (decide (v ∈ xs)) := by
  have key : loop (t1 (ZO xs v)) 0 = some (Jw Sum.inl (Sum.inr ()) (ZN (fun k x => if v = x then some (k : Int) else none) 0 xs)) := by
    refine XX (xs := xs) (body := ZO xs v) _ _ _ (fun k x hx => ?_) (by simp [ZO])
    have hlt := Q9 hx
    simp only [ZO, hlt, decide_true, if_true, Qd hx, Option.bind_some]
    rw [Zks (n := xs.length) (by omega) hl]
    by_cases h : v = x <;> simp [h]
  have fnd : ∀ (k : Nat) (l : List Int), (v ∈ l ∧ ∃ j : Nat, ZN (fun k x => if v = x then some (k : Int) else none) k l = some (j : Int)) ∨ (v ∉ l ∧ ZN (fun k x => if v = x then some (k : Int) else none) k l = none) := by
    intro k l
    induction l generalizing k with
    | nil => right; simp [ZN]
    | cons x l ih =>
      by_cases h : v = x
      · left; subst h; exact ⟨List.mem_cons_self, k, by simp [ZN]⟩
      · rcases ih (k + 1) with ⟨h1, j, h2⟩ | ⟨h1, h2⟩
        · left; exact ⟨List.mem_cons_of_mem _ h1, j, by simp [ZN, h, h2]⟩
        · right; exact ⟨by simp [h, h1], by simp [ZN, h, h2]⟩
  unfold Z0 QC
  rw [key]
  rcases fnd 0 xs with ⟨h1, j, h2⟩ | ⟨h1, h2⟩
  · rw [h2]; simp [h1]
  · rw [h2]; simp [h1]
theorem Zje {xs : List Str} {v : Str} (hl : xs.length ≤ 9223372036854775807) : ZJ xs v = some (decide (v ∈ xs)) := by
  have key : loop (t1 (ZC xs v)) 0 = some (Jw Sum.inl (Sum.inr ()) (ZN (fun k x => if v = x then some (k : Int) else none) 0 xs)) := by
    refine XX (xs := xs) (body := ZC xs v) _ _ _ (fun k x hx => ?_) (by simp [ZC])
    have hlt := Q9 hx
    simp only [ZC, hlt, decide_true, if_true, Qd hx, Option.bind_some]
    rw [Zks (n := xs.length) (by omega) hl]
    by_cases h : v = x <;> simp [h]
  have fnd : ∀ (k : Nat) (l : List Str), (v ∈ l ∧ ∃ j : Nat, ZN (fun k x => if v = x then some (k : Int) else none) k l = some (j : Int)) ∨ (v ∉ l ∧ ZN (fun k x => if v = x then some (k : Int) else none) k l = none) := by
    intro k l
    induction l generalizing k with
    | nil => right; simp [ZN]
    | cons x l ih =>
      by_cases h : v = x
      · left; subst h; exact ⟨List.mem_cons_self, k, by simp [ZN]⟩
      · rcases ih (k + 1) with ⟨h1, j, h2⟩ | ⟨h1, h2⟩
        · left; exact ⟨List.mem_cons_of_mem _ h1, j, by simp [ZN, h, h2]⟩
        · right; exact ⟨by simp [h, h1], by simp [ZN, h, h2]⟩
  unfold ZJ Z1
  rw [key]
  rcases fnd 0 xs with ⟨h1, j, h2⟩ | ⟨h1, h2⟩
  · rw [h2]; simp [h1]
  · rw [h2]; simp [h1]
theorem ZdA {α : Type} {xs : List α} (p : α → Bool) {body : Int → Option (Int ⊕ Int ⊕ Unit)} (e : Int) (hl : xs.length ≤ 9223372036854775807)
    (h : ∀ (k : Nat) x, xs[k]? = some x → i64 ((k : Int) + 1) = (k : Int) + 1 → decide ((k : Int) < (xs.length : Int)) = true → body k = cond (p x) (some (.inl ((k : Int) + 1))) (some (.inr (.inl e))))
    (hend : body xs.length = some (.inr (.inr ()))) : loop (t1 body) 0 = some (if xs.all p = true then .inr () else .inl e) := by
  have := ZdR (xs := xs) (fun x => if p x = true then none else some ()) (fun _ => (Sum.inl e : Int ⊕ Unit)) (Sum.inr ()) (body := body) (fun k x hx => by
    rw [h k x hx (Zks (n := xs.length) (by have := Q9 hx; omega) hl) (by have := Q9 hx; simpa using this)]
    by_cases hp : p x = true <;> simp [hp]) hend
  rw [this]
  congr 1
  clear this h hend hl
  induction xs with
  | nil => rfl
  | cons x xs ih =>
    by_cases hp : p x = true
    · simp only [Zc5, List.all_cons, hp, if_true, Bool.true_and]; exact ih
    · have : p x = false := by simpa using hp
      simp [Zc5, this]
theorem ZgQ (p : api_Param) (hl : p.Parts.length ≤ 8) : loop (t1 (ZS p)) 0 = some (if p.Parts.all Zb8 = true then .inr () else .inl 9) := by
  refine ZdA (xs := p.Parts) Zb8 9 (by omega) (fun k x hx hi hlt => ?_) (by simp [ZS])
  simp only [ZS, hlt, if_true, Qd hx, Option.bind_some, XV, hi, Zb8]
  cases wiL x.Frame 0 15
  · rfl
  cases wiL x.Word 4 60
  · rfl
  cases h3 : wiL x.Low 0 10
  · rfl
  have := ZfZ.1 h3
  rw [Qy (by omega) (by omega)]
  cases wiL x.Bits 1 (11 - x.Low) <;> rfl
theorem ZjY (p : api_Param) : Jb p = ZS p := by
  funext i
  simp only [Jb, ZS, XV, XJ, Option.bind_some]
  split
  · congr 1; funext x
    cases wiL x.Frame 0 15 <;> cases wiL x.Word 4 60 <;> cases wiL x.Low 0 10 <;> cases wiL x.Bits 1 (i64 (11 - x.Low)) <;> rfl
  · rfl
def stepOK (p : api_Param) (x : api_Part) : Bool := decide (p.Step ≤ 60) && decide (x.Word + (p.Times - 1) * p.Step ≤ 60)
def timA (p : api_Param) : Bool := decide (p.Every ∈ ([1, 2, 4, 8, 16] : List Int)) && wiL p.First 0 (p.Every - 1) && wiL p.Times 1 57 && decide (0 ≤ p.Step) && (decide (p.Step = 0) == decide (p.Times = 1))
def Zep (p : api_Param) : Int := if timA p = true then (if p.Parts.all (stepOK p) = true then 0 else 9) else 9
def ZdZ (p : api_Param) : Int := if p.Parts.length = 0 then 13 else if 8 < p.Parts.length then 3 else if p.Parts.all Zb8 = true then (if 40 < bitsN p then 3 else 0) else 9
theorem XT {p : api_Param} (h : timA p = true) : (p.Every = 1 ∨ p.Every = 2 ∨ p.Every = 4 ∨ p.Every = 8 ∨ p.Every = 16) ∧ (0 ≤ p.First ∧ p.First ≤ p.Every - 1) ∧ (1 ≤ p.Times ∧ p.Times ≤ 57) ∧ 0 ≤ p.Step ∧ (p.Step = 0 ↔ p.Times = 1) := by
  simp only [timA, Bool.and_eq_true, decide_eq_true_eq, ZfZ, beq_iff_eq, decide_eq_decide] at h
  obtain ⟨⟨⟨⟨h1, h2⟩, h3⟩, h4⟩, h5⟩ := h
  exact ⟨by simpa using h1, h2, h3, h4, h5⟩
theorem ZiK {t s : Int} (h1 : 1 ≤ t ∧ t ≤ 57) (h2 : 0 ≤ s) (h3 : s ≤ 60) : 0 ≤ (t - 1) * s ∧ (t - 1) * s ≤ 56 * 60 :=
  ⟨Int.mul_nonneg (by omega) h2, Int.mul_le_mul (by omega) h3 h2 (by omega)⟩
theorem Zi8 {p : api_Param} (hp : lenOK p) (ht : timA p = true) : loop (t1 (Qe p)) 0 = some (if p.Parts.all (stepOK p) = true then .inr () else .inl 9) := by
  obtain ⟨_, _, h3, h4, _⟩ := XT ht
  have h8 := hp.1
  refine ZdA (xs := p.Parts) (stepOK p) 9 (by omega) (fun k x hx hi hlt => ?_) (by simp [Qe])
  simp only [Qe, hlt, if_true, Qd hx, Option.bind_some, hi, stepOK]
  have hx' := ZaQ.1 (hp.2 x (List.mem_of_getElem? hx))
  by_cases h6 : p.Step ≤ 60
  · have h7 : ¬ 60 < p.Step := by omega
    have hb := ZiK h3 h4 h6
    rw [Qy (z := p.Times - 1) (by omega) (by omega), Qy (z := (p.Times - 1) * p.Step) (by omega) (by omega), Qy (by omega) (by omega)]
    by_cases h9 : x.Word + (p.Times - 1) * p.Step ≤ 60
    · have : ¬ 60 < x.Word + (p.Times - 1) * p.Step := by omega
      simp [h6, h7, h9, this]
    · have : 60 < x.Word + (p.Times - 1) * p.Step := by omega
      simp [h6, h7, h9, this]
  · have h7 : 60 < p.Step := by omega
    simp [h6, h7]
theorem Zih {p : api_Param} (hp : lenOK p) (ht : timA p = true) : loop (t1 (Xm p)) 0 = some (if p.Parts.all (stepOK p) = true then .inr () else .inl 9) := by
  obtain ⟨_, _, h3, h4, h5⟩ := XT ht
  have h8 := hp.1
  refine ZdA (xs := p.Parts) (stepOK p) 9 (by omega) (fun k x hx hi hlt => ?_) (by simp [Xm])
  simp only [Xm, hlt, if_true, Qd hx, Option.bind_some, hi, stepOK]
  have hx' := ZaQ.1 (hp.2 x (List.mem_of_getElem? hx))
  by_cases h1 : p.Times = 1
  · have hs := h5.2 h1
    rw [hs, h1]
    have h60 : ¬ (60 : Int) < x.Word := by omega
    have h61 : x.Word ≤ 60 := by omega
    rw [Qy (z := 1 - 1) (by decide) (by decide), Qy (z := (1 - 1) * 0) (by decide) (by decide), Qy (by omega) (by omega)]
    simp [h60, h61]
  · have h1' : 1 < p.Times := by omega
    by_cases h6 : p.Step ≤ 57
    · have h7 : ¬ 57 < p.Step := by omega
      have h60 : p.Step ≤ 60 := by omega
      have hb := ZiK h3 h4 h60
      rw [Qy (z := p.Times - 1) (by omega) (by omega), Qy (z := (p.Times - 1) * p.Step) (by omega) (by omega), Qy (by omega) (by omega)]
      by_cases h9 : x.Word + (p.Times - 1) * p.Step ≤ 60
      · have : ¬ 60 < x.Word + (p.Times - 1) * p.Step := by omega
        simp [h6, h7, h9, this, h60]
      · have : 60 < x.Word + (p.Times - 1) * p.Step := by omega
        simp [h6, h7, h9, this]
    · have h7 : 57 < p.Step := by omega
      have hm : 1 * p.Step ≤ (p.Times - 1) * p.Step := Int.mul_le_mul_of_nonneg_right (by omega) h4
      have h9 : ¬ x.Word + (p.Times - 1) * p.Step ≤ 60 := by omega
      simp [h1', h7, h9]
theorem Zgj {p : api_Param} (h1 : ¬ 8 < p.Parts.length) (h2 : p.Parts.all Zb8 = true) : lenOK p :=
  ⟨by omega, fun x hx => List.all_eq_true.1 h2 x hx⟩
theorem Zcu {p : api_Param} (h : ZdZ p = 0) : lenOK p ∧ 1 ≤ p.Parts.length ∧ bitsN p ≤ 40 := by
  unfold ZdZ at h
  split at h
  · cases h
  · split at h
    · cases h
    · split at h
      · rename_i h1 h2 h3
        split at h
        · cases h
        · exact ⟨Zgj h2 h3, by omega, by omega⟩
      · cases h
theorem ZjU (p : api_Param) : Jl p = some (ZdZ p) := by
  unfold Jl ZdZ
  by_cases h0 : p.Parts.length = 0
  · have : ((p.Parts.length : Nat) : Int) = 0 := by omega
    simp [h0]
  · have h0' : ¬ ((p.Parts.length : Nat) : Int) = 0 := by omega
    by_cases h8 : 8 < p.Parts.length
    · have h8' : (8 : Int) < ((p.Parts.length : Nat) : Int) := by omega
      rw [if_neg (by simpa using h0'), if_pos (by simpa using h8'), if_neg h0, if_pos h8]
    · have h8' : ¬ (8 : Int) < ((p.Parts.length : Nat) : Int) := by omega
      rw [if_neg (by simpa using h0'), if_neg (by simpa using h8'), if_neg h0, if_neg h8, ZjY, ZgQ p (by omega)]
      by_cases ha : p.Parts.all Zb8 = true
      · rw [if_pos ha, if_pos ha, ZiG, Zhd (Zgj h8 ha)]
        by_cases hb : 40 < bitsN p <;> simp [hb]
      · rw [if_neg ha, if_neg ha]; rfl
theorem ZkG (p : api_Param) : QF p = some (if ZdZ p = 0 then Zep p else ZdZ p) := by
  unfold QF ZdZ
  by_cases h0 : p.Parts.length = 0
  · have : ((p.Parts.length : Nat) : Int) = 0 := by omega
    simp [h0]
  · have h0' : ¬ ((p.Parts.length : Nat) : Int) = 0 := by omega
    by_cases h8 : 8 < p.Parts.length
    · have h8' : (8 : Int) < ((p.Parts.length : Nat) : Int) := by omega
      rw [if_neg (by simpa using h0'), if_pos (by simpa using h8'), if_neg h0, if_pos h8]; rfl
    · have h8' : ¬ (8 : Int) < ((p.Parts.length : Nat) : Int) := by omega
      rw [if_neg (by simpa using h0'), if_neg (by simpa using h8'), if_neg h0, if_neg h8, ZgQ p (by omega)]
      by_cases ha : p.Parts.all Zb8 = true
      · have hp := Zgj h8 ha
        rw [if_pos ha, if_pos ha, Zhd hp]
        by_cases hb : 40 < bitsN p
        · simp [hb]
        · simp only [Option.bind_some, Sum.elim_inr, t0, hb, decide_false, if_false, Zjd (by decide : ([1, 2, 4, 8, 16] : List Int).length ≤ 9223372036854775807), XV, Bool.false_eq_true, if_true]
          have hcond : (∃ a b c, (a = decide (p.Every ∈ ([1, 2, 4, 8, 16] : List Int))) ∧ b = wiL p.First 0 (i64 (p.Every - 1)) ∧ c = wiL p.Times 1 57) := ⟨_, _, _, rfl, rfl, rfl⟩
          by_cases hE : p.Every ∈ ([1, 2, 4, 8, 16] : List Int)
          · have hE' : p.Every = 1 ∨ p.Every = 2 ∨ p.Every = 4 ∨ p.Every = 8 ∨ p.Every = 16 := by simpa using hE
            rw [Qy (z := p.Every - 1) (by omega) (by omega)]
            by_cases hA : timA p = true
            · have hA' := hA
              simp only [timA, Bool.and_eq_true] at hA'
              obtain ⟨⟨⟨⟨_, a2⟩, a3⟩, a4⟩, a5⟩ := hA'
              have a6 : decide (p.Step < 0) = false := by
                rw [decide_eq_false_iff_not]
                have := of_decide_eq_true a4
                omega
              simp only [hE, decide_true, Bool.not_true, beq_self_eq_true, ZjZ, a2, a3, a5, a6, Option.bind_some, Bool.or_false, Bool.false_eq_true, if_false, Zi8 hp hA, Zep, hA, if_true]
              by_cases hs : p.Parts.all (stepOK p) = true
              · rw [if_pos hs, if_pos hs]; rfl
              · rw [if_neg hs, if_neg hs]; rfl
            · have hA2 : timA p = false := by simpa using hA
              have e4 : decide (p.Step < 0) = !decide (0 ≤ p.Step) := by rw [← decide_not, decide_eq_decide]; omega
              simp only [timA, hE, decide_true, Bool.true_and] at hA2
              simp only [Zep, if_neg hA, hE, decide_true, Bool.not_true, e4]
              revert hA2
              cases wiL p.First 0 (p.Every - 1) <;> cases wiL p.Times 1 57 <;> cases decide (0 ≤ p.Step) <;> cases (decide (p.Step = 0) == decide (p.Times = 1)) <;> intro hA2 <;> first | rfl | (exact absurd hA2 (by decide))
          · have hA : ¬ timA p = true := by simp [timA, hE]
            simp only [Zep, if_neg hA, hE, decide_false, Bool.not_false]
            rfl
      · rw [if_neg ha, if_neg ha]; rfl
theorem ZjB {p : api_Param} (h : ZdZ p = 0) : Jg p = some (Zep p) := by
  obtain ⟨hp, _, _⟩ := Zcu h
  unfold Jg
  have e4 : decide (p.Step < 0) = !decide (0 ≤ p.Step) := by rw [← decide_not, decide_eq_decide]; omega
  by_cases hE : p.Every ∈ ([1, 2, 4, 8, 16] : List Int)
  · have hE' : p.Every = 1 ∨ p.Every = 2 ∨ p.Every = 4 ∨ p.Every = 8 ∨ p.Every = 16 := by simpa using hE
    have hsw : ((if (decide (p.Every = 1)) = true then
  if (decide (p.Every = 1)) = true then
  some (.inr ())
  else
  some (.inl 9)
  else
  if (decide (p.Every = 2)) = true then
  if (decide (p.Every = 2)) = true then
  some (.inr ())
  else
  some (.inl 9)
  else
  if (decide (p.Every = 4)) = true then
  if (decide (p.Every = 4)) = true then
  some (.inr ())
  else
  some (.inl 9)
  else
  if (decide (p.Every = 8)) = true then
  if (decide (p.Every = 8)) = true then
  some (.inr ())
  else
  some (.inl 9)
  else
  if (decide (p.Every = 16)) = true then
  some (.inr ())
  else
  some (.inl 9)) : Option ((Int) ⊕ (Unit))) = some (.inr ()) := by
      rcases hE' with h | h | h | h | h <;> rw [h] <;> rfl
    rw [hsw]
    simp only [Option.bind_some, Sum.elim_inr, t0, XJ]
    rw [Qy (z := p.Every - 1) (by omega) (by omega), e4]
    by_cases hA : timA p = true
    · have hA' := hA
      simp only [timA, Bool.and_eq_true] at hA'
      obtain ⟨⟨⟨⟨_, a2⟩, a3⟩, a4⟩, a5⟩ := hA'
      simp only [a2, a3, a4, a5, Bool.not_true, beq_self_eq_true, ZjZ, Option.bind_some, Bool.or_false, Bool.false_eq_true, if_false, Zih hp hA, Zep, hA, if_true]
      by_cases hs : p.Parts.all (stepOK p) = true
      · rw [if_pos hs, if_pos hs]; rfl
      · rw [if_neg hs, if_neg hs]; rfl
    · have hA2 : timA p = false := by simpa using hA
      simp only [timA, hE, decide_true, Bool.true_and] at hA2
      simp only [Zep, if_neg hA]
      revert hA2
      cases wiL p.First 0 (p.Every - 1) <;> cases wiL p.Times 1 57 <;> cases decide (0 ≤ p.Step) <;> cases (decide (p.Step = 0) == decide (p.Times = 1)) <;> intro hA2 <;> first | rfl | (exact absurd hA2 (by decide))
  · have hA : ¬ timA p = true := by simp [timA, hE]
    have hE' : ¬ p.Every = 1 ∧ ¬ p.Every = 2 ∧ ¬ p.Every = 4 ∧ ¬ p.Every = 8 ∧ ¬ p.Every = 16 := by simpa using hE
    obtain ⟨n1, n2, n4, n8, n16⟩ := hE'
    simp [n1, n2, n4, n8, n16, Zep, hA]
end Go.Vx

namespace Go.Vx
open Go Go.RowKit
def ZdE (x : api_Part) : Prop := (wfI .i64) x.Frame ∧ (wfI .i64) x.Word ∧ (wfI .i64) x.Low ∧ (wfI .i64) x.Bits ∧ True
def ZaW (x : api_Param) : Prop := wfS x.Name ∧ (wfI .i64) x.Kind ∧ (wfL ZdE) x.Parts ∧ (wfI .i64) x.First ∧ (wfI .i64) x.Every ∧ (wfI .i64) x.Times ∧ (wfI .i64) x.Step ∧ (wfL wfS) x.Names ∧ True
def Zam (x : api_Map) : Prop := (wfI .i64) x.Version ∧ (wfL ZaW) x.Params ∧ True
end Go.Vx


namespace Go.Vx
open Go Go.RowKit
theorem Zms {y : Int} (h0 : 0 ≤ y) (h1 : y ≤ 61) : shl .i64 1 y = some ((2 : Int) ^ y.toNat) := by
  have e : min y.toNat IntKind.i64.bits = y.toNat := by
    have : IntKind.i64.bits = 64 := rfl
    omega
  have hb := Zk8 (n := y.toNat) (by omega)
  simp only [shl, if_neg (show ¬ y < 0 by omega), e, Int.one_mul]
  have := Qy (z := (2 : Int) ^ y.toNat) (by omega) (by omega)
  unfold i64 at this
  rw [this]
def ZcL (p : api_Param) : Bool := (((decide (p.Kind = 4)) && (!decide ((bitsN p).tmod 4 = 0))) || ((decide (p.Kind = 5)) && (!decide (bitsN p = 1)))) || (((decide (p.Kind = 2)) || (decide (p.Kind = 3))) && (decide (bitsN p = 1)))
def nmG (l : List Str) (k : Nat) (x : Str) : Option Int := if nmL x = true then (if x ∈ l.take k then some 5 else none) else some 8
def ZhH (p : api_Param) : Int := if ZcL p = true then 2 else if p.Kind = 6 then (if p.Names.length = 0 then 13 else if (decide (64 < p.Names.length) || decide ((2 : Int) ^ (bitsN p).toNat < p.Names.length)) = true then 3 else Jw id 0 (ZN (nmG p.Names) 0 p.Names))
  else if 0 < p.Names.length then 2 else 0
theorem ZkH {α : Type} {xs : List α} {k : Nat} (h : k ≤ xs.length) : slc xs 0 (k : Int) = some (xs.take k) := by
  unfold slc
  rw [if_pos ⟨by omega, by omega, by omega⟩]
  simp
theorem Zib {p : api_Param} (hl : p.Names.length ≤ 64) : loop (t1 (Qg p)) 0 = some (Jw Sum.inl (Sum.inr ()) (ZN (nmG p.Names) 0 p.Names)) := by
  refine XX (xs := p.Names) _ _ _ (fun k x hx => ?_) (by simp [Qg])
  have hlt := Q9 hx
  have hk : i64 ((k : Int) + 1) = (k : Int) + 1 := Qy (by omega) (by omega)
  simp only [Qg, hlt, decide_true, if_true, Qd hx, Option.bind_some, Zgc, hk, nmG]
  cases h : nmL x
  · rfl
  · rw [ZkH (by omega), Option.bind_some, Zje (by rw [List.length_take]; omega)]
    by_cases hm : x ∈ p.Names.take k <;> simp [hm]
theorem ZhF {p : api_Param} (hl : p.Names.length ≤ 64) (hs : ∀ x ∈ p.Names, x.length ≤ 9223372036854775807) : loop (t1 (XH p)) 0 = some (Jw Sum.inl (Sum.inr ()) (ZN (nmG p.Names) 0 p.Names)) := by
  refine XX (xs := p.Names) _ _ _ (fun k x hx => ?_) (by simp [XH])
  have hlt := Q9 hx
  have hk : i64 ((k : Int) + 1) = (k : Int) + 1 := Qy (by omega) (by omega)
  simp only [XH, hlt, decide_true, if_true, Qd hx, Option.bind_some, Ziu x (hs x (List.mem_of_getElem? hx)), hk, nmG]
  cases h : nmL x
  · rfl
  · have hL := ZdA (xs := p.Names.take k) (fun y => !decide (x = y)) (body := XG x (p.Names.take k)) 5 (by rw [List.length_take]; omega) (fun j y hy hj hlt2 => by
      simp only [XG, hlt2, if_true, Qd hy, Option.bind_some, hj]
      by_cases hxy : x = y <;> simp [hxy]) (by simp [XG])
    rw [ZkH (by omega), Option.bind_some]
    simp only [Bool.not_true, if_false, Bool.false_eq_true]
    rw [hL]
    by_cases hm : x ∈ p.Names.take k
    · have : (p.Names.take k).all (fun y => !decide (x = y)) = false := by
        rw [List.all_eq_false]; exact ⟨x, hm, by simp⟩
      simp [hm, this]
    · have : (p.Names.take k).all (fun y => !decide (x = y)) = true := by
        rw [List.all_eq_true]; intro y hy
        have : x ≠ y := by rintro rfl; exact hm hy
        simp [this]
      simp [hm, this]
theorem ZhD {p : api_Param} {β : Type} (f : Int → Option β) (g : Bool → Option β) (hfg : ∀ q, f q = g ((((decide (p.Kind = 4)) && (!decide (q = 0))) || ((decide (p.Kind = 5)) && (!decide (bitsN p = 1)))) || (((decide (p.Kind = 2)) || (decide (p.Kind = 3))) && (decide (bitsN p = 1))))) :
    (gd ((decide (p.Kind = 4)) == true) 0 (rem (bitsN p) 4)).bind f = g (ZcL p) := by
  by_cases h4 : p.Kind = 4
  · have : rem (bitsN p) 4 = some ((bitsN p).tmod 4) := by simp [rem]
    simp only [h4, decide_true, ZkU, this, Option.bind_some, hfg, ZcL]
  · simp only [h4, decide_false, hfg, ZcL, Bool.false_and, Bool.false_or]
    show (some (0 : Int)).bind f = _
    rw [Option.bind_some, hfg]
    simp only [h4, decide_false, Bool.false_and, Bool.false_or]
theorem ZgR {p : api_Param} (hb : 0 ≤ bitsN p ∧ bitsN p ≤ 40) {o : Option (Int ⊕ Unit)} (ho : p.Names.length ≤ 64 → o = some (Jw Sum.inl (Sum.inr ()) (ZN (nmG p.Names) 0 p.Names))) (b : Bool) :
    (if b = true then
  some 2
  else
  if (!decide (p.Kind = 6)) = true then
  if (decide (0 < (p.Names.length : Int))) = true then
  some 2
  else
  some 0
  else
  if (decide ((p.Names.length : Int) = 0)) = true then
  some 13
  else
  (gd ((decide (64 < (p.Names.length : Int))) == false) 0 (shl .i64 1 (bitsN p))).bind fun q2 =>
  if ((decide (64 < (p.Names.length : Int))) || (decide (q2 < (p.Names.length : Int)))) = true then
  some 3
  else
  o.bind (Sum.elim (fun v => some v) (t0 (some 0)))) = some (if b = true then 2 else if p.Kind = 6 then (if p.Names.length = 0 then 13 else if (decide (64 < p.Names.length) || decide ((2 : Int) ^ (bitsN p).toNat < p.Names.length)) = true then 3 else Jw id 0 (ZN (nmG p.Names) 0 p.Names))
  else if 0 < p.Names.length then 2 else 0) := by
  cases b
  · simp only [Bool.false_eq_true, if_false]
    by_cases h6 : p.Kind = 6
    · by_cases h0 : p.Names.length = 0
      · have : ((p.Names.length : Nat) : Int) = 0 := by omega
        simp [h6, h0]
      · have h0' : ¬ ((p.Names.length : Nat) : Int) = 0 := by omega
        by_cases h64 : 64 < p.Names.length
        · have h64' : (64 : Int) < ((p.Names.length : Nat) : Int) := by omega
          have e : decide (64 < p.Names.length) = true := decide_eq_true h64
          simp only [h6, h0, e, h64', decide_true, decide_false, Bool.not_true, Bool.true_or, if_true, if_false, Bool.false_eq_true, h0']
          rfl
        · have h64' : ¬ (64 : Int) < ((p.Names.length : Nat) : Int) := by omega
          simp only [h6, h0, h64, h64', decide_true, decide_false, Bool.not_true, Bool.false_or, if_true, if_false, Bool.false_eq_true, h0', beq_self_eq_true, ZjZ, Zms hb.1 (by omega : bitsN p ≤ 61), Option.bind_some]
          by_cases h7 : (2 : Int) ^ (bitsN p).toNat < ((p.Names.length : Nat) : Int)
          · simp [h7]
          · simp only [h7, decide_false, Bool.false_eq_true, if_false]
            rw [ho (by omega)]
            cases ZN (nmG p.Names) 0 p.Names <;> rfl
    · by_cases h0 : 0 < p.Names.length
      · have h0' : (0 : Int) < ((p.Names.length : Nat) : Int) := by omega
        rw [if_neg h6, if_pos h0, if_pos (by simpa using h6), if_pos (by simpa using h0')]
      · have h0' : ¬ (0 : Int) < ((p.Names.length : Nat) : Int) := by omega
        rw [if_neg h6, if_neg h0, if_pos (by simpa using h6), if_neg (by simpa using h0')]
  · rfl
theorem ZiL {p : api_Param} (h : lenOK p) : 0 ≤ bitsN p := by
  have := (Zj2 h.2).1
  unfold bitsN; omega
theorem ZkJ {p : api_Param} (h : ZdZ p = 0) : QI p = some (ZhH p) := by
  obtain ⟨hp, _, h40⟩ := Zcu h
  unfold QI
  rw [Zhd hp, Option.bind_some]
  rw [ZhD (g := fun b => some (if b = true then 2 else if p.Kind = 6 then (if p.Names.length = 0 then 13 else if (decide (64 < p.Names.length) || decide ((2 : Int) ^ (bitsN p).toNat < p.Names.length)) = true then 3 else Jw id 0 (ZN (nmG p.Names) 0 p.Names)) else if 0 < p.Names.length then 2 else 0))]
  · rfl
  · intro q
    exact ZgR ⟨ZiL hp, h40⟩ Zib _
theorem Zkl {p : api_Param} (h : ZdZ p = 0) (hs : ∀ x ∈ p.Names, x.length ≤ 9223372036854775807) : JE p = some (ZhH p) := by
  obtain ⟨hp, _, h40⟩ := Zcu h
  unfold JE
  rw [ZiG, Zhd hp, Option.bind_some]
  rw [ZhD (g := fun b => some (if b = true then 2 else if p.Kind = 6 then (if p.Names.length = 0 then 13 else if (decide (64 < p.Names.length) || decide ((2 : Int) ^ (bitsN p).toNat < p.Names.length)) = true then 3 else Jw id 0 (ZN (nmG p.Names) 0 p.Names)) else if 0 < p.Names.length then 2 else 0))]
  · rfl
  · intro q
    exact ZgR ⟨ZiL hp, h40⟩ (fun hl => ZhF hl hs) _
end Go.Vx

namespace Go.Vx
open Go Go.RowKit
theorem ZkI {a b A B : Int} (h0 : 0 ≤ a) (h1 : a ≤ A) (h2 : 0 ≤ b) (h3 : b ≤ B) : 0 ≤ a * b ∧ a * b ≤ A * B :=
  ⟨Int.mul_nonneg h0 h2, Int.mul_le_mul h1 h3 h2 (by omega)⟩
def Js (p : api_Param) (f : Int) : Bool := p.Parts.all fun x => decide (f + x.Frame < 16)
def stL (p : api_Param) : Nat → Int → List Int
  | 0, _ => []
  | n + 1, f => if f < 16 then (if Js p f then f :: stL p n (f + p.Every) else stL p n (f + p.Every)) else []
theorem Zho (p : api_Param) : ∀ n f, (stL p n f).length ≤ n
  | 0, _ => Nat.le_refl _
  | n + 1, f => by
    have := Zho p n (f + p.Every)
    unfold stL
    split
    · split
      · simp only [List.length_cons]; omega
      · omega
    · simp
theorem ZfY {p : api_Param} (h1 : 1 ≤ p.Every) : ∀ n f x, 0 ≤ f → x ∈ stL p n f → 0 ≤ x ∧ x < 16 ∧ Js p x = true
  | 0, _, _, _, hx => by cases hx
  | n + 1, f, x, h0, hx => by
    unfold stL at hx
    split at hx
    · split at hx
      · rcases List.mem_cons.1 hx with rfl | hx
        · exact ⟨h0, by assumption, by assumption⟩
        · exact ZfY h1 n _ x (by omega) hx
      · exact ZfY h1 n _ x (by omega) hx
    · cases hx
def Zdi (p : api_Param) (f j : Int) (x : api_Part) : api_Place := ⟨f + x.Frame, x.Word + j * p.Step, x.Low, x.Bits⟩
def Zgm (number : Int) (p : api_Param) (idx f : Int) (j : Nat) : api_Cell := ⟨number, idx, f, p.Parts.map (Zdi p f j)⟩
def Zcq (number : Int) (p : api_Param) (out : List api_Cell) (f : Int) : List api_Cell := out ++ (List.range p.Times.toNat).map fun j => Zgm number p ((out.length + j : Nat) : Int) f j
def XY (p : api_Param) : List Int := stL p 17 p.First
def cellsN (number : Int) (p : api_Param) : List api_Cell := (XY p).foldl (Zcq number p) []
structure PartsOK (p : api_Param) : Prop where
  len : lenOK p
  tim : timA p = true
  stp : ∀ x ∈ p.Parts, stepOK p x = true
theorem Zig {p : api_Param} (h : PartsOK p) {f : Int} (hf : 0 ≤ f ∧ f < 16) : Zw p.Parts (fun z0 => QO z0 f) = some (!Js p f) := by
  have h8 := h.len.1
  have key : loop (t1 (Zx p.Parts (fun z0 => QO z0 f))) 0 = some (Jw Sum.inl (Sum.inr ()) (ZN (fun k (x : api_Part) => if f + x.Frame < 16 then none else some (k : Int)) 0 p.Parts)) := by
    refine XX (xs := p.Parts) _ _ _ (fun k x hx => ?_) (by simp [Zx])
    have hlt := Q9 hx
    have hk : i64 ((k : Int) + 1) = (k : Int) + 1 := Qy (by omega) (by omega)
    have hp := ZaQ.1 (h.len.2 x (List.mem_of_getElem? hx))
    have hs : i64 (f + x.Frame) = f + x.Frame := Qy (by omega) (by omega)
    simp only [Zx, QO, hlt, decide_true, if_true, Qd hx, Option.bind_some, hk, hs]
    by_cases h16 : f + x.Frame < 16
    · have : ¬ 16 ≤ f + x.Frame := by omega
      simp [h16, this]
    · have : 16 ≤ f + x.Frame := by omega
      simp [h16, this]
  have fnd : ∀ (k : Nat) (l : List api_Part), ((l.all fun x => decide (f + x.Frame < 16)) = true ∧ ZN (fun k (x : api_Part) => if f + x.Frame < 16 then none else some (k : Int)) k l = none) ∨ ((l.all fun x => decide (f + x.Frame < 16)) = false ∧ ∃ j : Nat, ZN (fun k (x : api_Part) => if f + x.Frame < 16 then none else some (k : Int)) k l = some (j : Int)) := by
    intro k l
    induction l generalizing k with
    | nil => left; exact ⟨rfl, rfl⟩
    | cons x l ih =>
      by_cases hx : f + x.Frame < 16
      · rcases ih (k + 1) with ⟨h1, h2⟩ | ⟨h1, j, h2⟩
        · left; exact ⟨by simp only [List.all_cons, hx, decide_true, Bool.true_and]; exact h1, by simp only [ZN, hx, if_true]; exact h2⟩
        · right; exact ⟨by simp only [List.all_cons, hx, decide_true, Bool.true_and]; exact h1, j, by simp only [ZN, hx, if_true]; exact h2⟩
      · right; exact ⟨by simp [hx], k, by simp [ZN, hx]⟩
  unfold Zw ZI
  rw [key]
  unfold Js
  rcases fnd 0 p.Parts with ⟨h1, h2⟩ | ⟨h1, j, h2⟩
  · rw [h2, h1]; rfl
  · rw [h2, h1]
    simp [Jw]
theorem Zdc {p : api_Param} (h : PartsOK p) : ∀ (n : Nat) (out : List Int) (f : Int), 0 ≤ f → f ≤ 32 → out.length + n ≤ 100 → 16 - f < n → loop (t2 (Z7 p)) (out, f) = some (out ++ stL p n f)
  | 0, out, f, h0, h1, h2, h3 => by
    have h16 : ¬ f < 16 := by omega
    rw [ZH]
    simp [Z7, h16, stL]
  | n + 1, out, f, h0, h1, h2, h3 => by
    obtain ⟨hE, _⟩ := XT h.tim
    rw [ZH]
    by_cases h16 : f < 16
    · have e : i64 (f + p.Every) = f + p.Every := Qy (by omega) (by omega)
      simp only [JS, Z7, h16, decide_true, if_true, Zig h ⟨h0, h16⟩, Option.bind_some, Bool.not_not, e]
      cases hi : Js p f
      · simp only [Bool.false_eq_true, if_false, Option.bind_some, t1]
        show loop (t2 (Z7 p)) (out, f + p.Every) = _
        rw [Zdc h n out _ (by omega) (by omega) (by omega) (by omega)]
        simp [stL, h16, hi]
      · simp only [if_true]
        rw [Zgs (by simp; omega)]
        simp only [Option.bind_some, t1]
        show loop (t2 (Z7 p)) (out ++ [f], f + p.Every) = _
        rw [Zdc h n _ _ (by omega) (by omega) (by simp; omega) (by omega)]
        simp [stL, h16, hi]
    · simp [Z7, h16, stL]
theorem Zgq {p : api_Param} (h : PartsOK p) : Xg p = some (XY p) := by
  obtain ⟨hE, hF, _⟩ := XT h.tim
  unfold Xg
  rw [Zdc h 17 [] p.First (by omega) (by omega) (by simp) (by omega)]
  rfl
theorem Zh1 {p : api_Param} (h : PartsOK p) {f : Int} (hf : 0 ≤ f ∧ f < 16) {j : Nat} (hj : (j : Int) < p.Times) : loop (t2 (Z2 p f j)) ([], 0) = some (p.Parts.map (Zdi p f j)) := by
  have h8 := h.len.1
  obtain ⟨_, _, hT, hS, _⟩ := XT h.tim
  refine Zkk (Zdi p f j) (fun k x acc hx ha => ?_) (fun acc => by simp [Z2])
  have hlt := Q9 hx
  have hk : i64 ((k : Int) + 1) = (k : Int) + 1 := Qy (by omega) (by omega)
  have hp := ZaQ.1 (h.len.2 x (List.mem_of_getElem? hx))
  have hst := h.stp x (List.mem_of_getElem? hx)
  simp only [stepOK, Bool.and_eq_true, decide_eq_true_eq] at hst
  have hm := ZkI (a := (j : Int)) (b := p.Step) (A := 57) (B := 60) (by omega) (by omega) hS hst.1
  simp only [Z2, hlt, decide_true, if_true, Qd hx, Option.bind_some, Xn, hk]
  rw [Qy (z := f + x.Frame) (by omega) (by omega), Qy (z := (j : Int) * p.Step) (by omega) (by omega), Qy (z := x.Word + (j : Int) * p.Step) (by omega) (by omega), Zgs (by simp; omega)]
  rfl
theorem Zij (p : api_Param) (f : Int) (j : Int) : Zbn p f j = Z2 p f j := by
  funext l i
  simp only [Zbn, Z2, Xn, Option.bind_some]
theorem ZhX {number : Int} {p : api_Param} (h : PartsOK p) {f : Int} (hf : 0 ≤ f ∧ f < 16) {body : List api_Cell → Int → Option ((List api_Cell × Int) ⊕ List api_Cell)} (out : List api_Cell) (ho : out.length ≤ 100000)
    (hb : ∀ acc i, body acc i = if decide (i < p.Times) = true then
      ((loop (t2 (Z2 p f i)) ([], 0)) : Option (((List api_Place)))).bind (t1 fun (Places : List api_Place) =>
      (app acc ([(api_Cell.mk number (acc.length : Int) f Places)] : List api_Cell)).bind fun l2 =>
      some (.inl (l2, (i64 (i + 1)))))
      else some (.inr acc)) : loop (t2 body) (out, 0) = some (Zcq number p out f) := by
  obtain ⟨_, _, hT, _⟩ := XT h.tim
  have hTn : (p.Times.toNat : Int) = p.Times := by omega
  have := ZeX (body := t2 body) (fun s => ∃ k : Nat, s.2 = k ∧ k ≤ p.Times.toNat ∧ s.1 = out ++ (List.range k).map fun j => Zgm number p ((out.length + j : Nat) : Int) f j) (fun s => p.Times.toNat - s.2.toNat) (fun _ => Zcq number p out f) (by
    rintro ⟨acc, i⟩ ⟨k, hi, hk, ha⟩
    simp only at hi ha
    subst hi
    simp only [JS, hb]
    rcases Nat.lt_or_ge k p.Times.toNat with hlt | hge
    · left
      have h1 : ((k : Nat) : Int) < p.Times := by omega
      have hlen : acc.length = out.length + k := by rw [ha]; simp
      simp only [h1, decide_true, if_true, Zh1 h hf h1, Option.bind_some, t1]
      rw [Zgs (by simp; omega), Qy (by omega) (by omega)]
      refine ⟨_, rfl, ⟨k + 1, by push_cast; rfl, hlt, ?_⟩, by simp only; omega, trivial⟩
      simp only [List.range_succ, List.map_append, List.map_cons, List.map_nil]
      rw [← List.append_assoc, ← ha, hlen]
      rfl
    · have : k = p.Times.toNat := by omega
      subst this
      right
      rw [if_neg (by simp; omega), ha]
      rfl) (out, 0) ⟨0, rfl, Nat.zero_le _, by simp⟩
  exact this
theorem ZhE {number : Int} {p : api_Param} (hT : p.Times ≤ 57) : ∀ (fs : List Int) (out : List api_Cell), (fs.foldl (Zcq number p) out).length ≤ out.length + 57 * fs.length
  | [], out => by simp
  | f :: fs, out => by
    have := ZhE (number := number) hT fs (Zcq number p out f)
    have h2 : (Zcq number p out f).length ≤ out.length + 57 := by unfold Zcq; simp; omega
    simp only [List.foldl_cons, List.length_cons]
    omega
theorem ZfT {p : api_Param} (h : PartsOK p) (number : Int) : Qv number p = some (cellsN number p) := by
  obtain ⟨hE, hF, hT, _⟩ := XT h.tim
  have hlen : (XY p).length ≤ 17 := Zho p 17 _
  unfold Qv
  rw [Zgq h, Option.bind_some]
  have key : loop (t2 (Qo number p (XY p))) ([], 0) = some (cellsN number p) := by
    have := ZeF (xs := XY p) (body := Qo number p (XY p)) (I := fun acc k => acc.length ≤ 57 * k) (F := fun acc k => ((XY p).drop k).foldl (Zcq number p) acc)
      (fun acc k f hI hx => by
        have hlt := Q9 hx
        have hf := ZfY (p := p) (by omega) 17 p.First f hF.1 (List.mem_of_getElem? hx)
        left
        refine ⟨Zcq number p acc f, ?_, ?_, by rw [ZP hx]; rfl⟩
        · simp only [Qo, hlt, decide_true, if_true, Qd hx, Option.bind_some]
          rw [ZhX (number := number) (body := XF number p f) h ⟨hf.1, hf.2.1⟩ acc (by omega) (fun acc i => rfl), Qy (by omega) (by omega)]
          rfl
        · unfold Zcq; simp; omega)
      (fun acc hI => by simp [Qo]) (a0 := []) (by simp)
    exact this
  rw [key]
  rfl
theorem ZhQ {p : api_Param} (h : PartsOK p) {f : Int} (hf : 0 ≤ f ∧ f < 16) : loop (t2 (Jn p f)) (true, 0) = some (Js p f) := by
  have h8 := h.len.1
  have := ZeF (xs := p.Parts) (body := Jn p f) (I := fun _ _ => True) (F := fun b k => b && ((p.Parts.drop k).all fun x => decide (f + x.Frame < 16)))
    (fun b k x _ hx => by
      have hlt := Q9 hx
      have hp := ZaQ.1 (h.len.2 x (List.mem_of_getElem? hx))
      left
      refine ⟨b && decide (f + x.Frame < 16), ?_, trivial, by rw [ZP hx, List.all_cons, Bool.and_assoc]⟩
      simp only [Jn, hlt, decide_true, if_true, Qd hx, Option.bind_some]
      rw [Qy (z := f + x.Frame) (by omega) (by omega), Qy (by omega) (by omega)])
    (fun b _ => by simp [Jn]) (a0 := true) trivial
  rw [this]
  simp [Js]
theorem Zdj {p : api_Param} (h : PartsOK p) (number : Int) : ∀ (n : Nat) (out : List api_Cell) (f : Int), 0 ≤ f → f ≤ 32 → out.length + 57 * n ≤ 10000 → 16 - f < n → loop (t2 (Xf p number)) (out, f) = some ((stL p n f).foldl (Zcq number p) out)
  | 0, out, f, h0, h1, h2, h3 => by
    have h16 : ¬ f < 16 := by omega
    rw [ZH]
    simp [Xf, h16, stL]
  | n + 1, out, f, h0, h1, h2, h3 => by
    obtain ⟨hE, _, hT, _⟩ := XT h.tim
    rw [ZH]
    by_cases h16 : f < 16
    · have e : i64 (f + p.Every) = f + p.Every := Qy (by omega) (by omega)
      simp only [JS, Xf, h16, decide_true, if_true, ZhQ h ⟨h0, h16⟩, Option.bind_some, t1, e]
      cases hi : Js p f
      · have hL : loop (t2 (Jo p number f false)) (out, 0) = some out := by
          rw [ZH]; simp [Jo]
        rw [hL]
        show loop (t2 (Xf p number)) (out, f + p.Every) = _
        rw [Zdj h number n out _ (by omega) (by omega) (by omega) (by omega)]
        simp [stL, h16, hi]
      · rw [ZhX (number := number) h ⟨h0, h16⟩ (body := Jo p number f true) out (by omega) (fun acc i => by
          simp only [Jo, Bool.and_true, Zij])]
        show loop (t2 (Xf p number)) (Zcq number p out f, f + p.Every) = _
        have h2' : (Zcq number p out f).length ≤ out.length + 57 := by unfold Zcq; simp; omega
        rw [Zdj h number n _ _ (by omega) (by omega) (by omega) (by omega)]
        simp [stL, h16, hi]
    · simp [Xf, h16, stL]
theorem ZcE {p : api_Param} (h : PartsOK p) (number : Int) : X2 p number = some (cellsN number p) := by
  obtain ⟨hE, hF, _⟩ := XT h.tim
  unfold X2
  rw [Zdj h number 17 [] p.First (by omega) (by omega) (by simp) (by omega)]
  rfl
end Go.Vx

namespace Go.Vx
open Go Go.RowKit

section
variable {K V : Type} {eq : K → K → Bool}
def mkeys (m : List (K × V)) : List K := m.map (·.1)
theorem Ze7 (he : ∀ a b, eq a b = true ↔ a = b) {m : List (K × V)} {k : K} : (ZbA eq m k).isSome = true ↔ k ∈ mkeys m := by
  unfold ZbA mkeys
  rw [Option.isSome_map, List.find?_isSome]
  simp only [List.mem_map]
  constructor
  · rintro ⟨p, hp, h⟩; exact ⟨p, hp, ((he _ _).1 h).symm⟩
  · rintro ⟨p, hp, rfl⟩; exact ⟨p, hp, (he _ _).2 rfl⟩
theorem Zg4 (he : ∀ a b, eq a b = true ↔ a = b) {m : List (K × V)} {k : K} (h : k ∉ mkeys m) : ZbA eq m k = none := by
  cases hm : ZbA eq m k with
  | none => rfl
  | some v => exact absurd ((Ze7 he).1 (by rw [hm]; rfl)) h
theorem ZhV (he : ∀ a b, eq a b = true ↔ a = b) {m : List (K × V)} {k : K} {v : V} (h : k ∉ mkeys m) : ZdY eq m k v = m ++ [(k, v)] := by
  unfold ZdY
  have : (m.findIdx? fun p => eq k p.1) = none := by
    rw [List.findIdx?_eq_none_iff]
    intro p hp
    cases hq : eq k p.1 with
    | false => rfl
    | true => exact absurd (List.mem_map.2 ⟨p, hp, ((he _ _).1 hq).symm⟩) h
  rw [this]
end
theorem Zhg {n : Nat} (a b : Vector Int n) : kqV a b = true ↔ a = b := by simp [kqV]
end Go.Vx

namespace Go.Vx
open Go Go.RowKit
theorem kqB_iff (a b : layout_bit) : kq_layout_bit a b = true ↔ a = b := by
  cases a; cases b; simp [kq_layout_bit]
instance : DecidableEq layout_bit := fun a b => decidable_of_iff (kq_layout_bit a b = true) (kqB_iff a b)
def XD (x : api_Place) : List layout_bit := (List.range x.Bits.toNat).map fun (i : Nat) => ⟨x.Frame, x.Word, x.Low + i⟩
def QB (l : List api_Place) : List layout_bit := l.flatMap XD
def okB : List layout_bit → List layout_bit → Bool
  | _, [] => true
  | K, b :: bs => if b ∈ K then false else okB (K ++ [b]) bs
theorem Zbq : ∀ (K a b : List layout_bit), okB K (a ++ b) = (okB K a && okB (K ++ a) b)
  | K, [], b => by simp [okB]
  | K, x :: a, b => by
    simp only [List.cons_append, okB]
    split
    · rfl
    · rw [Zbq (K ++ [x]) a b]; simp
def ZbK (x : api_Place) : Prop := 0 ≤ x.Low ∧ x.Low ≤ 10 ∧ 0 ≤ x.Bits ∧ x.Bits ≤ 11
theorem Zjn {x : api_Place} (h : ZbK x) : XM x = some (XD x) := by
  obtain ⟨h1, h2, h3, h4⟩ := h
  have hn : (x.Bits.toNat : Int) = x.Bits := by omega
  have := ZhA (body := QX x) x.Bits.toNat (fun i => (⟨x.Frame, x.Word, x.Low + i⟩ : layout_bit)) (fun k acc hk ha => by
    have h5 : ((k : Nat) : Int) < x.Bits := by omega
    simp only [QX, h5, decide_true, if_true]
    rw [Qy (by omega) (by omega), Zgs (by simp; omega), Qy (by omega) (by omega)]
    rfl) (fun acc => by simp [QX, hn])
  unfold XM
  rw [this]; rfl
theorem ZhK {K V : Type} {o : List (K × V)} {b : K} {v : V} : mkeys (o ++ [(b, v)]) = mkeys o ++ [b] := by simp [mkeys]
theorem Zkr {y : List layout_bit} (owner : Int) (hy : y.length ≤ 1000) (o : List (layout_bit × Int)) : ∃ q, loop (t2 (QJ owner y)) (o, 0) = some (cond (okB (mkeys o) y) (.inr (o ++ y.map fun b => (b, owner))) (.inl (false, q))) := by
  have key : ∀ (n k : Nat) (o : List (layout_bit × Int)), k + n = y.length → ∃ q, loop (t2 (QJ owner y)) (o, (k : Int)) = some (cond (okB (mkeys o) (y.drop k)) (.inr (o ++ (y.drop k).map fun b => (b, owner))) (.inl (false, q))) := by
    intro n
    induction n with
    | zero =>
      intro k o hk
      have : k = y.length := by omega
      subst this
      refine ⟨[], ?_⟩
      rw [ZH]
      simp [QJ, okB]
    | succ n ih =>
      intro k o hk
      obtain ⟨x, hx⟩ := Xl (xs := y) (k := k) (by omega)
      have hlt := Q9 hx
      rw [ZP hx, ZH]
      simp only [JS, QJ, hlt, decide_true, if_true, Qd hx, Option.bind_some, okB]
      by_cases hm : x ∈ mkeys o
      · refine ⟨o, ?_⟩
        rw [if_pos ((Ze7 kqB_iff).2 hm), if_pos hm]
        rfl
      · have hg : (ZbA kq_layout_bit o x).isSome = false := by rw [Zg4 kqB_iff hm]; rfl
        rw [hg, ZhV kqB_iff hm, if_neg hm, Qy (by omega) (by omega)]
        obtain ⟨q, h2⟩ := ih (k + 1) (o ++ [(x, owner)]) (by omega)
        refine ⟨q, ?_⟩
        simp only [Bool.false_eq_true, if_false]
        have e : ((k : Nat) : Int) + 1 = ((k + 1 : Nat) : Int) := by push_cast; rfl
        rw [e]
        rw [ZhK] at h2
        show loop (t2 (QJ owner y)) (o ++ [(x, owner)], ((k + 1 : Nat) : Int)) = _
        rw [h2]
        simp
  exact key y.length 0 o (by omega)
theorem Zi5 {x : api_Place} (h : ZbK x) : (XD x).length ≤ 11 := by
  obtain ⟨_, _, h3, h4⟩ := h
  simp [XD]; omega
theorem Zik {l : List api_Place} (owner : Int) (hl : l.length ≤ 1000000) (hp : ∀ x ∈ l, ZbK x) (o : List (layout_bit × Int)) :
    ∃ q, XC o owner l = some (okB (mkeys o) (QB l), q) ∧ (okB (mkeys o) (QB l) = true → q = o ++ (QB l).map fun b => (b, owner)) := by
  have key : ∀ (n k : Nat) (o : List (layout_bit × Int)), k + n = l.length → ∃ q, loop (t2 (QM owner l)) (o, (k : Int)) = some (cond (okB (mkeys o) (QB (l.drop k))) (.inr (o ++ (QB (l.drop k)).map fun b => (b, owner))) (.inl (false, q))) := by
    intro n
    induction n with
    | zero =>
      intro k o hk
      have : k = l.length := by omega
      subst this
      refine ⟨[], ?_⟩
      rw [ZH]
      simp [QM, okB, QB]
    | succ n ih =>
      intro k o hk
      obtain ⟨x, hx⟩ := Xl (xs := l) (k := k) (by omega)
      have hlt := Q9 hx
      have hpx := hp x (List.mem_of_getElem? hx)
      obtain ⟨q, h2⟩ := Zkr owner (y := XD x) (by have := Zi5 hpx; omega) o
      have e : QB (l.drop k) = XD x ++ QB (l.drop (k + 1)) := by rw [ZP hx]; simp [QB]
      rw [e, Zbq, ZH]
      simp only [JS, QM, hlt, decide_true, if_true, Qd hx, Option.bind_some, Zjn hpx, h2]
      by_cases hm : okB (mkeys o) (XD x) = true
      · obtain ⟨q', h3⟩ := ih (k + 1) (o ++ (XD x).map fun b => (b, owner)) (by omega)
        refine ⟨q', ?_⟩
        rw [hm, Bool.true_and, Qy (by omega) (by omega)]
        have e2 : ((k : Nat) : Int) + 1 = ((k + 1 : Nat) : Int) := by push_cast; rfl
        rw [e2]
        show loop (t2 (QM owner l)) (o ++ (XD x).map (fun b => (b, owner)), ((k + 1 : Nat) : Int)) = _
        rw [h3]
        have e3 : mkeys (o ++ (XD x).map fun b => (b, owner)) = mkeys o ++ XD x := by simp [mkeys, Function.comp_def]
        rw [e3]
        simp
      · refine ⟨q, ?_⟩
        have hm' : okB (mkeys o) (XD x) = false := by simpa using hm
        rw [hm']
        rfl
  obtain ⟨q, h⟩ := key l.length 0 o (by omega)
  unfold XC
  have h' : loop (t2 (QM owner l)) (o, 0) = _ := h
  rw [h']
  rw [List.drop_zero]
  by_cases hm : okB (mkeys o) (QB l) = true
  · rw [hm]; exact ⟨_, rfl, fun _ => rfl⟩
  · have hm' : okB (mkeys o) (QB l) = false := by simpa using hm
    rw [hm']
    refine ⟨q, rfl, ?_⟩
    intro h; cases h
def trB (b : layout_bit) : Vector Int 3 := #v[b.frame, b.word, b.bit]
theorem ZiA {a b : layout_bit} (h : trB a = trB b) : a = b := by
  cases a; cases b
  simp only [trB] at h
  have h0 := congrArg (fun v : Vector Int 3 => v[0]) h
  have h1 := congrArg (fun v : Vector Int 3 => v[1]) h
  have h2 := congrArg (fun v : Vector Int 3 => v[2]) h
  simp at h0 h1 h2
  subst h0 h1 h2
  rfl
abbrev RT := List (Vector Int 3 × Bool)
structure RK (o : RT) (K : List layout_bit) : Prop where
  keys : mkeys o = K.map trB
  vals : ∀ p ∈ o, p.2 = true
theorem RK.get {o : RT} {K : List layout_bit} (h : RK o K) (b : layout_bit) : (ZbA kqV o (trB b)).getD false = decide (b ∈ K) := by
  by_cases hb : b ∈ K
  · have hm : trB b ∈ mkeys o := by rw [h.keys]; exact List.mem_map.2 ⟨b, hb, rfl⟩
    obtain ⟨v, hv⟩ := Option.isSome_iff_exists.1 ((Ze7 Zhg).2 hm)
    have : v = true := by
      unfold ZbA at hv
      obtain ⟨p, hp, rfl⟩ := Option.map_eq_some_iff.1 hv
      exact h.vals p (List.mem_of_find?_eq_some hp)
    rw [hv, this]; simp [hb]
  · have hm : trB b ∉ mkeys o := by
      rw [h.keys]
      intro hm
      obtain ⟨c, hc, he⟩ := List.mem_map.1 hm
      rw [ZiA he] at hc
      exact hb hc
    rw [Zg4 Zhg hm]; simp [hb]
theorem RK.put {o : RT} {K : List layout_bit} (h : RK o K) {b : layout_bit} (hb : b ∉ K) : RK (ZdY kqV o (trB b) true) (K ++ [b]) := by
  have hm : trB b ∉ mkeys o := by
    rw [h.keys]
    intro hm
    obtain ⟨c, hc, he⟩ := List.mem_map.1 hm
    rw [ZiA he] at hc
    exact hb hc
  rw [ZhV Zhg hm]
  refine ⟨by rw [ZhK, h.keys]; simp, fun p hp => ?_⟩
  rcases List.mem_append.1 hp with hp | hp
  · exact h.vals p hp
  · simp at hp; rw [hp]
theorem ZjF {x : api_Place} (hx : ZbK x) (o : RT) (ok : Bool) :
    ∃ o' ok', loop (t3 (QU x)) (o, ok, x.Low) = some (o', ok') ∧ (ok = false → ok' = false) ∧ ∀ K, ok = true → RK o K → ok' = okB K (XD x) ∧ (ok' = true → RK o' (K ++ XD x)) := by
  obtain ⟨h1, h2, h3, h4⟩ := hx
  have hs : i64 (x.Low + x.Bits) = x.Low + x.Bits := Qy (by omega) (by omega)
  have key : ∀ (n k : Nat) (o : RT) (ok : Bool), k + n = x.Bits.toNat → ∃ o' ok', loop (t3 (QU x)) (o, ok, x.Low + k) = some (o', ok') ∧ (ok = false → ok' = false) ∧
      ∀ K, ok = true → RK o K → ok' = okB K ((XD x).drop k) ∧ (ok' = true → RK o' (K ++ (XD x).drop k)) := by
    intro n
    induction n with
    | zero =>
      intro k o ok hk
      have hge : ¬ (x.Low + (k : Int) < x.Low + x.Bits) := by omega
      refine ⟨o, ok, ?_, fun h => h, fun K h hK => ?_⟩
      · rw [ZH]
        simp only [Ziv, QU, hs, hge, decide_false, Bool.false_eq_true, if_false]
        rfl
      · have : (XD x).drop k = [] := List.drop_eq_nil_of_le (by simp [XD]; omega)
        rw [this]
        exact ⟨by simp [okB, h], fun _ => by simpa using hK⟩
    | succ n ih =>
      intro k o ok hk
      have hlt : (x.Low + (k : Int) < x.Low + x.Bits) := by omega
      have hb : (XD x)[k]? = some ⟨x.Frame, x.Word, x.Low + k⟩ := by
        simp only [XD, List.getElem?_map]
        rw [List.getElem?_range (by omega)]
        rfl
      have he : (#v[x.Frame, x.Word, x.Low + (k : Int)] : Vector Int 3) = trB ⟨x.Frame, x.Word, x.Low + k⟩ := rfl
      have e1 : x.Low + ((k : Nat) : Int) + 1 = x.Low + ((k + 1 : Nat) : Int) := by push_cast; omega
      have hi : i64 (x.Low + (k : Int) + 1) = x.Low + ((k + 1 : Nat) : Int) := by rw [Qy (by omega) (by omega), e1]
      rw [ZH]
      simp only [Ziv, QU, hs, hlt, decide_true, if_true, hi, he]
      cases ok with
      | false =>
        obtain ⟨o', ok', g1, g2, _⟩ := ih (k + 1) (ZdY kqV o (trB ⟨x.Frame, x.Word, x.Low + k⟩) true) false (by omega)
        exact ⟨o', ok', g1, fun _ => g2 rfl, fun K h => by cases h⟩
      | true =>
        simp only [ZkU, Option.bind_some, Bool.true_and]
        obtain ⟨o', ok', g1, g2, g3⟩ := ih (k + 1) (ZdY kqV o (trB ⟨x.Frame, x.Word, x.Low + k⟩) true) (!(ZbA kqV o (trB ⟨x.Frame, x.Word, x.Low + k⟩)).getD false) (by omega)
        refine ⟨o', ok', g1, (fun h => by cases h), fun K _ hK => ?_⟩
        rw [ZP hb]
        simp only [okB]
        rw [hK.get] at g2 g3
        by_cases hm : (⟨x.Frame, x.Word, x.Low + k⟩ : layout_bit) ∈ K
        · rw [if_pos hm]
          have hf := g2 (by simp [hm])
          exact ⟨hf, fun h => by rw [hf] at h; cases h⟩
        · rw [if_neg hm]
          obtain ⟨a1, a2⟩ := g3 (K ++ [⟨x.Frame, x.Word, x.Low + k⟩]) (by simp [hm]) (hK.put hm)
          refine ⟨a1, fun h => ?_⟩
          have := a2 h
          simpa using this
  have := key x.Bits.toNat 0 o ok (by omega)
  simpa using this
theorem Zky {l : List api_Place} (hl : l.length ≤ 1000000) (hp : ∀ x ∈ l, ZbK x) (o : RT) :
    ∃ o' ok', Jf o l = some (ok', o') ∧ ∀ K, RK o K → ok' = okB K (QB l) ∧ (ok' = true → RK o' (K ++ QB l)) := by
  have key : ∀ (n k : Nat) (o : RT) (ok : Bool), k + n = l.length → ∃ o' ok', loop (t3 (QT l)) (o, ok, (k : Int)) = some (o', ok') ∧ (ok = false → ok' = false) ∧
      ∀ K, ok = true → RK o K → ok' = okB K (QB (l.drop k)) ∧ (ok' = true → RK o' (K ++ QB (l.drop k))) := by
    intro n
    induction n with
    | zero =>
      intro k o ok hk
      have : k = l.length := by omega
      subst this
      refine ⟨o, ok, ?_, fun h => h, fun K h hK => ?_⟩
      · rw [ZH]
        simp [QT]
      · simp [QB, okB, h, hK]
    | succ n ih =>
      intro k o ok hk
      obtain ⟨x, hx⟩ := Xl (xs := l) (k := k) (by omega)
      have hlt := Q9 hx
      have hpx := hp x (List.mem_of_getElem? hx)
      obtain ⟨o1, ok1, h1, h2, h3⟩ := ZjF hpx o ok
      obtain ⟨o2, ok2, g1, g2, g3⟩ := ih (k + 1) o1 ok1 (by omega)
      have e : QB (l.drop k) = XD x ++ QB (l.drop (k + 1)) := by rw [ZP hx]; simp [QB]
      have e2 : ((k : Nat) : Int) + 1 = ((k + 1 : Nat) : Int) := by push_cast; rfl
      refine ⟨o2, ok2, ?_, fun h => g2 (h2 h), fun K h hK => ?_⟩
      · rw [ZH]
        simp only [Ziv, QT, hlt, decide_true, if_true, Qd hx, Option.bind_some, h1, JS]
        rw [Qy (by omega) (by omega), e2]
        exact g1
      · rw [e, Zbq]
        obtain ⟨a1, a2⟩ := h3 K h hK
        cases hok : ok1 with
        | false =>
          rw [← a1, hok, Bool.false_and]
          have := g2 hok
          exact ⟨this, fun h => by rw [this] at h; cases h⟩
        | true =>
          rw [← a1, hok, Bool.true_and]
          obtain ⟨b1, b2⟩ := g3 _ hok (a2 hok)
          exact ⟨b1, fun h => by have := b2 h; simpa using this⟩
  obtain ⟨o', ok', h1, _, h3⟩ := key l.length 0 o true (by omega)
  unfold Jf
  have h1' : loop (t3 (QT l)) (o, true, 0) = _ := h1
  rw [h1']
  exact ⟨o', ok', rfl, fun K hK => by simpa using h3 K rfl hK⟩
def bitsC (l : List api_Cell) : List layout_bit := l.flatMap fun c => QB c.Places
def ZdQ (l : List api_Cell) : Prop := l.length ≤ 1000000 ∧ ∀ c ∈ l, c.Places.length ≤ 1000000 ∧ ∀ x ∈ c.Places, ZbK x
theorem Zew {l : List api_Cell} (hl : ZdQ l) (o : RT) :
    ∃ o' ok', QW o l = some (ok', o') ∧ ∀ K, RK o K → ok' = okB K (bitsC l) ∧ (ok' = true → RK o' (K ++ bitsC l)) := by
  have hl0 := hl.1
  have key : ∀ (n k : Nat) (o : RT) (ok : Bool), k + n = l.length → ∃ o' ok', loop (t3 (Qq l)) (o, ok, (k : Int)) = some (o', ok') ∧ (ok = false → ok' = false) ∧
      ∀ K, ok = true → RK o K → ok' = okB K (bitsC (l.drop k)) ∧ (ok' = true → RK o' (K ++ bitsC (l.drop k))) := by
    intro n
    induction n with
    | zero =>
      intro k o ok hk
      have : k = l.length := by omega
      subst this
      refine ⟨o, ok, ?_, fun h => h, fun K h hK => ?_⟩
      · rw [ZH]
        simp [Qq]
      · simp [bitsC, okB, h, hK]
    | succ n ih =>
      intro k o ok hk
      obtain ⟨c, hc⟩ := Xl (xs := l) (k := k) (by omega)
      have hlt := Q9 hc
      obtain ⟨hp1, hp2⟩ := hl.2 c (List.mem_of_getElem? hc)
      obtain ⟨o1, ok1, h1, h3⟩ := Zky hp1 hp2 o
      obtain ⟨o2, ok2, g1, g2, g3⟩ := ih (k + 1) o1 (if ok1 = true then ok else false) (by omega)
      have e : bitsC (l.drop k) = QB c.Places ++ bitsC (l.drop (k + 1)) := by rw [ZP hc]; simp [bitsC]
      have e2 : ((k : Nat) : Int) + 1 = ((k + 1 : Nat) : Int) := by push_cast; rfl
      refine ⟨o2, ok2, ?_, fun h => g2 (by simp [h]), fun K h hK => ?_⟩
      · rw [ZH]
        simp only [Ziv, Qq, hlt, decide_true, if_true, Qd hc, Option.bind_some, h1]
        rw [Qy (by omega) (by omega), e2]
        cases ok1 <;> exact g1
      · rw [e, Zbq]
        obtain ⟨a1, a2⟩ := h3 K hK
        cases hok : ok1 with
        | false =>
          rw [← a1, hok, Bool.false_and]
          have := g2 (by simp [hok])
          exact ⟨this, fun h => by rw [this] at h; cases h⟩
        | true =>
          rw [← a1, hok, Bool.true_and]
          obtain ⟨b1, b2⟩ := g3 _ (by simp [hok, h]) (a2 hok)
          exact ⟨b1, fun h => by have := b2 h; simpa using this⟩
  obtain ⟨o', ok', h1, _, h3⟩ := key l.length 0 o true (by omega)
  unfold QW
  have h1' : loop (t3 (Qq l)) (o, true, 0) = _ := h1
  rw [h1']
  exact ⟨o', ok', rfl, fun K hK => by simpa using h3 K rfl hK⟩
end Go.Vx

namespace Go.Vx
open Go Go.RowKit
theorem PartsOK.of {p : api_Param} (h1 : ZdZ p = 0) (h2 : Zep p = 0) : PartsOK p := by
  obtain ⟨hl, _, _⟩ := Zcu h1
  unfold Zep at h2
  split at h2
  · split at h2
    · rename_i ha hb
      exact ⟨hl, ha, fun x hx => List.all_eq_true.1 hb x hx⟩
    · cases h2
  · cases h2
theorem ZjP {number : Int} {p : api_Param} {out : List api_Cell} {f : Int} {c : api_Cell} (h : c ∈ Zcq number p out f) : c ∈ out ∨ ∃ (i : Int) (j : Nat), j < p.Times.toNat ∧ c = Zgm number p i f j := by
  unfold Zcq at h
  rcases List.mem_append.1 h with h | h
  · exact .inl h
  · obtain ⟨j, hj, rfl⟩ := List.mem_map.1 h
    exact .inr ⟨_, j, by simpa using hj, rfl⟩
theorem ZhZ {number : Int} {p : api_Param} {c : api_Cell} : ∀ (fs : List Int) (out : List api_Cell), c ∈ fs.foldl (Zcq number p) out → c ∈ out ∨ ∃ (i f : Int) (j : Nat), f ∈ fs ∧ j < p.Times.toNat ∧ c = Zgm number p i f j
  | [], out, h => .inl h
  | f :: fs, out, h => by
    rcases ZhZ fs _ h with h | ⟨i, g, j, h1, h2, h3⟩
    · rcases ZjP h with h | ⟨i, j, h1, h2⟩
      · exact .inl h
      · exact .inr ⟨i, f, j, List.mem_cons_self, h1, h2⟩
    · exact .inr ⟨i, g, j, List.mem_cons_of_mem _ h1, h2, h3⟩
theorem Zgk {number : Int} {p : api_Param} {c : api_Cell} (h : c ∈ cellsN number p) : ∃ (i f : Int) (j : Nat), f ∈ XY p ∧ j < p.Times.toNat ∧ c = Zgm number p i f j := by
  rcases ZhZ _ _ h with h | h
  · cases h
  · exact h
theorem ZcN {number : Int} {p : api_Param} (h : PartsOK p) : (cellsN number p).length ≤ 969 := by
  obtain ⟨_, _, hT, _⟩ := XT h.tim
  have h1 := ZhE (number := number) (p := p) hT.2 (XY p) []
  have h2 : (XY p).length ≤ 17 := Zho p 17 _
  unfold cellsN
  simp only [List.length_nil] at h1
  omega
theorem Zi1 {p : api_Param} (h : PartsOK p) {x : api_Part} (hx : x ∈ p.Parts) (f j : Int) : ZbK (Zdi p f j x) := by
  have := ZaQ.1 (h.len.2 x hx)
  unfold ZbK Zdi
  simp only
  omega
theorem ZbR {number : Int} {p : api_Param} (h : PartsOK p) : ZdQ (cellsN number p) := by
  have h0 := ZcN (number := number) h
  refine ⟨by omega, fun c hc => ?_⟩
  obtain ⟨i, f, j, _, _, rfl⟩ := Zgk hc
  have h8 := h.len.1
  refine ⟨by simp [Zgm]; omega, fun x hx => ?_⟩
  obtain ⟨y, hy, rfl⟩ := List.mem_map.1 hx
  exact Zi1 h hy _ _
theorem Zj0 {l : List api_Cell} (hl : ZdQ l) : loop (t2 (Z3 l)) (([] : List (layout_bit × Int)), 0) = some (cond (okB [] (bitsC l)) (.inr ()) (.inl 5)) := by
  have hl0 := hl.1
  have key : ∀ (n k : Nat) (o : List (layout_bit × Int)), k + n = l.length → loop (t2 (Z3 l)) (o, (k : Int)) = some (cond (okB (mkeys o) (bitsC (l.drop k))) (.inr ()) (.inl 5)) := by
    intro n
    induction n with
    | zero =>
      intro k o hk
      have : k = l.length := by omega
      subst this
      rw [ZH]
      simp [Z3, okB, bitsC]
    | succ n ih =>
      intro k o hk
      obtain ⟨c, hc⟩ := Xl (xs := l) (k := k) (by omega)
      have hlt := Q9 hc
      obtain ⟨hp1, hp2⟩ := hl.2 c (List.mem_of_getElem? hc)
      obtain ⟨q, h1, h2⟩ := Zik 0 hp1 hp2 o
      have e : bitsC (l.drop k) = QB c.Places ++ bitsC (l.drop (k + 1)) := by rw [ZP hc]; simp [bitsC]
      have e2 : ((k : Nat) : Int) + 1 = ((k + 1 : Nat) : Int) := by push_cast; rfl
      rw [e, Zbq, ZH]
      simp only [JS, Z3, hlt, decide_true, if_true, Qd hc, Option.bind_some, h1]
      rw [Qy (by omega) (by omega), e2]
      cases hok : okB (mkeys o) (QB c.Places) with
      | false => rfl
      | true =>
        have h3 := h2 hok
        have := ih (k + 1) q (by omega)
        have e3 : mkeys q = mkeys o ++ QB c.Places := by rw [h3]; simp [mkeys, Function.comp_def]
        rw [e3] at this
        exact this
  have := key l.length 0 [] (by omega)
  exact this
def Zgr (p : api_Param) : Int := if nmL p.Name = true then (if wiL p.Kind 1 6 = true then (if ZdZ p = 0 then (if Zep p = 0 then (if ZhH p = 0 then (if okB [] (bitsC (cellsN 0 p)) = true then (if (cellsN 0 p).length = 0 then 13 else 0) else 5) else ZhH p) else Zep p) else ZdZ p) else 7) else 8
theorem Zhh (p : api_Param) : QH p = some (Zgr p) := by
  unfold QH Zgr
  rw [Zgc, Option.bind_some]
  cases h1 : nmL p.Name
  · rfl
  simp only [Bool.not_true, Bool.false_eq_true, if_false, if_true, XV, Option.bind_some]
  cases h2 : wiL p.Kind 1 6
  · rfl
  simp only [Bool.not_true, Bool.false_eq_true, if_false, if_true, ZkG, Option.bind_some]
  by_cases h3 : ZdZ p = 0
  · by_cases h4 : Zep p = 0
    · simp only [h3, h4, if_true, decide_true, Bool.not_true, Bool.false_eq_true, if_false, ZkJ h3, Option.bind_some]
      by_cases h5 : ZhH p = 0
      · have hP := PartsOK.of h3 h4
        simp only [h5, if_true, decide_true, Bool.not_true, Bool.false_eq_true, if_false, ZfT hP, Option.bind_some, Zj0 (ZbR hP)]
        cases okB [] (bitsC (cellsN 0 p))
        · rfl
        · by_cases h6 : (cellsN 0 p).length = 0
          · simp [h6]
          · have : ¬ (((cellsN 0 p).length : Nat) : Int) = 0 := by omega
            simp only [if_true, if_neg h6, Option.bind_some, cond_true, Sum.elim_inr, t0, this, decide_false, Bool.false_eq_true, if_false]
      · simp [h5]
    · simp [h3, h4]
  · simp [h3]
theorem ZgE (p : api_Param) (hs : ZaW p) : Jh p = some (Zgr p) := by
  obtain ⟨w1, _, _, _, _, _, _, w2, _⟩ := hs
  unfold Jh Zgr
  rw [Ziu _ w1, Option.bind_some]
  cases h1 : nmL p.Name
  · rfl
  simp only [Bool.not_true, Bool.false_eq_true, if_false, if_true, XJ, Option.bind_some]
  cases h2 : wiL p.Kind 1 6
  · rfl
  simp only [Bool.not_true, Bool.false_eq_true, if_false, if_true, ZjU, Option.bind_some]
  by_cases h3 : ZdZ p = 0
  · simp only [h3, if_true, decide_true, Bool.not_true, Bool.false_eq_true, if_false, ZjB h3, Option.bind_some]
    by_cases h4 : Zep p = 0
    · simp only [h4, if_true, decide_true, Bool.not_true, Bool.false_eq_true, if_false, Zkl h3 (fun x hx => w2.2 x hx), Option.bind_some]
      by_cases h5 : ZhH p = 0
      · have hP := PartsOK.of h3 h4
        obtain ⟨o', ok', g1, g2⟩ := Zew (ZbR (number := 0) hP) []
        obtain ⟨g3, _⟩ := g2 [] ⟨rfl, fun p hp => by cases hp⟩
        simp only [h5, if_true, decide_true, Bool.not_true, Bool.false_eq_true, if_false, ZcE hP, Option.bind_some, g1, g3]
        cases okB [] (bitsC (cellsN 0 p))
        · rfl
        · by_cases h6 : (cellsN 0 p).length = 0
          · simp [h6]
          · have : ¬ (((cellsN 0 p).length : Nat) : Int) = 0 := by omega
            simp only [if_true, if_neg h6, this, decide_false, Bool.false_eq_true, if_false, Bool.not_true]
      · simp [h5]
    · simp [h4]
  · simp [h3]
structure ParOK (p : api_Param) : Prop extends PartsOK p where
  kind : 1 ≤ p.Kind ∧ p.Kind ≤ 6
  bits : 1 ≤ bitsN p ∧ bitsN p ≤ 40
  k4 : p.Kind = 4 → (bitsN p).tmod 4 = 0
  k5 : p.Kind = 5 → bitsN p = 1
  k23 : p.Kind = 2 ∨ p.Kind = 3 → 2 ≤ bitsN p
  k6 : p.Kind = 6 → 1 ≤ p.Names.length ∧ p.Names.length ≤ 64 ∧ (p.Names.length : Int) ≤ 2 ^ (bitsN p).toNat
  uniq : okB [] (bitsC (cellsN 0 p)) = true
theorem Zk6 {p : api_Param} (h : Zgr p = 0) : ParOK p := by
  unfold Zgr at h
  by_cases h1 : nmL p.Name = true
  case neg => rw [if_neg h1] at h; cases h
  rw [if_pos h1] at h
  by_cases h2 : wiL p.Kind 1 6 = true
  case neg => rw [if_neg h2] at h; cases h
  rw [if_pos h2] at h
  by_cases h3 : ZdZ p = 0
  case neg => rw [if_neg h3] at h; exact absurd h h3
  rw [if_pos h3] at h
  by_cases h4 : Zep p = 0
  case neg => rw [if_neg h4] at h; exact absurd h h4
  rw [if_pos h4] at h
  by_cases h5 : ZhH p = 0
  case neg => rw [if_neg h5] at h; exact absurd h h5
  rw [if_pos h5] at h
  by_cases h6 : okB [] (bitsC (cellsN 0 p)) = true
  case neg => rw [if_neg h6] at h; cases h
  obtain ⟨hl, hl1, hl40⟩ := Zcu h3
  have hb1 : 1 ≤ bitsN p := by
    have := (Zj2 hl.2).1
    unfold bitsN; omega
  have h5' := h5
  unfold ZhH at h5'
  have hk : ZcL p = false := by
    cases hk : ZcL p
    · rfl
    · rw [hk] at h5'; cases h5'
  rw [hk] at h5'
  simp only [ZcL, Bool.or_eq_false_iff, Bool.and_eq_false_iff] at hk
  refine { toPartsOK := PartsOK.of h3 h4, kind := ZfZ.1 h2, bits := ⟨hb1, hl40⟩, k4 := ?_, k5 := ?_, k23 := ?_, k6 := ?_, uniq := h6 }
  · intro e; simp [e] at hk; exact hk
  · intro e; simp [e] at hk; exact hk
  · intro e
    have : bitsN p ≠ 1 := by
      intro eb
      rcases e with e | e <;> simp [e, eb] at hk
    omega
  · intro e
    simp only [e, Bool.false_eq_true, if_false, if_true] at h5'
    split at h5'
    · cases h5'
    · split at h5'
      · cases h5'
      · rename_i a b
        simp only [Bool.or_eq_true, decide_eq_true_eq, not_or] at b
        exact ⟨by omega, by omega, by omega⟩
end Go.Vx

namespace Go.Vx
open Go Go.RowKit
def HH (p : api_Param) : Int := (2 : Int) ^ (bitsN p - 1).toNat
def NN (p : api_Param) : Nat := ((bitsN p).tdiv 4).toNat
def lims (p : api_Param) : Int × Int := if p.Kind = 1 then (0, 2 * HH p - 1) else if p.Kind = 5 then (0, 1) else if p.Kind = 6 then (0, (p.Names.length : Int) - 1) else if p.Kind = 2 then (-HH p, HH p - 1) else if p.Kind = 3 then (1 - HH p, HH p - 1) else (0, 10 ^ NN p - 1)
def bcd : Nat → Nat → Nat
  | 0, _ => 0
  | n + 1, v => v % 10 + 16 * bcd n (v / 10)
def enc (p : api_Param) (v : Int) : Int := if p.Kind = 2 then (if v < 0 then 2 * HH p + v else v) else if p.Kind = 3 then (if v < 0 then HH p - v else v) else if p.Kind = 4 then (bcd (NN p) v.toNat : Int) else v
def dig (raw : Int) (m : Nat) : Int := ZgI .i64 (raw.fdiv (2 ^ (4 * m))) 15
def Zl9 (raw : Int) : Nat → Int → Bool → Int × Bool
  | 0, v, ok => (v, ok)
  | m + 1, v, ok => Zl9 raw m (i64 (i64 (v * 10) + dig raw m)) (ok && decide (dig raw m < 10))
def clr (x : Int × Bool) : Int × Bool := if x.2 = true then (x.1, true) else (0, false)
def dec (p : api_Param) (raw : Int) : Int × Bool := if p.Kind = 1 then (raw, true) else if p.Kind = 5 then (raw, true) else if p.Kind = 6 then (if (p.Names.length : Int) ≤ raw then (0, false) else (raw, true)) else if p.Kind = 2 then (if HH p ≤ raw then (raw - 2 * HH p, true) else (raw, true))
  else if p.Kind = 3 then (if raw = HH p then (0, false) else if HH p < raw then (HH p - raw, true) else (raw, true)) else clr (Zl9 raw (NN p) 0 true)
end Go.Vx

namespace Go.Vx
open Go Go.RowKit
structure NumOK (p : api_Param) (n : layout_number) : Prop where
  low : n.low = (lims p).1
  high : n.high = (lims p).2
  encode : ∀ v, (lims p).1 ≤ v → v ≤ (lims p).2 → n.encode.fn v = some (enc p v)
  decode : ∀ raw, 0 ≤ raw → raw < 2 * HH p → ∃ y, n.decode.fn raw = some y ∧ clr y = dec p raw
end Go.Vx

namespace Go.Vx
open Go Go.RowKit
theorem Zg5 {x : Int} (h : x ≠ 0) : (!decide (x = 0)) = true := by simp [h]
end Go.Vx

namespace Go.Vx
open Go Go.RowKit
def allC : Nat → List api_Param → List api_Cell
  | _, [] => []
  | k, x :: tl => cellsN (k : Int) x ++ allC (k + 1) tl
theorem ZiT {l : List api_Param} {f : api_Param → Option Bool} {g : api_Param → Bool} (hf : ∀ x, f x = some (g x)) (hl : l.length ≤ 1000) : Zt l f = some (l.any g) := by
  have key : loop (t1 (Zu l f)) 0 = some (Jw Sum.inl (Sum.inr ()) (ZN (fun k (x : api_Param) => if g x = true then some (k : Int) else none) 0 l)) := by
    refine XX (xs := l) _ _ _ (fun k x hx => ?_) (by simp [Zu])
    have hlt := Q9 hx
    have hk : i64 ((k : Int) + 1) = (k : Int) + 1 := Qy (by omega) (by omega)
    simp only [Zu, hlt, decide_true, if_true, Qd hx, Option.bind_some, hk, hf]
    by_cases hg : g x = true <;> simp [hg]
  have fnd : ∀ (k : Nat) (l : List api_Param), (l.any g = false ∧ ZN (fun k (x : api_Param) => if g x = true then some (k : Int) else none) k l = none) ∨ (l.any g = true ∧ ∃ j : Nat, ZN (fun k (x : api_Param) => if g x = true then some (k : Int) else none) k l = some (j : Int)) := by
    intro k l
    induction l generalizing k with
    | nil => left; exact ⟨rfl, rfl⟩
    | cons x l ih =>
      by_cases hx : g x = true
      · right; exact ⟨by simp [hx], k, by simp [ZN, hx]⟩
      · have hx' : g x = false := by simpa using hx
        rcases ih (k + 1) with ⟨h1, h2⟩ | ⟨h1, j, h2⟩
        · left; exact ⟨by rw [List.any_cons, hx', Bool.false_or]; exact h1, by simp only [ZN, hx', Bool.false_eq_true, if_false]; exact h2⟩
        · right; exact ⟨by rw [List.any_cons, hx', Bool.false_or]; exact h1, j, by simp only [ZN, hx', Bool.false_eq_true, if_false]; exact h2⟩
  unfold Zt ZD
  rw [key]
  rcases fnd 0 l with ⟨h1, h2⟩ | ⟨h1, j, h2⟩
  · rw [h2, h1]; rfl
  · rw [h2, h1]; simp [Jw]
def g1M (l : List api_Param) (k : Nat) (x : api_Param) : Option (Int × Int) := if Zgr x = 0 then (if ((l.take k).any fun q => decide (q.Name = x.Name)) = true then some ((k : Int), 5) else none) else some ((k : Int), Zgr x)
theorem ZhL {m : api_Map} (hl : m.Params.length ≤ 200) : loop (t1 (Xc m)) 0 = some (Jw Sum.inl (Sum.inr ()) (ZN (g1M m.Params) 0 m.Params)) := by
  refine XX (xs := m.Params) _ _ _ (fun k x hx => ?_) (by simp [Xc])
  have hlt := Q9 hx
  have hk : i64 ((k : Int) + 1) = (k : Int) + 1 := Qy (by omega) (by omega)
  simp only [Xc, hlt, decide_true, if_true, Qd hx, Option.bind_some, hk, Zhh, g1M]
  by_cases h : Zgr x = 0
  · rw [if_neg (by simp [h]), if_pos h, ZkH (by omega), Option.bind_some, ZiT (l := m.Params.take k) (f := fun z0 => XP z0 x) (g := fun q => decide (q.Name = x.Name)) (fun q => rfl) (by rw [List.length_take]; omega), Option.bind_some]
    by_cases ha : ((m.Params.take k).any fun q => decide (q.Name = x.Name)) = true
    · rw [if_pos ha, if_pos ha]; rfl
    · rw [if_neg ha, if_neg ha]; rfl
  · rw [if_pos (Zg5 h), if_neg h]; rfl
theorem Zgg {m : api_Map} (hl : m.Params.length ≤ 200) (hs : Zam m) : loop (t1 (Zaa m)) 0 = some (Jw Sum.inl (Sum.inr ()) (ZN (g1M m.Params) 0 m.Params)) := by
  refine XX (xs := m.Params) _ _ _ (fun k x hx => ?_) (by simp [Zaa])
  have hlt := Q9 hx
  have hk : i64 ((k : Int) + 1) = (k : Int) + 1 := Qy (by omega) (by omega)
  have hw : ZaW x := hs.2.1.2 x (List.mem_of_getElem? hx)
  simp only [Zaa, hlt, decide_true, if_true, Qd hx, Option.bind_some, hk, ZgE x hw, g1M]
  by_cases h : Zgr x = 0
  · rw [if_neg (by simp [h]), if_pos h, ZkH (by omega), Option.bind_some]
    have hL := ZdR (xs := m.Params.take k) (fun y : api_Param => if y.Name = x.Name then some () else none) (fun _ => (Sum.inl ((k : Int), 5) : (Int × Int) ⊕ Unit)) (Sum.inr ()) (body := Zac (k : Int) x (m.Params.take k)) (fun j y hy => by
      have hj := Q9 hy
      have hj2 : j < 200 := by have := (List.getElem?_eq_some_iff.1 hy).1; rw [List.length_take] at this; omega
      simp only [Zac, hj, decide_true, if_true, Qd hy, Option.bind_some]
      rw [Qy (by omega) (by omega)]
      by_cases hxy : y.Name = x.Name <;> simp [hxy]) (by simp [Zac])
    rw [hL]
    have fnd : ∀ l : List api_Param, Zc5 (fun y : api_Param => if y.Name = x.Name then some () else none) l = if (l.any fun q => decide (q.Name = x.Name)) = true then some () else none := by
      intro l
      induction l with
      | nil => rfl
      | cons y l ih => 
        by_cases hy : y.Name = x.Name
        · simp [Zc5, hy]
        · simp [Zc5, hy, ih]
    rw [fnd]
    by_cases ha : ((m.Params.take k).any fun q => decide (q.Name = x.Name)) = true
    · rw [if_pos ha, if_pos ha]; rfl
    · rw [if_neg ha, if_neg ha]; rfl
  · rw [if_pos (Zg5 h), if_neg h]; rfl
theorem ZiB {l : List api_Param} (h : ZN (g1M l) 0 l = none) : ∀ x ∈ l, ParOK x := by
  intro x hx
  obtain ⟨k, hk⟩ := List.getElem?_of_mem hx
  have := Zgi 0 l h k x hk
  unfold g1M at this
  by_cases hc : Zgr x = 0
  · exact Zk6 hc
  · rw [if_neg hc] at this; cases this
theorem ZjN {number : Int} {p : api_Param} {out : List api_Cell} {f : Int} : (Zcq number p out f).length = out.length + p.Times.toNat := by simp [Zcq]
theorem Zg2 {number : Int} {p : api_Param} : ∀ (fs : List Int) (out : List api_Cell), (fs.foldl (Zcq number p) out).length = out.length + fs.length * p.Times.toNat
  | [], out => by simp
  | f :: fs, out => by
    rw [List.foldl_cons, Zg2 fs, ZjN, List.length_cons, Nat.add_mul]; omega
theorem ZfJ (number : Int) (p : api_Param) : (cellsN number p).length = (XY p).length * p.Times.toNat := by
  unfold cellsN
  rw [Zg2]; simp
theorem ZjE {m : api_Map} (hl : m.Params.length ≤ 200) (hP : ∀ x ∈ m.Params, ParOK x) : ∃ j, loop (t2 (ZX m)) (0, 0) = some (cond (decide ((allC 0 m.Params).length ≤ 4000)) (.inr ()) (.inl (j, 3))) := by
  have key : ∀ (n k : Nat) (c : Nat), k + n = m.Params.length → c ≤ 4000 → ∃ j, loop (t2 (ZX m)) ((c : Int), (k : Int)) = some (cond (decide (c + (allC k (m.Params.drop k)).length ≤ 4000)) (.inr ()) (.inl (j, 3))) := by
    intro n
    induction n with
    | zero =>
      intro k c hk hc
      have : k = m.Params.length := by omega
      subst this
      refine ⟨0, ?_⟩
      rw [ZH]
      simp [ZX, allC, hc]
    | succ n ih =>
      intro k c hk hc
      obtain ⟨x, hx⟩ := Xl (xs := m.Params) (k := k) (by omega)
      have hlt := Q9 hx
      have hp := hP x (List.mem_of_getElem? hx)
      have hlen := ZcN (number := (k : Int)) hp.toPartsOK
      have hE := ZfJ (k : Int) x
      obtain ⟨_, _, hT, _⟩ := XT hp.tim
      have hT' : (x.Times.toNat : Int) = x.Times := by omega
      have e1 : ((XY x).length : Int) * x.Times = ((cellsN (k : Int) x).length : Int) := by rw [hE]; push_cast; rw [hT']
      rw [ZP hx, ZH]
      simp only [JS, ZX, hlt, decide_true, if_true, Qd hx, Option.bind_some, Zgq hp.toPartsOK, e1, allC, List.length_append]
      rw [Qy (z := ((cellsN (k : Int) x).length : Int)) (by omega) (by omega), Qy (z := (c : Int) + ((cellsN (k : Int) x).length : Int)) (by omega) (by omega), Qy (z := (k : Int) + 1) (by omega) (by omega)]
      by_cases h4 : (4000 : Int) < (c : Int) + ((cellsN (k : Int) x).length : Int)
      · refine ⟨(k : Int), ?_⟩
        have : decide (c + ((cellsN (k : Int) x).length + (allC (k + 1) (m.Params.drop (k + 1))).length) ≤ 4000) = false := by rw [decide_eq_false_iff_not]; omega
        rw [this, if_pos (by simpa using h4)]; rfl
      · obtain ⟨j, hj⟩ := ih (k + 1) (c + (cellsN (k : Int) x).length) (by omega) (by omega)
        refine ⟨j, ?_⟩
        rw [if_neg (by simpa using h4)]
        rw [Nat.add_assoc] at hj
        rw [← hj]
        rfl
  have := key m.Params.length 0 0 (by omega) (by omega)
  simpa using this
theorem Zi6 {m : api_Map} (hl : m.Params.length ≤ 200) (hP : ∀ x ∈ m.Params, ParOK x) : ∃ j, loop (t2 (Qt m)) (0, 0) = some (cond (decide ((allC 0 m.Params).length ≤ 4000)) (.inr ()) (.inl (j, 3))) := by
  have key : ∀ (n k : Nat) (c : Nat), k + n = m.Params.length → c ≤ 4000 → ∃ j, loop (t2 (Qt m)) ((c : Int), (k : Int)) = some (cond (decide (c + (allC k (m.Params.drop k)).length ≤ 4000)) (.inr ()) (.inl (j, 3))) := by
    intro n
    induction n with
    | zero =>
      intro k c hk hc
      have : k = m.Params.length := by omega
      subst this
      refine ⟨0, ?_⟩
      rw [ZH]
      simp [Qt, allC, hc]
    | succ n ih =>
      intro k c hk hc
      obtain ⟨x, hx⟩ := Xl (xs := m.Params) (k := k) (by omega)
      have hlt := Q9 hx
      have hp := hP x (List.mem_of_getElem? hx)
      have hlen := ZcN (number := (k : Int)) hp.toPartsOK
      rw [ZP hx, ZH]
      simp only [JS, Qt, hlt, decide_true, if_true, Qd hx, Option.bind_some, ZcE hp.toPartsOK, allC, List.length_append]
      rw [Qy (z := (c : Int) + ((cellsN (k : Int) x).length : Int)) (by omega) (by omega), Qy (z := (k : Int) + 1) (by omega) (by omega)]
      by_cases h4 : (4000 : Int) < (c : Int) + ((cellsN (k : Int) x).length : Int)
      · refine ⟨(k : Int), ?_⟩
        have : decide (c + ((cellsN (k : Int) x).length + (allC (k + 1) (m.Params.drop (k + 1))).length) ≤ 4000) = false := by rw [decide_eq_false_iff_not]; omega
        rw [this, if_pos (by simpa using h4)]; rfl
      · obtain ⟨j, hj⟩ := ih (k + 1) (c + (cellsN (k : Int) x).length) (by omega) (by omega)
        refine ⟨j, ?_⟩
        rw [if_neg (by simpa using h4)]
        rw [Nat.add_assoc] at hj
        rw [← hj]
        rfl
  have := key m.Params.length 0 0 (by omega) (by omega)
  simpa using this
theorem ZlI (i3 : Int) {l : List api_Cell} (hl : ZdQ l) (o : List (layout_bit × Int)) : ∃ q, loop (t2 (QN i3 l)) (o, 0) = some (cond (okB (mkeys o) (bitsC l)) (.inr q) (.inl (i3, 5))) ∧ (okB (mkeys o) (bitsC l) = true → mkeys q = mkeys o ++ bitsC l) := by
  have hl0 := hl.1
  have key : ∀ (n k : Nat) (o : List (layout_bit × Int)), k + n = l.length → ∃ q, loop (t2 (QN i3 l)) (o, (k : Int)) = some (cond (okB (mkeys o) (bitsC (l.drop k))) (.inr q) (.inl (i3, 5))) ∧ (okB (mkeys o) (bitsC (l.drop k)) = true → mkeys q = mkeys o ++ bitsC (l.drop k)) := by
    intro n
    induction n with
    | zero =>
      intro k o hk
      have : k = l.length := by omega
      subst this
      refine ⟨o, ?_, by simp [bitsC]⟩
      rw [ZH]
      simp [QN, okB, bitsC]
    | succ n ih =>
      intro k o hk
      obtain ⟨c, hc⟩ := Xl (xs := l) (k := k) (by omega)
      have hlt := Q9 hc
      obtain ⟨hp1, hp2⟩ := hl.2 c (List.mem_of_getElem? hc)
      obtain ⟨q, h1, h2⟩ := Zik i3 hp1 hp2 o
      have e : bitsC (l.drop k) = QB c.Places ++ bitsC (l.drop (k + 1)) := by rw [ZP hc]; simp [bitsC]
      have e2 : ((k : Nat) : Int) + 1 = ((k + 1 : Nat) : Int) := by push_cast; rfl
      rw [e, Zbq, ZH]
      simp only [JS, QN, hlt, decide_true, if_true, Qd hc, Option.bind_some, h1]
      rw [Qy (by omega) (by omega), e2]
      cases hok : okB (mkeys o) (QB c.Places) with
      | false => exact ⟨[], rfl, fun h => by cases h⟩
      | true =>
        have h3 := h2 hok
        obtain ⟨q', g1, g2⟩ := ih (k + 1) q (by omega)
        have e3 : mkeys q = mkeys o ++ QB c.Places := by rw [h3]; simp [mkeys, Function.comp_def]
        rw [e3] at g1 g2
        refine ⟨q', g1, fun h => ?_⟩
        rw [g2 (by simpa using h)]; simp
  exact key l.length 0 o (by omega)
theorem Zkp {m : api_Map} (hl : m.Params.length ≤ 200) (hP : ∀ x ∈ m.Params, ParOK x) : ∃ j, loop (t2 (ZY m)) (([] : List (layout_bit × Int)), 0) = some (cond (okB [] (bitsC (allC 0 m.Params))) (.inr ()) (.inl (j, 5))) := by
  have key : ∀ (n k : Nat) (o : List (layout_bit × Int)), k + n = m.Params.length → ∃ j, loop (t2 (ZY m)) (o, (k : Int)) = some (cond (okB (mkeys o) (bitsC (allC k (m.Params.drop k)))) (.inr ()) (.inl (j, 5))) := by
    intro n
    induction n with
    | zero =>
      intro k o hk
      have : k = m.Params.length := by omega
      subst this
      refine ⟨0, ?_⟩
      rw [ZH]
      simp [ZY, allC, okB, bitsC]
    | succ n ih =>
      intro k o hk
      obtain ⟨x, hx⟩ := Xl (xs := m.Params) (k := k) (by omega)
      have hlt := Q9 hx
      have hp := hP x (List.mem_of_getElem? hx)
      obtain ⟨q, h1, h2⟩ := ZlI (k : Int) (ZbR (number := (k : Int)) hp.toPartsOK) o
      have e : bitsC (allC k (m.Params.drop k)) = bitsC (cellsN (k : Int) x) ++ bitsC (allC (k + 1) (m.Params.drop (k + 1))) := by rw [ZP hx]; simp [bitsC, allC]
      rw [e, Zbq, ZH]
      simp only [JS, ZY, hlt, decide_true, if_true, Qd hx, Option.bind_some, ZfT hp.toPartsOK, h1]
      rw [Qy (z := (k : Int) + 1) (by omega) (by omega)]
      cases hok : okB (mkeys o) (bitsC (cellsN (k : Int) x)) with
      | false => exact ⟨(k : Int), rfl⟩
      | true =>
        obtain ⟨j, hj⟩ := ih (k + 1) q (by omega)
        rw [h2 hok] at hj
        exact ⟨j, hj⟩
  exact key m.Params.length 0 [] (by omega)
theorem ZjA {m : api_Map} (hl : m.Params.length ≤ 200) (hP : ∀ x ∈ m.Params, ParOK x) : ∃ j, loop (t2 (Qs m)) (([] : RT), 0) = some (cond (okB [] (bitsC (allC 0 m.Params))) (.inr ()) (.inl (j, 5))) := by
  have key : ∀ (n k : Nat) (o : RT) (K : List layout_bit), RK o K → k + n = m.Params.length → ∃ j, loop (t2 (Qs m)) (o, (k : Int)) = some (cond (okB K (bitsC (allC k (m.Params.drop k)))) (.inr ()) (.inl (j, 5))) := by
    intro n
    induction n with
    | zero =>
      intro k o K hK hk
      have : k = m.Params.length := by omega
      subst this
      refine ⟨0, ?_⟩
      rw [ZH]
      simp [Qs, allC, okB, bitsC]
    | succ n ih =>
      intro k o K hK hk
      obtain ⟨x, hx⟩ := Xl (xs := m.Params) (k := k) (by omega)
      have hlt := Q9 hx
      have hp := hP x (List.mem_of_getElem? hx)
      obtain ⟨o', ok', h1, h2⟩ := Zew (ZbR (number := (k : Int)) hp.toPartsOK) o
      obtain ⟨h3, h4⟩ := h2 K hK
      have e : bitsC (allC k (m.Params.drop k)) = bitsC (cellsN (k : Int) x) ++ bitsC (allC (k + 1) (m.Params.drop (k + 1))) := by rw [ZP hx]; simp [bitsC, allC]
      rw [e, Zbq, ZH]
      simp only [JS, Qs, hlt, decide_true, if_true, Qd hx, Option.bind_some, ZcE hp.toPartsOK, h1]
      rw [Qy (z := (k : Int) + 1) (by omega) (by omega), ← h3]
      cases hok : ok' with
      | false => exact ⟨(k : Int), rfl⟩
      | true =>
        obtain ⟨j, hj⟩ := ih (k + 1) o' _ (h4 hok) (by omega)
        exact ⟨j, hj⟩
  exact key m.Params.length 0 [] [] ⟨rfl, fun p hp => by cases hp⟩ (by omega)
def XE (m : api_Map) : Int := if wiL m.Version 0 2047 = true then (if m.Params.length ≤ 200 then Jw (fun e => e.2) (if (allC 0 m.Params).length ≤ 4000 then (if okB [] (bitsC (allC 0 m.Params)) = true then 0 else 5) else 3) (ZN (g1M m.Params) 0 m.Params) else 3) else 9
theorem Zhs (m : api_Map) : ∃ a, ZL m = some (a, XE m) := by
  unfold ZL XE
  rw [XV, Option.bind_some]
  cases hw : wiL m.Version 0 2047
  · exact ⟨_, rfl⟩
  by_cases h2 : m.Params.length ≤ 200
  · have h2' : ¬ (200 : Int) < (m.Params.length : Int) := by omega
    rw [if_neg (by simp), if_neg (by simpa using h2'), if_pos rfl, if_pos h2, ZhL h2]
    cases hf : ZN (g1M m.Params) 0 m.Params with
    | some e => exact ⟨e.1, rfl⟩
    | none =>
      have hP := ZiB hf
      obtain ⟨j, hj⟩ := ZjE h2 hP
      obtain ⟨i, hi⟩ := Zkp h2 hP
      simp only [X0, Option.bind_some, Sum.elim_inr, t0]
      rw [hj]
      by_cases h4 : (allC 0 m.Params).length ≤ 4000
      · rw [decide_eq_true h4, if_pos h4]
        simp only [cond_true, Option.bind_some, Sum.elim_inr]
        rw [hi]
        cases okB [] (bitsC (allC 0 m.Params))
        · exact ⟨i, rfl⟩
        · exact ⟨-1, rfl⟩
      · rw [decide_eq_false h4, if_neg h4]
        exact ⟨j, rfl⟩
  · have h2' : (200 : Int) < (m.Params.length : Int) := by omega
    rw [if_neg (by simp), if_pos (by simpa using h2'), if_pos rfl, if_neg h2]
    exact ⟨_, rfl⟩
theorem ZhP (m : api_Map) (hs : Zam m) : ∃ a, QL m = some (a, XE m) := by
  unfold QL XE
  rw [XJ, Option.bind_some]
  cases hw : wiL m.Version 0 2047
  · exact ⟨_, rfl⟩
  by_cases h2 : m.Params.length ≤ 200
  · have h2' : ¬ (200 : Int) < (m.Params.length : Int) := by omega
    rw [if_neg (by simp), if_neg (by simpa using h2'), if_pos rfl, if_pos h2, Zgg h2 hs]
    cases hf : ZN (g1M m.Params) 0 m.Params with
    | some e => exact ⟨e.1, rfl⟩
    | none =>
      have hP := ZiB hf
      obtain ⟨j, hj⟩ := Zi6 h2 hP
      obtain ⟨i, hi⟩ := ZjA h2 hP
      simp only [X0, Option.bind_some, Sum.elim_inr, t0]
      rw [hj]
      by_cases h4 : (allC 0 m.Params).length ≤ 4000
      · rw [decide_eq_true h4, if_pos h4]
        simp only [cond_true, Option.bind_some, Sum.elim_inr]
        rw [hi]
        cases okB [] (bitsC (allC 0 m.Params))
        · exact ⟨i, rfl⟩
        · exact ⟨0, rfl⟩
      · rw [decide_eq_false h4, if_neg h4]
        exact ⟨j, rfl⟩
  · have h2' : (200 : Int) < (m.Params.length : Int) := by omega
    rw [if_neg (by simp), if_pos (by simpa using h2'), if_pos rfl, if_neg h2]
    exact ⟨_, rfl⟩
structure MapOK (m : api_Map) : Prop where
  ver : 0 ≤ m.Version ∧ m.Version ≤ 2047
  len : m.Params.length ≤ 200
  par : ∀ x ∈ m.Params, ParOK x
  cnt : (allC 0 m.Params).length ≤ 4000
  uniq : okB [] (bitsC (allC 0 m.Params)) = true
theorem Zgb {m : api_Map} (h : XE m = 0) : MapOK m := by
  unfold XE at h
  by_cases h1 : wiL m.Version 0 2047 = true
  case neg => rw [if_neg h1] at h; cases h
  rw [if_pos h1] at h
  by_cases h2 : m.Params.length ≤ 200
  case neg => rw [if_neg h2] at h; cases h
  rw [if_pos h2] at h
  cases hf : ZN (g1M m.Params) 0 m.Params with
  | some e =>
    exfalso
    rw [hf] at h
    have key : ∀ (l : List api_Param) (k : Nat) (tl : List api_Param) (e : Int × Int), ZN (g1M l) k tl = some e → e.2 ≠ 0 := by
      intro l k tl
      induction tl generalizing k with
      | nil => intro e h; cases h
      | cons x tl ih =>
        intro e h
        simp only [ZN] at h
        cases hg : g1M l k x with
        | some e' =>
          rw [hg] at h
          cases h
          unfold g1M at hg
          split at hg
          · split at hg
            · cases hg; exact (by decide : (5 : Int) ≠ 0)
            · cases hg
          · rename_i hne; cases hg; exact hne
        | none => rw [hg] at h; exact ih _ _ h
    exact key _ _ _ _ hf h
  | none =>
    rw [hf] at h
    simp only [X0] at h
    by_cases h3 : (allC 0 m.Params).length ≤ 4000
    case neg => rw [if_neg h3] at h; cases h
    rw [if_pos h3] at h
    by_cases h4 : okB [] (bitsC (allC 0 m.Params)) = true
    case neg => rw [if_neg h4] at h; cases h
    exact ⟨ZfZ.1 h1, h2, ZiB hf, h3, h4⟩
theorem Zd7 {m : api_Map} (h : MapOK m) {body : List api_Cell → Int → Option ((List api_Cell × Int) ⊕ List api_Cell)} {f : Int → api_Param → Option (List api_Cell)} (hf : ∀ k x, PartsOK x → f k x = some (cellsN k x))
    (hb : ∀ out i, body out i = if decide (i < (m.Params.length : Int)) = true then (idx m.Params i).bind fun x => (f i x).bind fun y => (app out y).bind fun l => some (.inl (l, (i64 (i + 1)))) else some (.inr out)) : loop (t2 body) ([], 0) = some (allC 0 m.Params) := by
  have hl := h.len
  have := ZeF (xs := m.Params) (body := body) (I := fun out k => out.length + (allC k (m.Params.drop k)).length ≤ 4000) (F := fun out k => out ++ allC k (m.Params.drop k))
    (fun out k x hI hx => by
      have hlt := Q9 hx
      have hp := h.par x (List.mem_of_getElem? hx)
      rw [ZP hx] at hI ⊢
      simp only [allC, List.length_append] at hI ⊢
      left
      refine ⟨out ++ cellsN (k : Int) x, ?_, by rw [List.length_append]; omega, by rw [List.append_assoc]⟩
      rw [hb, if_pos (by simpa using hlt), Qd hx, Option.bind_some, hf _ _ hp.toPartsOK, Option.bind_some, Zgs (by omega), Qy (by omega) (by omega)]
      rfl)
    (fun out hI => by rw [hb, if_neg (by simp)]; simp [allC]) (a0 := []) (by simpa using h.cnt)
  simpa using this
theorem Zhr {m : api_Map} (h : MapOK m) : QZ m = some (allC 0 m.Params) := by
  unfold QZ
  rw [Zd7 h (body := Ji m) (f := Qv) (fun k x hx => ZfT hx k) (fun out i => rfl)]; rfl
theorem ZgS {m : api_Map} (h : MapOK m) : Jm m = some (allC 0 m.Params) := by
  unfold Jm
  rw [Zd7 h (body := Za3 m) (f := fun k x => X2 x k) (fun k x hx => ZcE hx k) (fun out i => rfl)]; rfl
theorem ZiD : ∀ (k : Nat) (l : List api_Param), (∀ x ∈ l, ParOK x) → ∀ c ∈ allC k l, ∃ (j : Nat) (x : api_Param), l[j]? = some x ∧ c ∈ cellsN ((k + j : Nat) : Int) x
  | _, [], _, c, hc => by cases hc
  | k, x :: tl, h, c, hc => by
    rcases List.mem_append.1 hc with hc | hc
    · exact ⟨0, x, rfl, hc⟩
    · obtain ⟨j, y, h1, h2⟩ := ZiD (k + 1) tl (fun z hz => h z (List.mem_cons_of_mem _ hz)) c hc
      exact ⟨j + 1, y, by simpa using h1, by rwa [show k + (j + 1) = k + 1 + j by omega]⟩
theorem ZeK {m : api_Map} (h : MapOK m) {c : api_Cell} (hc : c ∈ allC 0 m.Params) : ∃ (j : Nat) (x : api_Param), m.Params[j]? = some x ∧ ParOK x ∧ c.Param = (j : Int) ∧ ∃ (f : Int) (t : Nat), f ∈ XY x ∧ t < x.Times.toNat ∧ c.Frame = f ∧ c.Places = x.Parts.map (Zdi x f t) := by
  obtain ⟨j, x, h1, h2⟩ := ZiD 0 _ h.par c hc
  have hx := h.par x (List.mem_of_getElem? h1)
  obtain ⟨i, f, t, h3, h4, rfl⟩ := Zgk h2
  exact ⟨j, x, h1, hx, by simp [Zgm], f, t, h3, h4, rfl, rfl⟩
theorem ZdD {x : api_Param} (h : ParOK x) {f : Int} (hf : f ∈ XY x) {t : Nat} (ht : t < x.Times.toNat) {q : api_Place} (hq : q ∈ x.Parts.map (Zdi x f t)) :
    (0 ≤ q.Frame ∧ q.Frame ≤ 15) ∧ (4 ≤ q.Word ∧ q.Word ≤ 60) ∧ (0 ≤ q.Low ∧ q.Low ≤ 10) ∧ 1 ≤ q.Bits ∧ q.Bits ≤ 11 - q.Low := by
  obtain ⟨hE, hF, hT, hS, _⟩ := XT h.tim
  obtain ⟨p, hp, rfl⟩ := List.mem_map.1 hq
  have h1 := ZaQ.1 (h.len.2 p hp)
  obtain ⟨f0, _, f2⟩ := ZfY (p := x) (by omega) 17 x.First f hF.1 hf
  have h2 := of_decide_eq_true (List.all_eq_true.1 f2 p hp)
  have h3 := h.stp p hp
  simp only [stepOK, Bool.and_eq_true, decide_eq_true_eq] at h3
  have h4 : (t : Int) * x.Step ≤ (x.Times - 1) * x.Step := Int.mul_le_mul_of_nonneg_right (by omega) hS
  have h5 : 0 ≤ (t : Int) * x.Step := Int.mul_nonneg (by omega) hS
  unfold Zdi
  simp only
  omega
theorem Zkw (m : api_Map) : ZaC m = some (if XE m = 0 then (allC 0 m.Params, 0) else ([], XE m)) := by
  obtain ⟨a, hc⟩ := Zhs m
  unfold ZaC
  rw [hc, Option.bind_some]
  by_cases h : XE m = 0
  · rw [if_neg (by simp [h]), if_pos h, Zhr (Zgb h)]; rfl
  · rw [if_pos (Zg5 h), if_neg h]
end Go.Vx

namespace Go.Vx
open Go Go.RowKit
def Xv {σ ρ : Type} (b : σ → Option (σ ⊕ ρ)) (s : σ) : Option ρ :=
  Nat.rec (motive := fun _ => σ → Option ρ) (fun _ => none) (fun _ ih s => match b s with | none => none | some (.inl s') => ih s' | some (.inr r) => some r) 1000000 s
def Le {α : Type} (a b : Option α) : Prop := ∀ r, a = some r → b = some r
theorem Le.refl {α : Type} (a : Option α) : Le a a := fun _ h => h
section
variable {α β γ δ ε ζ η θ ι κ σ ρ : Type}
theorem Le.bind {a b : Option α} {f g : α → Option β} (h : Le a b) (hf : ∀ x, Le (f x) (g x)) : Le (a.bind f) (b.bind g) := by
  intro r hr
  cases ha : a with
  | none => rw [ha] at hr; cases hr
  | some x => rw [ha] at hr; rw [h x ha]; exact hf x r hr
theorem Le.ite {c : Prop} [Decidable c] {a b a' b' : Option α} (h1 : Le a a') (h2 : Le b b') : Le (if c then a else b) (if c then a' else b') := by
  split
  · exact h1
  · exact h2
theorem Le.gd {g : Bool} {d : α} {a b : Option α} (h : Le a b) : Le (gd g d a) (gd g d b) := by
  cases g
  · exact fun r hr => hr
  · exact h
theorem Le.loop {b b' : σ → Option (σ ⊕ ρ)} {s : σ} (h : ∀ s, Le (b s) (b' s)) : Le (Xv b s) (loop b' s) := by
  have key : ∀ n s r, Nat.rec (motive := fun _ => σ → Option ρ) (fun _ => none) (fun _ ih s => match b s with | none => none | some (.inl s') => ih s' | some (.inr r) => some r) n s = some r → ZbV b' n s = some r := by
    intro n
    induction n with
    | zero => intro s r hr; cases hr
    | succ n ih =>
      intro s r hr
      simp only at hr
      cases hb : b s with
      | none => rw [hb] at hr; cases hr
      | some o =>
        rw [hb] at hr
        simp only [ZbV, h s o hb, Option.bind_some]
        cases o with
        | inl s' => exact ih s' r hr
        | inr r' => exact hr
  intro r hr
  exact ZfV (key 1000000 s r hr)
theorem Le.t0 {f g : Option κ} {p : Unit} (h : Le f g) : Le (t0 f p) (t0 g p) := h
theorem Le.t1 {f g : α → Option κ} {p : α} (h : ∀ a, Le (f a) (g a)) : Le (t1 f p) (t1 g p) := h _
theorem Le.t2 {f g : α → β → Option κ} {p : α × β} (h : ∀ a b, Le (f a b) (g a b)) : Le (t2 f p) (t2 g p) := h _ _
theorem Le.t3 {f g : α → β → γ → Option κ} {p : α × β × γ} (h : ∀ a b c, Le (f a b c) (g a b c)) : Le (t3 f p) (t3 g p) := h _ _ _
theorem Le.t4 {f g : α → β → γ → δ → Option κ} {p : α × β × γ × δ} (h : ∀ a b c d, Le (f a b c d) (g a b c d)) : Le (t4 f p) (t4 g p) := h _ _ _ _
theorem Le.t5 {f g : α → β → γ → δ → ε → Option κ} {p : α × β × γ × δ × ε} (h : ∀ a b c d e, Le (f a b c d e) (g a b c d e)) : Le (t5 f p) (t5 g p) := h _ _ _ _ _
theorem Le.t6 {f g : α → β → γ → δ → ε → ζ → Option κ} {p : α × β × γ × δ × ε × ζ} (h : ∀ a b c d e x, Le (f a b c d e x) (g a b c d e x)) : Le (t6 f p) (t6 g p) := h _ _ _ _ _ _
theorem Le.t7 {f g : α → β → γ → δ → ε → ζ → η → Option κ} {p : α × β × γ × δ × ε × ζ × η} (h : ∀ a b c d e x y, Le (f a b c d e x y) (g a b c d e x y)) : Le (t7 f p) (t7 g p) := h _ _ _ _ _ _ _
theorem Le.t8 {f g : α → β → γ → δ → ε → ζ → η → θ → Option κ} {p : α × β × γ × δ × ε × ζ × η × θ} (h : ∀ a b c d e x y z, Le (f a b c d e x y z) (g a b c d e x y z)) : Le (t8 f p) (t8 g p) := h _ _ _ _ _ _ _ _
theorem Le.t9 {ι : Type} {f g : α → β → γ → δ → ε → ζ → η → θ → ι → Option κ} {p : α × β × γ × δ × ε × ζ × η × θ × ι} (h : ∀ a b c d e x y z w, Le (f a b c d e x y z w) (g a b c d e x y z w)) : Le (t9 f p) (t9 g p) := h _ _ _ _ _ _ _ _ _
theorem Le.elim {f f' : α → Option κ} {g g' : β → Option κ} {s : α ⊕ β} (h1 : ∀ a, Le (f a) (f' a)) (h2 : ∀ b, Le (g b) (g' b)) : Le (Sum.elim f g s) (Sum.elim f' g' s) := by
  cases s with
  | inl a => exact h1 a
  | inr b => exact h2 b
end
end Go.Vx

namespace Go.Vx
open Go Go.RowKit
set_option linter.unusedVariables false

noncomputable def Zaq (p : api_Param) (n2 : Int) (i : Int) : Option ((Int × Int) ⊕ (Int)) :=
  if (decide (i < (p.Parts.length : Int))) = true then
  (idx p.Parts i).bind fun x =>
  some (.inl ((i64 (n2 + x.Bits)), (i64 (i + 1))))
  else
  some (.inr n2)
theorem Zd0 (p : api_Param) (n2 : Int) (i : Int) : Le (Zaq p n2 i) (QA p n2 i) := by
  unfold Zaq QA
  with_reducible repeat' (first | exact Le.refl _ | apply Le.bind | apply Le.ite | intro _)

noncomputable def XB (p : api_Param) : Option Int :=
  ((Xv (t2 (Zaq p)) (0, 0)) : Option ((Int))).bind (t1 fun (n : Int) =>
  some n)
theorem JR (p : api_Param) : Le (XB p) (Qu p) := by
  unfold XB Qu
  with_reducible repeat' (first | exact Le.refl _ | apply Le.bind | apply Le.loop | apply Le.t1 | apply Le.t2 | apply Zd0 | intro _)
end Go.Vx

namespace Go.Vx
open Go Go.RowKit
def nmC (s : Str) : Option Bool := some (nmL s)
theorem Zj6 (s : Str) : Le (nmC s) (XI s) := by rw [Zgc]; exact Le.refl _
noncomputable def ZkP (p : api_Param) : Option layout_number :=
  (XB p).bind fun y =>
  (shl .i64 1 (i64 (y - 1))).bind fun q => if p.Kind = 2 then Qn q else none
theorem ZiM (p : api_Param) : Le (ZkP p) (Qw p) := by
  unfold ZkP Qw
  refine Le.bind (JR p) fun y => Le.bind (Le.refl _) fun q => ?_
  intro r hr
  split at hr
  · rename_i h
    have e : Qn q = some r := hr
    rw [if_neg (by rw [h]; decide), if_neg (by rw [h]; decide), if_neg (by rw [h]; decide), if_pos (by rw [h]; decide), e]
    rfl
  · cases hr
end Go.Vx
