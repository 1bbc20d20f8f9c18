/- A text of the proof: a verified executor of the program form, or the contracts of the functions that the law reaches. -/
import Derived.Test.YtciaeohnkfnamaaDoorShLib
import Derived.Test.YtciaeohnkfnamaaDoorShT
import Derived.Test.YtciaeohnkfnamaaDoorVO
set_option linter.all false
namespace Go.Vx
open Go Go.RowKit
theorem i64_id {z : Int} (h1 : -9223372036854775808 ≤ z) (h2 : z ≤ 9223372036854775807) : IntKind.i64.wrap z = z := w64 h1 h2
theorem u64_id {z : Int} (h1 : 0 ≤ z) (h2 : z < 18446744073709551616) : IntKind.u64.wrap z = z := wu64 h1 h2
@[simp] theorem gd_t {α : Type} {d : α} {o : Option α} : gd true d o = o := rfl
@[simp] theorem gd_f {α : Type} {d : α} {o : Option α} : gd false d o = some d := rfl
@[simp] theorem gd_tt {α : Type} {d : α} {o : Option α} : gd (true == true) d o = o := rfl
theorem idx_of {α : Type} {xs : List α} {k : Nat} {x : α} (h : xs[k]? = some x) : idx xs (k : Int) = some x := by simp [idx, h]
theorem lt_of {α : Type} {xs : List α} {k : Nat} {x : α} (h : xs[k]? = some x) : (k : Int) < (xs.length : Int) := by
  have := (List.getElem?_eq_some_iff.1 h).1; omega
theorem get_ex {α : Type} {xs : List α} {k : Nat} (h : k < xs.length) : ∃ x, xs[k]? = some x := ⟨xs[k], List.getElem?_eq_getElem h⟩
theorem drop_cons {α : Type} {xs : List α} {k : Nat} {x : α} (h : xs[k]? = some x) : xs.drop k = x :: xs.drop (k + 1) := by
  obtain ⟨hk, rfl⟩ := List.getElem?_eq_some_iff.1 h
  exact List.drop_eq_getElem_cons hk
theorem app_of {α : Type} {xs ys : List α} (h : xs.length + ys.length ≤ 4294967296) : app xs ys = some (xs ++ ys) := by simp [app, h]

section loops
variable {σ ρ : Type}
theorem loop_to {body : σ → Option (σ ⊕ ρ)} (I : σ → Prop) (μ : σ → Nat) (F : σ → ρ) (step : ∀ s, I s → (∃ s', body s = some (.inl s') ∧ I s' ∧ μ s' < μ s ∧ F s = F s') ∨ body s = some (.inr (F s))) :
    ∀ s, I s → loop body s = some (F s) := by
  intro s hs
  obtain ⟨r, h1, h2⟩ := loop_inv (body := body) (fun s' => I s' ∧ F s = F s') μ (fun r => r = F s) (fun s' ⟨h1, h2⟩ => by
    rcases step s' h1 with ⟨s2, e1, e2, e3, e4⟩ | e
    · exact .inl ⟨s2, e1, ⟨e2, h2.trans e4⟩, e3⟩
    · exact .inr ⟨_, e, h2.symm⟩) s ⟨hs, rfl⟩
  rw [h1, h2]
variable {α : Type} {xs : List α}
theorem loop_ix1 {body : Int → Option (Int ⊕ ρ)} (F : Nat → ρ)
    (hstep : ∀ (k : Nat) x, xs[k]? = some x → (body k = some (.inl ((k : Int) + 1)) ∧ F k = F (k + 1)) ∨ body k = some (.inr (F k)))
    (hend : body xs.length = some (.inr (F xs.length))) : loop (t1 body) 0 = some (F 0) := by
  refine loop_to (body := t1 body) (fun i => ∃ k : Nat, i = k ∧ k ≤ xs.length) (fun i => xs.length - i.toNat) (fun i => F i.toNat) ?_ 0 ⟨0, rfl, Nat.zero_le _⟩
  rintro i ⟨k, rfl, hk⟩
  simp only [Int.toNat_natCast, t1_mk]
  rcases Nat.lt_or_ge k xs.length with h | h
  · obtain ⟨x, hx⟩ := get_ex h
    rcases hstep k x hx with ⟨h1, h2⟩ | h1
    · exact .inl ⟨_, h1, ⟨k + 1, by push_cast; rfl, h⟩, by omega, by rw [h2]; rfl⟩
    · exact .inr h1
  · have : k = xs.length := by omega
    subst this
    exact .inr hend
theorem loop_ix2 {body : σ → Int → Option ((σ × Int) ⊕ ρ)} (I : σ → Nat → Prop) (F : σ → Nat → ρ)
    (hstep : ∀ a (k : Nat) x, I a k → xs[k]? = some x → (∃ a', body a k = some (.inl (a', (k : Int) + 1)) ∧ I a' (k + 1) ∧ F a k = F a' (k + 1)) ∨ body a k = some (.inr (F a k)))
    (hend : ∀ a, I a xs.length → body a xs.length = some (.inr (F a xs.length))) {a0 : σ} (h0 : I a0 0) : loop (t2 body) (a0, 0) = some (F a0 0) := by
  refine loop_to (body := t2 body) (fun p => ∃ k : Nat, p.2 = k ∧ k ≤ xs.length ∧ I p.1 k) (fun p => xs.length - p.2.toNat) (fun p => F p.1 p.2.toNat) ?_ (a0, 0) ⟨0, rfl, Nat.zero_le _, h0⟩
  rintro ⟨a, i⟩ ⟨k, hi, hk, hI⟩
  simp only at hi hI
  subst hi
  simp only [Int.toNat_natCast, t2_mk]
  rcases Nat.lt_or_ge k xs.length with h | h
  · obtain ⟨x, hx⟩ := get_ex h
    rcases hstep a k x hI hx with ⟨a', h1, h2, h3⟩ | h1
    · exact .inl ⟨_, h1, ⟨k + 1, by push_cast; rfl, h, h2⟩, by simp only; omega, by rw [h3]; rfl⟩
    · exact .inr h1
  · have : k = xs.length := by omega
    subst this
    exact .inr (hend a hI)
end loops
end Go.Vx

namespace Go.Vx
open Go Go.RowKit
section err
variable {α ε : Type}
def elimO {ρ : Type} (A : ε → ρ) (Z : ρ) : Option ε → ρ
  | some e => A e
  | none => Z
@[simp] theorem elimO_some {ρ : Type} (A : ε → ρ) (Z : ρ) (e : ε) : elimO A Z (some e) = A e := rfl
@[simp] theorem elimO_none {ρ : Type} (A : ε → ρ) (Z : ρ) : elimO A Z none = Z := rfl
def findL (g : α → Option ε) : List α → Option ε
  | [] => none
  | x :: tl => match g x with | some e => some e | none => findL g tl
theorem loop_find {ρ : Type} {xs : List α} (g : α → Option ε) (A : ε → ρ) (Z : ρ) {body : Int → Option (Int ⊕ ρ)}
    (h : ∀ (k : Nat) x, xs[k]? = some x → body k = match g x with | some e => some (.inr (A e)) | none => some (.inl ((k : Int) + 1)))
    (hend : body xs.length = some (.inr Z)) : loop (t1 body) 0 = some (elimO A Z (findL g xs)) := by
  refine loop_ix1 (xs := xs) (fun k => elimO A Z (findL g (xs.drop k))) (fun k x hx => ?_) ?_
  · rw [h k x hx, drop_cons hx]
    simp only [findL]
    cases hg : g x with
    | some e => right; rfl
    | none => left; exact ⟨rfl, rfl⟩
  · rw [hend]; simp [findL]
end err
theorem loop_map {α β : Type} {xs : List α} {body : List β → Int → Option ((List β × Int) ⊕ (List β))} (g : α → β)
    (hstep : ∀ (k : Nat) x acc, xs[k]? = some x → acc.length = k → body acc k = some (.inl (acc ++ [g x], (k : Int) + 1)))
    (hend : ∀ acc, body acc xs.length = some (.inr acc)) : loop (t2 body) ([], 0) = some (xs.map g) := by
  refine (loop_to (body := t2 body) (fun p => ∃ k : Nat, p.2 = k ∧ k ≤ xs.length ∧ p.1.length = k) (fun p => xs.length - p.2.toNat) (fun p => p.1 ++ (xs.drop p.2.toNat).map g) ?_ ([], 0) ⟨0, rfl, Nat.zero_le _, rfl⟩).trans (by simp)
  rintro ⟨acc, i⟩ ⟨k, hi, hk, ha⟩
  simp only at hi ha
  subst hi
  simp only [t2_mk, Int.toNat_natCast]
  rcases Nat.lt_or_ge k xs.length with h | h
  · obtain ⟨x, hx⟩ := get_ex h
    left
    refine ⟨_, hstep k x acc hx ha, ⟨k + 1, by push_cast; rfl, h, by simp [ha]⟩, by simp only; omega, ?_⟩
    rw [drop_cons hx]
    simp
  · have : k = xs.length := by omega
    subst this
    right
    rw [hend]; simp
end Go.Vx

namespace Go.Vx
open Go Go.RowKit
section
variable {α ε : Type}
def findI (g : Nat → α → Option ε) : Nat → List α → Option ε
  | _, [] => none
  | k, x :: tl => match g k x with | some e => some e | none => findI g (k + 1) tl
theorem loop_findI {ρ : Type} {xs : List α} (g : Nat → α → Option ε) (A : ε → ρ) (Z : ρ) {body : Int → Option (Int ⊕ ρ)}
    (h : ∀ (k : Nat) x, xs[k]? = some x → body k = elimO (fun e => some (.inr (A e))) (some (.inl ((k : Int) + 1))) (g k x))
    (hend : body xs.length = some (.inr Z)) : loop (t1 body) 0 = some (elimO A Z (findI g 0 xs)) := by
  refine loop_ix1 (xs := xs) (fun k => elimO A Z (findI g k (xs.drop k))) (fun k x hx => ?_) ?_
  · rw [h k x hx, drop_cons hx]
    simp only [findI]
    cases hg : g k x with
    | some e => right; rfl
    | none => left; exact ⟨rfl, rfl⟩
  · rw [hend]; simp [findI]
theorem findI_congr {g g' : Nat → α → Option ε} : ∀ (k : Nat) (xs : List α), (∀ (j : Nat) x, xs[j]? = some x → g (k + j) x = g' (k + j) x) → findI g k xs = findI g' k xs
  | _, [], _ => rfl
  | k, x :: tl, h => by
    have h0 := h 0 x rfl
    rw [Nat.add_zero] at h0
    have ih := findI_congr (g := g) (g' := g') (k + 1) tl fun j y hy => by
      have := h (j + 1) y (by simpa using hy)
      rwa [show k + (j + 1) = k + 1 + j by omega] at this
    simp only [findI, h0]
    rw [ih]
theorem findI_none {g : Nat → α → Option ε} : ∀ (k : Nat) (xs : List α), findI g k xs = none → ∀ (j : Nat) x, xs[j]? = some x → g (k + j) x = none
  | _, [], _, j, x, hx => by simp at hx
  | k, y :: tl, h, j, x, hx => by
    simp only [findI] at h
    cases hy : g k y with
    | some e => rw [hy] at h; cases h
    | none =>
      rw [hy] at h
      cases j with
      | zero => simp at hx; subst hx; simpa using hy
      | succ j =>
        have := findI_none (k + 1) tl h j x (by simpa using hx)
        rwa [show k + 1 + j = k + (j + 1) by omega] at this
theorem findI_all {p : α → Bool} : ∀ (k : Nat) (xs : List α), findI (fun _ x => if p x then none else some ()) k xs = if xs.all p then none else some ()
  | _, [] => rfl
  | k, x :: tl => by
    have ih := findI_all (p := p) (k + 1) tl
    simp only [findI, List.all_cons]
    by_cases hp : p x = true
    · simp only [hp, if_true, Bool.true_and]; exact ih
    · have hp' : p x = false := by simpa using hp
      simp [hp']
end
theorem i64K {k : Nat} {n : Nat} (h : k < n) (hn : n ≤ 9223372036854775807) : i64 ((k : Int) + 1) = (k : Int) + 1 := i64_id (by omega) (by omega)
theorem sidx_of {s : Str} {k : Nat} {b : UInt8} (h : s[k]? = some b) : sidx s (k : Int) = some ((b.toNat : Nat) : Int) := by simp [sidx, h]
def lcI (z : Int) : Bool := decide (97 ≤ z) && decide (z ≤ 122)
def nbI (z : Int) : Bool := (lcI z || (decide (48 ≤ z) && decide (z ≤ 57))) || decide (z = 45)
def lcB (b : UInt8) : Bool := lcI (b.toNat : Int)
def nbB (b : UInt8) : Bool := nbI (b.toNat : Int)
theorem lc_nb {z : Int} (h : lcI z = true) : nbI z = true := by simp [nbI, h]
theorem loop_buildL {α : Type} {body : List α → Int → Option ((List α × Int) ⊕ (List α))} (n : Nat) (g : Nat → α)
    (hstep : ∀ (k : Nat) acc, k < n → acc.length = k → body acc k = some (.inl (acc ++ [g k], (k : Int) + 1)))
    (hend : ∀ acc, body acc n = some (.inr acc)) : loop (t2 body) ([], 0) = some ((List.range n).map g) := by
  have := loop_to (body := t2 body) (fun p => ∃ k : Nat, p.2 = k ∧ k ≤ n ∧ p.1 = (List.range k).map g) (fun p => n - p.2.toNat) (fun _ => (List.range n).map g) (by
    rintro ⟨acc, i⟩ ⟨k, hi, hk, ha⟩
    simp only at hi ha
    subst hi ha
    simp only [t2_mk]
    rcases Nat.lt_or_ge k n with h | h
    · left
      refine ⟨_, hstep k _ h (by simp), ⟨k + 1, by push_cast; rfl, h, by simp [List.range_succ]⟩, by simp only; omega, trivial⟩
    · have : k = n := by omega
      subst this
      exact .inr (hend _)) ([], 0) ⟨0, rfl, Nat.zero_le _, rfl⟩
  exact this
end Go.Vx

namespace Go.Vx
open Go Go.RowKit
theorem dec_lo {s : ByteArray} {i : Nat} (h : (s.get! i).toNat < 128) : Utf8.decode s i = ((s.get! i).toNat, 1) := by
  simp only [Utf8.decode, Nat.add_zero]
  rw [if_pos h]
theorem dec_hi {s : ByteArray} {i : Nat} (h : ¬ (s.get! i).toNat < 128) : 128 ≤ (Utf8.decode s i).1 := by
  simp only [Utf8.decode, Nat.add_zero]
  rw [if_neg h]
  repeat' split
  all_goals first
    | (simp only [Utf8.runeError]; omega)
    | (simp only [Bool.and_eq_true, decide_eq_true_eq] at *; omega)
    | (simp only; omega)
theorem get_byte {s : Str} {k : Nat} {b : UInt8} (h : s[k]? = some b) : (ByteArray.mk s.toArray).get! k = b := by
  simp [ByteArray.get!, h]
theorem idx_any {p : Nat → Bool} (hp : ∀ x, 128 ≤ x → p x = true) {s : Str} : ∀ (f pos : Nat), s.length ≤ pos + f →
    decide (0 ≤ Lib.idxFuncFrom p true ⟨s.toArray⟩ f pos) = (s.drop pos).any fun b => p b.toNat
  | 0, pos, h => by
    have : s.drop pos = [] := List.drop_eq_nil_of_le (by omega)
    rw [this]; simp [Lib.idxFuncFrom]
  | f + 1, pos, h => by
    have hsz : (ByteArray.mk s.toArray).size = s.length := by simp [ByteArray.size]
    unfold Lib.idxFuncFrom
    rw [hsz]
    rcases Nat.lt_or_ge pos s.length with hl | hl
    · obtain ⟨b, hb⟩ := get_ex hl
      rw [if_pos hl, drop_cons hb, List.any_cons]
      have hg := get_byte hb
      by_cases h8 : b.toNat < 128
      · have hd : Utf8.decode ⟨s.toArray⟩ pos = (b.toNat, 1) := by rw [dec_lo (by rw [hg]; exact h8), hg]
        rw [hd]
        by_cases hpb : p b.toNat = true
        · rw [if_pos hpb]; simp only [hpb, Bool.true_or]; rw [decide_eq_true_eq]; omega
        · rw [if_neg hpb]
          have hpb' : p b.toNat = false := by simpa using hpb
          rw [hpb', Bool.false_or]
          exact idx_any hp f (pos + 1) (by omega)
      · have hd := dec_hi (s := ⟨s.toArray⟩) (i := pos) (by rw [hg]; exact h8)
        rw [if_pos (hp _ hd), hp b.toNat (by omega), Bool.true_or, decide_eq_true_eq]; omega
    · have : s.drop pos = [] := List.drop_eq_nil_of_le (by omega)
      rw [if_neg (by omega), this]; simp
theorem contF_s {s : Str} {f : Int → Option Bool} {p : Nat → Bool} (hf : ∀ x : Nat, f x = some (p x)) (hp : ∀ x, 128 ≤ x → p x = true) :
    containsFunc s f = some (s.any fun b => p b.toNat) := by
  unfold containsFunc
  rw [if_pos (fun x _ => by rw [hf]; rfl)]
  have e : (fun x : Nat => (f x).getD false) = p := by funext x; rw [hf]; rfl
  rw [e]
  have := idx_any hp (s := s) s.length 0 (by omega)
  rw [List.drop_zero] at this
  rw [← this]
  have hsz : (ByteArray.mk s.toArray).size = s.length := by simp [ByteArray.size]
  unfold Lib.idxFunc
  rw [hsz]
def nmL (s : Str) : Bool := match s with
  | [] => false
  | c :: tl => decide (tl.length ≤ 29) && lcB c && tl.all nbB
theorem isName1_s (x : Nat) : layout_isName_1 x = some (!nbI x) := rfl
theorem nb_hi (x : Nat) (h : 128 ≤ x) : (!nbI x) = true := by
  have h1 : decide ((x : Int) ≤ 122) = false := by rw [decide_eq_false_iff_not]; omega
  have h2 : decide ((x : Int) ≤ 57) = false := by rw [decide_eq_false_iff_not]; omega
  have h3 : decide ((x : Int) = 45) = false := by rw [decide_eq_false_iff_not]; omega
  unfold nbI lcI
  rw [h1, h2, h3]; simp
theorem any_nb : ∀ s : Str, (s.any fun b => !nbI (b.toNat : Int)) = !(s.all nbB)
  | [] => rfl
  | c :: tl => by
    rw [List.any_cons, List.all_cons, Bool.not_and, any_nb tl]; rfl
theorem isName_s (s : Str) : layout_isName s = some (nmL s) := by
  unfold layout_isName
  cases s with
  | nil => simp [nmL, gd]
  | cons c tl =>
    have h0 : sidx (c :: tl) 0 = some ((c.toNat : Nat) : Int) := rfl
    have h1 : ¬ ((c :: tl).length : Int) < 1 := by simp; omega
    rw [contF_s isName1_s nb_hi, h0]
    simp only [h1, decide_false, Bool.false_or, nmL]
    by_cases h2 : 30 < ((c :: tl).length : Int)
    · have h3 : ¬ tl.length ≤ 29 := by simp at h2; omega
      simp only [h2, h3, decide_true, decide_false, Bool.true_or, Bool.false_and, if_true]
      simp [gd]
    · have h3 : tl.length ≤ 29 := by simp at h2; omega
      have ea : ((c :: tl).any fun b => !nbI (b.toNat : Int)) = !(nbB c && tl.all nbB) := any_nb (c :: tl)
      rw [ea]
      simp only [h2, h3, decide_false, decide_true, Bool.false_or, gd_t, Option.bind_some, beq_self_eq_true, Bool.true_and]
      by_cases h4 : (c.toNat : Int) < 97
      · have : lcB c = false := by simp [lcB, lcI]; omega
        simp [h4, this, gd]
      · by_cases h5 : 122 < (c.toNat : Int)
        · have : lcB c = false := by simp [lcB, lcI]; omega
          simp [h4, h5, this]
        · have e1 : lcB c = true := by simp [lcB, lcI]; omega
          have e2 : nbB c = true := lc_nb e1
          simp [h4, h5, e1, e2]
theorem rName_s (s : Str) (hs : s.length ≤ 9223372036854775807) : ref2_IsName s = some (nmL s) := by
  unfold ref2_IsName
  have hloop : loop (t1 (ref2_IsName_L1 s)) 0 = some (elimO (fun _ => Sum.inl false) (Sum.inr ()) (findI (fun k b => if (lcB b || (decide (0 < k) && nbB b)) = true then none else some ()) 0 s)) := by
    refine loop_findI (xs := s) (body := ref2_IsName_L1 s) _ _ _ (fun k x hx => ?_) (by simp [ref2_IsName_L1])
    have hlt := lt_of hx
    have e1 : i64 ((k : Int) + 1) = (k : Int) + 1 := i64K (n := s.length) (by omega) hs
    simp only [ref2_IsName_L1, hlt, decide_true, if_true, sidx_of hx, Option.bind_some, e1]
    have e2 : (((decide (97 ≤ ((x.toNat : Nat) : Int))) && (decide (((x.toNat : Nat) : Int) ≤ 122))) || ((decide (0 < (k : Int))) && (((decide (48 ≤ ((x.toNat : Nat) : Int))) && (decide (((x.toNat : Nat) : Int) ≤ 57))) || (decide (((x.toNat : Nat) : Int) = 45))))) = (lcB x || (decide (0 < k) && nbB x)) := by
      show (lcB x || (_ && _)) = _
      have ek : decide (0 < (k : Int)) = decide (0 < k) := by rw [decide_eq_decide]; omega
      rw [ek]
      unfold nbB nbI
      show _ = (lcB x || (_ && ((lcB x || _) || _)))
      cases lcB x <;> simp
    rw [e2]
    cases (lcB x || (decide (0 < k) && nbB x)) <;> simp
  rw [hloop]
  cases s with
  | nil => simp [nmL, findI]
  | cons c tl =>
    have htl : findI (fun k b => if (lcB b || (decide (0 < k) && nbB b)) = true then none else some ()) 1 tl = if tl.all nbB then none else some () := by
      rw [← findI_all 1]
      refine findI_congr 1 tl fun j x _ => ?_
      have : decide (0 < 1 + j) = true := decide_eq_true (by omega)
      rw [this, Bool.true_and]
      cases h : lcB x with
      | false => simp
      | true => have : nbB x = true := lc_nb h; simp [this]
    simp only [findI, htl, nmL]
    cases hc : lcB c with
    | false => simp
    | true =>
      cases ha : tl.all nbB with
      | false => simp
      | true =>
        have e1 : decide (1 ≤ ((c :: tl).length : Int)) = true := by rw [decide_eq_true_eq]; simp; omega
        have e2 : decide (((c :: tl).length : Int) ≤ 30) = decide (tl.length ≤ 29) := by rw [decide_eq_decide]; simp; omega
        simp only [e1, e2]; simp
theorem bits_eq (p : api_Param) : ref2_bits p = layout_bitsOf p := rfl
end Go.Vx

namespace Go.Vx
open Go Go.RowKit
def wiL (n a b : Int) : Bool := decide (a ≤ n) && decide (n ≤ b)
theorem wiL_iff {n a b : Int} : wiL n a b = true ↔ a ≤ n ∧ n ≤ b := by simp [wiL]
theorem withinL_s (n a b : Int) : layout_within n a b = some (wiL n a b) := rfl
theorem outsideL_s (n a b : Int) : ref2_outside n a b = some (!wiL n a b) := by
  unfold ref2_outside wiL
  congr 1
  rw [Bool.not_and]
  have e1 : decide (n < a) = !decide (a ≤ n) := by rw [← decide_not, decide_eq_decide]; omega
  have e2 : decide (b < n) = !decide (n ≤ b) := by rw [← decide_not, decide_eq_decide]; omega
  rw [e1, e2]
theorem i64s {z : Int} (h1 : -9223372036854775808 ≤ z) (h2 : z ≤ 9223372036854775807) : i64 z = z := i64_id h1 h2
def bitsN (p : api_Param) : Int := (p.Parts.map (·.Bits)).sum
def partOK (x : api_Part) : Bool := wiL x.Frame 0 15 && wiL x.Word 4 60 && wiL x.Low 0 10 && wiL x.Bits 1 (11 - x.Low)
def lenOK (p : api_Param) : Prop := p.Parts.length ≤ 8 ∧ ∀ x ∈ p.Parts, partOK x = true
theorem part_iff {x : api_Part} : partOK x = true ↔ (0 ≤ x.Frame ∧ x.Frame ≤ 15) ∧ (4 ≤ x.Word ∧ x.Word ≤ 60) ∧ (0 ≤ x.Low ∧ x.Low ≤ 10) ∧ (1 ≤ x.Bits ∧ x.Bits ≤ 11 - x.Low) := by
  simp [partOK, wiL, and_assoc]
theorem sum_bd {l : List api_Part} (h : ∀ x ∈ l, partOK x = true) : (l.length : Int) ≤ (l.map (·.Bits)).sum ∧ (l.map (·.Bits)).sum ≤ 11 * (l.length : Int) := by
  induction l with
  | nil => simp
  | cons x l ih =>
    obtain ⟨h1, h2⟩ := ih fun y hy => h y (List.mem_cons_of_mem _ hy)
    have := part_iff.1 (h x List.mem_cons_self)
    simp only [List.map_cons, List.sum_cons, List.length_cons]
    push_cast
    omega
theorem bits_s {p : api_Param} (h : lenOK p) : layout_bitsOf p = some (bitsN p) := by
  have key : loop (t2 (layout_bitsOf_L1 p)) (0, 0) = some (bitsN p) := by
    have := loop_ix2 (xs := p.Parts) (body := layout_bitsOf_L1 p) (I := fun n k => n + ((p.Parts.drop k).map (·.Bits)).sum = bitsN p ∧ 0 ≤ n ∧ n ≤ 11 * k) (F := fun _ _ => bitsN p)
      (fun n k x hI hx => by
        obtain ⟨h1, h2, h3⟩ := hI
        have hp := part_iff.1 (h.2 x (List.mem_of_getElem? hx))
        have hlt := lt_of hx
        have h8 := h.1
        rw [drop_cons hx, List.map_cons, List.sum_cons] at h1
        left
        refine ⟨n + x.Bits, ?_, ⟨by omega, by omega, by push_cast; omega⟩, rfl⟩
        simp only [layout_bitsOf_L1, hlt, decide_true, if_true, idx_of hx, Option.bind_some]
        rw [i64s (by omega) (by omega), i64s (by omega) (by omega)])
      (fun n hI => by
        obtain ⟨h1, _, _⟩ := hI
        rw [List.drop_length] at h1
        simp at h1
        simp [layout_bitsOf_L1, h1]) (a0 := 0) ⟨by simp [bitsN], by omega, by omega⟩
    exact this
  unfold layout_bitsOf
  rw [key]; rfl
theorem contInt_s {xs : List Int} {v : Int} (hl : xs.length ≤ 9223372036854775807) : slices_Contains_int_int xs v = some (decide (v ∈ xs)) := by
  have key : loop (t1 (slices_Index_int_int_L1 xs v)) 0 = some (elimO Sum.inl (Sum.inr ()) (findI (fun k x => if v = x then some (k : Int) else none) 0 xs)) := by
    refine loop_findI (xs := xs) (body := slices_Index_int_int_L1 xs v) _ _ _ (fun k x hx => ?_) (by simp [slices_Index_int_int_L1])
    have hlt := lt_of hx
    simp only [slices_Index_int_int_L1, hlt, decide_true, if_true, idx_of hx, Option.bind_some]
    rw [i64K (n := xs.length) (by omega) hl]
    by_cases h : v = x <;> simp [h]
  have fnd : ∀ (k : Nat) (l : List Int), (v ∈ l ∧ ∃ j : Nat, findI (fun k x => if v = x then some (k : Int) else none) k l = some (j : Int)) ∨ (v ∉ l ∧ findI (fun k x => if v = x then some (k : Int) else none) k l = none) := by
    intro k l
    induction l generalizing k with
    | nil => right; simp [findI]
    | cons x l ih =>
      by_cases h : v = x
      · left; subst h; exact ⟨List.mem_cons_self, k, by simp [findI]⟩
      · rcases ih (k + 1) with ⟨h1, j, h2⟩ | ⟨h1, h2⟩
        · left; exact ⟨List.mem_cons_of_mem _ h1, j, by simp [findI, h, h2]⟩
        · right; exact ⟨by simp [h, h1], by simp [findI, h, h2]⟩
  unfold slices_Contains_int_int slices_Index_int_int
  rw [key]
  rcases fnd 0 xs with ⟨h1, j, h2⟩ | ⟨h1, h2⟩
  · rw [h2]; simp [h1]
  · rw [h2]; simp [h1]
theorem contStr_s {xs : List Str} {v : Str} (hl : xs.length ≤ 9223372036854775807) : slices_Contains_string_string xs v = some (decide (v ∈ xs)) := by
  have key : loop (t1 (slices_Index_string_string_L1 xs v)) 0 = some (elimO Sum.inl (Sum.inr ()) (findI (fun k x => if v = x then some (k : Int) else none) 0 xs)) := by
    refine loop_findI (xs := xs) (body := slices_Index_string_string_L1 xs v) _ _ _ (fun k x hx => ?_) (by simp [slices_Index_string_string_L1])
    have hlt := lt_of hx
    simp only [slices_Index_string_string_L1, hlt, decide_true, if_true, idx_of hx, Option.bind_some]
    rw [i64K (n := xs.length) (by omega) hl]
    by_cases h : v = x <;> simp [h]
  have fnd : ∀ (k : Nat) (l : List Str), (v ∈ l ∧ ∃ j : Nat, findI (fun k x => if v = x then some (k : Int) else none) k l = some (j : Int)) ∨ (v ∉ l ∧ findI (fun k x => if v = x then some (k : Int) else none) k l = none) := by
    intro k l
    induction l generalizing k with
    | nil => right; simp [findI]
    | cons x l ih =>
      by_cases h : v = x
      · left; subst h; exact ⟨List.mem_cons_self, k, by simp [findI]⟩
      · rcases ih (k + 1) with ⟨h1, j, h2⟩ | ⟨h1, h2⟩
        · left; exact ⟨List.mem_cons_of_mem _ h1, j, by simp [findI, h, h2]⟩
        · right; exact ⟨by simp [h, h1], by simp [findI, h, h2]⟩
  unfold slices_Contains_string_string slices_Index_string_string
  rw [key]
  rcases fnd 0 xs with ⟨h1, j, h2⟩ | ⟨h1, h2⟩
  · rw [h2]; simp [h1]
  · rw [h2]; simp [h1]
theorem loop_all {α : Type} {xs : List α} (p : α → Bool) {body : Int → Option (Int ⊕ Int ⊕ Unit)} (e : Int) (hl : xs.length ≤ 9223372036854775807)
    (h : ∀ (k : Nat) x, xs[k]? = some x → i64 ((k : Int) + 1) = (k : Int) + 1 → decide ((k : Int) < (xs.length : Int)) = true → body k = cond (p x) (some (.inl ((k : Int) + 1))) (some (.inr (.inl e))))
    (hend : body xs.length = some (.inr (.inr ()))) : loop (t1 body) 0 = some (if xs.all p = true then .inr () else .inl e) := by
  have := loop_find (xs := xs) (fun x => if p x = true then none else some ()) (fun _ => (Sum.inl e : Int ⊕ Unit)) (Sum.inr ()) (body := body) (fun k x hx => by
    rw [h k x hx (i64K (n := xs.length) (by have := lt_of hx; omega) hl) (by have := lt_of hx; simpa using this)]
    by_cases hp : p x = true <;> simp [hp]) hend
  rw [this]
  congr 1
  clear this h hend hl
  induction xs with
  | nil => rfl
  | cons x xs ih =>
    by_cases hp : p x = true
    · simp only [findL, List.all_cons, hp, if_true, Bool.true_and]; exact ih
    · have : p x = false := by simpa using hp
      simp [findL, this]
theorem partsL1_s (p : api_Param) (hl : p.Parts.length ≤ 8) : loop (t1 (layout_checkParts_L1 p)) 0 = some (if p.Parts.all partOK = true then .inr () else .inl 9) := by
  refine loop_all (xs := p.Parts) partOK 9 (by omega) (fun k x hx hi hlt => ?_) (by simp [layout_checkParts_L1])
  simp only [layout_checkParts_L1, hlt, if_true, idx_of hx, Option.bind_some, withinL_s, hi, partOK]
  cases wiL x.Frame 0 15
  · rfl
  cases wiL x.Word 4 60
  · rfl
  cases h3 : wiL x.Low 0 10
  · rfl
  have := wiL_iff.1 h3
  rw [i64s (by omega) (by omega)]
  cases wiL x.Bits 1 (11 - x.Low) <;> rfl
theorem rPartsL1 (p : api_Param) : ref2_partsFault_L1 p = layout_checkParts_L1 p := by
  funext i
  simp only [ref2_partsFault_L1, layout_checkParts_L1, withinL_s, outsideL_s, Option.bind_some]
  split
  · congr 1; funext x
    cases wiL x.Frame 0 15 <;> cases wiL x.Word 4 60 <;> cases wiL x.Low 0 10 <;> cases wiL x.Bits 1 (i64 (11 - x.Low)) <;> rfl
  · rfl
def stepOK (p : api_Param) (x : api_Part) : Bool := decide (p.Step ≤ 60) && decide (x.Word + (p.Times - 1) * p.Step ≤ 60)
def timA (p : api_Param) : Bool := decide (p.Every ∈ ([1, 2, 4, 8, 16] : List Int)) && wiL p.First 0 (p.Every - 1) && wiL p.Times 1 57 && decide (0 ≤ p.Step) && (decide (p.Step = 0) == decide (p.Times = 1))
def chkT (p : api_Param) : Int := if timA p = true then (if p.Parts.all (stepOK p) = true then 0 else 9) else 9
def chkF (p : api_Param) : Int := if p.Parts.length = 0 then 13 else if 8 < p.Parts.length then 3 else if p.Parts.all partOK = true then (if 40 < bitsN p then 3 else 0) else 9
theorem timA_iff {p : api_Param} (h : timA p = true) : (p.Every = 1 ∨ p.Every = 2 ∨ p.Every = 4 ∨ p.Every = 8 ∨ p.Every = 16) ∧ (0 ≤ p.First ∧ p.First ≤ p.Every - 1) ∧ (1 ≤ p.Times ∧ p.Times ≤ 57) ∧ 0 ≤ p.Step ∧ (p.Step = 0 ↔ p.Times = 1) := by
  simp only [timA, Bool.and_eq_true, decide_eq_true_eq, wiL_iff, beq_iff_eq, decide_eq_decide] at h
  obtain ⟨⟨⟨⟨h1, h2⟩, h3⟩, h4⟩, h5⟩ := h
  exact ⟨by simpa using h1, h2, h3, h4, h5⟩
theorem step_bd {t s : Int} (h1 : 1 ≤ t ∧ t ≤ 57) (h2 : 0 ≤ s) (h3 : s ≤ 60) : 0 ≤ (t - 1) * s ∧ (t - 1) * s ≤ 56 * 60 :=
  ⟨Int.mul_nonneg (by omega) h2, Int.mul_le_mul (by omega) h3 h2 (by omega)⟩
theorem timesL2_s {p : api_Param} (hp : lenOK p) (ht : timA p = true) : loop (t1 (layout_checkParts_L2 p)) 0 = some (if p.Parts.all (stepOK p) = true then .inr () else .inl 9) := by
  obtain ⟨_, _, h3, h4, _⟩ := timA_iff ht
  have h8 := hp.1
  refine loop_all (xs := p.Parts) (stepOK p) 9 (by omega) (fun k x hx hi hlt => ?_) (by simp [layout_checkParts_L2])
  simp only [layout_checkParts_L2, hlt, if_true, idx_of hx, Option.bind_some, hi, stepOK]
  have hx' := part_iff.1 (hp.2 x (List.mem_of_getElem? hx))
  by_cases h6 : p.Step ≤ 60
  · have h7 : ¬ 60 < p.Step := by omega
    have hb := step_bd h3 h4 h6
    rw [i64s (z := p.Times - 1) (by omega) (by omega), i64s (z := (p.Times - 1) * p.Step) (by omega) (by omega), i64s (by omega) (by omega)]
    by_cases h9 : x.Word + (p.Times - 1) * p.Step ≤ 60
    · have : ¬ 60 < x.Word + (p.Times - 1) * p.Step := by omega
      simp [h6, h7, h9, this]
    · have : 60 < x.Word + (p.Times - 1) * p.Step := by omega
      simp [h6, h7, h9, this]
  · have h7 : 60 < p.Step := by omega
    simp [h6, h7]
theorem rTimesL1_s {p : api_Param} (hp : lenOK p) (ht : timA p = true) : loop (t1 (ref2_timesFault_L1 p)) 0 = some (if p.Parts.all (stepOK p) = true then .inr () else .inl 9) := by
  obtain ⟨_, _, h3, h4, h5⟩ := timA_iff ht
  have h8 := hp.1
  refine loop_all (xs := p.Parts) (stepOK p) 9 (by omega) (fun k x hx hi hlt => ?_) (by simp [ref2_timesFault_L1])
  simp only [ref2_timesFault_L1, hlt, if_true, idx_of hx, Option.bind_some, hi, stepOK]
  have hx' := part_iff.1 (hp.2 x (List.mem_of_getElem? hx))
  by_cases h1 : p.Times = 1
  · have hs := h5.2 h1
    rw [hs, h1]
    have h60 : ¬ (60 : Int) < x.Word := by omega
    have h61 : x.Word ≤ 60 := by omega
    rw [i64s (z := 1 - 1) (by decide) (by decide), i64s (z := (1 - 1) * 0) (by decide) (by decide), i64s (by omega) (by omega)]
    simp [h60, h61]
  · have h1' : 1 < p.Times := by omega
    by_cases h6 : p.Step ≤ 57
    · have h7 : ¬ 57 < p.Step := by omega
      have h60 : p.Step ≤ 60 := by omega
      have hb := step_bd h3 h4 h60
      rw [i64s (z := p.Times - 1) (by omega) (by omega), i64s (z := (p.Times - 1) * p.Step) (by omega) (by omega), i64s (by omega) (by omega)]
      by_cases h9 : x.Word + (p.Times - 1) * p.Step ≤ 60
      · have : ¬ 60 < x.Word + (p.Times - 1) * p.Step := by omega
        simp [h6, h7, h9, this, h60]
      · have : 60 < x.Word + (p.Times - 1) * p.Step := by omega
        simp [h6, h7, h9, this]
    · have h7 : 57 < p.Step := by omega
      have hm : 1 * p.Step ≤ (p.Times - 1) * p.Step := Int.mul_le_mul_of_nonneg_right (by omega) h4
      have h9 : ¬ x.Word + (p.Times - 1) * p.Step ≤ 60 := by omega
      simp [h1', h7, h9]
theorem lenOK_of {p : api_Param} (h1 : ¬ 8 < p.Parts.length) (h2 : p.Parts.all partOK = true) : lenOK p :=
  ⟨by omega, fun x hx => List.all_eq_true.1 h2 x hx⟩
theorem lenOK_of0 {p : api_Param} (h : chkF p = 0) : lenOK p ∧ 1 ≤ p.Parts.length ∧ bitsN p ≤ 40 := by
  unfold chkF at h
  split at h
  · cases h
  · split at h
    · cases h
    · split at h
      · rename_i h1 h2 h3
        split at h
        · cases h
        · exact ⟨lenOK_of h2 h3, by omega, by omega⟩
      · cases h
theorem rParts_s (p : api_Param) : ref2_partsFault p = some (chkF p) := by
  unfold ref2_partsFault chkF
  by_cases h0 : p.Parts.length = 0
  · have : ((p.Parts.length : Nat) : Int) = 0 := by omega
    simp [h0]
  · have h0' : ¬ ((p.Parts.length : Nat) : Int) = 0 := by omega
    by_cases h8 : 8 < p.Parts.length
    · have h8' : (8 : Int) < ((p.Parts.length : Nat) : Int) := by omega
      rw [if_neg (by simpa using h0'), if_pos (by simpa using h8'), if_neg h0, if_pos h8]
    · have h8' : ¬ (8 : Int) < ((p.Parts.length : Nat) : Int) := by omega
      rw [if_neg (by simpa using h0'), if_neg (by simpa using h8'), if_neg h0, if_neg h8, rPartsL1, partsL1_s p (by omega)]
      by_cases ha : p.Parts.all partOK = true
      · rw [if_pos ha, if_pos ha, bits_eq, bits_s (lenOK_of h8 ha)]
        by_cases hb : 40 < bitsN p <;> simp [hb]
      · rw [if_neg ha, if_neg ha]; rfl
theorem parts_s (p : api_Param) : layout_checkParts p = some (if chkF p = 0 then chkT p else chkF p) := by
  unfold layout_checkParts chkF
  by_cases h0 : p.Parts.length = 0
  · have : ((p.Parts.length : Nat) : Int) = 0 := by omega
    simp [h0]
  · have h0' : ¬ ((p.Parts.length : Nat) : Int) = 0 := by omega
    by_cases h8 : 8 < p.Parts.length
    · have h8' : (8 : Int) < ((p.Parts.length : Nat) : Int) := by omega
      rw [if_neg (by simpa using h0'), if_pos (by simpa using h8'), if_neg h0, if_pos h8]; rfl
    · have h8' : ¬ (8 : Int) < ((p.Parts.length : Nat) : Int) := by omega
      rw [if_neg (by simpa using h0'), if_neg (by simpa using h8'), if_neg h0, if_neg h8, partsL1_s p (by omega)]
      by_cases ha : p.Parts.all partOK = true
      · have hp := lenOK_of h8 ha
        rw [if_pos ha, if_pos ha, bits_s hp]
        by_cases hb : 40 < bitsN p
        · simp [hb]
        · simp only [Option.bind_some, Sum.elim_inr, t0, hb, decide_false, if_false, contInt_s (by decide : ([1, 2, 4, 8, 16] : List Int).length ≤ 9223372036854775807), withinL_s, Bool.false_eq_true, if_true]
          have hcond : (∃ a b c, (a = decide (p.Every ∈ ([1, 2, 4, 8, 16] : List Int))) ∧ b = wiL p.First 0 (i64 (p.Every - 1)) ∧ c = wiL p.Times 1 57) := ⟨_, _, _, rfl, rfl, rfl⟩
          by_cases hE : p.Every ∈ ([1, 2, 4, 8, 16] : List Int)
          · have hE' : p.Every = 1 ∨ p.Every = 2 ∨ p.Every = 4 ∨ p.Every = 8 ∨ p.Every = 16 := by simpa using hE
            rw [i64s (z := p.Every - 1) (by omega) (by omega)]
            by_cases hA : timA p = true
            · have hA' := hA
              simp only [timA, Bool.and_eq_true] at hA'
              obtain ⟨⟨⟨⟨_, a2⟩, a3⟩, a4⟩, a5⟩ := hA'
              have a6 : decide (p.Step < 0) = false := by
                rw [decide_eq_false_iff_not]
                have := of_decide_eq_true a4
                omega
              simp only [hE, decide_true, Bool.not_true, beq_self_eq_true, gd_t, a2, a3, a5, a6, Option.bind_some, Bool.or_false, Bool.false_eq_true, if_false, timesL2_s hp hA, chkT, hA, if_true]
              by_cases hs : p.Parts.all (stepOK p) = true
              · rw [if_pos hs, if_pos hs]; rfl
              · rw [if_neg hs, if_neg hs]; rfl
            · have hA2 : timA p = false := by simpa using hA
              have e4 : decide (p.Step < 0) = !decide (0 ≤ p.Step) := by rw [← decide_not, decide_eq_decide]; omega
              simp only [timA, hE, decide_true, Bool.true_and] at hA2
              simp only [chkT, if_neg hA, hE, decide_true, Bool.not_true, e4]
              revert hA2
              cases wiL p.First 0 (p.Every - 1) <;> cases wiL p.Times 1 57 <;> cases decide (0 ≤ p.Step) <;> cases (decide (p.Step = 0) == decide (p.Times = 1)) <;> intro hA2 <;> first | rfl | (exact absurd hA2 (by decide))
          · have hA : ¬ timA p = true := by simp [timA, hE]
            simp only [chkT, if_neg hA, hE, decide_false, Bool.not_false]
            rfl
      · rw [if_neg ha, if_neg ha]; rfl
theorem rTimes_s {p : api_Param} (h : chkF p = 0) : ref2_timesFault p = some (chkT p) := by
  obtain ⟨hp, _, _⟩ := lenOK_of0 h
  unfold ref2_timesFault
  have e4 : decide (p.Step < 0) = !decide (0 ≤ p.Step) := by rw [← decide_not, decide_eq_decide]; omega
  by_cases hE : p.Every ∈ ([1, 2, 4, 8, 16] : List Int)
  · have hE' : p.Every = 1 ∨ p.Every = 2 ∨ p.Every = 4 ∨ p.Every = 8 ∨ p.Every = 16 := by simpa using hE
    have hsw : ((if (decide (p.Every = 1)) = true then
  if (decide (p.Every = 1)) = true then
  some (.inr ())
  else
  some (.inl 9)
  else
  if (decide (p.Every = 2)) = true then
  if (decide (p.Every = 2)) = true then
  some (.inr ())
  else
  some (.inl 9)
  else
  if (decide (p.Every = 4)) = true then
  if (decide (p.Every = 4)) = true then
  some (.inr ())
  else
  some (.inl 9)
  else
  if (decide (p.Every = 8)) = true then
  if (decide (p.Every = 8)) = true then
  some (.inr ())
  else
  some (.inl 9)
  else
  if (decide (p.Every = 16)) = true then
  some (.inr ())
  else
  some (.inl 9)) : Option ((Int) ⊕ (Unit))) = some (.inr ()) := by
      rcases hE' with h | h | h | h | h <;> rw [h] <;> rfl
    rw [hsw]
    simp only [Option.bind_some, Sum.elim_inr, t0, outsideL_s]
    rw [i64s (z := p.Every - 1) (by omega) (by omega), e4]
    by_cases hA : timA p = true
    · have hA' := hA
      simp only [timA, Bool.and_eq_true] at hA'
      obtain ⟨⟨⟨⟨_, a2⟩, a3⟩, a4⟩, a5⟩ := hA'
      simp only [a2, a3, a4, a5, Bool.not_true, beq_self_eq_true, gd_t, Option.bind_some, Bool.or_false, Bool.false_eq_true, if_false, rTimesL1_s hp hA, chkT, hA, if_true]
      by_cases hs : p.Parts.all (stepOK p) = true
      · rw [if_pos hs, if_pos hs]; rfl
      · rw [if_neg hs, if_neg hs]; rfl
    · have hA2 : timA p = false := by simpa using hA
      simp only [timA, hE, decide_true, Bool.true_and] at hA2
      simp only [chkT, if_neg hA]
      revert hA2
      cases wiL p.First 0 (p.Every - 1) <;> cases wiL p.Times 1 57 <;> cases decide (0 ≤ p.Step) <;> cases (decide (p.Step = 0) == decide (p.Times = 1)) <;> intro hA2 <;> first | rfl | (exact absurd hA2 (by decide))
  · have hA : ¬ timA p = true := by simp [timA, hE]
    have hE' : ¬ p.Every = 1 ∧ ¬ p.Every = 2 ∧ ¬ p.Every = 4 ∧ ¬ p.Every = 8 ∧ ¬ p.Every = 16 := by simpa using hE
    obtain ⟨n1, n2, n4, n8, n16⟩ := hE'
    simp [n1, n2, n4, n8, n16, chkT, hA]
end Go.Vx

namespace Go.Vx
open Go Go.RowKit
def wf_api_Part (x : api_Part) : Prop := (wfI .i64) x.Frame ∧ (wfI .i64) x.Word ∧ (wfI .i64) x.Low ∧ (wfI .i64) x.Bits ∧ True
def wf_api_Param (x : api_Param) : Prop := wfS x.Name ∧ (wfI .i64) x.Kind ∧ (wfL wf_api_Part) x.Parts ∧ (wfI .i64) x.First ∧ (wfI .i64) x.Every ∧ (wfI .i64) x.Times ∧ (wfI .i64) x.Step ∧ (wfL wfS) x.Names ∧ True
def wf_api_Map (x : api_Map) : Prop := (wfI .i64) x.Version ∧ (wfL wf_api_Param) x.Params ∧ True
end Go.Vx

namespace Go.Vx
open Go Go.RowKit
theorem pow_le {n : Nat} (h : n ≤ 61) : (1 : Int) ≤ 2 ^ n ∧ (2 : Int) ^ n ≤ 2305843009213693952 := by
  have e : ((2 ^ n : Nat) : Int) = (2 : Int) ^ n := by push_cast; rfl
  have h1 : 1 ≤ 2 ^ n := Nat.one_le_two_pow
  have h2 : 2 ^ n ≤ 2 ^ 61 := Nat.pow_le_pow_right (by decide) h
  rw [show (2 : Nat) ^ 61 = 2305843009213693952 by decide] at h2
  omega
theorem shl1 {y : Int} (h0 : 0 ≤ y) (h1 : y ≤ 61) : shl .i64 1 y = some ((2 : Int) ^ y.toNat) := by
  have e : min y.toNat IntKind.i64.bits = y.toNat := by
    have : IntKind.i64.bits = 64 := rfl
    omega
  have hb := pow_le (n := y.toNat) (by omega)
  simp only [shl, if_neg (show ¬ y < 0 by omega), e, Int.one_mul]
  have := i64s (z := (2 : Int) ^ y.toNat) (by omega) (by omega)
  unfold i64 at this
  rw [this]
def kindBad (p : api_Param) : Bool := (((decide (p.Kind = 4)) && (!decide ((bitsN p).tmod 4 = 0))) || ((decide (p.Kind = 5)) && (!decide (bitsN p = 1)))) || (((decide (p.Kind = 2)) || (decide (p.Kind = 3))) && (decide (bitsN p = 1)))
def nmG (l : List Str) (k : Nat) (x : Str) : Option Int := if nmL x = true then (if x ∈ l.take k then some 5 else none) else some 8
def chkN (p : api_Param) : Int := if kindBad p = true then 2 else if p.Kind = 6 then (if p.Names.length = 0 then 13 else if (decide (64 < p.Names.length) || decide ((2 : Int) ^ (bitsN p).toNat < p.Names.length)) = true then 3 else elimO id 0 (findI (nmG p.Names) 0 p.Names))
  else if 0 < p.Names.length then 2 else 0
theorem slc0 {α : Type} {xs : List α} {k : Nat} (h : k ≤ xs.length) : slc xs 0 (k : Int) = some (xs.take k) := by
  unfold slc
  rw [if_pos ⟨by omega, by omega, by omega⟩]
  simp
theorem names_loop {p : api_Param} (hl : p.Names.length ≤ 64) : loop (t1 (layout_checkNames_L1 p)) 0 = some (elimO Sum.inl (Sum.inr ()) (findI (nmG p.Names) 0 p.Names)) := by
  refine loop_findI (xs := p.Names) _ _ _ (fun k x hx => ?_) (by simp [layout_checkNames_L1])
  have hlt := lt_of hx
  have hk : i64 ((k : Int) + 1) = (k : Int) + 1 := i64s (by omega) (by omega)
  simp only [layout_checkNames_L1, hlt, decide_true, if_true, idx_of hx, Option.bind_some, isName_s, hk, nmG]
  cases h : nmL x
  · rfl
  · rw [slc0 (by omega), Option.bind_some, contStr_s (by rw [List.length_take]; omega)]
    by_cases hm : x ∈ p.Names.take k <;> simp [hm]
theorem rnames_loop {p : api_Param} (hl : p.Names.length ≤ 64) (hs : ∀ x ∈ p.Names, x.length ≤ 9223372036854775807) : loop (t1 (ref2_kindFault_L1 p)) 0 = some (elimO Sum.inl (Sum.inr ()) (findI (nmG p.Names) 0 p.Names)) := by
  refine loop_findI (xs := p.Names) _ _ _ (fun k x hx => ?_) (by simp [ref2_kindFault_L1])
  have hlt := lt_of hx
  have hk : i64 ((k : Int) + 1) = (k : Int) + 1 := i64s (by omega) (by omega)
  simp only [ref2_kindFault_L1, hlt, decide_true, if_true, idx_of hx, Option.bind_some, rName_s x (hs x (List.mem_of_getElem? hx)), hk, nmG]
  cases h : nmL x
  · rfl
  · have hL := loop_all (xs := p.Names.take k) (fun y => !decide (x = y)) (body := ref2_kindFault_L2 x (p.Names.take k)) 5 (by rw [List.length_take]; omega) (fun j y hy hj hlt2 => by
      simp only [ref2_kindFault_L2, hlt2, if_true, idx_of hy, Option.bind_some, hj]
      by_cases hxy : x = y <;> simp [hxy]) (by simp [ref2_kindFault_L2])
    rw [slc0 (by omega), Option.bind_some]
    simp only [Bool.not_true, if_false, Bool.false_eq_true]
    rw [hL]
    by_cases hm : x ∈ p.Names.take k
    · have : (p.Names.take k).all (fun y => !decide (x = y)) = false := by
        rw [List.all_eq_false]; exact ⟨x, hm, by simp⟩
      simp [hm, this]
    · have : (p.Names.take k).all (fun y => !decide (x = y)) = true := by
        rw [List.all_eq_true]; intro y hy
        have : x ≠ y := by rintro rfl; exact hm hy
        simp [this]
      simp [hm, this]
theorem kind_aux {p : api_Param} {β : Type} (f : Int → Option β) (g : Bool → Option β) (hfg : ∀ q, f q = g ((((decide (p.Kind = 4)) && (!decide (q = 0))) || ((decide (p.Kind = 5)) && (!decide (bitsN p = 1)))) || (((decide (p.Kind = 2)) || (decide (p.Kind = 3))) && (decide (bitsN p = 1))))) :
    (gd ((decide (p.Kind = 4)) == true) 0 (rem (bitsN p) 4)).bind f = g (kindBad p) := by
  by_cases h4 : p.Kind = 4
  · have : rem (bitsN p) 4 = some ((bitsN p).tmod 4) := by simp [rem]
    simp only [h4, decide_true, gd_tt, this, Option.bind_some, hfg, kindBad]
  · simp only [h4, decide_false, hfg, kindBad, Bool.false_and, Bool.false_or]
    show (some (0 : Int)).bind f = _
    rw [Option.bind_some, hfg]
    simp only [h4, decide_false, Bool.false_and, Bool.false_or]
theorem kind_rest {p : api_Param} (hb : 0 ≤ bitsN p ∧ bitsN p ≤ 40) {o : Option (Int ⊕ Unit)} (ho : p.Names.length ≤ 64 → o = some (elimO Sum.inl (Sum.inr ()) (findI (nmG p.Names) 0 p.Names))) (b : Bool) :
    (if b = true then
  some 2
  else
  if (!decide (p.Kind = 6)) = true then
  if (decide (0 < (p.Names.length : Int))) = true then
  some 2
  else
  some 0
  else
  if (decide ((p.Names.length : Int) = 0)) = true then
  some 13
  else
  (gd ((decide (64 < (p.Names.length : Int))) == false) 0 (shl .i64 1 (bitsN p))).bind fun q2 =>
  if ((decide (64 < (p.Names.length : Int))) || (decide (q2 < (p.Names.length : Int)))) = true then
  some 3
  else
  o.bind (Sum.elim (fun v => some v) (t0 (some 0)))) = some (if b = true then 2 else if p.Kind = 6 then (if p.Names.length = 0 then 13 else if (decide (64 < p.Names.length) || decide ((2 : Int) ^ (bitsN p).toNat < p.Names.length)) = true then 3 else elimO id 0 (findI (nmG p.Names) 0 p.Names))
  else if 0 < p.Names.length then 2 else 0) := by
  cases b
  · simp only [Bool.false_eq_true, if_false]
    by_cases h6 : p.Kind = 6
    · by_cases h0 : p.Names.length = 0
      · have : ((p.Names.length : Nat) : Int) = 0 := by omega
        simp [h6, h0]
      · have h0' : ¬ ((p.Names.length : Nat) : Int) = 0 := by omega
        by_cases h64 : 64 < p.Names.length
        · have h64' : (64 : Int) < ((p.Names.length : Nat) : Int) := by omega
          have e : decide (64 < p.Names.length) = true := decide_eq_true h64
          simp only [h6, h0, e, h64', decide_true, decide_false, Bool.not_true, Bool.true_or, if_true, if_false, Bool.false_eq_true, h0']
          rfl
        · have h64' : ¬ (64 : Int) < ((p.Names.length : Nat) : Int) := by omega
          simp only [h6, h0, h64, h64', decide_true, decide_false, Bool.not_true, Bool.false_or, if_true, if_false, Bool.false_eq_true, h0', beq_self_eq_true, gd_t, shl1 hb.1 (by omega : bitsN p ≤ 61), Option.bind_some]
          by_cases h7 : (2 : Int) ^ (bitsN p).toNat < ((p.Names.length : Nat) : Int)
          · simp [h7]
          · simp only [h7, decide_false, Bool.false_eq_true, if_false]
            rw [ho (by omega)]
            cases findI (nmG p.Names) 0 p.Names <;> rfl
    · by_cases h0 : 0 < p.Names.length
      · have h0' : (0 : Int) < ((p.Names.length : Nat) : Int) := by omega
        rw [if_neg h6, if_pos h0, if_pos (by simpa using h6), if_pos (by simpa using h0')]
      · have h0' : ¬ (0 : Int) < ((p.Names.length : Nat) : Int) := by omega
        rw [if_neg h6, if_neg h0, if_pos (by simpa using h6), if_neg (by simpa using h0')]
  · rfl
theorem bits_bd {p : api_Param} (h : lenOK p) : 0 ≤ bitsN p := by
  have := (sum_bd h.2).1
  unfold bitsN; omega
theorem names_s {p : api_Param} (h : chkF p = 0) : layout_checkNames p = some (chkN p) := by
  obtain ⟨hp, _, h40⟩ := lenOK_of0 h
  unfold layout_checkNames
  rw [bits_s hp, Option.bind_some]
  rw [kind_aux (g := fun b => some (if b = true then 2 else if p.Kind = 6 then (if p.Names.length = 0 then 13 else if (decide (64 < p.Names.length) || decide ((2 : Int) ^ (bitsN p).toNat < p.Names.length)) = true then 3 else elimO id 0 (findI (nmG p.Names) 0 p.Names)) else if 0 < p.Names.length then 2 else 0))]
  · rfl
  · intro q
    exact kind_rest ⟨bits_bd hp, h40⟩ names_loop _
theorem rkind_s {p : api_Param} (h : chkF p = 0) (hs : ∀ x ∈ p.Names, x.length ≤ 9223372036854775807) : ref2_kindFault p = some (chkN p) := by
  obtain ⟨hp, _, h40⟩ := lenOK_of0 h
  unfold ref2_kindFault
  rw [bits_eq, bits_s hp, Option.bind_some]
  rw [kind_aux (g := fun b => some (if b = true then 2 else if p.Kind = 6 then (if p.Names.length = 0 then 13 else if (decide (64 < p.Names.length) || decide ((2 : Int) ^ (bitsN p).toNat < p.Names.length)) = true then 3 else elimO id 0 (findI (nmG p.Names) 0 p.Names)) else if 0 < p.Names.length then 2 else 0))]
  · rfl
  · intro q
    exact kind_rest ⟨bits_bd hp, h40⟩ (fun hl => rnames_loop hl hs) _
end Go.Vx

namespace Go.Vx
open Go Go.RowKit
theorem mul_in2 {a b A B : Int} (h0 : 0 ≤ a) (h1 : a ≤ A) (h2 : 0 ≤ b) (h3 : b ≤ B) : 0 ≤ a * b ∧ a * b ≤ A * B :=
  ⟨Int.mul_nonneg h0 h2, Int.mul_le_mul h1 h3 h2 (by omega)⟩
def inside (p : api_Param) (f : Int) : Bool := p.Parts.all fun x => decide (f + x.Frame < 16)
def stL (p : api_Param) : Nat → Int → List Int
  | 0, _ => []
  | n + 1, f => if f < 16 then (if inside p f then f :: stL p n (f + p.Every) else stL p n (f + p.Every)) else []
theorem stL_len (p : api_Param) : ∀ n f, (stL p n f).length ≤ n
  | 0, _ => Nat.le_refl _
  | n + 1, f => by
    have := stL_len p n (f + p.Every)
    unfold stL
    split
    · split
      · simp only [List.length_cons]; omega
      · omega
    · simp
theorem stL_mem {p : api_Param} (h1 : 1 ≤ p.Every) : ∀ n f x, 0 ≤ f → x ∈ stL p n f → 0 ≤ x ∧ x < 16 ∧ inside p x = true
  | 0, _, _, _, hx => by cases hx
  | n + 1, f, x, h0, hx => by
    unfold stL at hx
    split at hx
    · split at hx
      · rcases List.mem_cons.1 hx with rfl | hx
        · exact ⟨h0, by assumption, by assumption⟩
        · exact stL_mem h1 n _ x (by omega) hx
      · exact stL_mem h1 n _ x (by omega) hx
    · cases hx
def placeN (p : api_Param) (f j : Int) (x : api_Part) : api_Place := ⟨f + x.Frame, x.Word + j * p.Step, x.Low, x.Bits⟩
def cellL (number : Int) (p : api_Param) (idx f : Int) (j : Nat) : api_Cell := ⟨number, idx, f, p.Parts.map (placeN p f j)⟩
def rowC (number : Int) (p : api_Param) (out : List api_Cell) (f : Int) : List api_Cell := out ++ (List.range p.Times.toNat).map fun j => cellL number p ((out.length + j : Nat) : Int) f j
def startsN (p : api_Param) : List Int := stL p 17 p.First
def cellsN (number : Int) (p : api_Param) : List api_Cell := (startsN p).foldl (rowC number p) []
structure PartsOK (p : api_Param) : Prop where
  len : lenOK p
  tim : timA p = true
  stp : ∀ x ∈ p.Parts, stepOK p x = true
theorem contPart_s {p : api_Param} (h : PartsOK p) {f : Int} (hf : 0 ≤ f ∧ f < 16) : slices_ContainsFunc_api_Part_api_Part p.Parts (fun z0 => layout_starts_1 z0 f) = some (!inside p f) := by
  have h8 := h.len.1
  have key : loop (t1 (slices_IndexFunc_api_Part_api_Part_L1 p.Parts (fun z0 => layout_starts_1 z0 f))) 0 = some (elimO Sum.inl (Sum.inr ()) (findI (fun k (x : api_Part) => if f + x.Frame < 16 then none else some (k : Int)) 0 p.Parts)) := by
    refine loop_findI (xs := p.Parts) _ _ _ (fun k x hx => ?_) (by simp [slices_IndexFunc_api_Part_api_Part_L1])
    have hlt := lt_of hx
    have hk : i64 ((k : Int) + 1) = (k : Int) + 1 := i64s (by omega) (by omega)
    have hp := part_iff.1 (h.len.2 x (List.mem_of_getElem? hx))
    have hs : i64 (f + x.Frame) = f + x.Frame := i64s (by omega) (by omega)
    simp only [slices_IndexFunc_api_Part_api_Part_L1, layout_starts_1, hlt, decide_true, if_true, idx_of hx, Option.bind_some, hk, hs]
    by_cases h16 : f + x.Frame < 16
    · have : ¬ 16 ≤ f + x.Frame := by omega
      simp [h16, this]
    · have : 16 ≤ f + x.Frame := by omega
      simp [h16, this]
  have fnd : ∀ (k : Nat) (l : List api_Part), ((l.all fun x => decide (f + x.Frame < 16)) = true ∧ findI (fun k (x : api_Part) => if f + x.Frame < 16 then none else some (k : Int)) k l = none) ∨ ((l.all fun x => decide (f + x.Frame < 16)) = false ∧ ∃ j : Nat, findI (fun k (x : api_Part) => if f + x.Frame < 16 then none else some (k : Int)) k l = some (j : Int)) := by
    intro k l
    induction l generalizing k with
    | nil => left; exact ⟨rfl, rfl⟩
    | cons x l ih =>
      by_cases hx : f + x.Frame < 16
      · rcases ih (k + 1) with ⟨h1, h2⟩ | ⟨h1, j, h2⟩
        · left; exact ⟨by simp only [List.all_cons, hx, decide_true, Bool.true_and]; exact h1, by simp only [findI, hx, if_true]; exact h2⟩
        · right; exact ⟨by simp only [List.all_cons, hx, decide_true, Bool.true_and]; exact h1, j, by simp only [findI, hx, if_true]; exact h2⟩
      · right; exact ⟨by simp [hx], k, by simp [findI, hx]⟩
  unfold slices_ContainsFunc_api_Part_api_Part slices_IndexFunc_api_Part_api_Part
  rw [key]
  unfold inside
  rcases fnd 0 p.Parts with ⟨h1, h2⟩ | ⟨h1, j, h2⟩
  · rw [h2, h1]; rfl
  · rw [h2, h1]
    simp [elimO]
theorem starts_loop {p : api_Param} (h : PartsOK p) : ∀ (n : Nat) (out : List Int) (f : Int), 0 ≤ f → f ≤ 32 → out.length + n ≤ 100 → 16 - f < n → loop (t2 (layout_starts_L1 p)) (out, f) = some (out ++ stL p n f)
  | 0, out, f, h0, h1, h2, h3 => by
    have h16 : ¬ f < 16 := by omega
    rw [loop_eq]
    simp [layout_starts_L1, h16, stL]
  | n + 1, out, f, h0, h1, h2, h3 => by
    obtain ⟨hE, _⟩ := timA_iff h.tim
    rw [loop_eq]
    by_cases h16 : f < 16
    · have e : i64 (f + p.Every) = f + p.Every := i64s (by omega) (by omega)
      simp only [t2_mk, layout_starts_L1, h16, decide_true, if_true, contPart_s h ⟨h0, h16⟩, Option.bind_some, Bool.not_not, e]
      cases hi : inside p f
      · simp only [Bool.false_eq_true, if_false, Option.bind_some, t1]
        show loop (t2 (layout_starts_L1 p)) (out, f + p.Every) = _
        rw [starts_loop h n out _ (by omega) (by omega) (by omega) (by omega)]
        simp [stL, h16, hi]
      · simp only [if_true]
        rw [app_of (by simp; omega)]
        simp only [Option.bind_some, t1]
        show loop (t2 (layout_starts_L1 p)) (out ++ [f], f + p.Every) = _
        rw [starts_loop h n _ _ (by omega) (by omega) (by simp; omega) (by omega)]
        simp [stL, h16, hi]
    · simp [layout_starts_L1, h16, stL]
theorem starts_s {p : api_Param} (h : PartsOK p) : layout_starts p = some (startsN p) := by
  obtain ⟨hE, hF, _⟩ := timA_iff h.tim
  unfold layout_starts
  rw [starts_loop h 17 [] p.First (by omega) (by omega) (by simp) (by omega)]
  rfl
theorem places_body {p : api_Param} (h : PartsOK p) {f : Int} (hf : 0 ≤ f ∧ f < 16) {j : Nat} (hj : (j : Int) < p.Times) : loop (t2 (layout_cellsOf_L3 p f j)) ([], 0) = some (p.Parts.map (placeN p f j)) := by
  have h8 := h.len.1
  obtain ⟨_, _, hT, hS, _⟩ := timA_iff h.tim
  refine loop_map (placeN p f j) (fun k x acc hx ha => ?_) (fun acc => by simp [layout_cellsOf_L3])
  have hlt := lt_of hx
  have hk : i64 ((k : Int) + 1) = (k : Int) + 1 := i64s (by omega) (by omega)
  have hp := part_iff.1 (h.len.2 x (List.mem_of_getElem? hx))
  have hst := h.stp x (List.mem_of_getElem? hx)
  simp only [stepOK, Bool.and_eq_true, decide_eq_true_eq] at hst
  have hm := mul_in2 (a := (j : Int)) (b := p.Step) (A := 57) (B := 60) (by omega) (by omega) hS hst.1
  simp only [layout_cellsOf_L3, hlt, decide_true, if_true, idx_of hx, Option.bind_some, layout_placeOf, hk]
  rw [i64s (z := f + x.Frame) (by omega) (by omega), i64s (z := (j : Int) * p.Step) (by omega) (by omega), i64s (z := x.Word + (j : Int) * p.Step) (by omega) (by omega), app_of (by simp; omega)]
  rfl
theorem rplaces_eq (p : api_Param) (f : Int) (j : Int) : ref2_cells_L4 p f j = layout_cellsOf_L3 p f j := by
  funext l i
  simp only [ref2_cells_L4, layout_cellsOf_L3, layout_placeOf, Option.bind_some]
theorem row_loop {number : Int} {p : api_Param} (h : PartsOK p) {f : Int} (hf : 0 ≤ f ∧ f < 16) {body : List api_Cell → Int → Option ((List api_Cell × Int) ⊕ List api_Cell)} (out : List api_Cell) (ho : out.length ≤ 100000)
    (hb : ∀ acc i, body acc i = if decide (i < p.Times) = true then
      ((loop (t2 (layout_cellsOf_L3 p f i)) ([], 0)) : Option (((List api_Place)))).bind (t1 fun (Places : List api_Place) =>
      (app acc ([(api_Cell.mk number (acc.length : Int) f Places)] : List api_Cell)).bind fun l2 =>
      some (.inl (l2, (i64 (i + 1)))))
      else some (.inr acc)) : loop (t2 body) (out, 0) = some (rowC number p out f) := by
  obtain ⟨_, _, hT, _⟩ := timA_iff h.tim
  have hTn : (p.Times.toNat : Int) = p.Times := by omega
  have := loop_to (body := t2 body) (fun s => ∃ k : Nat, s.2 = k ∧ k ≤ p.Times.toNat ∧ s.1 = out ++ (List.range k).map fun j => cellL number p ((out.length + j : Nat) : Int) f j) (fun s => p.Times.toNat - s.2.toNat) (fun _ => rowC number p out f) (by
    rintro ⟨acc, i⟩ ⟨k, hi, hk, ha⟩
    simp only at hi ha
    subst hi
    simp only [t2_mk, hb]
    rcases Nat.lt_or_ge k p.Times.toNat with hlt | hge
    · left
      have h1 : ((k : Nat) : Int) < p.Times := by omega
      have hlen : acc.length = out.length + k := by rw [ha]; simp
      simp only [h1, decide_true, if_true, places_body h hf h1, Option.bind_some, t1]
      rw [app_of (by simp; omega), i64s (by omega) (by omega)]
      refine ⟨_, rfl, ⟨k + 1, by push_cast; rfl, hlt, ?_⟩, by simp only; omega, trivial⟩
      simp only [List.range_succ, List.map_append, List.map_cons, List.map_nil]
      rw [← List.append_assoc, ← ha, hlen]
      rfl
    · have : k = p.Times.toNat := by omega
      subst this
      right
      rw [if_neg (by simp; omega), ha]
      rfl) (out, 0) ⟨0, rfl, Nat.zero_le _, by simp⟩
  exact this
theorem fold_len {number : Int} {p : api_Param} (hT : p.Times ≤ 57) : ∀ (fs : List Int) (out : List api_Cell), (fs.foldl (rowC number p) out).length ≤ out.length + 57 * fs.length
  | [], out => by simp
  | f :: fs, out => by
    have := fold_len (number := number) hT fs (rowC number p out f)
    have h2 : (rowC number p out f).length ≤ out.length + 57 := by unfold rowC; simp; omega
    simp only [List.foldl_cons, List.length_cons]
    omega
theorem cells_s {p : api_Param} (h : PartsOK p) (number : Int) : layout_cellsOf number p = some (cellsN number p) := by
  obtain ⟨hE, hF, hT, _⟩ := timA_iff h.tim
  have hlen : (startsN p).length ≤ 17 := stL_len p 17 _
  unfold layout_cellsOf
  rw [starts_s h, Option.bind_some]
  have key : loop (t2 (layout_cellsOf_L1 number p (startsN p))) ([], 0) = some (cellsN number p) := by
    have := loop_ix2 (xs := startsN p) (body := layout_cellsOf_L1 number p (startsN p)) (I := fun acc k => acc.length ≤ 57 * k) (F := fun acc k => ((startsN p).drop k).foldl (rowC number p) acc)
      (fun acc k f hI hx => by
        have hlt := lt_of hx
        have hf := stL_mem (p := p) (by omega) 17 p.First f hF.1 (List.mem_of_getElem? hx)
        left
        refine ⟨rowC number p acc f, ?_, ?_, by rw [drop_cons hx]; rfl⟩
        · simp only [layout_cellsOf_L1, hlt, decide_true, if_true, idx_of hx, Option.bind_some]
          rw [row_loop (number := number) (body := layout_cellsOf_L2 number p f) h ⟨hf.1, hf.2.1⟩ acc (by omega) (fun acc i => rfl), i64s (by omega) (by omega)]
          rfl
        · unfold rowC; simp; omega)
      (fun acc hI => by simp [layout_cellsOf_L1]) (a0 := []) (by simp)
    exact this
  rw [key]
  rfl
theorem inside_loop {p : api_Param} (h : PartsOK p) {f : Int} (hf : 0 ≤ f ∧ f < 16) : loop (t2 (ref2_cells_L2 p f)) (true, 0) = some (inside p f) := by
  have h8 := h.len.1
  have := loop_ix2 (xs := p.Parts) (body := ref2_cells_L2 p f) (I := fun _ _ => True) (F := fun b k => b && ((p.Parts.drop k).all fun x => decide (f + x.Frame < 16)))
    (fun b k x _ hx => by
      have hlt := lt_of hx
      have hp := part_iff.1 (h.len.2 x (List.mem_of_getElem? hx))
      left
      refine ⟨b && decide (f + x.Frame < 16), ?_, trivial, by rw [drop_cons hx, List.all_cons, Bool.and_assoc]⟩
      simp only [ref2_cells_L2, hlt, decide_true, if_true, idx_of hx, Option.bind_some]
      rw [i64s (z := f + x.Frame) (by omega) (by omega), i64s (by omega) (by omega)])
    (fun b _ => by simp [ref2_cells_L2]) (a0 := true) trivial
  rw [this]
  simp [inside]
theorem rcells_loop {p : api_Param} (h : PartsOK p) (number : Int) : ∀ (n : Nat) (out : List api_Cell) (f : Int), 0 ≤ f → f ≤ 32 → out.length + 57 * n ≤ 10000 → 16 - f < n → loop (t2 (ref2_cells_L1 p number)) (out, f) = some ((stL p n f).foldl (rowC number p) out)
  | 0, out, f, h0, h1, h2, h3 => by
    have h16 : ¬ f < 16 := by omega
    rw [loop_eq]
    simp [ref2_cells_L1, h16, stL]
  | n + 1, out, f, h0, h1, h2, h3 => by
    obtain ⟨hE, _, hT, _⟩ := timA_iff h.tim
    rw [loop_eq]
    by_cases h16 : f < 16
    · have e : i64 (f + p.Every) = f + p.Every := i64s (by omega) (by omega)
      simp only [t2_mk, ref2_cells_L1, h16, decide_true, if_true, inside_loop h ⟨h0, h16⟩, Option.bind_some, t1, e]
      cases hi : inside p f
      · have hL : loop (t2 (ref2_cells_L3 p number f false)) (out, 0) = some out := by
          rw [loop_eq]; simp [ref2_cells_L3]
        rw [hL]
        show loop (t2 (ref2_cells_L1 p number)) (out, f + p.Every) = _
        rw [rcells_loop h number n out _ (by omega) (by omega) (by omega) (by omega)]
        simp [stL, h16, hi]
      · rw [row_loop (number := number) h ⟨h0, h16⟩ (body := ref2_cells_L3 p number f true) out (by omega) (fun acc i => by
          simp only [ref2_cells_L3, Bool.and_true, rplaces_eq])]
        show loop (t2 (ref2_cells_L1 p number)) (rowC number p out f, f + p.Every) = _
        have h2' : (rowC number p out f).length ≤ out.length + 57 := by unfold rowC; simp; omega
        rw [rcells_loop h number n _ _ (by omega) (by omega) (by omega) (by omega)]
        simp [stL, h16, hi]
    · simp [ref2_cells_L1, h16, stL]
theorem rcells_s {p : api_Param} (h : PartsOK p) (number : Int) : ref2_cells p number = some (cellsN number p) := by
  obtain ⟨hE, hF, _⟩ := timA_iff h.tim
  unfold ref2_cells
  rw [rcells_loop h number 17 [] p.First (by omega) (by omega) (by simp) (by omega)]
  rfl
end Go.Vx

namespace Go.Vx
open Go Go.RowKit

section
variable {K V : Type} {eq : K → K → Bool}
def mkeys (m : List (K × V)) : List K := m.map (·.1)
theorem mget_some (he : ∀ a b, eq a b = true ↔ a = b) {m : List (K × V)} {k : K} : (mget eq m k).isSome = true ↔ k ∈ mkeys m := by
  unfold mget mkeys
  rw [Option.isSome_map, List.find?_isSome]
  simp only [List.mem_map]
  constructor
  · rintro ⟨p, hp, h⟩; exact ⟨p, hp, ((he _ _).1 h).symm⟩
  · rintro ⟨p, hp, rfl⟩; exact ⟨p, hp, (he _ _).2 rfl⟩
theorem mget_none (he : ∀ a b, eq a b = true ↔ a = b) {m : List (K × V)} {k : K} (h : k ∉ mkeys m) : mget eq m k = none := by
  cases hm : mget eq m k with
  | none => rfl
  | some v => exact absurd ((mget_some he).1 (by rw [hm]; rfl)) h
theorem mput_new (he : ∀ a b, eq a b = true ↔ a = b) {m : List (K × V)} {k : K} {v : V} (h : k ∉ mkeys m) : mput eq m k v = m ++ [(k, v)] := by
  unfold mput
  have : (m.findIdx? fun p => eq k p.1) = none := by
    rw [List.findIdx?_eq_none_iff]
    intro p hp
    cases hq : eq k p.1 with
    | false => rfl
    | true => exact absurd (List.mem_map.2 ⟨p, hp, ((he _ _).1 hq).symm⟩) h
  rw [this]
theorem mget_put [DecidableEq K] (he : ∀ a b, eq a b = true ↔ a = b) {m : List (K × V)} {k x : K} {v : V} : mget eq (mput eq m k v) x = if x = k then some v else mget eq m x := by
  unfold mput
  cases hq : m.findIdx? fun p => eq k p.1 with
  | none =>
    rw [List.findIdx?_eq_none_iff] at hq
    simp only [mget, List.find?_append]
    by_cases hx : x = k
    · subst hx
      have : m.find? (fun p => eq x p.1) = none := List.find?_eq_none.2 fun p hp => by rw [hq p hp]; simp
      simp [this, (he x x).2 rfl]
    · have : eq x k = false := by
        cases h : eq x k with
        | false => rfl
        | true => exact absurd ((he _ _).1 h) hx
      simp [hx, this]
  | some i =>
    obtain ⟨hi, h1, h2⟩ := List.findIdx?_eq_some_iff_getElem.1 hq
    have e := (he _ _).1 h1
    rw [mget_idx, mget_idx]
    have hf : ((m.set i (k, v)).findIdx? fun p => eq x p.1) = m.findIdx? fun p => eq x p.1 := by
      have e1 : ∀ l : List (K × V), (l.findIdx? fun p => eq x p.1) = (l.map (·.1)).findIdx? (eq x) := fun l => by rw [List.findIdx?_map]; rfl
      rw [e1, e1]
      congr 1
      apply List.ext_getElem?
      intro j
      rw [List.getElem?_map, List.getElem?_map, List.getElem?_set]
      split
      · rename_i hj
        subst hj
        simp [hi, e]
      · rfl
    rw [hf]
    by_cases hx : x = k
    · subst hx
      rw [hq]; simp [hi]
    · rw [if_neg hx]
      cases hf2 : m.findIdx? fun p => eq x p.1 with
      | none => rfl
      | some j =>
        obtain ⟨hj, g1, _⟩ := List.findIdx?_eq_some_iff_getElem.1 hf2
        have : i ≠ j := by
          rintro rfl
          exact hx (((he _ _).1 g1).trans e.symm)
        simp [List.getElem?_set_ne this]
end
theorem kqV_iff {n : Nat} (a b : Vector Int n) : kqV a b = true ↔ a = b := by simp [kqV]
end Go.Vx

namespace Go.Vx
open Go Go.RowKit
theorem kqB_iff (a b : layout_bit) : kq_layout_bit a b = true ↔ a = b := by
  cases a; cases b; simp [kq_layout_bit]
instance : DecidableEq layout_bit := fun a b => decidable_of_iff (kq_layout_bit a b = true) (kqB_iff a b)
def bitsP (x : api_Place) : List layout_bit := (List.range x.Bits.toNat).map fun (i : Nat) => ⟨x.Frame, x.Word, x.Low + i⟩
def bitsL (l : List api_Place) : List layout_bit := l.flatMap bitsP
def okB : List layout_bit → List layout_bit → Bool
  | _, [] => true
  | K, b :: bs => if b ∈ K then false else okB (K ++ [b]) bs
theorem okB_app : ∀ (K a b : List layout_bit), okB K (a ++ b) = (okB K a && okB (K ++ a) b)
  | K, [], b => by simp [okB]
  | K, x :: a, b => by
    simp only [List.cons_append, okB]
    split
    · rfl
    · rw [okB_app (K ++ [x]) a b]; simp
def placeOK (x : api_Place) : Prop := 0 ≤ x.Low ∧ x.Low ≤ 10 ∧ 0 ≤ x.Bits ∧ x.Bits ≤ 11
theorem bitsAt_s {x : api_Place} (h : placeOK x) : layout_bitsAt x = some (bitsP x) := by
  obtain ⟨h1, h2, h3, h4⟩ := h
  have hn : (x.Bits.toNat : Int) = x.Bits := by omega
  have := loop_buildL (body := layout_bitsAt_L1 x) x.Bits.toNat (fun i => (⟨x.Frame, x.Word, x.Low + i⟩ : layout_bit)) (fun k acc hk ha => by
    have h5 : ((k : Nat) : Int) < x.Bits := by omega
    simp only [layout_bitsAt_L1, h5, decide_true, if_true]
    rw [i64s (by omega) (by omega), app_of (by simp; omega), i64s (by omega) (by omega)]
    rfl) (fun acc => by simp [layout_bitsAt_L1, hn])
  unfold layout_bitsAt
  rw [this]; rfl
theorem keys_app {K V : Type} {o : List (K × V)} {b : K} {v : V} : mkeys (o ++ [(b, v)]) = mkeys o ++ [b] := by simp [mkeys]
theorem take2_s {y : List layout_bit} (owner : Int) (hy : y.length ≤ 1000) (o : List (layout_bit × Int)) : ∃ q, loop (t2 (layout_take_L2 owner y)) (o, 0) = some (cond (okB (mkeys o) y) (.inr (o ++ y.map fun b => (b, owner))) (.inl (false, q))) := by
  have key : ∀ (n k : Nat) (o : List (layout_bit × Int)), k + n = y.length → ∃ q, loop (t2 (layout_take_L2 owner y)) (o, (k : Int)) = some (cond (okB (mkeys o) (y.drop k)) (.inr (o ++ (y.drop k).map fun b => (b, owner))) (.inl (false, q))) := by
    intro n
    induction n with
    | zero =>
      intro k o hk
      have : k = y.length := by omega
      subst this
      refine ⟨[], ?_⟩
      rw [loop_eq]
      simp [layout_take_L2, okB]
    | succ n ih =>
      intro k o hk
      obtain ⟨x, hx⟩ := get_ex (xs := y) (k := k) (by omega)
      have hlt := lt_of hx
      rw [drop_cons hx, loop_eq]
      simp only [t2_mk, layout_take_L2, hlt, decide_true, if_true, idx_of hx, Option.bind_some, okB]
      by_cases hm : x ∈ mkeys o
      · refine ⟨o, ?_⟩
        rw [if_pos ((mget_some kqB_iff).2 hm), if_pos hm]
        rfl
      · have hg : (mget kq_layout_bit o x).isSome = false := by rw [mget_none kqB_iff hm]; rfl
        rw [hg, mput_new kqB_iff hm, if_neg hm, i64s (by omega) (by omega)]
        obtain ⟨q, h2⟩ := ih (k + 1) (o ++ [(x, owner)]) (by omega)
        refine ⟨q, ?_⟩
        simp only [Bool.false_eq_true, if_false]
        have e : ((k : Nat) : Int) + 1 = ((k + 1 : Nat) : Int) := by push_cast; rfl
        rw [e]
        rw [keys_app] at h2
        show loop (t2 (layout_take_L2 owner y)) (o ++ [(x, owner)], ((k + 1 : Nat) : Int)) = _
        rw [h2]
        simp
  exact key y.length 0 o (by omega)
theorem bitsP_len {x : api_Place} (h : placeOK x) : (bitsP x).length ≤ 11 := by
  obtain ⟨_, _, h3, h4⟩ := h
  simp [bitsP]; omega
theorem take_s {l : List api_Place} (owner : Int) (hl : l.length ≤ 1000000) (hp : ∀ x ∈ l, placeOK x) (o : List (layout_bit × Int)) :
    ∃ q, layout_take o owner l = some (okB (mkeys o) (bitsL l), q) ∧ (okB (mkeys o) (bitsL l) = true → q = o ++ (bitsL l).map fun b => (b, owner)) := by
  have key : ∀ (n k : Nat) (o : List (layout_bit × Int)), k + n = l.length → ∃ q, loop (t2 (layout_take_L1 owner l)) (o, (k : Int)) = some (cond (okB (mkeys o) (bitsL (l.drop k))) (.inr (o ++ (bitsL (l.drop k)).map fun b => (b, owner))) (.inl (false, q))) := by
    intro n
    induction n with
    | zero =>
      intro k o hk
      have : k = l.length := by omega
      subst this
      refine ⟨[], ?_⟩
      rw [loop_eq]
      simp [layout_take_L1, okB, bitsL]
    | succ n ih =>
      intro k o hk
      obtain ⟨x, hx⟩ := get_ex (xs := l) (k := k) (by omega)
      have hlt := lt_of hx
      have hpx := hp x (List.mem_of_getElem? hx)
      obtain ⟨q, h2⟩ := take2_s owner (y := bitsP x) (by have := bitsP_len hpx; omega) o
      have e : bitsL (l.drop k) = bitsP x ++ bitsL (l.drop (k + 1)) := by rw [drop_cons hx]; simp [bitsL]
      rw [e, okB_app, loop_eq]
      simp only [t2_mk, layout_take_L1, hlt, decide_true, if_true, idx_of hx, Option.bind_some, bitsAt_s hpx, h2]
      by_cases hm : okB (mkeys o) (bitsP x) = true
      · obtain ⟨q', h3⟩ := ih (k + 1) (o ++ (bitsP x).map fun b => (b, owner)) (by omega)
        refine ⟨q', ?_⟩
        rw [hm, Bool.true_and, i64s (by omega) (by omega)]
        have e2 : ((k : Nat) : Int) + 1 = ((k + 1 : Nat) : Int) := by push_cast; rfl
        rw [e2]
        show loop (t2 (layout_take_L1 owner l)) (o ++ (bitsP x).map (fun b => (b, owner)), ((k + 1 : Nat) : Int)) = _
        rw [h3]
        have e3 : mkeys (o ++ (bitsP x).map fun b => (b, owner)) = mkeys o ++ bitsP x := by simp [mkeys, Function.comp_def]
        rw [e3]
        simp
      · refine ⟨q, ?_⟩
        have hm' : okB (mkeys o) (bitsP x) = false := by simpa using hm
        rw [hm']
        rfl
  obtain ⟨q, h⟩ := key l.length 0 o (by omega)
  unfold layout_take
  have h' : loop (t2 (layout_take_L1 owner l)) (o, 0) = _ := h
  rw [h']
  rw [List.drop_zero]
  by_cases hm : okB (mkeys o) (bitsL l) = true
  · rw [hm]; exact ⟨_, rfl, fun _ => rfl⟩
  · have hm' : okB (mkeys o) (bitsL l) = false := by simpa using hm
    rw [hm']
    refine ⟨q, rfl, ?_⟩
    intro h; cases h
def trB (b : layout_bit) : Vector Int 3 := #v[b.frame, b.word, b.bit]
theorem trB_inj {a b : layout_bit} (h : trB a = trB b) : a = b := by
  cases a; cases b
  simp only [trB] at h
  have h0 := congrArg (fun v : Vector Int 3 => v[0]) h
  have h1 := congrArg (fun v : Vector Int 3 => v[1]) h
  have h2 := congrArg (fun v : Vector Int 3 => v[2]) h
  simp at h0 h1 h2
  subst h0 h1 h2
  rfl
abbrev RT := List (Vector Int 3 × Bool)
structure RK (o : RT) (K : List layout_bit) : Prop where
  keys : mkeys o = K.map trB
  vals : ∀ p ∈ o, p.2 = true
theorem RK.get {o : RT} {K : List layout_bit} (h : RK o K) (b : layout_bit) : (mget kqV o (trB b)).getD false = decide (b ∈ K) := by
  by_cases hb : b ∈ K
  · have hm : trB b ∈ mkeys o := by rw [h.keys]; exact List.mem_map.2 ⟨b, hb, rfl⟩
    obtain ⟨v, hv⟩ := Option.isSome_iff_exists.1 ((mget_some kqV_iff).2 hm)
    have : v = true := by
      unfold mget at hv
      obtain ⟨p, hp, rfl⟩ := Option.map_eq_some_iff.1 hv
      exact h.vals p (List.mem_of_find?_eq_some hp)
    rw [hv, this]; simp [hb]
  · have hm : trB b ∉ mkeys o := by
      rw [h.keys]
      intro hm
      obtain ⟨c, hc, he⟩ := List.mem_map.1 hm
      rw [trB_inj he] at hc
      exact hb hc
    rw [mget_none kqV_iff hm]; simp [hb]
theorem RK.put {o : RT} {K : List layout_bit} (h : RK o K) {b : layout_bit} (hb : b ∉ K) : RK (mput kqV o (trB b) true) (K ++ [b]) := by
  have hm : trB b ∉ mkeys o := by
    rw [h.keys]
    intro hm
    obtain ⟨c, hc, he⟩ := List.mem_map.1 hm
    rw [trB_inj he] at hc
    exact hb hc
  rw [mput_new kqV_iff hm]
  refine ⟨by rw [keys_app, h.keys]; simp, fun p hp => ?_⟩
  rcases List.mem_append.1 hp with hp | hp
  · exact h.vals p hp
  · simp at hp; rw [hp]
theorem rtake2_s {x : api_Place} (hx : placeOK x) (o : RT) (ok : Bool) :
    ∃ o' ok', loop (t3 (ref2_taken_take_L2 x)) (o, ok, x.Low) = some (o', ok') ∧ (ok = false → ok' = false) ∧ ∀ K, ok = true → RK o K → ok' = okB K (bitsP x) ∧ (ok' = true → RK o' (K ++ bitsP x)) := by
  obtain ⟨h1, h2, h3, h4⟩ := hx
  have hs : i64 (x.Low + x.Bits) = x.Low + x.Bits := i64s (by omega) (by omega)
  have key : ∀ (n k : Nat) (o : RT) (ok : Bool), k + n = x.Bits.toNat → ∃ o' ok', loop (t3 (ref2_taken_take_L2 x)) (o, ok, x.Low + k) = some (o', ok') ∧ (ok = false → ok' = false) ∧
      ∀ K, ok = true → RK o K → ok' = okB K ((bitsP x).drop k) ∧ (ok' = true → RK o' (K ++ (bitsP x).drop k)) := by
    intro n
    induction n with
    | zero =>
      intro k o ok hk
      have hge : ¬ (x.Low + (k : Int) < x.Low + x.Bits) := by omega
      refine ⟨o, ok, ?_, fun h => h, fun K h hK => ?_⟩
      · rw [loop_eq]
        simp only [t3_mk, ref2_taken_take_L2, hs, hge, decide_false, Bool.false_eq_true, if_false]
        rfl
      · have : (bitsP x).drop k = [] := List.drop_eq_nil_of_le (by simp [bitsP]; omega)
        rw [this]
        exact ⟨by simp [okB, h], fun _ => by simpa using hK⟩
    | succ n ih =>
      intro k o ok hk
      have hlt : (x.Low + (k : Int) < x.Low + x.Bits) := by omega
      have hb : (bitsP x)[k]? = some ⟨x.Frame, x.Word, x.Low + k⟩ := by
        simp only [bitsP, List.getElem?_map]
        rw [List.getElem?_range (by omega)]
        rfl
      have he : (#v[x.Frame, x.Word, x.Low + (k : Int)] : Vector Int 3) = trB ⟨x.Frame, x.Word, x.Low + k⟩ := rfl
      have e1 : x.Low + ((k : Nat) : Int) + 1 = x.Low + ((k + 1 : Nat) : Int) := by push_cast; omega
      have hi : i64 (x.Low + (k : Int) + 1) = x.Low + ((k + 1 : Nat) : Int) := by rw [i64s (by omega) (by omega), e1]
      rw [loop_eq]
      simp only [t3_mk, ref2_taken_take_L2, hs, hlt, decide_true, if_true, hi, he]
      cases ok with
      | false =>
        obtain ⟨o', ok', g1, g2, _⟩ := ih (k + 1) (mput kqV o (trB ⟨x.Frame, x.Word, x.Low + k⟩) true) false (by omega)
        exact ⟨o', ok', g1, fun _ => g2 rfl, fun K h => by cases h⟩
      | true =>
        simp only [gd_tt, Option.bind_some, Bool.true_and]
        obtain ⟨o', ok', g1, g2, g3⟩ := ih (k + 1) (mput kqV o (trB ⟨x.Frame, x.Word, x.Low + k⟩) true) (!(mget kqV o (trB ⟨x.Frame, x.Word, x.Low + k⟩)).getD false) (by omega)
        refine ⟨o', ok', g1, (fun h => by cases h), fun K _ hK => ?_⟩
        rw [drop_cons hb]
        simp only [okB]
        rw [hK.get] at g2 g3
        by_cases hm : (⟨x.Frame, x.Word, x.Low + k⟩ : layout_bit) ∈ K
        · rw [if_pos hm]
          have hf := g2 (by simp [hm])
          exact ⟨hf, fun h => by rw [hf] at h; cases h⟩
        · rw [if_neg hm]
          obtain ⟨a1, a2⟩ := g3 (K ++ [⟨x.Frame, x.Word, x.Low + k⟩]) (by simp [hm]) (hK.put hm)
          refine ⟨a1, fun h => ?_⟩
          have := a2 h
          simpa using this
  have := key x.Bits.toNat 0 o ok (by omega)
  simpa using this
theorem rtake_s {l : List api_Place} (hl : l.length ≤ 1000000) (hp : ∀ x ∈ l, placeOK x) (o : RT) :
    ∃ o' ok', ref2_taken_take o l = some (ok', o') ∧ ∀ K, RK o K → ok' = okB K (bitsL l) ∧ (ok' = true → RK o' (K ++ bitsL l)) := by
  have key : ∀ (n k : Nat) (o : RT) (ok : Bool), k + n = l.length → ∃ o' ok', loop (t3 (ref2_taken_take_L1 l)) (o, ok, (k : Int)) = some (o', ok') ∧ (ok = false → ok' = false) ∧
      ∀ K, ok = true → RK o K → ok' = okB K (bitsL (l.drop k)) ∧ (ok' = true → RK o' (K ++ bitsL (l.drop k))) := by
    intro n
    induction n with
    | zero =>
      intro k o ok hk
      have : k = l.length := by omega
      subst this
      refine ⟨o, ok, ?_, fun h => h, fun K h hK => ?_⟩
      · rw [loop_eq]
        simp [ref2_taken_take_L1]
      · simp [bitsL, okB, h, hK]
    | succ n ih =>
      intro k o ok hk
      obtain ⟨x, hx⟩ := get_ex (xs := l) (k := k) (by omega)
      have hlt := lt_of hx
      have hpx := hp x (List.mem_of_getElem? hx)
      obtain ⟨o1, ok1, h1, h2, h3⟩ := rtake2_s hpx o ok
      obtain ⟨o2, ok2, g1, g2, g3⟩ := ih (k + 1) o1 ok1 (by omega)
      have e : bitsL (l.drop k) = bitsP x ++ bitsL (l.drop (k + 1)) := by rw [drop_cons hx]; simp [bitsL]
      have e2 : ((k : Nat) : Int) + 1 = ((k + 1 : Nat) : Int) := by push_cast; rfl
      refine ⟨o2, ok2, ?_, fun h => g2 (h2 h), fun K h hK => ?_⟩
      · rw [loop_eq]
        simp only [t3_mk, ref2_taken_take_L1, hlt, decide_true, if_true, idx_of hx, Option.bind_some, h1, t2_mk]
        rw [i64s (by omega) (by omega), e2]
        exact g1
      · rw [e, okB_app]
        obtain ⟨a1, a2⟩ := h3 K h hK
        cases hok : ok1 with
        | false =>
          rw [← a1, hok, Bool.false_and]
          have := g2 hok
          exact ⟨this, fun h => by rw [this] at h; cases h⟩
        | true =>
          rw [← a1, hok, Bool.true_and]
          obtain ⟨b1, b2⟩ := g3 _ hok (a2 hok)
          exact ⟨b1, fun h => by have := b2 h; simpa using this⟩
  obtain ⟨o', ok', h1, _, h3⟩ := key l.length 0 o true (by omega)
  unfold ref2_taken_take
  have h1' : loop (t3 (ref2_taken_take_L1 l)) (o, true, 0) = _ := h1
  rw [h1']
  exact ⟨o', ok', rfl, fun K hK => by simpa using h3 K rfl hK⟩
def bitsC (l : List api_Cell) : List layout_bit := l.flatMap fun c => bitsL c.Places
def cellsOK (l : List api_Cell) : Prop := l.length ≤ 1000000 ∧ ∀ c ∈ l, c.Places.length ≤ 1000000 ∧ ∀ x ∈ c.Places, placeOK x
theorem rtakeAll_s {l : List api_Cell} (hl : cellsOK l) (o : RT) :
    ∃ o' ok', ref2_taken_takeAll o l = some (ok', o') ∧ ∀ K, RK o K → ok' = okB K (bitsC l) ∧ (ok' = true → RK o' (K ++ bitsC l)) := by
  have hl0 := hl.1
  have key : ∀ (n k : Nat) (o : RT) (ok : Bool), k + n = l.length → ∃ o' ok', loop (t3 (ref2_taken_takeAll_L1 l)) (o, ok, (k : Int)) = some (o', ok') ∧ (ok = false → ok' = false) ∧
      ∀ K, ok = true → RK o K → ok' = okB K (bitsC (l.drop k)) ∧ (ok' = true → RK o' (K ++ bitsC (l.drop k))) := by
    intro n
    induction n with
    | zero =>
      intro k o ok hk
      have : k = l.length := by omega
      subst this
      refine ⟨o, ok, ?_, fun h => h, fun K h hK => ?_⟩
      · rw [loop_eq]
        simp [ref2_taken_takeAll_L1]
      · simp [bitsC, okB, h, hK]
    | succ n ih =>
      intro k o ok hk
      obtain ⟨c, hc⟩ := get_ex (xs := l) (k := k) (by omega)
      have hlt := lt_of hc
      obtain ⟨hp1, hp2⟩ := hl.2 c (List.mem_of_getElem? hc)
      obtain ⟨o1, ok1, h1, h3⟩ := rtake_s hp1 hp2 o
      obtain ⟨o2, ok2, g1, g2, g3⟩ := ih (k + 1) o1 (if ok1 = true then ok else false) (by omega)
      have e : bitsC (l.drop k) = bitsL c.Places ++ bitsC (l.drop (k + 1)) := by rw [drop_cons hc]; simp [bitsC]
      have e2 : ((k : Nat) : Int) + 1 = ((k + 1 : Nat) : Int) := by push_cast; rfl
      refine ⟨o2, ok2, ?_, fun h => g2 (by simp [h]), fun K h hK => ?_⟩
      · rw [loop_eq]
        simp only [t3_mk, ref2_taken_takeAll_L1, hlt, decide_true, if_true, idx_of hc, Option.bind_some, h1]
        rw [i64s (by omega) (by omega), e2]
        cases ok1 <;> exact g1
      · rw [e, okB_app]
        obtain ⟨a1, a2⟩ := h3 K hK
        cases hok : ok1 with
        | false =>
          rw [← a1, hok, Bool.false_and]
          have := g2 (by simp [hok])
          exact ⟨this, fun h => by rw [this] at h; cases h⟩
        | true =>
          rw [← a1, hok, Bool.true_and]
          obtain ⟨b1, b2⟩ := g3 _ (by simp [hok, h]) (a2 hok)
          exact ⟨b1, fun h => by have := b2 h; simpa using this⟩
  obtain ⟨o', ok', h1, _, h3⟩ := key l.length 0 o true (by omega)
  unfold ref2_taken_takeAll
  have h1' : loop (t3 (ref2_taken_takeAll_L1 l)) (o, true, 0) = _ := h1
  rw [h1']
  exact ⟨o', ok', rfl, fun K hK => by simpa using h3 K rfl hK⟩
end Go.Vx

namespace Go.Vx
open Go Go.RowKit
theorem PartsOK.of {p : api_Param} (h1 : chkF p = 0) (h2 : chkT p = 0) : PartsOK p := by
  obtain ⟨hl, _, _⟩ := lenOK_of0 h1
  unfold chkT at h2
  split at h2
  · split at h2
    · rename_i ha hb
      exact ⟨hl, ha, fun x hx => List.all_eq_true.1 hb x hx⟩
    · cases h2
  · cases h2
theorem rowC_mem {number : Int} {p : api_Param} {out : List api_Cell} {f : Int} {c : api_Cell} (h : c ∈ rowC number p out f) : c ∈ out ∨ ∃ (i : Int) (j : Nat), j < p.Times.toNat ∧ c = cellL number p i f j := by
  unfold rowC at h
  rcases List.mem_append.1 h with h | h
  · exact .inl h
  · obtain ⟨j, hj, rfl⟩ := List.mem_map.1 h
    exact .inr ⟨_, j, by simpa using hj, rfl⟩
theorem fold_mem {number : Int} {p : api_Param} {c : api_Cell} : ∀ (fs : List Int) (out : List api_Cell), c ∈ fs.foldl (rowC number p) out → c ∈ out ∨ ∃ (i f : Int) (j : Nat), f ∈ fs ∧ j < p.Times.toNat ∧ c = cellL number p i f j
  | [], out, h => .inl h
  | f :: fs, out, h => by
    rcases fold_mem fs _ h with h | ⟨i, g, j, h1, h2, h3⟩
    · rcases rowC_mem h with h | ⟨i, j, h1, h2⟩
      · exact .inl h
      · exact .inr ⟨i, f, j, List.mem_cons_self, h1, h2⟩
    · exact .inr ⟨i, g, j, List.mem_cons_of_mem _ h1, h2, h3⟩
theorem cellsN_mem {number : Int} {p : api_Param} {c : api_Cell} (h : c ∈ cellsN number p) : ∃ (i f : Int) (j : Nat), f ∈ startsN p ∧ j < p.Times.toNat ∧ c = cellL number p i f j := by
  rcases fold_mem _ _ h with h | h
  · cases h
  · exact h
theorem cellsN_len {number : Int} {p : api_Param} (h : PartsOK p) : (cellsN number p).length ≤ 969 := by
  obtain ⟨_, _, hT, _⟩ := timA_iff h.tim
  have h1 := fold_len (number := number) (p := p) hT.2 (startsN p) []
  have h2 : (startsN p).length ≤ 17 := stL_len p 17 _
  unfold cellsN
  simp only [List.length_nil] at h1
  omega
theorem placeN_ok {p : api_Param} (h : PartsOK p) {x : api_Part} (hx : x ∈ p.Parts) (f j : Int) : placeOK (placeN p f j x) := by
  have := part_iff.1 (h.len.2 x hx)
  unfold placeOK placeN
  simp only
  omega
theorem cellsN_ok {number : Int} {p : api_Param} (h : PartsOK p) : cellsOK (cellsN number p) := by
  have h0 := cellsN_len (number := number) h
  refine ⟨by omega, fun c hc => ?_⟩
  obtain ⟨i, f, j, _, _, rfl⟩ := cellsN_mem hc
  have h8 := h.len.1
  refine ⟨by simp [cellL]; omega, fun x hx => ?_⟩
  obtain ⟨y, hy, rfl⟩ := List.mem_map.1 hx
  exact placeN_ok h hy _ _
theorem chk_loop {l : List api_Cell} (hl : cellsOK l) : loop (t2 (layout_CheckParam_L1 l)) (([] : List (layout_bit × Int)), 0) = some (cond (okB [] (bitsC l)) (.inr ()) (.inl 5)) := by
  have hl0 := hl.1
  have key : ∀ (n k : Nat) (o : List (layout_bit × Int)), k + n = l.length → loop (t2 (layout_CheckParam_L1 l)) (o, (k : Int)) = some (cond (okB (mkeys o) (bitsC (l.drop k))) (.inr ()) (.inl 5)) := by
    intro n
    induction n with
    | zero =>
      intro k o hk
      have : k = l.length := by omega
      subst this
      rw [loop_eq]
      simp [layout_CheckParam_L1, okB, bitsC]
    | succ n ih =>
      intro k o hk
      obtain ⟨c, hc⟩ := get_ex (xs := l) (k := k) (by omega)
      have hlt := lt_of hc
      obtain ⟨hp1, hp2⟩ := hl.2 c (List.mem_of_getElem? hc)
      obtain ⟨q, h1, h2⟩ := take_s 0 hp1 hp2 o
      have e : bitsC (l.drop k) = bitsL c.Places ++ bitsC (l.drop (k + 1)) := by rw [drop_cons hc]; simp [bitsC]
      have e2 : ((k : Nat) : Int) + 1 = ((k + 1 : Nat) : Int) := by push_cast; rfl
      rw [e, okB_app, loop_eq]
      simp only [t2_mk, layout_CheckParam_L1, hlt, decide_true, if_true, idx_of hc, Option.bind_some, h1]
      rw [i64s (by omega) (by omega), e2]
      cases hok : okB (mkeys o) (bitsL c.Places) with
      | false => rfl
      | true =>
        have h3 := h2 hok
        have := ih (k + 1) q (by omega)
        have e3 : mkeys q = mkeys o ++ bitsL c.Places := by rw [h3]; simp [mkeys, Function.comp_def]
        rw [e3] at this
        exact this
  have := key l.length 0 [] (by omega)
  exact this
def chkQ (p : api_Param) : Int := if nmL p.Name = true then (if wiL p.Kind 1 6 = true then (if chkF p = 0 then (if chkT p = 0 then (if chkN p = 0 then (if okB [] (bitsC (cellsN 0 p)) = true then (if (cellsN 0 p).length = 0 then 13 else 0) else 5) else chkN p) else chkT p) else chkF p) else 7) else 8
theorem CheckParam_s (p : api_Param) : layout_CheckParam p = some (chkQ p) := by
  unfold layout_CheckParam chkQ
  rw [isName_s, Option.bind_some]
  cases h1 : nmL p.Name
  · rfl
  simp only [Bool.not_true, Bool.false_eq_true, if_false, if_true, withinL_s, Option.bind_some]
  cases h2 : wiL p.Kind 1 6
  · rfl
  simp only [Bool.not_true, Bool.false_eq_true, if_false, if_true, parts_s, Option.bind_some]
  by_cases h3 : chkF p = 0
  · by_cases h4 : chkT p = 0
    · simp only [h3, h4, if_true, decide_true, Bool.not_true, Bool.false_eq_true, if_false, names_s h3, Option.bind_some]
      by_cases h5 : chkN p = 0
      · have hP := PartsOK.of h3 h4
        simp only [h5, if_true, decide_true, Bool.not_true, Bool.false_eq_true, if_false, cells_s hP, Option.bind_some, chk_loop (cellsN_ok hP)]
        cases okB [] (bitsC (cellsN 0 p))
        · rfl
        · by_cases h6 : (cellsN 0 p).length = 0
          · simp [h6]
          · have : ¬ (((cellsN 0 p).length : Nat) : Int) = 0 := by omega
            simp only [if_true, if_neg h6, Option.bind_some, cond_true, Sum.elim_inr, t0, this, decide_false, Bool.false_eq_true, if_false]
      · simp [h5]
    · simp [h3, h4]
  · simp [h3]
theorem rCheckParam_s (p : api_Param) (hs : wf_api_Param p) : ref2_CheckParam p = some (chkQ p) := by
  obtain ⟨w1, _, _, _, _, _, _, w2, _⟩ := hs
  unfold ref2_CheckParam chkQ
  rw [rName_s _ w1, Option.bind_some]
  cases h1 : nmL p.Name
  · rfl
  simp only [Bool.not_true, Bool.false_eq_true, if_false, if_true, outsideL_s, Option.bind_some]
  cases h2 : wiL p.Kind 1 6
  · rfl
  simp only [Bool.not_true, Bool.false_eq_true, if_false, if_true, rParts_s, Option.bind_some]
  by_cases h3 : chkF p = 0
  · simp only [h3, if_true, decide_true, Bool.not_true, Bool.false_eq_true, if_false, rTimes_s h3, Option.bind_some]
    by_cases h4 : chkT p = 0
    · simp only [h4, if_true, decide_true, Bool.not_true, Bool.false_eq_true, if_false, rkind_s h3 (fun x hx => w2.2 x hx), Option.bind_some]
      by_cases h5 : chkN p = 0
      · have hP := PartsOK.of h3 h4
        obtain ⟨o', ok', g1, g2⟩ := rtakeAll_s (cellsN_ok (number := 0) hP) []
        obtain ⟨g3, _⟩ := g2 [] ⟨rfl, fun p hp => by cases hp⟩
        simp only [h5, if_true, decide_true, Bool.not_true, Bool.false_eq_true, if_false, rcells_s hP, Option.bind_some, g1, g3]
        cases okB [] (bitsC (cellsN 0 p))
        · rfl
        · by_cases h6 : (cellsN 0 p).length = 0
          · simp [h6]
          · have : ¬ (((cellsN 0 p).length : Nat) : Int) = 0 := by omega
            simp only [if_true, if_neg h6, this, decide_false, Bool.false_eq_true, if_false, Bool.not_true]
      · simp [h5]
    · simp [h4]
  · simp [h3]
structure ParOK (p : api_Param) : Prop extends PartsOK p where
  kind : 1 ≤ p.Kind ∧ p.Kind ≤ 6
  bits : 1 ≤ bitsN p ∧ bitsN p ≤ 40
  k4 : p.Kind = 4 → (bitsN p).tmod 4 = 0
  k5 : p.Kind = 5 → bitsN p = 1
  k23 : p.Kind = 2 ∨ p.Kind = 3 → 2 ≤ bitsN p
  k6 : p.Kind = 6 → 1 ≤ p.Names.length ∧ p.Names.length ≤ 64 ∧ (p.Names.length : Int) ≤ 2 ^ (bitsN p).toNat
  uniq : okB [] (bitsC (cellsN 0 p)) = true
theorem par_ok {p : api_Param} (h : chkQ p = 0) : ParOK p := by
  unfold chkQ at h
  by_cases h1 : nmL p.Name = true
  case neg => rw [if_neg h1] at h; cases h
  rw [if_pos h1] at h
  by_cases h2 : wiL p.Kind 1 6 = true
  case neg => rw [if_neg h2] at h; cases h
  rw [if_pos h2] at h
  by_cases h3 : chkF p = 0
  case neg => rw [if_neg h3] at h; exact absurd h h3
  rw [if_pos h3] at h
  by_cases h4 : chkT p = 0
  case neg => rw [if_neg h4] at h; exact absurd h h4
  rw [if_pos h4] at h
  by_cases h5 : chkN p = 0
  case neg => rw [if_neg h5] at h; exact absurd h h5
  rw [if_pos h5] at h
  by_cases h6 : okB [] (bitsC (cellsN 0 p)) = true
  case neg => rw [if_neg h6] at h; cases h
  obtain ⟨hl, hl1, hl40⟩ := lenOK_of0 h3
  have hb1 : 1 ≤ bitsN p := by
    have := (sum_bd hl.2).1
    unfold bitsN; omega
  have h5' := h5
  unfold chkN at h5'
  have hk : kindBad p = false := by
    cases hk : kindBad p
    · rfl
    · rw [hk] at h5'; cases h5'
  rw [hk] at h5'
  simp only [kindBad, Bool.or_eq_false_iff, Bool.and_eq_false_iff] at hk
  refine { toPartsOK := PartsOK.of h3 h4, kind := wiL_iff.1 h2, bits := ⟨hb1, hl40⟩, k4 := ?_, k5 := ?_, k23 := ?_, k6 := ?_, uniq := h6 }
  · intro e; simp [e] at hk; exact hk
  · intro e; simp [e] at hk; exact hk
  · intro e
    have : bitsN p ≠ 1 := by
      intro eb
      rcases e with e | e <;> simp [e, eb] at hk
    omega
  · intro e
    simp only [e, Bool.false_eq_true, if_false, if_true] at h5'
    split at h5'
    · cases h5'
    · split at h5'
      · cases h5'
      · rename_i a b
        simp only [Bool.or_eq_true, decide_eq_true_eq, not_or] at b
        exact ⟨by omega, by omega, by omega⟩
end Go.Vx

namespace Go.Vx
open Go Go.RowKit
theorem stL_sort {p : api_Param} (h1 : 1 ≤ p.Every) : ∀ (n : Nat) (f : Int), (stL p n f).Pairwise (· < ·) ∧ ∀ x ∈ stL p n f, f ≤ x
  | 0, f => ⟨.nil, fun x h => by cases h⟩
  | n + 1, f => by
    obtain ⟨a, b⟩ := stL_sort h1 n (f + p.Every)
    unfold stL
    split
    · split
      · refine ⟨List.pairwise_cons.2 ⟨fun x hx => by have := b x hx; omega, a⟩, fun x hx => ?_⟩
        rcases List.mem_cons.1 hx with rfl | hx
        · omega
        · have := b x hx; omega
      · exact ⟨a, fun x hx => by have := b x hx; omega⟩
    · exact ⟨.nil, fun x h => by cases h⟩
def tmN (p : api_Param) (first : Int) (c : api_Cell) : Int := 64 * (first + c.Frame) + 64 * (c.Index % p.Times) / p.Times
structure CellInv (p : api_Param) (first : Int) (fs : List Int) (out : List api_Cell) : Prop where
  mod : ∃ q : Nat, out.length = q * p.Times.toNat
  low : ∀ c ∈ out, ∀ f ∈ fs, c.Frame < f
  idx : ∀ (k : Nat) c, out[k]? = some c → (c.Index % p.Times) = (((out.take k).countP fun d => decide (d.Frame = c.Frame) : Nat) : Int)
  sort : (out.map (tmN p first)).Pairwise (· < ·)
  pos : ∀ c ∈ out, 0 ≤ c.Index
theorem div_bd {x T : Int} (hT : 1 ≤ T) (h0 : 0 ≤ x) (h1 : x < T) : 0 ≤ 64 * x / T ∧ 64 * x / T < 64 := by
  refine ⟨Int.ediv_nonneg (by omega) (by omega), Int.ediv_lt_of_lt_mul (by omega) (by omega)⟩
theorem div_lt {x y T : Int} (hT : 1 ≤ T) (hT2 : T ≤ 64) (h : x < y) : 64 * x / T < 64 * y / T := by
  have h1 : (64 * x + T * 1) / T = 64 * x / T + 1 := Int.add_mul_ediv_left _ _ (by omega)
  have h2 : (64 * x + T * 1) / T ≤ 64 * y / T := Int.ediv_le_ediv (by omega) (by omega)
  omega
theorem rowC_inv {number : Int} {p : api_Param} {first : Int} (hT : 1 ≤ p.Times ∧ p.Times ≤ 57) {f : Int} {fs : List Int} {out : List api_Cell} (hf : (f :: fs).Pairwise (· < ·)) (h : CellInv p first (f :: fs) out) : CellInv p first fs (rowC number p out f) := by
  obtain ⟨q, hq⟩ := h.mod
  have hTN : p.Times = (p.Times.toNat : Int) := by omega
  obtain ⟨T, hTe⟩ : ∃ T, T = p.Times.toNat := ⟨_, rfl⟩
  rw [← hTe] at hTN hq
  have hmod : ∀ j : Nat, j < T → ((out.length + j : Nat) : Int) % p.Times = (j : Int) := fun j hj => by
    rw [hTN, ← Int.natCast_emod, hq, Nat.mul_comm, Nat.mul_add_mod, Nat.mod_eq_of_lt hj]
  have hrow : ∀ j : Nat, ((List.range T).map fun j => cellL number p ((out.length + j : Nat) : Int) f j)[j]? = if j < T then some (cellL number p ((out.length + j : Nat) : Int) f j) else none := fun j => by
    rw [List.getElem?_map]
    by_cases hj : j < T
    · rw [if_pos hj, List.getElem?_range hj]; rfl
    · rw [if_neg hj, List.getElem?_eq_none (by simpa using hj)]; rfl
  have hlow : ∀ c ∈ out, c.Frame < f := fun c hc => h.low c hc f (List.mem_cons_self ..)
  have htm : ∀ j : Nat, j < T → tmN p first (cellL number p ((out.length + j : Nat) : Int) f j) = 64 * (first + f) + 64 * (j : Int) / p.Times := fun j hj => by
    unfold tmN cellL
    simp only
    rw [hmod j hj]
  unfold rowC
  rw [← hTe]
  refine ⟨⟨q + 1, by simp [hq, ← hTe, Nat.add_mul]⟩, fun c hc g hg => ?_, fun k c hk => ?_, ?_, fun c hc => ?_⟩
  · rcases List.mem_append.1 hc with hc | hc
    · exact h.low c hc g (List.mem_cons_of_mem _ hg)
    · obtain ⟨j, _, rfl⟩ := List.mem_map.1 hc
      exact (List.pairwise_cons.1 hf).1 g hg
  · rcases Nat.lt_or_ge k out.length with hl | hl
    · rw [List.getElem?_append_left hl] at hk
      rw [List.take_append_of_le_length (Nat.le_of_lt hl)]
      exact h.idx k c hk
    · obtain ⟨j, rfl⟩ : ∃ j, k = out.length + j := ⟨k - out.length, by omega⟩
      rw [List.getElem?_append_right (by omega), Nat.add_sub_cancel_left, hrow] at hk
      by_cases hj : j < T
      · rw [if_pos hj] at hk
        cases hk
        rw [List.take_append, List.countP_append, List.take_of_length_le (by omega), Nat.add_sub_cancel_left]
        have e1 : (out.countP fun d => decide (d.Frame = (cellL number p ((out.length + j : Nat) : Int) f j).Frame)) = 0 := by
          rw [List.countP_eq_zero]
          intro d hd
          have := hlow d hd
          show ¬ decide (d.Frame = f) = true
          rw [decide_eq_true_eq]
          omega
        have e2 : ((((List.range T).map fun j => cellL number p ((out.length + j : Nat) : Int) f j).take j).countP fun d => decide (d.Frame = (cellL number p ((out.length + j : Nat) : Int) f j).Frame)) = j := by
          have : ∀ d ∈ (((List.range T).map fun j => cellL number p ((out.length + j : Nat) : Int) f j).take j), decide (d.Frame = (cellL number p ((out.length + j : Nat) : Int) f j).Frame) = true := by
            intro d hd
            obtain ⟨i, _, rfl⟩ := List.mem_map.1 (List.mem_of_mem_take hd)
            simp [cellL]
          rw [List.countP_eq_length.2 this]
          simp; omega
        rw [e1, e2, Nat.zero_add]
        exact hmod j hj
      · rw [if_neg hj] at hk; cases hk
  · rw [List.map_append, List.pairwise_append]
    refine ⟨h.sort, ?_, fun a ha b hb => ?_⟩
    · rw [List.map_map, List.pairwise_map]
      refine (List.pairwise_lt_range (n := T)).imp_of_mem fun {i j} hi hj hij => ?_
      have hi := List.mem_range.1 hi
      have hj := List.mem_range.1 hj
      simp only [Function.comp]
      rw [htm i hi, htm j hj]
      have := div_lt (x := (i : Int)) (y := (j : Int)) hT.1 (by omega) (by omega)
      omega
    · obtain ⟨c, hc, rfl⟩ := List.mem_map.1 ha
      obtain ⟨d, hd, rfl⟩ := List.mem_map.1 hb
      obtain ⟨j, hj, rfl⟩ := List.mem_map.1 hd
      have hj := List.mem_range.1 hj
      rw [htm j hj]
      have h1 := hlow c hc
      have h2 := div_bd (x := c.Index % p.Times) (T := p.Times) hT.1 (Int.emod_nonneg _ (by omega)) (Int.emod_lt_of_pos _ (by omega))
      have h3 := div_bd (x := (j : Int)) (T := p.Times) hT.1 (by omega) (by omega)
      unfold tmN
      omega
  · rcases List.mem_append.1 hc with hc | hc
    · exact h.pos c hc
    · obtain ⟨j, _, rfl⟩ := List.mem_map.1 hc
      show (0 : Int) ≤ ((out.length + j : Nat) : Int)
      omega
theorem fold_inv {number : Int} {p : api_Param} {first : Int} (hT : 1 ≤ p.Times ∧ p.Times ≤ 57) : ∀ (fs : List Int) (out : List api_Cell), fs.Pairwise (· < ·) → CellInv p first fs out → CellInv p first [] (fs.foldl (rowC number p) out)
  | [], out, _, h => h
  | f :: fs, out, hf, h => fold_inv hT fs _ (List.pairwise_cons.1 hf).2 (rowC_inv hT hf h)
theorem cells_inv {p : api_Param} (h : ParOK p) (number first : Int) : CellInv p first [] (cellsN number p) := by
  obtain ⟨hE, hF, hT, _⟩ := timA_iff h.tim
  have h0 : CellInv p first (startsN p) [] := { mod := ⟨0, by simp⟩, low := (fun c hc => by cases hc), idx := (fun k c hk => by simp at hk), sort := List.Pairwise.nil, pos := (fun c hc => by cases hc) }
  exact fold_inv hT _ _ (stL_sort (by omega) 17 p.First).1 h0
end Go.Vx

namespace Go.Vx
open Go Go.RowKit
def HH (p : api_Param) : Int := (2 : Int) ^ (bitsN p - 1).toNat
def NN (p : api_Param) : Nat := ((bitsN p).tdiv 4).toNat
def bcd : Nat → Nat → Nat
  | 0, _ => 0
  | n + 1, v => v % 10 + 16 * bcd n (v / 10)
def enc (p : api_Param) (v : Int) : Int := if p.Kind = 2 then (if v < 0 then 2 * HH p + v else v) else if p.Kind = 3 then (if v < 0 then HH p - v else v) else if p.Kind = 4 then (bcd (NN p) v.toNat : Int) else v
end Go.Vx

namespace Go.Vx
open Go Go.RowKit
end Go.Vx

namespace Go.Vx
open Go Go.RowKit
theorem neq_s {x : Int} (h : x ≠ 0) : (!decide (x = 0)) = true := by simp [h]
end Go.Vx

namespace Go.Vx
open Go Go.RowKit
def allC : Nat → List api_Param → List api_Cell
  | _, [] => []
  | k, x :: tl => cellsN (k : Int) x ++ allC (k + 1) tl
theorem contPar_s {l : List api_Param} {f : api_Param → Option Bool} {g : api_Param → Bool} (hf : ∀ x, f x = some (g x)) (hl : l.length ≤ 1000) : slices_ContainsFunc_api_Param_api_Param l f = some (l.any g) := by
  have key : loop (t1 (slices_IndexFunc_api_Param_api_Param_L1 l f)) 0 = some (elimO Sum.inl (Sum.inr ()) (findI (fun k (x : api_Param) => if g x = true then some (k : Int) else none) 0 l)) := by
    refine loop_findI (xs := l) _ _ _ (fun k x hx => ?_) (by simp [slices_IndexFunc_api_Param_api_Param_L1])
    have hlt := lt_of hx
    have hk : i64 ((k : Int) + 1) = (k : Int) + 1 := i64s (by omega) (by omega)
    simp only [slices_IndexFunc_api_Param_api_Param_L1, hlt, decide_true, if_true, idx_of hx, Option.bind_some, hk, hf]
    by_cases hg : g x = true <;> simp [hg]
  have fnd : ∀ (k : Nat) (l : List api_Param), (l.any g = false ∧ findI (fun k (x : api_Param) => if g x = true then some (k : Int) else none) k l = none) ∨ (l.any g = true ∧ ∃ j : Nat, findI (fun k (x : api_Param) => if g x = true then some (k : Int) else none) k l = some (j : Int)) := by
    intro k l
    induction l generalizing k with
    | nil => left; exact ⟨rfl, rfl⟩
    | cons x l ih =>
      by_cases hx : g x = true
      · right; exact ⟨by simp [hx], k, by simp [findI, hx]⟩
      · have hx' : g x = false := by simpa using hx
        rcases ih (k + 1) with ⟨h1, h2⟩ | ⟨h1, j, h2⟩
        · left; exact ⟨by rw [List.any_cons, hx', Bool.false_or]; exact h1, by simp only [findI, hx', Bool.false_eq_true, if_false]; exact h2⟩
        · right; exact ⟨by rw [List.any_cons, hx', Bool.false_or]; exact h1, j, by simp only [findI, hx', Bool.false_eq_true, if_false]; exact h2⟩
  unfold slices_ContainsFunc_api_Param_api_Param slices_IndexFunc_api_Param_api_Param
  rw [key]
  rcases fnd 0 l with ⟨h1, h2⟩ | ⟨h1, j, h2⟩
  · rw [h2, h1]; rfl
  · rw [h2, h1]; simp [elimO]
def g1M (l : List api_Param) (k : Nat) (x : api_Param) : Option (Int × Int) := if chkQ x = 0 then (if ((l.take k).any fun q => decide (q.Name = x.Name)) = true then some ((k : Int), 5) else none) else some ((k : Int), chkQ x)
theorem mL1_s {m : api_Map} (hl : m.Params.length ≤ 200) : loop (t1 (layout_check_L1 m)) 0 = some (elimO Sum.inl (Sum.inr ()) (findI (g1M m.Params) 0 m.Params)) := by
  refine loop_findI (xs := m.Params) _ _ _ (fun k x hx => ?_) (by simp [layout_check_L1])
  have hlt := lt_of hx
  have hk : i64 ((k : Int) + 1) = (k : Int) + 1 := i64s (by omega) (by omega)
  simp only [layout_check_L1, hlt, decide_true, if_true, idx_of hx, Option.bind_some, hk, CheckParam_s, g1M]
  by_cases h : chkQ x = 0
  · rw [if_neg (by simp [h]), if_pos h, slc0 (by omega), Option.bind_some, contPar_s (l := m.Params.take k) (f := fun z0 => layout_check_1 z0 x) (g := fun q => decide (q.Name = x.Name)) (fun q => rfl) (by rw [List.length_take]; omega), Option.bind_some]
    by_cases ha : ((m.Params.take k).any fun q => decide (q.Name = x.Name)) = true
    · rw [if_pos ha, if_pos ha]; rfl
    · rw [if_neg ha, if_neg ha]; rfl
  · rw [if_pos (neq_s h), if_neg h]; rfl
theorem rmL1_s {m : api_Map} (hl : m.Params.length ≤ 200) (hs : wf_api_Map m) : loop (t1 (ref2_Check_L1 m)) 0 = some (elimO Sum.inl (Sum.inr ()) (findI (g1M m.Params) 0 m.Params)) := by
  refine loop_findI (xs := m.Params) _ _ _ (fun k x hx => ?_) (by simp [ref2_Check_L1])
  have hlt := lt_of hx
  have hk : i64 ((k : Int) + 1) = (k : Int) + 1 := i64s (by omega) (by omega)
  have hw : wf_api_Param x := hs.2.1.2 x (List.mem_of_getElem? hx)
  simp only [ref2_Check_L1, hlt, decide_true, if_true, idx_of hx, Option.bind_some, hk, rCheckParam_s x hw, g1M]
  by_cases h : chkQ x = 0
  · rw [if_neg (by simp [h]), if_pos h, slc0 (by omega), Option.bind_some]
    have hL := loop_find (xs := m.Params.take k) (fun y : api_Param => if y.Name = x.Name then some () else none) (fun _ => (Sum.inl ((k : Int), 5) : (Int × Int) ⊕ Unit)) (Sum.inr ()) (body := ref2_Check_L2 (k : Int) x (m.Params.take k)) (fun j y hy => by
      have hj := lt_of hy
      have hj2 : j < 200 := by have := (List.getElem?_eq_some_iff.1 hy).1; rw [List.length_take] at this; omega
      simp only [ref2_Check_L2, hj, decide_true, if_true, idx_of hy, Option.bind_some]
      rw [i64s (by omega) (by omega)]
      by_cases hxy : y.Name = x.Name <;> simp [hxy]) (by simp [ref2_Check_L2])
    rw [hL]
    have fnd : ∀ l : List api_Param, findL (fun y : api_Param => if y.Name = x.Name then some () else none) l = if (l.any fun q => decide (q.Name = x.Name)) = true then some () else none := by
      intro l
      induction l with
      | nil => rfl
      | cons y l ih => 
        by_cases hy : y.Name = x.Name
        · simp [findL, hy]
        · simp [findL, hy, ih]
    rw [fnd]
    by_cases ha : ((m.Params.take k).any fun q => decide (q.Name = x.Name)) = true
    · rw [if_pos ha, if_pos ha]; rfl
    · rw [if_neg ha, if_neg ha]; rfl
  · rw [if_pos (neq_s h), if_neg h]; rfl
theorem g1_ok {l : List api_Param} (h : findI (g1M l) 0 l = none) : ∀ x ∈ l, ParOK x := by
  intro x hx
  obtain ⟨k, hk⟩ := List.getElem?_of_mem hx
  have := findI_none 0 l h k x hk
  unfold g1M at this
  by_cases hc : chkQ x = 0
  · exact par_ok hc
  · rw [if_neg hc] at this; cases this
theorem rowC_len {number : Int} {p : api_Param} {out : List api_Cell} {f : Int} : (rowC number p out f).length = out.length + p.Times.toNat := by simp [rowC]
theorem fold_lenE {number : Int} {p : api_Param} : ∀ (fs : List Int) (out : List api_Cell), (fs.foldl (rowC number p) out).length = out.length + fs.length * p.Times.toNat
  | [], out => by simp
  | f :: fs, out => by
    rw [List.foldl_cons, fold_lenE fs, rowC_len, List.length_cons, Nat.add_mul]; omega
theorem cellsN_lenE (number : Int) (p : api_Param) : (cellsN number p).length = (startsN p).length * p.Times.toNat := by
  unfold cellsN
  rw [fold_lenE]; simp
theorem cnt_loop {m : api_Map} (hl : m.Params.length ≤ 200) (hP : ∀ x ∈ m.Params, ParOK x) : ∃ j, loop (t2 (layout_check_L2 m)) (0, 0) = some (cond (decide ((allC 0 m.Params).length ≤ 4000)) (.inr ()) (.inl (j, 3))) := by
  have key : ∀ (n k : Nat) (c : Nat), k + n = m.Params.length → c ≤ 4000 → ∃ j, loop (t2 (layout_check_L2 m)) ((c : Int), (k : Int)) = some (cond (decide (c + (allC k (m.Params.drop k)).length ≤ 4000)) (.inr ()) (.inl (j, 3))) := by
    intro n
    induction n with
    | zero =>
      intro k c hk hc
      have : k = m.Params.length := by omega
      subst this
      refine ⟨0, ?_⟩
      rw [loop_eq]
      simp [layout_check_L2, allC, hc]
    | succ n ih =>
      intro k c hk hc
      obtain ⟨x, hx⟩ := get_ex (xs := m.Params) (k := k) (by omega)
      have hlt := lt_of hx
      have hp := hP x (List.mem_of_getElem? hx)
      have hlen := cellsN_len (number := (k : Int)) hp.toPartsOK
      have hE := cellsN_lenE (k : Int) x
      obtain ⟨_, _, hT, _⟩ := timA_iff hp.tim
      have hT' : (x.Times.toNat : Int) = x.Times := by omega
      have e1 : ((startsN x).length : Int) * x.Times = ((cellsN (k : Int) x).length : Int) := by rw [hE]; push_cast; rw [hT']
      rw [drop_cons hx, loop_eq]
      simp only [t2_mk, layout_check_L2, hlt, decide_true, if_true, idx_of hx, Option.bind_some, starts_s hp.toPartsOK, e1, allC, List.length_append]
      rw [i64s (z := ((cellsN (k : Int) x).length : Int)) (by omega) (by omega), i64s (z := (c : Int) + ((cellsN (k : Int) x).length : Int)) (by omega) (by omega), i64s (z := (k : Int) + 1) (by omega) (by omega)]
      by_cases h4 : (4000 : Int) < (c : Int) + ((cellsN (k : Int) x).length : Int)
      · refine ⟨(k : Int), ?_⟩
        have : decide (c + ((cellsN (k : Int) x).length + (allC (k + 1) (m.Params.drop (k + 1))).length) ≤ 4000) = false := by rw [decide_eq_false_iff_not]; omega
        rw [this, if_pos (by simpa using h4)]; rfl
      · obtain ⟨j, hj⟩ := ih (k + 1) (c + (cellsN (k : Int) x).length) (by omega) (by omega)
        refine ⟨j, ?_⟩
        rw [if_neg (by simpa using h4)]
        rw [Nat.add_assoc] at hj
        rw [← hj]
        rfl
  have := key m.Params.length 0 0 (by omega) (by omega)
  simpa using this
theorem rcnt_loop {m : api_Map} (hl : m.Params.length ≤ 200) (hP : ∀ x ∈ m.Params, ParOK x) : ∃ j, loop (t2 (ref2_Check_L3 m)) (0, 0) = some (cond (decide ((allC 0 m.Params).length ≤ 4000)) (.inr ()) (.inl (j, 3))) := by
  have key : ∀ (n k : Nat) (c : Nat), k + n = m.Params.length → c ≤ 4000 → ∃ j, loop (t2 (ref2_Check_L3 m)) ((c : Int), (k : Int)) = some (cond (decide (c + (allC k (m.Params.drop k)).length ≤ 4000)) (.inr ()) (.inl (j, 3))) := by
    intro n
    induction n with
    | zero =>
      intro k c hk hc
      have : k = m.Params.length := by omega
      subst this
      refine ⟨0, ?_⟩
      rw [loop_eq]
      simp [ref2_Check_L3, allC, hc]
    | succ n ih =>
      intro k c hk hc
      obtain ⟨x, hx⟩ := get_ex (xs := m.Params) (k := k) (by omega)
      have hlt := lt_of hx
      have hp := hP x (List.mem_of_getElem? hx)
      have hlen := cellsN_len (number := (k : Int)) hp.toPartsOK
      rw [drop_cons hx, loop_eq]
      simp only [t2_mk, ref2_Check_L3, hlt, decide_true, if_true, idx_of hx, Option.bind_some, rcells_s hp.toPartsOK, allC, List.length_append]
      rw [i64s (z := (c : Int) + ((cellsN (k : Int) x).length : Int)) (by omega) (by omega), i64s (z := (k : Int) + 1) (by omega) (by omega)]
      by_cases h4 : (4000 : Int) < (c : Int) + ((cellsN (k : Int) x).length : Int)
      · refine ⟨(k : Int), ?_⟩
        have : decide (c + ((cellsN (k : Int) x).length + (allC (k + 1) (m.Params.drop (k + 1))).length) ≤ 4000) = false := by rw [decide_eq_false_iff_not]; omega
        rw [this, if_pos (by simpa using h4)]; rfl
      · obtain ⟨j, hj⟩ := ih (k + 1) (c + (cellsN (k : Int) x).length) (by omega) (by omega)
        refine ⟨j, ?_⟩
        rw [if_neg (by simpa using h4)]
        rw [Nat.add_assoc] at hj
        rw [← hj]
        rfl
  have := key m.Params.length 0 0 (by omega) (by omega)
  simpa using this
theorem L4_s (i3 : Int) {l : List api_Cell} (hl : cellsOK l) (o : List (layout_bit × Int)) : ∃ q, loop (t2 (layout_check_L4 i3 l)) (o, 0) = some (cond (okB (mkeys o) (bitsC l)) (.inr q) (.inl (i3, 5))) ∧ (okB (mkeys o) (bitsC l) = true → mkeys q = mkeys o ++ bitsC l) := by
  have hl0 := hl.1
  have key : ∀ (n k : Nat) (o : List (layout_bit × Int)), k + n = l.length → ∃ q, loop (t2 (layout_check_L4 i3 l)) (o, (k : Int)) = some (cond (okB (mkeys o) (bitsC (l.drop k))) (.inr q) (.inl (i3, 5))) ∧ (okB (mkeys o) (bitsC (l.drop k)) = true → mkeys q = mkeys o ++ bitsC (l.drop k)) := by
    intro n
    induction n with
    | zero =>
      intro k o hk
      have : k = l.length := by omega
      subst this
      refine ⟨o, ?_, by simp [bitsC]⟩
      rw [loop_eq]
      simp [layout_check_L4, okB, bitsC]
    | succ n ih =>
      intro k o hk
      obtain ⟨c, hc⟩ := get_ex (xs := l) (k := k) (by omega)
      have hlt := lt_of hc
      obtain ⟨hp1, hp2⟩ := hl.2 c (List.mem_of_getElem? hc)
      obtain ⟨q, h1, h2⟩ := take_s i3 hp1 hp2 o
      have e : bitsC (l.drop k) = bitsL c.Places ++ bitsC (l.drop (k + 1)) := by rw [drop_cons hc]; simp [bitsC]
      have e2 : ((k : Nat) : Int) + 1 = ((k + 1 : Nat) : Int) := by push_cast; rfl
      rw [e, okB_app, loop_eq]
      simp only [t2_mk, layout_check_L4, hlt, decide_true, if_true, idx_of hc, Option.bind_some, h1]
      rw [i64s (by omega) (by omega), e2]
      cases hok : okB (mkeys o) (bitsL c.Places) with
      | false => exact ⟨[], rfl, fun h => by cases h⟩
      | true =>
        have h3 := h2 hok
        obtain ⟨q', g1, g2⟩ := ih (k + 1) q (by omega)
        have e3 : mkeys q = mkeys o ++ bitsL c.Places := by rw [h3]; simp [mkeys, Function.comp_def]
        rw [e3] at g1 g2
        refine ⟨q', g1, fun h => ?_⟩
        rw [g2 (by simpa using h)]; simp
  exact key l.length 0 o (by omega)
theorem tk_loop {m : api_Map} (hl : m.Params.length ≤ 200) (hP : ∀ x ∈ m.Params, ParOK x) : ∃ j, loop (t2 (layout_check_L3 m)) (([] : List (layout_bit × Int)), 0) = some (cond (okB [] (bitsC (allC 0 m.Params))) (.inr ()) (.inl (j, 5))) := by
  have key : ∀ (n k : Nat) (o : List (layout_bit × Int)), k + n = m.Params.length → ∃ j, loop (t2 (layout_check_L3 m)) (o, (k : Int)) = some (cond (okB (mkeys o) (bitsC (allC k (m.Params.drop k)))) (.inr ()) (.inl (j, 5))) := by
    intro n
    induction n with
    | zero =>
      intro k o hk
      have : k = m.Params.length := by omega
      subst this
      refine ⟨0, ?_⟩
      rw [loop_eq]
      simp [layout_check_L3, allC, okB, bitsC]
    | succ n ih =>
      intro k o hk
      obtain ⟨x, hx⟩ := get_ex (xs := m.Params) (k := k) (by omega)
      have hlt := lt_of hx
      have hp := hP x (List.mem_of_getElem? hx)
      obtain ⟨q, h1, h2⟩ := L4_s (k : Int) (cellsN_ok (number := (k : Int)) hp.toPartsOK) o
      have e : bitsC (allC k (m.Params.drop k)) = bitsC (cellsN (k : Int) x) ++ bitsC (allC (k + 1) (m.Params.drop (k + 1))) := by rw [drop_cons hx]; simp [bitsC, allC]
      rw [e, okB_app, loop_eq]
      simp only [t2_mk, layout_check_L3, hlt, decide_true, if_true, idx_of hx, Option.bind_some, cells_s hp.toPartsOK, h1]
      rw [i64s (z := (k : Int) + 1) (by omega) (by omega)]
      cases hok : okB (mkeys o) (bitsC (cellsN (k : Int) x)) with
      | false => exact ⟨(k : Int), rfl⟩
      | true =>
        obtain ⟨j, hj⟩ := ih (k + 1) q (by omega)
        rw [h2 hok] at hj
        exact ⟨j, hj⟩
  exact key m.Params.length 0 [] (by omega)
theorem rtk_loop {m : api_Map} (hl : m.Params.length ≤ 200) (hP : ∀ x ∈ m.Params, ParOK x) : ∃ j, loop (t2 (ref2_Check_L4 m)) (([] : RT), 0) = some (cond (okB [] (bitsC (allC 0 m.Params))) (.inr ()) (.inl (j, 5))) := by
  have key : ∀ (n k : Nat) (o : RT) (K : List layout_bit), RK o K → k + n = m.Params.length → ∃ j, loop (t2 (ref2_Check_L4 m)) (o, (k : Int)) = some (cond (okB K (bitsC (allC k (m.Params.drop k)))) (.inr ()) (.inl (j, 5))) := by
    intro n
    induction n with
    | zero =>
      intro k o K hK hk
      have : k = m.Params.length := by omega
      subst this
      refine ⟨0, ?_⟩
      rw [loop_eq]
      simp [ref2_Check_L4, allC, okB, bitsC]
    | succ n ih =>
      intro k o K hK hk
      obtain ⟨x, hx⟩ := get_ex (xs := m.Params) (k := k) (by omega)
      have hlt := lt_of hx
      have hp := hP x (List.mem_of_getElem? hx)
      obtain ⟨o', ok', h1, h2⟩ := rtakeAll_s (cellsN_ok (number := (k : Int)) hp.toPartsOK) o
      obtain ⟨h3, h4⟩ := h2 K hK
      have e : bitsC (allC k (m.Params.drop k)) = bitsC (cellsN (k : Int) x) ++ bitsC (allC (k + 1) (m.Params.drop (k + 1))) := by rw [drop_cons hx]; simp [bitsC, allC]
      rw [e, okB_app, loop_eq]
      simp only [t2_mk, ref2_Check_L4, hlt, decide_true, if_true, idx_of hx, Option.bind_some, rcells_s hp.toPartsOK, h1]
      rw [i64s (z := (k : Int) + 1) (by omega) (by omega), ← h3]
      cases hok : ok' with
      | false => exact ⟨(k : Int), rfl⟩
      | true =>
        obtain ⟨j, hj⟩ := ih (k + 1) o' _ (h4 hok) (by omega)
        exact ⟨j, hj⟩
  exact key m.Params.length 0 [] [] ⟨rfl, fun p hp => by cases hp⟩ (by omega)
def chkM (m : api_Map) : Int := if wiL m.Version 0 2047 = true then (if m.Params.length ≤ 200 then elimO (fun e => e.2) (if (allC 0 m.Params).length ≤ 4000 then (if okB [] (bitsC (allC 0 m.Params)) = true then 0 else 5) else 3) (findI (g1M m.Params) 0 m.Params) else 3) else 9
theorem checkL_s (m : api_Map) : ∃ a, layout_check m = some (a, chkM m) := by
  unfold layout_check chkM
  rw [withinL_s, Option.bind_some]
  cases hw : wiL m.Version 0 2047
  · exact ⟨_, rfl⟩
  by_cases h2 : m.Params.length ≤ 200
  · have h2' : ¬ (200 : Int) < (m.Params.length : Int) := by omega
    rw [if_neg (by simp), if_neg (by simpa using h2'), if_pos rfl, if_pos h2, mL1_s h2]
    cases hf : findI (g1M m.Params) 0 m.Params with
    | some e => exact ⟨e.1, rfl⟩
    | none =>
      have hP := g1_ok hf
      obtain ⟨j, hj⟩ := cnt_loop h2 hP
      obtain ⟨i, hi⟩ := tk_loop h2 hP
      simp only [elimO_none, Option.bind_some, Sum.elim_inr, t0]
      rw [hj]
      by_cases h4 : (allC 0 m.Params).length ≤ 4000
      · rw [decide_eq_true h4, if_pos h4]
        simp only [cond_true, Option.bind_some, Sum.elim_inr]
        rw [hi]
        cases okB [] (bitsC (allC 0 m.Params))
        · exact ⟨i, rfl⟩
        · exact ⟨-1, rfl⟩
      · rw [decide_eq_false h4, if_neg h4]
        exact ⟨j, rfl⟩
  · have h2' : (200 : Int) < (m.Params.length : Int) := by omega
    rw [if_neg (by simp), if_pos (by simpa using h2'), if_pos rfl, if_neg h2]
    exact ⟨_, rfl⟩
theorem rcheck_s (m : api_Map) (hs : wf_api_Map m) : ∃ a, ref2_Check m = some (a, chkM m) := by
  unfold ref2_Check chkM
  rw [outsideL_s, Option.bind_some]
  cases hw : wiL m.Version 0 2047
  · exact ⟨_, rfl⟩
  by_cases h2 : m.Params.length ≤ 200
  · have h2' : ¬ (200 : Int) < (m.Params.length : Int) := by omega
    rw [if_neg (by simp), if_neg (by simpa using h2'), if_pos rfl, if_pos h2, rmL1_s h2 hs]
    cases hf : findI (g1M m.Params) 0 m.Params with
    | some e => exact ⟨e.1, rfl⟩
    | none =>
      have hP := g1_ok hf
      obtain ⟨j, hj⟩ := rcnt_loop h2 hP
      obtain ⟨i, hi⟩ := rtk_loop h2 hP
      simp only [elimO_none, Option.bind_some, Sum.elim_inr, t0]
      rw [hj]
      by_cases h4 : (allC 0 m.Params).length ≤ 4000
      · rw [decide_eq_true h4, if_pos h4]
        simp only [cond_true, Option.bind_some, Sum.elim_inr]
        rw [hi]
        cases okB [] (bitsC (allC 0 m.Params))
        · exact ⟨i, rfl⟩
        · exact ⟨0, rfl⟩
      · rw [decide_eq_false h4, if_neg h4]
        exact ⟨j, rfl⟩
  · have h2' : (200 : Int) < (m.Params.length : Int) := by omega
    rw [if_neg (by simp), if_pos (by simpa using h2'), if_pos rfl, if_neg h2]
    exact ⟨_, rfl⟩
structure MapOK (m : api_Map) : Prop where
  ver : 0 ≤ m.Version ∧ m.Version ≤ 2047
  len : m.Params.length ≤ 200
  par : ∀ x ∈ m.Params, ParOK x
  cnt : (allC 0 m.Params).length ≤ 4000
  uniq : okB [] (bitsC (allC 0 m.Params)) = true
theorem map_ok {m : api_Map} (h : chkM m = 0) : MapOK m := by
  unfold chkM at h
  by_cases h1 : wiL m.Version 0 2047 = true
  case neg => rw [if_neg h1] at h; cases h
  rw [if_pos h1] at h
  by_cases h2 : m.Params.length ≤ 200
  case neg => rw [if_neg h2] at h; cases h
  rw [if_pos h2] at h
  cases hf : findI (g1M m.Params) 0 m.Params with
  | some e =>
    exfalso
    rw [hf] at h
    have key : ∀ (l : List api_Param) (k : Nat) (tl : List api_Param) (e : Int × Int), findI (g1M l) k tl = some e → e.2 ≠ 0 := by
      intro l k tl
      induction tl generalizing k with
      | nil => intro e h; cases h
      | cons x tl ih =>
        intro e h
        simp only [findI] at h
        cases hg : g1M l k x with
        | some e' =>
          rw [hg] at h
          cases h
          unfold g1M at hg
          split at hg
          · split at hg
            · cases hg; exact (by decide : (5 : Int) ≠ 0)
            · cases hg
          · rename_i hne; cases hg; exact hne
        | none => rw [hg] at h; exact ih _ _ h
    exact key _ _ _ _ hf h
  | none =>
    rw [hf] at h
    simp only [elimO_none] at h
    by_cases h3 : (allC 0 m.Params).length ≤ 4000
    case neg => rw [if_neg h3] at h; cases h
    rw [if_pos h3] at h
    by_cases h4 : okB [] (bitsC (allC 0 m.Params)) = true
    case neg => rw [if_neg h4] at h; cases h
    exact ⟨wiL_iff.1 h1, h2, g1_ok hf, h3, h4⟩
theorem allcells_loop {m : api_Map} (h : MapOK m) {body : List api_Cell → Int → Option ((List api_Cell × Int) ⊕ List api_Cell)} {f : Int → api_Param → Option (List api_Cell)} (hf : ∀ k x, PartsOK x → f k x = some (cellsN k x))
    (hb : ∀ out i, body out i = if decide (i < (m.Params.length : Int)) = true then (idx m.Params i).bind fun x => (f i x).bind fun y => (app out y).bind fun l => some (.inl (l, (i64 (i + 1)))) else some (.inr out)) : loop (t2 body) ([], 0) = some (allC 0 m.Params) := by
  have hl := h.len
  have := loop_ix2 (xs := m.Params) (body := body) (I := fun out k => out.length + (allC k (m.Params.drop k)).length ≤ 4000) (F := fun out k => out ++ allC k (m.Params.drop k))
    (fun out k x hI hx => by
      have hlt := lt_of hx
      have hp := h.par x (List.mem_of_getElem? hx)
      rw [drop_cons hx] at hI ⊢
      simp only [allC, List.length_append] at hI ⊢
      left
      refine ⟨out ++ cellsN (k : Int) x, ?_, by rw [List.length_append]; omega, by rw [List.append_assoc]⟩
      rw [hb, if_pos (by simpa using hlt), idx_of hx, Option.bind_some, hf _ _ hp.toPartsOK, Option.bind_some, app_of (by omega), i64s (by omega) (by omega)]
      rfl)
    (fun out hI => by rw [hb, if_neg (by simp)]; simp [allC]) (a0 := []) (by simpa using h.cnt)
  simpa using this
theorem acells_s {m : api_Map} (h : MapOK m) : layout_cells m = some (allC 0 m.Params) := by
  unfold layout_cells
  rw [allcells_loop h (body := layout_cells_L1 m) (f := layout_cellsOf) (fun k x hx => cells_s hx k) (fun out i => rfl)]; rfl
theorem racells_s {m : api_Map} (h : MapOK m) : ref2_allCells m = some (allC 0 m.Params) := by
  unfold ref2_allCells
  rw [allcells_loop h (body := ref2_allCells_L1 m) (f := fun k x => ref2_cells x k) (fun k x hx => rcells_s hx k) (fun out i => rfl)]; rfl
theorem Cells_s (m : api_Map) : layout_Cells m = some (if chkM m = 0 then (allC 0 m.Params, 0) else ([], chkM m)) := by
  obtain ⟨a, hc⟩ := checkL_s m
  unfold layout_Cells
  rw [hc, Option.bind_some]
  by_cases h : chkM m = 0
  · rw [if_neg (by simp [h]), if_pos h, acells_s (map_ok h)]; rfl
  · rw [if_pos (neq_s h), if_neg h]
end Go.Vx
