/- A text of the proof: a verified executor of the program form, or the contracts of the functions that the law reaches. -/
import Derived.Test.YtncoekfjpkfcdaaShT
import Derived.Test.YtncoekfjpkfcdaaPA
import Derived.Test.YtncoekfjpkfcdaaWfL
set_option linter.all false
namespace Go.Vx
open Go Go.RowKit
theorem dec_lo {s : ByteArray} {i : Nat} (h : (s.get! i).toNat < 128) : Utf8.decode s i = ((s.get! i).toNat, 1) := by
  simp only [Utf8.decode, Nat.add_zero]
  rw [if_pos h]
theorem dec_hi {s : ByteArray} {i : Nat} (h : ¬ (s.get! i).toNat < 128) : 128 ≤ (Utf8.decode s i).1 := by
  simp only [Utf8.decode, Nat.add_zero]
  rw [if_neg h]
  repeat' split
  all_goals first
    | (simp only [Utf8.runeError]; omega)
    | (simp only [Bool.and_eq_true, decide_eq_true_eq] at *; omega)
    | (simp only; omega)
theorem get_byte {s : Str} {k : Nat} {b : UInt8} (h : s[k]? = some b) : (ByteArray.mk s.toArray).get! k = b := by
  simp [ByteArray.get!, h]
theorem idx_any {p : Nat → Bool} (hp : ∀ x, 128 ≤ x → p x = true) {s : Str} : ∀ (f pos : Nat), s.length ≤ pos + f →
    decide (0 ≤ Lib.idxFuncFrom p true ⟨s.toArray⟩ f pos) = (s.drop pos).any fun b => p b.toNat
  | 0, pos, h => by
    have : s.drop pos = [] := List.drop_eq_nil_of_le (by omega)
    rw [this]; simp [Lib.idxFuncFrom]
  | f + 1, pos, h => by
    have hsz : (ByteArray.mk s.toArray).size = s.length := by simp [ByteArray.size]
    unfold Lib.idxFuncFrom
    rw [hsz]
    rcases Nat.lt_or_ge pos s.length with hl | hl
    · obtain ⟨b, hb⟩ := get_ex hl
      rw [if_pos hl, drop_cons hb, List.any_cons]
      have hg := get_byte hb
      by_cases h8 : b.toNat < 128
      · have hd : Utf8.decode ⟨s.toArray⟩ pos = (b.toNat, 1) := by rw [dec_lo (by rw [hg]; exact h8), hg]
        rw [hd]
        by_cases hpb : p b.toNat = true
        · rw [if_pos hpb]; simp only [hpb, Bool.true_or]; rw [decide_eq_true_eq]; omega
        · rw [if_neg hpb]
          have hpb' : p b.toNat = false := by simpa using hpb
          rw [hpb', Bool.false_or]
          exact idx_any hp f (pos + 1) (by omega)
      · have hd := dec_hi (s := ⟨s.toArray⟩) (i := pos) (by rw [hg]; exact h8)
        rw [if_pos (hp _ hd), hp b.toNat (by omega), Bool.true_or, decide_eq_true_eq]; omega
    · have : s.drop pos = [] := List.drop_eq_nil_of_le (by omega)
      rw [if_neg (by omega), this]; simp
theorem contF_s {s : Str} {f : Int → Option Bool} {p : Nat → Bool} (hf : ∀ x : Nat, f x = some (p x)) (hp : ∀ x, 128 ≤ x → p x = true) :
    containsFunc s f = some (s.any fun b => p b.toNat) := by
  unfold containsFunc
  rw [if_pos (fun x _ => by rw [hf]; rfl)]
  have e : (fun x : Nat => (f x).getD false) = p := by funext x; rw [hf]; rfl
  rw [e]
  have := idx_any hp (s := s) s.length 0 (by omega)
  rw [List.drop_zero] at this
  rw [← this]
  have hsz : (ByteArray.mk s.toArray).size = s.length := by simp [ByteArray.size]
  unfold Lib.idxFunc
  rw [hsz]
def nmL (s : Str) : Bool := match s with
  | [] => false
  | c :: tl => decide (tl.length ≤ 29) && lcB c && tl.all nbB
theorem isName1_s (x : Nat) : layout_isName_1 x = some (!nbI x) := rfl
theorem nb_hi (x : Nat) (h : 128 ≤ x) : (!nbI x) = true := by
  have h1 : decide ((x : Int) ≤ 122) = false := by rw [decide_eq_false_iff_not]; omega
  have h2 : decide ((x : Int) ≤ 57) = false := by rw [decide_eq_false_iff_not]; omega
  have h3 : decide ((x : Int) = 45) = false := by rw [decide_eq_false_iff_not]; omega
  unfold nbI lcI
  rw [h1, h2, h3]; simp
theorem any_nb : ∀ s : Str, (s.any fun b => !nbI (b.toNat : Int)) = !(s.all nbB)
  | [] => rfl
  | c :: tl => by
    rw [List.any_cons, List.all_cons, Bool.not_and, any_nb tl]; rfl
theorem isName_s (s : Str) : layout_isName s = some (nmL s) := by
  unfold layout_isName
  cases s with
  | nil => simp [nmL, gd]
  | cons c tl =>
    have h0 : sidx (c :: tl) 0 = some ((c.toNat : Nat) : Int) := rfl
    have h1 : ¬ ((c :: tl).length : Int) < 1 := by simp; omega
    rw [contF_s isName1_s nb_hi, h0]
    simp only [h1, decide_false, Bool.false_or, nmL]
    by_cases h2 : 30 < ((c :: tl).length : Int)
    · have h3 : ¬ tl.length ≤ 29 := by simp at h2; omega
      simp only [h2, h3, decide_true, decide_false, Bool.true_or, Bool.false_and, if_true]
      simp [gd]
    · have h3 : tl.length ≤ 29 := by simp at h2; omega
      have ea : ((c :: tl).any fun b => !nbI (b.toNat : Int)) = !(nbB c && tl.all nbB) := any_nb (c :: tl)
      rw [ea]
      simp only [h2, h3, decide_false, decide_true, Bool.false_or, gd_t, Option.bind_some, beq_self_eq_true, Bool.true_and]
      by_cases h4 : (c.toNat : Int) < 97
      · have : lcB c = false := by simp [lcB, lcI]; omega
        simp [h4, this, gd]
      · by_cases h5 : 122 < (c.toNat : Int)
        · have : lcB c = false := by simp [lcB, lcI]; omega
          simp [h4, h5, this]
        · have e1 : lcB c = true := by simp [lcB, lcI]; omega
          have e2 : nbB c = true := lc_nb e1
          simp [h4, h5, e1, e2]
theorem rName_s (s : Str) (hs : s.length ≤ 9223372036854775807) : ref2_IsName s = some (nmL s) := by
  unfold ref2_IsName
  have hloop : loop (t1 (ref2_IsName_L1 s)) 0 = some (elimO (fun _ => Sum.inl false) (Sum.inr ()) (findI (fun k b => if (lcB b || (decide (0 < k) && nbB b)) = true then none else some ()) 0 s)) := by
    refine loop_findI (xs := s) (body := ref2_IsName_L1 s) _ _ _ (fun k x hx => ?_) (by simp [ref2_IsName_L1])
    have hlt := lt_of hx
    have e1 : i64 ((k : Int) + 1) = (k : Int) + 1 := i64K (n := s.length) (by omega) hs
    simp only [ref2_IsName_L1, hlt, decide_true, if_true, sidx_of hx, Option.bind_some, e1]
    have e2 : (((decide (97 ≤ ((x.toNat : Nat) : Int))) && (decide (((x.toNat : Nat) : Int) ≤ 122))) || ((decide (0 < (k : Int))) && (((decide (48 ≤ ((x.toNat : Nat) : Int))) && (decide (((x.toNat : Nat) : Int) ≤ 57))) || (decide (((x.toNat : Nat) : Int) = 45))))) = (lcB x || (decide (0 < k) && nbB x)) := by
      show (lcB x || (_ && _)) = _
      have ek : decide (0 < (k : Int)) = decide (0 < k) := by rw [decide_eq_decide]; omega
      rw [ek]
      unfold nbB nbI
      show _ = (lcB x || (_ && ((lcB x || _) || _)))
      cases lcB x <;> simp
    rw [e2]
    cases (lcB x || (decide (0 < k) && nbB x)) <;> simp
  rw [hloop]
  cases s with
  | nil => simp [nmL, findI]
  | cons c tl =>
    have htl : findI (fun k b => if (lcB b || (decide (0 < k) && nbB b)) = true then none else some ()) 1 tl = if tl.all nbB then none else some () := by
      rw [← findI_all 1]
      refine findI_congr 1 tl fun j x _ => ?_
      have : decide (0 < 1 + j) = true := decide_eq_true (by omega)
      rw [this, Bool.true_and]
      cases h : lcB x with
      | false => simp
      | true => have : nbB x = true := lc_nb h; simp [this]
    simp only [findI, htl, nmL]
    cases hc : lcB c with
    | false => simp
    | true =>
      cases ha : tl.all nbB with
      | false => simp
      | true =>
        have e1 : decide (1 ≤ ((c :: tl).length : Int)) = true := by rw [decide_eq_true_eq]; simp; omega
        have e2 : decide (((c :: tl).length : Int) ≤ 30) = decide (tl.length ≤ 29) := by rw [decide_eq_decide]; simp; omega
        simp only [e1, e2]; simp
theorem bits_eq (p : api_Param) : ref2_bits p = layout_bitsOf p := rfl
end Go.Vx

namespace Go.Vx
open Go Go.RowKit
def wi (n a b : Int) : Bool := decide (a ≤ n) && decide (n ≤ b)
theorem wi_iff {n a b : Int} : wi n a b = true ↔ a ≤ n ∧ n ≤ b := by simp [wi]
theorem within_s (n a b : Int) : layout_within n a b = some (wi n a b) := rfl
theorem outside_s (n a b : Int) : ref2_outside n a b = some (!wi n a b) := by
  unfold ref2_outside wi
  congr 1
  rw [Bool.not_and]
  have e1 : decide (n < a) = !decide (a ≤ n) := by rw [← decide_not, decide_eq_decide]; omega
  have e2 : decide (b < n) = !decide (n ≤ b) := by rw [← decide_not, decide_eq_decide]; omega
  rw [e1, e2]
theorem i64s {z : Int} (h1 : -9223372036854775808 ≤ z) (h2 : z ≤ 9223372036854775807) : i64 z = z := i64_id h1 h2
def bitsN (p : api_Param) : Int := (p.Parts.map (·.Bits)).sum
def partOK (x : api_Part) : Bool := wi x.Frame 0 15 && wi x.Word 4 60 && wi x.Low 0 10 && wi x.Bits 1 (11 - x.Low)
def lenOK (p : api_Param) : Prop := p.Parts.length ≤ 8 ∧ ∀ x ∈ p.Parts, partOK x = true
theorem part_iff {x : api_Part} : partOK x = true ↔ (0 ≤ x.Frame ∧ x.Frame ≤ 15) ∧ (4 ≤ x.Word ∧ x.Word ≤ 60) ∧ (0 ≤ x.Low ∧ x.Low ≤ 10) ∧ (1 ≤ x.Bits ∧ x.Bits ≤ 11 - x.Low) := by
  simp [partOK, wi, and_assoc]
theorem sum_bd {l : List api_Part} (h : ∀ x ∈ l, partOK x = true) : (l.length : Int) ≤ (l.map (·.Bits)).sum ∧ (l.map (·.Bits)).sum ≤ 11 * (l.length : Int) := by
  induction l with
  | nil => simp
  | cons x l ih =>
    obtain ⟨h1, h2⟩ := ih fun y hy => h y (List.mem_cons_of_mem _ hy)
    have := part_iff.1 (h x List.mem_cons_self)
    simp only [List.map_cons, List.sum_cons, List.length_cons]
    push_cast
    omega
theorem bits_s {p : api_Param} (h : lenOK p) : layout_bitsOf p = some (bitsN p) := by
  have key : loop (t2 (layout_bitsOf_L1 p)) (0, 0) = some (bitsN p) := by
    have := loop_ix2 (xs := p.Parts) (body := layout_bitsOf_L1 p) (I := fun n k => n + ((p.Parts.drop k).map (·.Bits)).sum = bitsN p ∧ 0 ≤ n ∧ n ≤ 11 * k) (F := fun _ _ => bitsN p)
      (fun n k x hI hx => by
        obtain ⟨h1, h2, h3⟩ := hI
        have hp := part_iff.1 (h.2 x (List.mem_of_getElem? hx))
        have hlt := lt_of hx
        have h8 := h.1
        rw [drop_cons hx, List.map_cons, List.sum_cons] at h1
        left
        refine ⟨n + x.Bits, ?_, ⟨by omega, by omega, by push_cast; omega⟩, rfl⟩
        simp only [layout_bitsOf_L1, hlt, decide_true, if_true, idx_of hx, Option.bind_some]
        rw [i64s (by omega) (by omega), i64s (by omega) (by omega)])
      (fun n hI => by
        obtain ⟨h1, _, _⟩ := hI
        rw [List.drop_length] at h1
        simp at h1
        simp [layout_bitsOf_L1, h1]) (a0 := 0) ⟨by simp [bitsN], by omega, by omega⟩
    exact this
  unfold layout_bitsOf
  rw [key]; rfl
theorem contInt_s {xs : List Int} {v : Int} (hl : xs.length ≤ 9223372036854775807) : slices_Contains_int_int xs v = some (decide (v ∈ xs)) := by
  have key : loop (t1 (slices_Index_int_int_L1 xs v)) 0 = some (elimO Sum.inl (Sum.inr ()) (findI (fun k x => if v = x then some (k : Int) else none) 0 xs)) := by
    refine loop_findI (xs := xs) (body := slices_Index_int_int_L1 xs v) _ _ _ (fun k x hx => ?_) (by simp [slices_Index_int_int_L1])
    have hlt := lt_of hx
    simp only [slices_Index_int_int_L1, hlt, decide_true, if_true, idx_of hx, Option.bind_some]
    rw [i64K (n := xs.length) (by omega) hl]
    by_cases h : v = x <;> simp [h]
  have fnd : ∀ (k : Nat) (l : List Int), (v ∈ l ∧ ∃ j : Nat, findI (fun k x => if v = x then some (k : Int) else none) k l = some (j : Int)) ∨ (v ∉ l ∧ findI (fun k x => if v = x then some (k : Int) else none) k l = none) := by
    intro k l
    induction l generalizing k with
    | nil => right; simp [findI]
    | cons x l ih =>
      by_cases h : v = x
      · left; subst h; exact ⟨List.mem_cons_self, k, by simp [findI]⟩
      · rcases ih (k + 1) with ⟨h1, j, h2⟩ | ⟨h1, h2⟩
        · left; exact ⟨List.mem_cons_of_mem _ h1, j, by simp [findI, h, h2]⟩
        · right; exact ⟨by simp [h, h1], by simp [findI, h, h2]⟩
  unfold slices_Contains_int_int slices_Index_int_int
  rw [key]
  rcases fnd 0 xs with ⟨h1, j, h2⟩ | ⟨h1, h2⟩
  · rw [h2]; simp [h1]
  · rw [h2]; simp [h1]
theorem contStr_s {xs : List Str} {v : Str} (hl : xs.length ≤ 9223372036854775807) : slices_Contains_string_string xs v = some (decide (v ∈ xs)) := by
  have key : loop (t1 (slices_Index_string_string_L1 xs v)) 0 = some (elimO Sum.inl (Sum.inr ()) (findI (fun k x => if v = x then some (k : Int) else none) 0 xs)) := by
    refine loop_findI (xs := xs) (body := slices_Index_string_string_L1 xs v) _ _ _ (fun k x hx => ?_) (by simp [slices_Index_string_string_L1])
    have hlt := lt_of hx
    simp only [slices_Index_string_string_L1, hlt, decide_true, if_true, idx_of hx, Option.bind_some]
    rw [i64K (n := xs.length) (by omega) hl]
    by_cases h : v = x <;> simp [h]
  have fnd : ∀ (k : Nat) (l : List Str), (v ∈ l ∧ ∃ j : Nat, findI (fun k x => if v = x then some (k : Int) else none) k l = some (j : Int)) ∨ (v ∉ l ∧ findI (fun k x => if v = x then some (k : Int) else none) k l = none) := by
    intro k l
    induction l generalizing k with
    | nil => right; simp [findI]
    | cons x l ih =>
      by_cases h : v = x
      · left; subst h; exact ⟨List.mem_cons_self, k, by simp [findI]⟩
      · rcases ih (k + 1) with ⟨h1, j, h2⟩ | ⟨h1, h2⟩
        · left; exact ⟨List.mem_cons_of_mem _ h1, j, by simp [findI, h, h2]⟩
        · right; exact ⟨by simp [h, h1], by simp [findI, h, h2]⟩
  unfold slices_Contains_string_string slices_Index_string_string
  rw [key]
  rcases fnd 0 xs with ⟨h1, j, h2⟩ | ⟨h1, h2⟩
  · rw [h2]; simp [h1]
  · rw [h2]; simp [h1]
theorem loop_all {α : Type} {xs : List α} (p : α → Bool) {body : Int → Option (Int ⊕ Int ⊕ Unit)} (e : Int) (hl : xs.length ≤ 9223372036854775807)
    (h : ∀ (k : Nat) x, xs[k]? = some x → i64 ((k : Int) + 1) = (k : Int) + 1 → decide ((k : Int) < (xs.length : Int)) = true → body k = cond (p x) (some (.inl ((k : Int) + 1))) (some (.inr (.inl e))))
    (hend : body xs.length = some (.inr (.inr ()))) : loop (t1 body) 0 = some (if xs.all p = true then .inr () else .inl e) := by
  have := loop_find (xs := xs) (fun x => if p x = true then none else some ()) (fun _ => (Sum.inl e : Int ⊕ Unit)) (Sum.inr ()) (body := body) (fun k x hx => by
    rw [h k x hx (i64K (n := xs.length) (by have := lt_of hx; omega) hl) (by have := lt_of hx; simpa using this)]
    by_cases hp : p x = true <;> simp [hp]) hend
  rw [this]
  congr 1
  clear this h hend hl
  induction xs with
  | nil => rfl
  | cons x xs ih =>
    by_cases hp : p x = true
    · simp only [findL, List.all_cons, hp, if_true, Bool.true_and]; exact ih
    · have : p x = false := by simpa using hp
      simp [findL, this]
theorem partsL1_s (p : api_Param) (hl : p.Parts.length ≤ 8) : loop (t1 (layout_checkParts_L1 p)) 0 = some (if p.Parts.all partOK = true then .inr () else .inl 9) := by
  refine loop_all (xs := p.Parts) partOK 9 (by omega) (fun k x hx hi hlt => ?_) (by simp [layout_checkParts_L1])
  simp only [layout_checkParts_L1, hlt, if_true, idx_of hx, Option.bind_some, within_s, hi, partOK]
  cases wi x.Frame 0 15
  · rfl
  cases wi x.Word 4 60
  · rfl
  cases h3 : wi x.Low 0 10
  · rfl
  have := wi_iff.1 h3
  rw [i64s (by omega) (by omega)]
  cases wi x.Bits 1 (11 - x.Low) <;> rfl
theorem rPartsL1 (p : api_Param) : ref2_partsFault_L1 p = layout_checkParts_L1 p := by
  funext i
  simp only [ref2_partsFault_L1, layout_checkParts_L1, within_s, outside_s, Option.bind_some]
  split
  · congr 1; funext x
    cases wi x.Frame 0 15 <;> cases wi x.Word 4 60 <;> cases wi x.Low 0 10 <;> cases wi x.Bits 1 (i64 (11 - x.Low)) <;> rfl
  · rfl
def stepOK (p : api_Param) (x : api_Part) : Bool := decide (p.Step ≤ 60) && decide (x.Word + (p.Times - 1) * p.Step ≤ 60)
def timA (p : api_Param) : Bool := decide (p.Every ∈ ([1, 2, 4, 8, 16] : List Int)) && wi p.First 0 (p.Every - 1) && wi p.Times 1 57 && decide (0 ≤ p.Step) && (decide (p.Step = 0) == decide (p.Times = 1))
def chkT (p : api_Param) : Int := if timA p = true then (if p.Parts.all (stepOK p) = true then 0 else 9) else 9
def chkF (p : api_Param) : Int := if p.Parts.length = 0 then 13 else if 8 < p.Parts.length then 3 else if p.Parts.all partOK = true then (if 40 < bitsN p then 3 else 0) else 9
theorem timA_iff {p : api_Param} (h : timA p = true) : (p.Every = 1 ∨ p.Every = 2 ∨ p.Every = 4 ∨ p.Every = 8 ∨ p.Every = 16) ∧ (0 ≤ p.First ∧ p.First ≤ p.Every - 1) ∧ (1 ≤ p.Times ∧ p.Times ≤ 57) ∧ 0 ≤ p.Step ∧ (p.Step = 0 ↔ p.Times = 1) := by
  simp only [timA, Bool.and_eq_true, decide_eq_true_eq, wi_iff, beq_iff_eq, decide_eq_decide] at h
  obtain ⟨⟨⟨⟨h1, h2⟩, h3⟩, h4⟩, h5⟩ := h
  exact ⟨by simpa using h1, h2, h3, h4, h5⟩
theorem step_bd {t s : Int} (h1 : 1 ≤ t ∧ t ≤ 57) (h2 : 0 ≤ s) (h3 : s ≤ 60) : 0 ≤ (t - 1) * s ∧ (t - 1) * s ≤ 56 * 60 :=
  ⟨Int.mul_nonneg (by omega) h2, Int.mul_le_mul (by omega) h3 h2 (by omega)⟩
theorem timesL2_s {p : api_Param} (hp : lenOK p) (ht : timA p = true) : loop (t1 (layout_checkParts_L2 p)) 0 = some (if p.Parts.all (stepOK p) = true then .inr () else .inl 9) := by
  obtain ⟨_, _, h3, h4, _⟩ := timA_iff ht
  have h8 := hp.1
  refine loop_all (xs := p.Parts) (stepOK p) 9 (by omega) (fun k x hx hi hlt => ?_) (by simp [layout_checkParts_L2])
  simp only [layout_checkParts_L2, hlt, if_true, idx_of hx, Option.bind_some, hi, stepOK]
  have hx' := part_iff.1 (hp.2 x (List.mem_of_getElem? hx))
  by_cases h6 : p.Step ≤ 60
  · have h7 : ¬ 60 < p.Step := by omega
    have hb := step_bd h3 h4 h6
    rw [i64s (z := p.Times - 1) (by omega) (by omega), i64s (z := (p.Times - 1) * p.Step) (by omega) (by omega), i64s (by omega) (by omega)]
    by_cases h9 : x.Word + (p.Times - 1) * p.Step ≤ 60
    · have : ¬ 60 < x.Word + (p.Times - 1) * p.Step := by omega
      simp [h6, h7, h9, this]
    · have : 60 < x.Word + (p.Times - 1) * p.Step := by omega
      simp [h6, h7, h9, this]
  · have h7 : 60 < p.Step := by omega
    simp [h6, h7]
theorem rTimesL1_s {p : api_Param} (hp : lenOK p) (ht : timA p = true) : loop (t1 (ref2_timesFault_L1 p)) 0 = some (if p.Parts.all (stepOK p) = true then .inr () else .inl 9) := by
  obtain ⟨_, _, h3, h4, h5⟩ := timA_iff ht
  have h8 := hp.1
  refine loop_all (xs := p.Parts) (stepOK p) 9 (by omega) (fun k x hx hi hlt => ?_) (by simp [ref2_timesFault_L1])
  simp only [ref2_timesFault_L1, hlt, if_true, idx_of hx, Option.bind_some, hi, stepOK]
  have hx' := part_iff.1 (hp.2 x (List.mem_of_getElem? hx))
  by_cases h1 : p.Times = 1
  · have hs := h5.2 h1
    rw [hs, h1]
    have h60 : ¬ (60 : Int) < x.Word := by omega
    have h61 : x.Word ≤ 60 := by omega
    rw [i64s (z := 1 - 1) (by decide) (by decide), i64s (z := (1 - 1) * 0) (by decide) (by decide), i64s (by omega) (by omega)]
    simp [h60, h61]
  · have h1' : 1 < p.Times := by omega
    by_cases h6 : p.Step ≤ 57
    · have h7 : ¬ 57 < p.Step := by omega
      have h60 : p.Step ≤ 60 := by omega
      have hb := step_bd h3 h4 h60
      rw [i64s (z := p.Times - 1) (by omega) (by omega), i64s (z := (p.Times - 1) * p.Step) (by omega) (by omega), i64s (by omega) (by omega)]
      by_cases h9 : x.Word + (p.Times - 1) * p.Step ≤ 60
      · have : ¬ 60 < x.Word + (p.Times - 1) * p.Step := by omega
        simp [h6, h7, h9, this, h60]
      · have : 60 < x.Word + (p.Times - 1) * p.Step := by omega
        simp [h6, h7, h9, this]
    · have h7 : 57 < p.Step := by omega
      have hm : 1 * p.Step ≤ (p.Times - 1) * p.Step := Int.mul_le_mul_of_nonneg_right (by omega) h4
      have h9 : ¬ x.Word + (p.Times - 1) * p.Step ≤ 60 := by omega
      simp [h1', h7, h9]
theorem lenOK_of {p : api_Param} (h1 : ¬ 8 < p.Parts.length) (h2 : p.Parts.all partOK = true) : lenOK p :=
  ⟨by omega, fun x hx => List.all_eq_true.1 h2 x hx⟩
theorem lenOK_of0 {p : api_Param} (h : chkF p = 0) : lenOK p ∧ 1 ≤ p.Parts.length ∧ bitsN p ≤ 40 := by
  unfold chkF at h
  split at h
  · cases h
  · split at h
    · cases h
    · split at h
      · rename_i h1 h2 h3
        split at h
        · cases h
        · exact ⟨lenOK_of h2 h3, by omega, by omega⟩
      · cases h
theorem rParts_s (p : api_Param) : ref2_partsFault p = some (chkF p) := by
  unfold ref2_partsFault chkF
  by_cases h0 : p.Parts.length = 0
  · have : ((p.Parts.length : Nat) : Int) = 0 := by omega
    simp [h0]
  · have h0' : ¬ ((p.Parts.length : Nat) : Int) = 0 := by omega
    by_cases h8 : 8 < p.Parts.length
    · have h8' : (8 : Int) < ((p.Parts.length : Nat) : Int) := by omega
      rw [if_neg (by simpa using h0'), if_pos (by simpa using h8'), if_neg h0, if_pos h8]
    · have h8' : ¬ (8 : Int) < ((p.Parts.length : Nat) : Int) := by omega
      rw [if_neg (by simpa using h0'), if_neg (by simpa using h8'), if_neg h0, if_neg h8, rPartsL1, partsL1_s p (by omega)]
      by_cases ha : p.Parts.all partOK = true
      · rw [if_pos ha, if_pos ha, bits_eq, bits_s (lenOK_of h8 ha)]
        by_cases hb : 40 < bitsN p <;> simp [hb]
      · rw [if_neg ha, if_neg ha]; rfl
theorem parts_s (p : api_Param) : layout_checkParts p = some (if chkF p = 0 then chkT p else chkF p) := by
  unfold layout_checkParts chkF
  by_cases h0 : p.Parts.length = 0
  · have : ((p.Parts.length : Nat) : Int) = 0 := by omega
    simp [h0]
  · have h0' : ¬ ((p.Parts.length : Nat) : Int) = 0 := by omega
    by_cases h8 : 8 < p.Parts.length
    · have h8' : (8 : Int) < ((p.Parts.length : Nat) : Int) := by omega
      rw [if_neg (by simpa using h0'), if_pos (by simpa using h8'), if_neg h0, if_pos h8]; rfl
    · have h8' : ¬ (8 : Int) < ((p.Parts.length : Nat) : Int) := by omega
      rw [if_neg (by simpa using h0'), if_neg (by simpa using h8'), if_neg h0, if_neg h8, partsL1_s p (by omega)]
      by_cases ha : p.Parts.all partOK = true
      · have hp := lenOK_of h8 ha
        rw [if_pos ha, if_pos ha, bits_s hp]
        by_cases hb : 40 < bitsN p
        · simp [hb]
        · simp only [Option.bind_some, Sum.elim_inr, t0, hb, decide_false, if_false, contInt_s (by decide : ([1, 2, 4, 8, 16] : List Int).length ≤ 9223372036854775807), within_s, Bool.false_eq_true, if_true]
          have hcond : (∃ a b c, (a = decide (p.Every ∈ ([1, 2, 4, 8, 16] : List Int))) ∧ b = wi p.First 0 (i64 (p.Every - 1)) ∧ c = wi p.Times 1 57) := ⟨_, _, _, rfl, rfl, rfl⟩
          by_cases hE : p.Every ∈ ([1, 2, 4, 8, 16] : List Int)
          · have hE' : p.Every = 1 ∨ p.Every = 2 ∨ p.Every = 4 ∨ p.Every = 8 ∨ p.Every = 16 := by simpa using hE
            rw [i64s (z := p.Every - 1) (by omega) (by omega)]
            by_cases hA : timA p = true
            · have hA' := hA
              simp only [timA, Bool.and_eq_true] at hA'
              obtain ⟨⟨⟨⟨_, a2⟩, a3⟩, a4⟩, a5⟩ := hA'
              have a6 : decide (p.Step < 0) = false := by
                rw [decide_eq_false_iff_not]
                have := of_decide_eq_true a4
                omega
              simp only [hE, decide_true, Bool.not_true, beq_self_eq_true, gd_t, a2, a3, a5, a6, Option.bind_some, Bool.or_false, Bool.false_eq_true, if_false, timesL2_s hp hA, chkT, hA, if_true]
              by_cases hs : p.Parts.all (stepOK p) = true
              · rw [if_pos hs, if_pos hs]; rfl
              · rw [if_neg hs, if_neg hs]; rfl
            · have hA2 : timA p = false := by simpa using hA
              have e4 : decide (p.Step < 0) = !decide (0 ≤ p.Step) := by rw [← decide_not, decide_eq_decide]; omega
              simp only [timA, hE, decide_true, Bool.true_and] at hA2
              simp only [chkT, if_neg hA, hE, decide_true, Bool.not_true, e4]
              revert hA2
              cases wi p.First 0 (p.Every - 1) <;> cases wi p.Times 1 57 <;> cases decide (0 ≤ p.Step) <;> cases (decide (p.Step = 0) == decide (p.Times = 1)) <;> intro hA2 <;> first | rfl | (exact absurd hA2 (by decide))
          · have hA : ¬ timA p = true := by simp [timA, hE]
            simp only [chkT, if_neg hA, hE, decide_false, Bool.not_false]
            rfl
      · rw [if_neg ha, if_neg ha]; rfl
theorem rTimes_s {p : api_Param} (h : chkF p = 0) : ref2_timesFault p = some (chkT p) := by
  obtain ⟨hp, _, _⟩ := lenOK_of0 h
  unfold ref2_timesFault
  have e4 : decide (p.Step < 0) = !decide (0 ≤ p.Step) := by rw [← decide_not, decide_eq_decide]; omega
  by_cases hE : p.Every ∈ ([1, 2, 4, 8, 16] : List Int)
  · have hE' : p.Every = 1 ∨ p.Every = 2 ∨ p.Every = 4 ∨ p.Every = 8 ∨ p.Every = 16 := by simpa using hE
    have hsw : ((if (decide (p.Every = 1)) = true then
  if (decide (p.Every = 1)) = true then
  some (.inr ())
  else
  some (.inl 9)
  else
  if (decide (p.Every = 2)) = true then
  if (decide (p.Every = 2)) = true then
  some (.inr ())
  else
  some (.inl 9)
  else
  if (decide (p.Every = 4)) = true then
  if (decide (p.Every = 4)) = true then
  some (.inr ())
  else
  some (.inl 9)
  else
  if (decide (p.Every = 8)) = true then
  if (decide (p.Every = 8)) = true then
  some (.inr ())
  else
  some (.inl 9)
  else
  if (decide (p.Every = 16)) = true then
  some (.inr ())
  else
  some (.inl 9)) : Option ((Int) ⊕ (Unit))) = some (.inr ()) := by
      rcases hE' with h | h | h | h | h <;> rw [h] <;> rfl
    rw [hsw]
    simp only [Option.bind_some, Sum.elim_inr, t0, outside_s]
    rw [i64s (z := p.Every - 1) (by omega) (by omega), e4]
    by_cases hA : timA p = true
    · have hA' := hA
      simp only [timA, Bool.and_eq_true] at hA'
      obtain ⟨⟨⟨⟨_, a2⟩, a3⟩, a4⟩, a5⟩ := hA'
      simp only [a2, a3, a4, a5, Bool.not_true, beq_self_eq_true, gd_t, Option.bind_some, Bool.or_false, Bool.false_eq_true, if_false, rTimesL1_s hp hA, chkT, hA, if_true]
      by_cases hs : p.Parts.all (stepOK p) = true
      · rw [if_pos hs, if_pos hs]; rfl
      · rw [if_neg hs, if_neg hs]; rfl
    · have hA2 : timA p = false := by simpa using hA
      simp only [timA, hE, decide_true, Bool.true_and] at hA2
      simp only [chkT, if_neg hA]
      revert hA2
      cases wi p.First 0 (p.Every - 1) <;> cases wi p.Times 1 57 <;> cases decide (0 ≤ p.Step) <;> cases (decide (p.Step = 0) == decide (p.Times = 1)) <;> intro hA2 <;> first | rfl | (exact absurd hA2 (by decide))
  · have hA : ¬ timA p = true := by simp [timA, hE]
    have hE' : ¬ p.Every = 1 ∧ ¬ p.Every = 2 ∧ ¬ p.Every = 4 ∧ ¬ p.Every = 8 ∧ ¬ p.Every = 16 := by simpa using hE
    obtain ⟨n1, n2, n4, n8, n16⟩ := hE'
    simp [n1, n2, n4, n8, n16, chkT, hA]
end Go.Vx

namespace Go.Vx
open Go Go.RowKit
theorem pow_le {n : Nat} (h : n ≤ 61) : (1 : Int) ≤ 2 ^ n ∧ (2 : Int) ^ n ≤ 2305843009213693952 := by
  have e : ((2 ^ n : Nat) : Int) = (2 : Int) ^ n := by push_cast; rfl
  have h1 : 1 ≤ 2 ^ n := Nat.one_le_two_pow
  have h2 : 2 ^ n ≤ 2 ^ 61 := Nat.pow_le_pow_right (by decide) h
  rw [show (2 : Nat) ^ 61 = 2305843009213693952 by decide] at h2
  omega
theorem shl1 {y : Int} (h0 : 0 ≤ y) (h1 : y ≤ 61) : shl .i64 1 y = some ((2 : Int) ^ y.toNat) := by
  have e : min y.toNat IntKind.i64.bits = y.toNat := by
    have : IntKind.i64.bits = 64 := rfl
    omega
  have hb := pow_le (n := y.toNat) (by omega)
  simp only [shl, if_neg (show ¬ y < 0 by omega), e, Int.one_mul]
  have := i64s (z := (2 : Int) ^ y.toNat) (by omega) (by omega)
  unfold i64 at this
  rw [this]
def kindBad (p : api_Param) : Bool := (((decide (p.Kind = 4)) && (!decide ((bitsN p).tmod 4 = 0))) || ((decide (p.Kind = 5)) && (!decide (bitsN p = 1)))) || (((decide (p.Kind = 2)) || (decide (p.Kind = 3))) && (decide (bitsN p = 1)))
def nmG (l : List Str) (k : Nat) (x : Str) : Option Int := if nmL x = true then (if x ∈ l.take k then some 5 else none) else some 8
def chkN (p : api_Param) : Int := if kindBad p = true then 2 else if p.Kind = 6 then (if p.Names.length = 0 then 13 else if (decide (64 < p.Names.length) || decide ((2 : Int) ^ (bitsN p).toNat < p.Names.length)) = true then 3 else elimO id 0 (findI (nmG p.Names) 0 p.Names))
  else if 0 < p.Names.length then 2 else 0
theorem slc0 {α : Type} {xs : List α} {k : Nat} (h : k ≤ xs.length) : slc xs 0 (k : Int) = some (xs.take k) := by
  unfold slc
  rw [if_pos ⟨by omega, by omega, by omega⟩]
  simp
theorem names_loop {p : api_Param} (hl : p.Names.length ≤ 64) : loop (t1 (layout_checkNames_L1 p)) 0 = some (elimO Sum.inl (Sum.inr ()) (findI (nmG p.Names) 0 p.Names)) := by
  refine loop_findI (xs := p.Names) _ _ _ (fun k x hx => ?_) (by simp [layout_checkNames_L1])
  have hlt := lt_of hx
  have hk : i64 ((k : Int) + 1) = (k : Int) + 1 := i64s (by omega) (by omega)
  simp only [layout_checkNames_L1, hlt, decide_true, if_true, idx_of hx, Option.bind_some, isName_s, hk, nmG]
  cases h : nmL x
  · rfl
  · rw [slc0 (by omega), Option.bind_some, contStr_s (by rw [List.length_take]; omega)]
    by_cases hm : x ∈ p.Names.take k <;> simp [hm]
theorem rnames_loop {p : api_Param} (hl : p.Names.length ≤ 64) (hs : ∀ x ∈ p.Names, x.length ≤ 9223372036854775807) : loop (t1 (ref2_kindFault_L1 p)) 0 = some (elimO Sum.inl (Sum.inr ()) (findI (nmG p.Names) 0 p.Names)) := by
  refine loop_findI (xs := p.Names) _ _ _ (fun k x hx => ?_) (by simp [ref2_kindFault_L1])
  have hlt := lt_of hx
  have hk : i64 ((k : Int) + 1) = (k : Int) + 1 := i64s (by omega) (by omega)
  simp only [ref2_kindFault_L1, hlt, decide_true, if_true, idx_of hx, Option.bind_some, rName_s x (hs x (List.mem_of_getElem? hx)), hk, nmG]
  cases h : nmL x
  · rfl
  · have hL := loop_all (xs := p.Names.take k) (fun y => !decide (x = y)) (body := ref2_kindFault_L2 x (p.Names.take k)) 5 (by rw [List.length_take]; omega) (fun j y hy hj hlt2 => by
      simp only [ref2_kindFault_L2, hlt2, if_true, idx_of hy, Option.bind_some, hj]
      by_cases hxy : x = y <;> simp [hxy]) (by simp [ref2_kindFault_L2])
    rw [slc0 (by omega), Option.bind_some]
    simp only [Bool.not_true, if_false, Bool.false_eq_true]
    rw [hL]
    by_cases hm : x ∈ p.Names.take k
    · have : (p.Names.take k).all (fun y => !decide (x = y)) = false := by
        rw [List.all_eq_false]; exact ⟨x, hm, by simp⟩
      simp [hm, this]
    · have : (p.Names.take k).all (fun y => !decide (x = y)) = true := by
        rw [List.all_eq_true]; intro y hy
        have : x ≠ y := by rintro rfl; exact hm hy
        simp [this]
      simp [hm, this]
theorem kind_aux {p : api_Param} {β : Type} (f : Int → Option β) (g : Bool → Option β) (hfg : ∀ q, f q = g ((((decide (p.Kind = 4)) && (!decide (q = 0))) || ((decide (p.Kind = 5)) && (!decide (bitsN p = 1)))) || (((decide (p.Kind = 2)) || (decide (p.Kind = 3))) && (decide (bitsN p = 1))))) :
    (gd ((decide (p.Kind = 4)) == true) 0 (rem (bitsN p) 4)).bind f = g (kindBad p) := by
  by_cases h4 : p.Kind = 4
  · have : rem (bitsN p) 4 = some ((bitsN p).tmod 4) := by simp [rem]
    simp only [h4, decide_true, gd_tt, this, Option.bind_some, hfg, kindBad]
  · simp only [h4, decide_false, hfg, kindBad, Bool.false_and, Bool.false_or]
    show (some (0 : Int)).bind f = _
    rw [Option.bind_some, hfg]
    simp only [h4, decide_false, Bool.false_and, Bool.false_or]
theorem kind_rest {p : api_Param} (hb : 0 ≤ bitsN p ∧ bitsN p ≤ 40) {o : Option (Int ⊕ Unit)} (ho : p.Names.length ≤ 64 → o = some (elimO Sum.inl (Sum.inr ()) (findI (nmG p.Names) 0 p.Names))) (b : Bool) :
    (if b = true then
  some 2
  else
  if (!decide (p.Kind = 6)) = true then
  if (decide (0 < (p.Names.length : Int))) = true then
  some 2
  else
  some 0
  else
  if (decide ((p.Names.length : Int) = 0)) = true then
  some 13
  else
  (gd ((decide (64 < (p.Names.length : Int))) == false) 0 (shl .i64 1 (bitsN p))).bind fun q2 =>
  if ((decide (64 < (p.Names.length : Int))) || (decide (q2 < (p.Names.length : Int)))) = true then
  some 3
  else
  o.bind (Sum.elim (fun v => some v) (t0 (some 0)))) = some (if b = true then 2 else if p.Kind = 6 then (if p.Names.length = 0 then 13 else if (decide (64 < p.Names.length) || decide ((2 : Int) ^ (bitsN p).toNat < p.Names.length)) = true then 3 else elimO id 0 (findI (nmG p.Names) 0 p.Names))
  else if 0 < p.Names.length then 2 else 0) := by
  cases b
  · simp only [Bool.false_eq_true, if_false]
    by_cases h6 : p.Kind = 6
    · by_cases h0 : p.Names.length = 0
      · have : ((p.Names.length : Nat) : Int) = 0 := by omega
        simp [h6, h0]
      · have h0' : ¬ ((p.Names.length : Nat) : Int) = 0 := by omega
        by_cases h64 : 64 < p.Names.length
        · have h64' : (64 : Int) < ((p.Names.length : Nat) : Int) := by omega
          have e : decide (64 < p.Names.length) = true := decide_eq_true h64
          simp only [h6, h0, e, h64', decide_true, decide_false, Bool.not_true, Bool.true_or, if_true, if_false, Bool.false_eq_true, h0']
          rfl
        · have h64' : ¬ (64 : Int) < ((p.Names.length : Nat) : Int) := by omega
          simp only [h6, h0, h64, h64', decide_true, decide_false, Bool.not_true, Bool.false_or, if_true, if_false, Bool.false_eq_true, h0', beq_self_eq_true, gd_t, shl1 hb.1 (by omega : bitsN p ≤ 61), Option.bind_some]
          by_cases h7 : (2 : Int) ^ (bitsN p).toNat < ((p.Names.length : Nat) : Int)
          · simp [h7]
          · simp only [h7, decide_false, Bool.false_eq_true, if_false]
            rw [ho (by omega)]
            cases findI (nmG p.Names) 0 p.Names <;> rfl
    · by_cases h0 : 0 < p.Names.length
      · have h0' : (0 : Int) < ((p.Names.length : Nat) : Int) := by omega
        rw [if_neg h6, if_pos h0, if_pos (by simpa using h6), if_pos (by simpa using h0')]
      · have h0' : ¬ (0 : Int) < ((p.Names.length : Nat) : Int) := by omega
        rw [if_neg h6, if_neg h0, if_pos (by simpa using h6), if_neg (by simpa using h0')]
  · rfl
theorem bits_bd {p : api_Param} (h : lenOK p) : 0 ≤ bitsN p := by
  have := (sum_bd h.2).1
  unfold bitsN; omega
theorem names_s {p : api_Param} (h : chkF p = 0) : layout_checkNames p = some (chkN p) := by
  obtain ⟨hp, _, h40⟩ := lenOK_of0 h
  unfold layout_checkNames
  rw [bits_s hp, Option.bind_some]
  rw [kind_aux (g := fun b => some (if b = true then 2 else if p.Kind = 6 then (if p.Names.length = 0 then 13 else if (decide (64 < p.Names.length) || decide ((2 : Int) ^ (bitsN p).toNat < p.Names.length)) = true then 3 else elimO id 0 (findI (nmG p.Names) 0 p.Names)) else if 0 < p.Names.length then 2 else 0))]
  · rfl
  · intro q
    exact kind_rest ⟨bits_bd hp, h40⟩ names_loop _
theorem rkind_s {p : api_Param} (h : chkF p = 0) (hs : ∀ x ∈ p.Names, x.length ≤ 9223372036854775807) : ref2_kindFault p = some (chkN p) := by
  obtain ⟨hp, _, h40⟩ := lenOK_of0 h
  unfold ref2_kindFault
  rw [bits_eq, bits_s hp, Option.bind_some]
  rw [kind_aux (g := fun b => some (if b = true then 2 else if p.Kind = 6 then (if p.Names.length = 0 then 13 else if (decide (64 < p.Names.length) || decide ((2 : Int) ^ (bitsN p).toNat < p.Names.length)) = true then 3 else elimO id 0 (findI (nmG p.Names) 0 p.Names)) else if 0 < p.Names.length then 2 else 0))]
  · rfl
  · intro q
    exact kind_rest ⟨bits_bd hp, h40⟩ (fun hl => rnames_loop hl hs) _
end Go.Vx
