/- A text of the proof: a verified executor of the program form, or the contracts of the functions that the law reaches. -/
import Derived.Test.YtafmdjdjabifjaaGreatDoorPX
set_option linter.all false
namespace Go.Vx
open Go Go.RowKit
theorem clone_of {α : Type} {l : List α} (h : l.length ≤ 4294967296) : clone l = some l := by unfold clone; rw [app_of (by simpa using h)]; rfl
def shk (l : List Int) (k : Nat) : List Int := (l.drop 1).take k ++ l.drop k
theorem shk_len {l : List Int} {k : Nat} (h : k + 1 ≤ l.length) : (shk l k).length = l.length := by
  unfold shk
  rw [List.length_append, List.length_take, List.length_drop, List.length_drop]; omega
theorem shk_get {l : List Int} {k j : Nat} (h : k + 1 ≤ l.length) (hj : k ≤ j) : (shk l k)[j]? = l[j]? := by
  unfold shk
  have e : ((l.drop 1).take k).length = k := by rw [List.length_take, List.length_drop]; omega
  rw [List.getElem?_append_right (by omega), e, List.getElem?_drop]
  congr 1; omega
theorem shk_set {l : List Int} {k : Nat} {x : Int} (h : k + 2 ≤ l.length) (hx : l[k + 1]? = some x) : (shk l k).set k x = shk l (k + 1) := by
  unfold shk
  have e : ((l.drop 1).take k).length = k := by rw [List.length_take, List.length_drop]; omega
  rw [List.set_append_right _ _ (by omega), e, Nat.sub_self]
  have h1 : k < l.length := by omega
  rw [List.drop_eq_getElem_cons h1, List.set_cons_zero]
  have h2 : (l.drop 1)[k]? = some x := by rw [List.getElem?_drop, Nat.add_comm]; exact hx
  rw [List.take_add_one, h2]
  simp
theorem shift_loop {l : List Int} (h0 : 1 ≤ l.length) (hl : l.length ≤ 1000) : loop (t2 panel_shifted_L1) (l, 0) = some (shk l (l.length - 1)) := by
  refine loop_to (body := t2 panel_shifted_L1) (fun p => ∃ k : Nat, p = (shk l k, (k : Int)) ∧ k + 1 ≤ l.length) (fun p => l.length - p.2.toNat) (fun _ => shk l (l.length - 1)) ?_ (l, 0) ⟨0, by simp [shk], h0⟩
  rintro ⟨o, i⟩ ⟨k, he, hk⟩
  obtain ⟨rfl, rfl⟩ := Prod.mk.inj he
  simp only [t2_mk]
  have hlen := shk_len hk
  have e2 : i64 ((k : Int) + 2) = (k : Int) + 2 := i64_id (by omega) (by omega)
  have e1 : i64 ((k : Int) + 1) = (k : Int) + 1 := i64_id (by omega) (by omega)
  by_cases h : k + 2 ≤ l.length
  · obtain ⟨x, hx⟩ := get_ex (xs := l) (k := k + 1) (by omega)
    obtain ⟨y, hy⟩ := get_ex (xs := l) (k := k) (by omega)
    have hlt : decide ((k : Int) + 2 ≤ ((shk l k).length : Int)) = true := decide_eq_true (by rw [hlen]; omega)
    have hs : slp (shk l k) (k : Int) ((k : Int) + 2) = some () := by
      unfold slp
      have a : decide ((0 : Int) ≤ k) = true := decide_eq_true (by omega)
      have b : decide ((k : Int) < (k : Int) + 2) = true := decide_eq_true (by omega)
      rw [a, b, hlt]; rfl
    have hc : ck (decide (2 ≤ Int.toNat ((k : Int) + 2 - (k : Int)))) = some () := by
      have : Int.toNat ((k : Int) + 2 - (k : Int)) = 2 := by omega
      rw [this]; rfl
    have ix1 : idx (shk l k) ((k : Int) + 1) = some x := by
      have := idx_of (xs := shk l k) (k := k + 1) (x := x) (by rw [shk_get hk (by omega)]; exact hx)
      exact this
    have ix0 : idx (shk l k) ((k : Int) + 0) = some y := by
      rw [Int.add_zero]; exact idx_of (by rw [shk_get hk (Nat.le_refl _)]; exact hy)
    have hst : (shk l k).set (((k : Int) + 0).toNat) x = shk l (k + 1) := by
      rw [Int.add_zero, Int.toNat_natCast]; exact shk_set h hx
    left
    refine ⟨(shk l (k + 1), (k : Int) + 1), ?_, ⟨k + 1, rfl, by omega⟩, ?_, trivial⟩
    · simp only [panel_shifted_L1, e2, hlt, if_true, hs, Option.bind_some, hc, ix1, ix0, hst, e1]
      rfl
    · simp only; omega
  · right
    have hlt : decide ((k : Int) + 2 ≤ ((shk l k).length : Int)) = false := decide_eq_false (by rw [hlen]; omega)
    obtain rfl : k = l.length - 1 := by omega
    simp only [panel_shifted_L1, e2, hlt, Bool.false_eq_true, if_false]
def shV (tape : List Int) (size n : Int) : List Int := if ((tape.length + 1 : Nat) : Int) ≤ size then tape ++ [n] else (tape ++ [n]).drop 1
theorem shifted_s {tape : List Int} (ht : tape.length ≤ 100) (size n : Int) : panel_shifted tape size n = some (shV tape size n) := by
  unfold panel_shifted shV
  have hl : (tape ++ [n]).length = tape.length + 1 := by simp
  rw [clone_of (by omega), Option.bind_some, app_of (by simp; omega), Option.bind_some, hl]
  by_cases h : ((tape.length + 1 : Nat) : Int) ≤ size
  · simp only [h, decide_true, if_true]
  · simp only [h, decide_false, Bool.false_eq_true, if_false]
    rw [shift_loop (by omega) (by omega), hl, Nat.add_sub_cancel]
    have hk := shk_len (l := tape ++ [n]) (k := tape.length) (by omega)
    simp only [Option.bind_some, t1_mk, hk, hl]
    have e : i64 (((tape.length + 1 : Nat) : Int) - 1) = (tape.length : Int) := by
      rw [show (((tape.length + 1 : Nat) : Int) - 1) = (tape.length : Int) by omega]; exact i64_id (by omega) (by omega)
    rw [e, slc0 (by omega), Option.bind_some]
    congr 1
    unfold shk
    have e2 : ((tape ++ [n]).drop 1).length = tape.length := by rw [List.length_drop]; omega
    rw [List.take_append, List.length_take, e2, Nat.min_self, Nat.sub_self, List.take_zero, List.append_nil, List.take_take, Nat.min_self]
    exact List.take_of_length_le (by omega)
end Go.Vx

namespace Go.Vx
open Go Go.RowKit
def holdsV (op a b : Int) : Bool := if op = 1 then decide (a < b) else if op = 2 then decide (a ≤ b) else if op = 3 then decide (a = b) else if op = 4 then !decide (a = b) else if op = 5 then decide (b ≤ a) else decide (b < a)
theorem pHolds_s (op a b : Int) : panel_holds op a b = some (holdsV op a b) := by
  unfold panel_holds holdsV
  by_cases h1 : op = 1
  · simp [h1]
  · by_cases h2 : op = 2
    · simp [h2]
    · by_cases h3 : op = 3
      · simp [h3]
      · by_cases h4 : op = 4
        · simp [h4]
        · by_cases h5 : op = 5
          · simp [h5]
          · simp [h1, h2, h3, h4, h5]
def isV (i : api_Instrument) (n : Int) (known : Bool) : Bool := (known && (decide (i.Kind = 3) || decide (i.Kind = 5))) && holdsV i.Op n i.N
def advM (i : api_Instrument) (m : api_Memo) (n : Int) (known : Bool) : api_Memo :=
  if i.Kind = 3 then api_Memo.mk (isV i n known || (i.Latch && m.Lit)) m.Some m.N m.Count m.Tape
  else if i.Kind = 5 then (if (isV i n known && !m.Lit) = true then api_Memo.mk (isV i n known) m.Some m.N (i64 (m.Count + 1)) m.Tape else api_Memo.mk (isV i n known) m.Some m.N m.Count m.Tape)
  else if (decide (i.Kind = 4) && known) = true then api_Memo.mk m.Lit true (if m.Some = true then max n m.N else n) m.Count m.Tape
  else if (decide (i.Kind = 6) && known) = true then api_Memo.mk m.Lit m.Some m.N m.Count (shV m.Tape i.Size n) else m
theorem advM_s (i : api_Instrument) (m : api_Memo) (n : Int) (known : Bool) (ht : m.Tape.length ≤ 100) : panel_advancedMemo i m n known = some (advM i m n known) := by
  unfold panel_advancedMemo advM
  rw [pHolds_s, gd_b, shifted_s ht]
  simp only [Option.bind_some]
  have e : ((known && (decide (i.Kind = 3) || decide (i.Kind = 5))) && ((known && (decide (i.Kind = 3) || decide (i.Kind = 5))) == true && holdsV i.Op n i.N)) = isV i n known := by
    unfold isV
    cases (known && (decide (i.Kind = 3) || decide (i.Kind = 5))) <;> simp
  simp only [e]
  by_cases h3 : i.Kind = 3
  · simp [h3]
  · by_cases h5 : i.Kind = 5
    · simp only [h5, decide_true, if_true]
      cases isV i n known <;> cases m.Lit <;> simp
    · by_cases h4 : i.Kind = 4
      · cases known <;> cases m.Some <;> simp [h4]
      · by_cases h6 : i.Kind = 6
        · cases known <;> simp [h6]
        · simp [h3, h4, h5, h6]
def badM (i : api_Instrument) (m : api_Memo) : Bool :=
  ((((m.Lit && (!((decide (i.Kind = 3)) || (decide (i.Kind = 5))))) || ((m.Some || (!decide (m.N = 0))) && (!(decide (i.Kind = 4))))) || ((!decide (m.Count = 0)) && (!(decide (i.Kind = 5))))) || ((decide (0 < (m.Tape.length : Int))) && (!(decide (i.Kind = 6))))) || ((!decide (m.N = 0)) && (!m.Some))
def memoV (i : api_Instrument) (m : api_Memo) : Int :=
  if badM i m = true then 2 else if (!wi m.Count 0 20000 || !nb50 m.N) = true then 9 else if i.Size < (m.Tape.length : Int) then 3 else if m.Tape.any (fun z => !nb50 z) = true then 9 else 0
structure MemoOK (i : api_Instrument) (m : api_Memo) : Prop where
  lit : m.Lit = true → i.Kind = 3 ∨ i.Kind = 5
  some : m.Some = true → i.Kind = 4
  num : m.N ≠ 0 → i.Kind = 4 ∧ m.Some = true
  cnt : m.Count ≠ 0 → i.Kind = 5
  tape : 0 < m.Tape.length → i.Kind = 6
  cr : 0 ≤ m.Count ∧ m.Count ≤ 20000
  nr : nb50 m.N = true
  len : (m.Tape.length : Int) ≤ i.Size
  all : ∀ z ∈ m.Tape, nb50 z = true
theorem memo_ok {i : api_Instrument} {m : api_Memo} : memoV i m = 0 ↔ MemoOK i m := by
  unfold memoV
  constructor
  · intro h
    split at h
    · cases h
    rename_i hb
    split at h
    · cases h
    rename_i hc
    split at h
    · cases h
    rename_i hl
    split at h
    · cases h
    rename_i ha
    simp only [badM, Bool.or_eq_true, Bool.and_eq_true, Bool.not_eq_true', Bool.or_eq_false_iff, decide_eq_true_eq, decide_eq_false_iff_not, not_or, not_and, Classical.not_not, Bool.not_eq_false] at hb hc ha
    obtain ⟨⟨⟨⟨b1, b2⟩, b3⟩, b4⟩, b5⟩ := hb
    obtain ⟨c1, c2⟩ := hc
    refine ⟨fun h => ?_, fun h => b2 (.inl h), fun h => ⟨b2 (.inr h), b5 h⟩, fun h => b3 h, fun h => b4 (by omega), wi_iff.1 c1, c2, by omega, fun z hz => ?_⟩
    · have := b1 h
      by_cases h3 : i.Kind = 3
      · exact .inl h3
      · exact .inr (this h3)
    · have := ha
      simp only [List.any_eq_true, not_exists, not_and, Bool.not_eq_true', Bool.not_eq_false] at this
      exact this z hz
  · intro h
    have hb : badM i m = false := by
      simp only [badM, Bool.or_eq_false_iff, Bool.and_eq_false_iff, Bool.not_eq_false', Bool.or_eq_true, decide_eq_true_eq, decide_eq_false_iff_not]
      refine ⟨⟨⟨⟨?_, ?_⟩, ?_⟩, ?_⟩, ?_⟩
      · cases hl : m.Lit with
        | false => exact .inl rfl
        | true => exact .inr (h.lit hl)
      · by_cases h4 : i.Kind = 4
        · exact .inr h4
        · left
          constructor
          · cases hs : m.Some with
            | false => rfl
            | true => exact absurd (h.some hs) h4
          · by_cases hn : m.N = 0
            · exact hn
            · exact absurd (h.num hn).1 h4
      · by_cases hc : m.Count = 0
        · exact .inl hc
        · exact .inr (h.cnt hc)
      · by_cases ht : 0 < m.Tape.length
        · exact .inr (h.tape ht)
        · left; omega
      · by_cases hn : m.N = 0
        · exact .inl hn
        · exact .inr (h.num hn).2
    have hc : (!wi m.Count 0 20000 || !nb50 m.N) = false := by rw [wi_iff.2 h.cr, h.nr]; rfl
    have ha : m.Tape.any (fun z => !nb50 z) = false := by
      rw [List.any_eq_false]; intro z hz; rw [h.all z hz]; simp
    have hl := h.len
    rw [if_neg (by rw [hb]; simp), if_neg (by rw [hc]; simp), if_neg (by omega), if_neg (by rw [ha]; simp)]
theorem shV_ok {tape : List Int} {size n : Int} (hs : 1 ≤ size) (hl : (tape.length : Int) ≤ size) (ha : ∀ z ∈ tape, nb50 z = true) (hn : nb50 n = true) : ((shV tape size n).length : Int) ≤ size ∧ ∀ z ∈ shV tape size n, nb50 z = true := by
  have hall : ∀ z ∈ tape ++ [n], nb50 z = true := fun z hz => by
    rcases List.mem_append.1 hz with h | h
    · exact ha z h
    · rw [List.mem_singleton] at h; subst h; exact hn
  unfold shV
  split
  · rename_i h
    exact ⟨by simp; omega, hall⟩
  · exact ⟨by simp; omega, fun z hz => hall z (List.mem_of_mem_drop hz)⟩
theorem adv_ok {i : api_Instrument} {m : api_Memo} (hm : MemoOK i m) (h6 : i.Kind = 6 → 1 ≤ i.Size) {n : Int} (hn : nb50 n = true) (known : Bool) (hc : m.Count ≠ 20000) : MemoOK i (advM i m n known) := by
  have hcr := hm.cr
  unfold advM
  split
  · rename_i k3
    exact ⟨fun _ => .inl k3, hm.some, hm.num, hm.cnt, hm.tape, hm.cr, hm.nr, hm.len, hm.all⟩
  · split
    · rename_i k5
      have e : i64 (m.Count + 1) = m.Count + 1 := i64_id (by omega) (by omega)
      split
      · exact ⟨fun _ => .inr k5, hm.some, hm.num, fun _ => k5, hm.tape, by rw [e]; exact ⟨by simp only; omega, by simp only; omega⟩, hm.nr, hm.len, hm.all⟩
      · exact ⟨fun _ => .inr k5, hm.some, hm.num, fun _ => k5, hm.tape, hm.cr, hm.nr, hm.len, hm.all⟩
    · split
      · rename_i k
        simp only [Bool.and_eq_true, decide_eq_true_eq] at k
        refine ⟨hm.lit, fun _ => k.1, fun _ => ⟨k.1, rfl⟩, hm.cnt, hm.tape, hm.cr, ?_, hm.len, hm.all⟩
        show nb50 (if m.Some = true then max n m.N else n) = true
        split
        · have h1 := wi_iff.1 hn
          have h2 := wi_iff.1 hm.nr
          refine wi_iff.2 ⟨by omega, by omega⟩
        · exact hn
      · split
        · rename_i k
          simp only [Bool.and_eq_true, decide_eq_true_eq] at k
          obtain ⟨s1, s2⟩ := shV_ok (h6 k.1) hm.len hm.all hn
          exact ⟨hm.lit, hm.some, hm.num, hm.cnt, fun _ => k.1, hm.cr, hm.nr, s1, s2⟩
        · exact hm
end Go.Vx

namespace Go.Vx
open Go Go.RowKit
def stG (p : api_Panel) (k : Nat) (m : api_Memo) : Option Int := match p.Instruments[k]? with | some i => if memoV i m ≠ 0 then some (memoV i m) else none | none => none
def stateV (p : api_Panel) (s : api_PanelState) : Int :=
  if wi s.Frame (-1) 19999 = false then 9 else if ¬ (s.Memos.length : Int) = (p.Instruments.length : Int) then 2 else elimO id 0 (findI (stG p) 0 s.Memos)
theorem findI_of_none {α ε : Type} {g : Nat → α → Option ε} : ∀ (k : Nat) (xs : List α), (∀ (j : Nat) x, xs[j]? = some x → g (k + j) x = none) → findI g k xs = none
  | _, [], _ => rfl
  | k, x :: tl, h => by
    simp only [findI]
    have h0 := h 0 x rfl
    rw [Nat.add_zero] at h0
    rw [h0]
    exact findI_of_none (k + 1) tl fun j y hy => by
      have := h (j + 1) y (by simpa using hy)
      rwa [show k + (j + 1) = k + 1 + j by omega] at this
theorem state_ok {p : api_Panel} {s : api_PanelState} : stateV p s = 0 ↔ ((-1 ≤ s.Frame ∧ s.Frame ≤ 19999) ∧ s.Memos.length = p.Instruments.length ∧ ∀ (k : Nat) i m, p.Instruments[k]? = some i → s.Memos[k]? = some m → MemoOK i m) := by
  unfold stateV
  constructor
  · intro h
    split at h
    · cases h
    rename_i hf
    split at h
    · cases h
    rename_i hl
    have hl' : s.Memos.length = p.Instruments.length := by omega
    refine ⟨wi_iff.1 (by simpa using hf), hl', fun k i m hi hm => ?_⟩
    have hnone : findI (stG p) 0 s.Memos = none := by
      cases hh : findI (stG p) 0 s.Memos with
      | none => rfl
      | some e =>
        exfalso
        rw [hh] at h
        have he : e = 0 := h
        subst he
        have key : ∀ (k : Nat) (xs : List api_Memo), findI (stG p) k xs ≠ some 0 := by
          intro k xs
          induction xs generalizing k with
          | nil => intro e; cases e
          | cons x tl ih =>
            intro e
            simp only [findI] at e
            cases hg : stG p k x with
            | none => rw [hg] at e; exact ih _ e
            | some v =>
              rw [hg] at e
              cases e
              unfold stG at hg
              split at hg
              · split at hg
                · rename_i h0; exact h0 (Option.some.inj hg)
                · cases hg
              · cases hg
        exact key 0 _ hh
    have := findI_none 0 s.Memos hnone k m hm
    rw [Nat.zero_add] at this
    unfold stG at this
    rw [hi] at this
    simp only at this
    split at this
    · cases this
    · rename_i h0; exact memo_ok.1 (by omega)
  · rintro ⟨hf, hl, h⟩
    rw [if_neg (by rw [wi_iff.2 hf]; simp), if_neg (by omega)]
    rw [findI_of_none 0 s.Memos fun j m hm => ?_]
    · rfl
    · rw [Nat.zero_add]
      obtain ⟨i, hi⟩ := get_ex (xs := p.Instruments) (k := j) (by have := (List.getElem?_eq_some_iff.1 hm).1; omega)
      unfold stG
      rw [hi]
      simp only
      rw [if_neg (by simp [memo_ok.2 (h j i m hi hm)])]
theorem panV_inst {p : api_Panel} (h : panV p = 0) {i : api_Instrument} (hi : i ∈ p.Instruments) : instV i = 0 := by
  unfold panV at h
  split at h
  · cases h
  · obtain ⟨j, hj⟩ := List.mem_iff_getElem?.1 hi
    cases hf : findI (panG p.Instruments) 0 p.Instruments with
    | none =>
      have := findI_none 0 _ hf j i hj
      unfold panG at this
      split at this
      · cases this
      · rename_i h0; omega
    | some e =>
      rw [hf] at h
      have he : e = 0 := h
      subst he
      exfalso
      have key : ∀ (k : Nat) (xs : List api_Instrument), findI (panG p.Instruments) k xs ≠ some 0 := by
        intro k xs
        induction xs generalizing k with
        | nil => intro e; cases e
        | cons x tl ih =>
          intro e
          simp only [findI] at e
          cases hg : panG p.Instruments k x with
          | none => rw [hg] at e; exact ih _ e
          | some v =>
            rw [hg] at e
            cases e
            unfold panG at hg
            split at hg
            · rename_i h0; exact h0 (Option.some.inj hg)
            · split at hg <;> cases hg
      exact key 0 _ hf
theorem inst_size {i : api_Instrument} (h : instV i = 0) : (i.Kind = 6 → 1 ≤ i.Size) ∧ i.Size ≤ 50 := by
  unfold instV at h
  split at h
  · cases h
  split at h
  · cases h
  split at h
  · cases h
  rename_i hu
  split at h
  · cases h
  by_cases h6 : i.Kind = 6
  · rw [if_neg (by omega), if_neg (by omega), if_pos h6] at h
    split at h
    · cases h
    · rename_i hs
      have := wi_iff.1 (show wi i.Size 1 50 = true by simpa using hs)
      exact ⟨fun _ => this.1, this.2⟩
  · refine ⟨fun e => absurd e h6, ?_⟩
    have : i.Size = 0 := by
      have hu : unV i = false := by simpa using hu
      unfold unV at hu
      simp only [Bool.or_eq_false_iff] at hu
      have h1 := hu.2
      simp only [h6, decide_false, Bool.not_false, Bool.and_true, Bool.not_eq_false', decide_eq_true_eq] at h1
      exact h1
    omega
end Go.Vx

namespace Go.Vx
open Go Go.RowKit
theorem held_in {xs : List Smp} {t long : Int} {x : Smp} (h : heldAt xs t long = some x) : ∃ k : Nat, xs[k]? = some x := by
  simp only [heldAt, Option.bind_eq_some_iff] at h
  obtain ⟨y, h1, h2⟩ := h
  split at h2
  · cases h2
    unfold lastLe at h1
    split at h1
    · cases h1
    · exact ⟨_, h1⟩
  · cases h2
theorem vV_num {t : api_Track} (hc : (chk t.Series).2 = 0) (f : Int) : nb50 (vV t f).1.N = true := by
  have hs := ser_ok hc
  unfold vV
  cases hh : heldAt t.Series.Samples (64 * f + 63) t.Long with
  | none => simp only [outH]; decide
  | some x =>
    obtain ⟨k, hk⟩ := held_in hh
    exact wi_iff.2 (hs.at' k x hk).2.1
def nxt (p : api_Panel) (l : List api_Track) (s : api_PanelState) (k : Nat) : api_Memo :=
  match p.Instruments[k]?, s.Memos[k]? with
  | some i, some m => match tkT l i.Track with
    | some t => advM i m (vV t (s.Frame + 1)).1.N (vV t (s.Frame + 1)).2
    | none => m
  | _, _ => api_Memo.mk false false 0 0 []
theorem bothV_ok {p : api_Panel} {l : List api_Track} (h : bothV p l = 0) : panV p = 0 ∧ ckT l = 0 ∧ ∀ i ∈ p.Instruments, ∃ (m : Nat) (t : api_Track), tkI l i.Track = some (m : Int) ∧ tkT l i.Track = some t ∧ l[m]? = some t := by
  unfold bothV at h
  split at h
  · rename_i h'; exact absurd h h'
  rename_i h1
  split at h
  · rename_i h'; exact absurd h h'
  rename_i h2
  split at h
  · cases h
  rename_i h3
  refine ⟨by omega, by omega, fun i hi => ?_⟩
  have h3 : p.Instruments.any (noTk l) = false := by simpa using h3
  rw [List.any_eq_false] at h3
  have hno := h3 i hi
  rcases tk_two l i.Track with ⟨_, b⟩ | h
  · exact absurd (by unfold noTk; rw [b]; rfl) hno
  · exact h
theorem memo_tape {i : api_Instrument} {m : api_Memo} (hm : MemoOK i m) (hi : instV i = 0) : m.Tape.length ≤ 100 := by
  have := hm.len; have := (inst_size hi).2; omega
theorem advance_s {p : api_Panel} {l : List api_Track} {s : api_PanelState} (hb : bothV p l = 0) (hs : stateV p s = 0) (hf : s.Frame ≠ 19999) :
    panel_advance p l s = some (api_PanelState.mk (s.Frame + 1) ((List.range p.Instruments.length).map (nxt p l s))) := by
  obtain ⟨b1, b2, b3⟩ := bothV_ok hb
  obtain ⟨s1, s2, s3⟩ := state_ok.1 hs
  have hp := panV_len b1
  have hl := ckT_len b2
  have e0 : i64 (s.Frame + 1) = s.Frame + 1 := i64_id (by omega) (by omega)
  have h : loop (t2 (panel_advance_L1 p l s)) ([], 0) = some ((List.range p.Instruments.length).map (nxt p l s)) := by
    refine loop_ix2 (xs := p.Instruments) (body := panel_advance_L1 p l s) (fun a k => a = (List.range k).map (nxt p l s)) (fun _ _ => (List.range p.Instruments.length).map (nxt p l s)) (fun a k i ha hi => ?_) (fun a ha => ?_) (by simp)
    · have hlt := lt_of hi
      have him := List.mem_of_getElem? hi
      obtain ⟨j, t, t1', t2', t3'⟩ := b3 i him
      obtain ⟨m, hm⟩ := get_ex (xs := s.Memos) (k := k) (by omega)
      have hmo := s3 k i m hi hm
      have hin := panV_inst b1 him
      have htl := memo_tape hmo hin
      obtain ⟨c1, c2⟩ := ckT_ok b2 (List.mem_of_getElem? t3')
      have e1 : i64 ((k : Int) + 1) = (k : Int) + 1 := i64_id (by omega) (by omega)
      have a1 : panel_trackOf l i = some (j : Int) := by rw [trackOf_s hl, t1']; rfl
      have a2 := (val_s c1 c2 (frame := s.Frame + 1) (by omega) (by omega)).1
      have hn : nxt p l s k = advM i m (vV t (s.Frame + 1)).1.N (vV t (s.Frame + 1)).2 := by
        unfold nxt; rw [hi, hm]; simp only; rw [t2']
      have hal : a.length = k := by rw [ha]; simp
      left
      refine ⟨a ++ [nxt p l s k], ?_, ?_, rfl⟩
      · simp only [panel_advance_L1, hlt, decide_true, if_true, idx_of hi, Option.bind_some, a1, idx_of t3', e0, a2, idx_of hm, clone_of (show m.Tape.length ≤ 4294967296 by omega)]
        rw [advM_s i (api_Memo.mk m.Lit m.Some m.N m.Count m.Tape) _ _ htl]
        simp only [Option.bind_some]
        rw [show api_Memo.mk m.Lit m.Some m.N m.Count m.Tape = m from rfl, ← hn, app_of (by simp; omega)]
        simp only [Option.bind_some, e1]
      · rw [ha, List.range_succ, List.map_append]; rfl
    · rw [ha]; simp [panel_advance_L1]
  unfold panel_advance
  rw [h]
  simp only [Option.bind_some, t1_mk, e0]
end Go.Vx
