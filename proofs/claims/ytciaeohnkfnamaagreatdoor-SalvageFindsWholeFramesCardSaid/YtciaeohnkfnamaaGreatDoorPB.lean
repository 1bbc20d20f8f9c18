/- A text of the proof: a verified executor of the program form, or the contracts of the functions that the law reaches. -/
import Derived.Test.YtciaeohnkfnamaaGreatDoorPA
set_option linter.all false
namespace Go.Vx
open Go Go.RowKit
def w3 (a b c : Int) : Int := 256 * a + 16 * b + c
def w3B (n : Nat) : Bool :=
  let a : Int := ((n / 256 : Nat) : Int); let b : Int := ((n / 16 % 16 : Nat) : Int); let c : Int := ((n % 16 : Nat) : Int)
  decide (shl .u16 (u16 a) 8 = some (256 * a)) && decide (shl .u16 (u16 b) 4 = some (16 * b)) && decide (bor .u16 (bor .u16 (256 * a) (16 * b)) (u16 c) = w3 a b c) && decide (u16 (u16 (u16 (u16 a * 256) + u16 (u16 b * 16)) + u16 c) = w3 a b c)
theorem w3_all : (List.range 4096).all w3B = true := by decide +kernel
theorem w3_one {a b c : Int} (ha : 0 ≤ a ∧ a ≤ 15) (hb : 0 ≤ b ∧ b ≤ 15) (hc : 0 ≤ c ∧ c ≤ 15) :
    shl .u16 (u16 a) 8 = some (256 * a) ∧ shl .u16 (u16 b) 4 = some (16 * b) ∧ bor .u16 (bor .u16 (256 * a) (16 * b)) (u16 c) = w3 a b c ∧ u16 (u16 (u16 (u16 a * 256) + u16 (u16 b * 16)) + u16 c) = w3 a b c := by
  have := List.all_eq_true.1 w3_all (a.toNat * 256 + b.toNat * 16 + c.toNat) (List.mem_range.2 (by omega))
  simp only [w3B, Bool.and_eq_true, decide_eq_true_eq] at this
  have e1 : (((a.toNat * 256 + b.toNat * 16 + c.toNat) / 256 : Nat) : Int) = a := by omega
  have e2 : (((a.toNat * 256 + b.toNat * 16 + c.toNat) / 16 % 16 : Nat) : Int) = b := by omega
  have e3 : (((a.toNat * 256 + b.toNat * 16 + c.toNat) % 16 : Nat) : Int) = c := by omega
  rw [e1, e2, e3] at this
  exact ⟨this.1.1.1, this.1.1.2, this.1.2, this.2⟩
def hL (l : List Int) : Prop := ∀ x ∈ l, 0 ≤ x ∧ x ≤ 15
theorem wordAt_s {a b c : Int} {tl : List Int} (ha : 0 ≤ a ∧ a ≤ 15) (hb : 0 ≤ b ∧ b ≤ 15) (hc : 0 ≤ c ∧ c ≤ 15) : salvage_wordAt (a :: b :: c :: tl) = some (w3 a b c) := by
  obtain ⟨h1, h2, h3, _⟩ := w3_one ha hb hc
  unfold salvage_wordAt
  have e0 : idx (a :: b :: c :: tl) 0 = some a := by simp [idx]
  have e1 : idx (a :: b :: c :: tl) 1 = some b := by simp [idx]
  have e2 : idx (a :: b :: c :: tl) 2 = some c := by simp [idx]
  rw [e0, Option.bind_some, h1, Option.bind_some, e1, Option.bind_some, h2, Option.bind_some, e2, Option.bind_some, h3]
theorem slc3 {l : List Int} {k : Nat} {a b c : Int} (h0 : l[k]? = some a) (h1 : l[k + 1]? = some b) (h2 : l[k + 2]? = some c) : slc l (k : Int) ((k : Int) + 3) = some [a, b, c] := by
  have hk := (List.getElem?_eq_some_iff.1 h2).1
  unfold slc
  rw [if_pos (by omega)]
  congr 1
  have e1 : ((k : Int) + 3).toNat = k + 3 := by omega
  rw [e1, Int.toNat_natCast]
  have : l.take (k + 3) = l.take k ++ [a, b, c] := by
    rw [show k + 3 = k + 1 + 1 + 1 by omega, List.take_add_one, List.take_add_one, List.take_add_one, h0, h1, show k + 1 + 1 = k + 2 by omega, h2]
    simp
  rw [this, List.drop_append_of_le_length (by simp; omega), List.drop_eq_nil_of_le (by simp; omega)]
  rfl
theorem frameAt_body {h : List Int} (hh : hL h) {at_ : Int} (hat : -1000000 ≤ at_ ∧ at_ ≤ 1000000) (hlen : h.length ≤ 1000000) (f : Vector Int 64) (w : Vector Bool 64) {i : Int} (hi : 0 ≤ i) :
    ref4_frameAt_L1 h at_ f w i = salvage_partly_L1 h at_ f w i := by
  unfold ref4_frameAt_L1 salvage_partly_L1
  by_cases hi2 : i < 64
  · have e0 : decide (i < 64) = true := by simpa using hi2
    simp only [e0, if_true]
    rw [i64v (z := 3 * i) (by omega) (by omega), i64v (z := at_ + 3 * i) (by omega) (by omega), i64v (z := at_ + 3 * i + 3) (by omega) (by omega)]
    by_cases hc : 0 ≤ at_ + 3 * i ∧ at_ + 3 * i + 3 ≤ (h.length : Int)
    · rw [if_neg (by simp; omega), if_pos (by simp; omega)]
      obtain ⟨k, hk⟩ : ∃ k : Nat, at_ + 3 * i = k := ⟨(at_ + 3 * i).toNat, by omega⟩
      obtain ⟨j, rfl⟩ : ∃ j : Nat, i = j := ⟨i.toNat, by omega⟩
      rw [hk] at hc ⊢
      obtain ⟨a, ha⟩ := get_ex (xs := h) (k := k) (by omega)
      obtain ⟨b, hb⟩ := get_ex (xs := h) (k := k + 1) (by omega)
      obtain ⟨c, hc'⟩ := get_ex (xs := h) (k := k + 2) (by omega)
      have ba := hh a (List.mem_of_getElem? ha)
      have bb := hh b (List.mem_of_getElem? hb)
      have bc := hh c (List.mem_of_getElem? hc')
      have e1 : i64 ((k : Int) + 1) = ((k + 1 : Nat) : Int) := by rw [i64v (by omega) (by omega)]; push_cast; rfl
      have e2 : i64 ((k : Int) + 2) = ((k + 2 : Nat) : Int) := by rw [i64v (by omega) (by omega)]; push_cast; rfl
      rw [slc3 ha hb hc', Option.bind_some, wordAt_s ba bb bc, Option.bind_some, e1, e2, idx_of ha, idx_of hb, idx_of hc']
      obtain ⟨_, _, _, h4⟩ := w3_one ba bb bc
      simp only [Option.bind_some, h4]
      have v1 : ∃ x, vidx f (j : Int) = some x := ⟨_, by unfold vidx; rw [if_pos (by omega)]; exact List.getElem?_eq_getElem (by simp; omega)⟩
      have v2 : ∃ x, vidx w (j : Int) = some x := ⟨_, by unfold vidx; rw [if_pos (by omega)]; exact List.getElem?_eq_getElem (by simp; omega)⟩
      obtain ⟨x1, v1⟩ := v1
      obtain ⟨x2, v2⟩ := v2
      rw [v1, v2]; rfl
    · rw [if_pos (by simp; omega), if_neg (by simp; omega)]
  · have e0 : decide (i < 64) = false := by simpa using hi2
    simp only [e0, Bool.false_eq_true, if_false]
def putW (h : List Int) (at_ : Int) (s : Vector Int 64 × Vector Bool 64) (i : Nat) : Vector Int 64 × Vector Bool 64 :=
  if 0 ≤ at_ + 3 * i ∧ at_ + 3 * i + 3 ≤ (h.length : Int) then (vset s.1 i (w3 (h.getD (at_ + 3 * i).toNat 0) (h.getD ((at_ + 3 * i).toNat + 1) 0) (h.getD ((at_ + 3 * i).toNat + 2) 0)), vset s.2 i true) else s
def frW (h : List Int) (at_ : Int) : Vector Int 64 × Vector Bool 64 := (List.range 64).foldl (putW h at_) (Vector.replicate 64 0, Vector.replicate 64 false)
theorem getD_of {l : List Int} {k : Nat} {x : Int} (h : l[k]? = some x) : l.getD k 0 = x := by rw [List.getD_eq_getElem?_getD, h]; rfl
theorem range_fold_step {σ : Type} (g : σ → Nat → σ) (s0 : σ) (k : Nat) : (List.range (k + 1)).foldl g s0 = g ((List.range k).foldl g s0) k := by rw [List.range_succ, List.foldl_append]; rfl
theorem partly_s {h : List Int} (hh : hL h) {at_ : Int} (hat : -1000000 ≤ at_ ∧ at_ ≤ 1000000) (hlen : h.length ≤ 1000000) : salvage_partly h at_ = some (frW h at_) := by
  have := loop_to (body := t3 (salvage_partly_L1 h at_)) (fun s => ∃ k : Nat, s.2.2 = k ∧ k ≤ 64 ∧ (s.1, s.2.1) = (List.range k).foldl (putW h at_) (Vector.replicate 64 0, Vector.replicate 64 false)) (fun s => 64 - s.2.2.toNat) (fun _ => frW h at_) (by
    rintro ⟨f, w, i⟩ ⟨k, hi, hk, hs⟩
    simp only at hi hs
    subst hi
    show (∃ s', salvage_partly_L1 h at_ f w (k : Int) = _ ∧ _) ∨ salvage_partly_L1 h at_ f w (k : Int) = _
    rcases Nat.lt_or_ge k 64 with hlt | hge
    · left
      refine ⟨((putW h at_ (f, w) k).1, (putW h at_ (f, w) k).2, (k : Int) + 1), ?_, ⟨k + 1, by push_cast; rfl, hlt, ?_⟩, by simp only; omega, rfl⟩
      · unfold salvage_partly_L1 putW
        rw [if_pos (by simp; omega)]
        rw [i64v (z := 3 * (k : Int)) (by omega) (by omega), i64v (z := at_ + 3 * (k : Int)) (by omega) (by omega), i64v (z := at_ + 3 * (k : Int) + 3) (by omega) (by omega), i64v (z := (k : Int) + 1) (by omega) (by omega)]
        by_cases hc : 0 ≤ at_ + 3 * (k : Int) ∧ at_ + 3 * (k : Int) + 3 ≤ (h.length : Int)
        · rw [if_pos (by simp; omega), if_pos hc]
          obtain ⟨q, hq⟩ : ∃ q : Nat, at_ + 3 * (k : Int) = q := ⟨(at_ + 3 * (k : Int)).toNat, by omega⟩
          rw [hq] at hc ⊢
          obtain ⟨a, ha⟩ := get_ex (xs := h) (k := q) (by omega)
          obtain ⟨b, hb⟩ := get_ex (xs := h) (k := q + 1) (by omega)
          obtain ⟨c, hc'⟩ := get_ex (xs := h) (k := q + 2) (by omega)
          have ba := hh a (List.mem_of_getElem? ha)
          have bb := hh b (List.mem_of_getElem? hb)
          have bc := hh c (List.mem_of_getElem? hc')
          rw [slc3 ha hb hc', Option.bind_some, wordAt_s ba bb bc, Option.bind_some]
          obtain ⟨x1, v1⟩ : ∃ x, vidx f (k : Int) = some x := ⟨_, by unfold vidx; rw [if_pos (by omega)]; exact List.getElem?_eq_getElem (by simp; omega)⟩
          obtain ⟨x2, v2⟩ : ∃ x, vidx w (k : Int) = some x := ⟨_, by unfold vidx; rw [if_pos (by omega)]; exact List.getElem?_eq_getElem (by simp; omega)⟩
          rw [v1, Option.bind_some, v2, Option.bind_some, Int.toNat_natCast, getD_of ha, getD_of hb, getD_of hc']
        · rw [if_neg (by simp; omega), if_neg hc]
      · simp only
        rw [range_fold_step, ← hs]
    · right
      have : k = 64 := by omega
      subst this
      unfold salvage_partly_L1
      rw [if_neg (by decide)]
      unfold frW
      rw [← hs]) (Vector.replicate 64 0, Vector.replicate 64 false, 0) ⟨0, rfl, by omega, rfl⟩
  unfold salvage_partly
  rw [this]
  rfl
theorem zV : (#v[0, 0, 0, 0, 0, 0, 0, 0, 0, 0, 0, 0, 0, 0, 0, 0, 0, 0, 0, 0, 0, 0, 0, 0, 0, 0, 0, 0, 0, 0, 0, 0, 0, 0, 0, 0, 0, 0, 0, 0, 0, 0, 0, 0, 0, 0, 0, 0, 0, 0, 0, 0, 0, 0, 0, 0, 0, 0, 0, 0, 0, 0, 0, 0] : Vector Int 64) = Vector.replicate 64 0 := by decide
theorem zB : (#v[false, false, false, false, false, false, false, false, false, false, false, false, false, false, false, false, false, false, false, false, false, false, false, false, false, false, false, false, false, false, false, false, false, false, false, false, false, false, false, false, false, false, false, false, false, false, false, false, false, false, false, false, false, false, false, false, false, false, false, false, false, false, false, false] : Vector Bool 64) = Vector.replicate 64 false := by decide
theorem rframeAt_s {h : List Int} (hh : hL h) {at_ : Int} (hat : -1000000 ≤ at_ ∧ at_ ≤ 1000000) (hlen : h.length ≤ 1000000) : ref4_frameAt h at_ = some (frW h at_) := by
  have h1 := partly_s hh hat hlen
  unfold salvage_partly at h1
  unfold ref4_frameAt
  rw [zV, zB]
  have e : loop (t3 (ref4_frameAt_L1 h at_)) (Vector.replicate 64 0, Vector.replicate 64 false, 0) = loop (t3 (salvage_partly_L1 h at_)) (Vector.replicate 64 0, Vector.replicate 64 false, 0) := by
    have key : loop (t3 (salvage_partly_L1 h at_)) (Vector.replicate 64 0, Vector.replicate 64 false, 0) = some (frW h at_) := by
      cases hq : loop (t3 (salvage_partly_L1 h at_)) (Vector.replicate 64 0, Vector.replicate 64 false, 0) with
      | none => rw [hq] at h1; cases h1
      | some r => rw [hq] at h1; exact h1
    rw [key]
    have := loop_to (body := t3 (ref4_frameAt_L1 h at_)) (fun s => ∃ k : Nat, s.2.2 = k ∧ k ≤ 64 ∧ (s.1, s.2.1) = (List.range k).foldl (putW h at_) (Vector.replicate 64 0, Vector.replicate 64 false)) (fun s => 64 - s.2.2.toNat) (fun _ => frW h at_) (by
      rintro ⟨f, w, i⟩ ⟨k, hi, hk, hs⟩
      simp only at hi hs
      subst hi
      show (∃ s', ref4_frameAt_L1 h at_ f w (k : Int) = _ ∧ _) ∨ ref4_frameAt_L1 h at_ f w (k : Int) = _
      rw [frameAt_body hh hat hlen f w (by omega)]
      rcases Nat.lt_or_ge k 64 with hlt | hge
      · left
        refine ⟨((putW h at_ (f, w) k).1, (putW h at_ (f, w) k).2, (k : Int) + 1), ?_, ⟨k + 1, by push_cast; rfl, hlt, ?_⟩, by simp only; omega, rfl⟩
        · unfold salvage_partly_L1 putW
          rw [if_pos (by simp; omega)]
          rw [i64v (z := 3 * (k : Int)) (by omega) (by omega), i64v (z := at_ + 3 * (k : Int)) (by omega) (by omega), i64v (z := at_ + 3 * (k : Int) + 3) (by omega) (by omega), i64v (z := (k : Int) + 1) (by omega) (by omega)]
          by_cases hc : 0 ≤ at_ + 3 * (k : Int) ∧ at_ + 3 * (k : Int) + 3 ≤ (h.length : Int)
          · rw [if_pos (by simp; omega), if_pos hc]
            obtain ⟨q, hq⟩ : ∃ q : Nat, at_ + 3 * (k : Int) = q := ⟨(at_ + 3 * (k : Int)).toNat, by omega⟩
            rw [hq] at hc ⊢
            obtain ⟨a, ha⟩ := get_ex (xs := h) (k := q) (by omega)
            obtain ⟨b, hb⟩ := get_ex (xs := h) (k := q + 1) (by omega)
            obtain ⟨c, hc'⟩ := get_ex (xs := h) (k := q + 2) (by omega)
            have ba := hh a (List.mem_of_getElem? ha)
            have bb := hh b (List.mem_of_getElem? hb)
            have bc := hh c (List.mem_of_getElem? hc')
            rw [slc3 ha hb hc', Option.bind_some, wordAt_s ba bb bc, Option.bind_some]
            obtain ⟨x1, v1⟩ : ∃ x, vidx f (k : Int) = some x := ⟨_, by unfold vidx; rw [if_pos (by omega)]; exact List.getElem?_eq_getElem (by simp; omega)⟩
            obtain ⟨x2, v2⟩ : ∃ x, vidx w (k : Int) = some x := ⟨_, by unfold vidx; rw [if_pos (by omega)]; exact List.getElem?_eq_getElem (by simp; omega)⟩
            rw [v1, Option.bind_some, v2, Option.bind_some, Int.toNat_natCast, getD_of ha, getD_of hb, getD_of hc']
          · rw [if_neg (by simp; omega), if_neg hc]
        · simp only
          rw [range_fold_step, ← hs]
      · right
        have : k = 64 := by omega
        subst this
        unfold salvage_partly_L1
        rw [if_neg (by decide)]
        unfold frW
        rw [← hs]) (Vector.replicate 64 0, Vector.replicate 64 false, 0) ⟨0, rfl, by omega, rfl⟩
    exact this
  rw [e]
  exact h1
theorem hv_le {p : api_Piece} (h : chkP p = 0) : (hv p).length ≤ 400000 := by have := (chk_ok h).1; rw [hv_len]; omega
end Go.Vx

namespace Go.Vx
open Go Go.RowKit
theorem loop_st {σ ρ : Type} {body : σ → Int → Option ((σ × Int) ⊕ ρ)} (S : Nat → σ) (R : ρ) {a b : Nat} (hab : a ≤ b)
    (hstep : ∀ k : Nat, a ≤ k → k < b → body (S k) (k : Int) = some (.inl (S (k + 1), (k : Int) + 1))) (hend : body (S b) (b : Int) = some (.inr R)) :
    loop (t2 body) (S a, (a : Int)) = some R := by
  refine loop_to (body := t2 body) (fun s => ∃ k : Nat, a ≤ k ∧ k ≤ b ∧ s = (S k, (k : Int))) (fun s => b - s.2.toNat) (fun _ => R) ?_ _ ⟨a, Nat.le_refl _, hab, rfl⟩
  rintro _ ⟨k, h1, h2, rfl⟩
  rcases Nat.lt_or_ge k b with h | h
  · exact .inl ⟨_, hstep k h1 h, ⟨k + 1, by omega, h, by push_cast; rfl⟩, by simp only; omega, rfl⟩
  · obtain rfl : k = b := by omega
    exact .inr hend
theorem loop_dn {σ ρ : Type} {body : σ → Int → Option ((σ × Int) ⊕ ρ)} (S : Nat → σ) (R : ρ) {b : Nat}
    (hstep : ∀ k : Nat, k < b → body (S (b - 1 - k)) (k : Int) = some (.inl (S (b - k), (k : Int) - 1))) (hend : body (S b) (-1) = some (.inr R)) :
    loop (t2 body) (S 0, (b : Int) - 1) = some R := by
  refine loop_to (body := t2 body) (fun s => ∃ k : Nat, k ≤ b ∧ s = (S (b - k), (k : Int) - 1)) (fun s => (s.2 + 1).toNat) (fun _ => R) ?_ _ ⟨b, Nat.le_refl _, by rw [Nat.sub_self]⟩
  rintro _ ⟨k, h2, rfl⟩
  rcases Nat.eq_zero_or_pos k with rfl | h
  · exact .inr hend
  · obtain ⟨j, rfl⟩ : ∃ j, k = j + 1 := ⟨k - 1, by omega⟩
    refine .inl ⟨_, ?_, ⟨j, by omega, rfl⟩, ?_, rfl⟩
    · have := hstep j h2
      rw [show ((j + 1 : Nat) : Int) - 1 = (j : Int) by omega, show b - (j + 1) = b - 1 - j by omega]
      exact this
    · simp only; omega
def wd (f : Vector Int 64) (i : Nat) : Int := f.toList.getD i 0
def fU (f : Vector Int 64) : Prop := ∀ i, 0 ≤ wd f i ∧ wd f i ≤ 65535
theorem fU_of {f : Vector Int 64} (h : wfV (wfI .u16) f) : fU f := by
  intro i
  unfold wd
  rcases Nat.lt_or_ge i f.toList.length with hi | hi
  · obtain ⟨x, hx⟩ := get_ex hi
    rw [List.getD_eq_getElem?_getD, hx]
    exact wf_u16V (h x (List.mem_of_getElem? hx))
  · rw [List.getD_eq_getElem?_getD, List.getElem?_eq_none hi]
    exact ⟨by decide, by decide⟩
theorem vidx_w (f : Vector Int 64) {i : Nat} (hi : i < 64) : vidx f (i : Int) = some (wd f i) := by
  unfold vidx wd
  rw [if_pos (by omega), Int.toNat_natCast]
  obtain ⟨x, hx⟩ := get_ex (xs := f.toList) (k := i) (by simp; omega)
  rw [List.getD_eq_getElem?_getD, hx]; rfl
theorem data_s {x : Int} (h : 0 ≤ x ∧ x ≤ 65535) : frame_data x = some (x % 2048) := by
  obtain ⟨n, rfl⟩ : ∃ n : Nat, x = n := ⟨x.toNat, by omega⟩
  have e0 : IntKind.u16.bits = 16 := rfl
  have e1 : (BitVec.ofInt 16 (n : Int)).toNat = n := by
    rw [BitVec.ofInt_natCast, BitVec.toNat_ofNat]; exact Nat.mod_eq_of_lt (by omega)
  have e2 : (BitVec.ofInt 16 2047).toNat = 2 ^ 11 - 1 := rfl
  have e3 : band .u16 (n : Int) 2047 = ((n % 2048 : Nat) : Int) := by
    unfold band
    rw [e0, BitVec.toNat_and, e1, e2, Nat.and_two_pow_sub_one_eq_mod]
    have : n % 2 ^ 11 < 2048 := Nat.mod_lt _ (by decide)
    simp only [IntKind.wrap, IntKind.signed, IntKind.bits]
    have e : (2 : Int) ^ 16 = 65536 := by decide
    simp [e]
    omega
  unfold frame_data
  rw [e3, i64v (by omega) (by omega)]; rfl
theorem rem_n {x : Int} (h : 0 ≤ x) (n : Int) (hn : 0 < n) : rem x n = some (x % n) := by
  unfold rem
  rw [if_neg (by omega), Int.tmod_eq_emod_of_nonneg h]
def num (f : Vector Int 64) : Int := wd f 1 % 2048 + wd f 2 % 2048 * 2048
theorem num_bd (f : Vector Int 64) : 0 ≤ num f ∧ num f < 4194304 := by unfold num; omega
theorem bor_d {a b : Int} (ha : 0 ≤ a ∧ a < 2048) (hb : 0 ≤ b ∧ b < 2048) : (shl .i64 b 11).bind (fun q => some (bor .i64 a q)) = some (a + b * 2048) ∧ (shl .i64 a 11).bind (fun q => some (bor .i64 q b)) = some (a * 2048 + b) := by
  have e : ∀ z : Int, 0 ≤ z ∧ z < 2048 → shl .i64 z 11 = some (z * 2048) := fun z hz => by
    unfold shl
    rw [if_neg (by decide)]
    have e : (2 : Int) ^ min (Int.toNat 11) IntKind.i64.bits = 2048 := rfl
    rw [e, w64 (by omega) (by omega)]
  have e2 : ∀ x y : Int, 0 ≤ x ∧ x < 2048 → 0 ≤ y ∧ y < 2048 → bor .i64 x (y * 2048) = x + y * 2048 := fun x y hx hy => by
    obtain ⟨m, rfl⟩ : ∃ m : Nat, x = m := ⟨x.toNat, by omega⟩
    obtain ⟨n, rfl⟩ : ∃ n : Nat, y = n := ⟨y.toNat, by omega⟩
    have := bor_s (a := m) (b := n) (n := 11) (by rw [show (2 : Nat) ^ 11 = 2048 by decide]; omega) (by rw [show (2 : Nat) ^ 11 = 2048 by decide, show (2 : Nat) ^ 62 = 4611686018427387904 by decide]; omega)
    rw [show (2 : Nat) ^ 11 = 2048 by decide] at this
    rw [show ((n : Int) * 2048) = ((2048 * n : Nat) : Int) by omega, this]; omega
  have e3 : ∀ x y : Int, bor .i64 x y = bor .i64 y x := fun x y => by unfold bor; rw [BitVec.or_comm]
  rw [e b hb, e a ha, Option.bind_some, Option.bind_some, e2 a b ha hb, e3, e2 b a hb ha]
  exact ⟨rfl, by rw [Int.add_comm]⟩
theorem numA {a b : Int} (h1 : 0 ≤ a ∧ a ≤ 65535) (h2 : 0 ≤ b ∧ b ≤ 65535) : i64 (b % 2048 * 2048) = b % 2048 * 2048 ∧ i64 (a % 2048 + b % 2048 * 2048) = a % 2048 + b % 2048 * 2048 ∧ i64 a = a ∧ i64 b = b := ⟨i64v (by omega) (by omega), i64v (by omega) (by omega), i64v (by omega) (by omega), i64v (by omega) (by omega)⟩
theorem numberOf_s {f : Vector Int 64} (h : fU f) : frame_numberOf f = some (num f) ∧ ref1_numberOf f = some (num f) := by
  have v1 : vidx f 1 = some (wd f 1) := vidx_w f (i := 1) (by decide)
  have v2 : vidx f 2 = some (wd f 2) := vidx_w f (i := 2) (by decide)
  obtain ⟨e1, e2, e3, e4⟩ := numA (h 1) (h 2)
  refine ⟨?_, ?_⟩
  · unfold frame_numberOf num
    rw [v1, Option.bind_some, data_s (h 1), Option.bind_some, v2, Option.bind_some, data_s (h 2), Option.bind_some, (bor_d (by omega) (by omega)).1]
  · unfold ref1_numberOf num
    rw [v1, Option.bind_some, e3, rem_n (h 1).1 _ (by decide), Option.bind_some, v2, Option.bind_some, e4, rem_n (h 2).1 _ (by decide), Option.bind_some, e1, e2]
def sumS (f : Vector Int 64) : Nat → Int
  | 0 => 0
  | k + 1 => bxor .i64 (sumS f k) (wd f (k + 1) % 2048)
theorem sumOf_s {f : Vector Int 64} (h : fU f) : frame_sumOf f = some (sumS f 60) ∧ ref1_sum f = some (sumS f 60) := by
  constructor
  · have := loop_st (body := frame_sumOf_L1 f) (sumS f) (sumS f 60) (a := 0) (b := 60) (by decide) (fun k _ hk => by
      have hw := h (k + 1)
      unfold frame_sumOf_L1
      rw [if_pos (by simp; omega), i64v (by omega) (by omega), show (k : Int) + 1 = ((k + 1 : Nat) : Int) by push_cast; rfl, vidx_w f (by omega), Option.bind_some, data_s hw, Option.bind_some]
      rfl) (by unfold frame_sumOf_L1; rw [if_neg (by decide)])
    unfold frame_sumOf
    rw [show ((0 : Int), (0 : Int)) = (sumS f 0, ((0 : Nat) : Int)) from rfl, this]
    rfl
  · have := loop_st (body := ref1_sum_L1 f) (fun k => sumS f (k - 1)) (sumS f 60) (a := 1) (b := 61) (by decide) (fun k h1 hk => by
      have hw := h k
      obtain ⟨j, rfl⟩ : ∃ j, k = j + 1 := ⟨k - 1, by omega⟩
      unfold ref1_sum_L1
      rw [if_pos (by simp; omega), vidx_w f (by omega), Option.bind_some, i64v (by omega) (by omega), rem_n hw.1 _ (by decide), Option.bind_some, i64v (by omega) (by omega)]
      rfl) (by unfold ref1_sum_L1; rw [if_neg (by decide)])
    unfold ref1_sum
    rw [show ((0 : Int), (1 : Int)) = ((fun k => sumS f (k - 1)) 1, ((1 : Nat) : Int)) from rfl, this]
    rfl
def bitB (f : Vector Int 64) (j : Nat) : Bool := decide (j < 744) && decide (wd f (j / 12) / (2 : Int) ^ (11 - j % 12) % 2 = 1)
theorem shr_u16 (x : Int) {k : Nat} (hk : k ≤ 11) : shr .u16 x (k : Int) = some (x / (2 : Int) ^ k) := by
  unfold shr
  have hm : min ((k : Int)).toNat IntKind.u16.bits = k := by
    have : IntKind.u16.bits = 16 := rfl
    rw [Int.toNat_natCast]; omega
  have hp : (0 : Int) < 2 ^ k := Int.pow_pos (by decide)
  rw [if_neg (by omega), hm, Int.fdiv_eq_ediv_of_nonneg _ (by omega)]
theorem shr_i64 (x : Int) {k : Nat} (hk : k ≤ 11) : shr .i64 x (k : Int) = some (x / (2 : Int) ^ k) := by
  unfold shr
  have hm : min ((k : Int)).toNat IntKind.i64.bits = k := by
    have : IntKind.i64.bits = 64 := rfl
    rw [Int.toNat_natCast]; omega
  have hp : (0 : Int) < 2 ^ k := Int.pow_pos (by decide)
  rw [if_neg (by omega), hm, Int.fdiv_eq_ediv_of_nonneg _ (by omega)]
theorem div_bd {x : Int} (h : 0 ≤ x ∧ x ≤ 65535) (k : Nat) : 0 ≤ x / (2 : Int) ^ k ∧ x / (2 : Int) ^ k ≤ 65535 := by
  have hp : (0 : Int) < 2 ^ k := Int.pow_pos (by decide)
  have h1 := Int.ediv_nonneg h.1 (Int.le_of_lt hp)
  have h2 : x / (2 : Int) ^ k ≤ x := Int.ediv_le_self _ h.1
  omega
theorem band_u16_1 {x : Int} (h : 0 ≤ x ∧ x ≤ 65535) : band .u16 x 1 = x % 2 := by
  obtain ⟨n, rfl⟩ : ∃ n : Nat, x = n := ⟨x.toNat, by omega⟩
  have e0 : IntKind.u16.bits = 16 := rfl
  have e1 : (BitVec.ofInt 16 (n : Int)).toNat = n := by
    rw [BitVec.ofInt_natCast, BitVec.toNat_ofNat]; exact Nat.mod_eq_of_lt (by omega)
  have e2 : (BitVec.ofInt 16 1).toNat = 2 ^ 1 - 1 := rfl
  unfold band
  rw [e0, BitVec.toNat_and, e1, e2, Nat.and_two_pow_sub_one_eq_mod]
  have : n % 2 ^ 1 < 2 := Nat.mod_lt _ (by decide)
  simp only [IntKind.wrap, IntKind.signed, IntKind.bits]
  have e : (2 : Int) ^ 16 = 65536 := by decide
  simp [e]
  omega
theorem band_i64_1 (x : Int) : band .i64 x 1 = x % 2 := and_mask (v := x) (n := 1) (by decide)
def ckS (f : Vector Int 64) (k : Nat) : Int := ((pS (bitB f) k).toNat : Int)
theorem ckS_step (f : Vector Int 64) (j : Nat) : ckS f (j + 1) = if (!((!decide (band .i64 (ckS f j) 2097152 = 0)) == bitB f j)) = true then bxor .i64 (band .i64 (ckS f j * 2) 4194303) 2097167 else band .i64 (ckS f j * 2) 4194303 := by
  have := pS_step (pS (bitB f) j) (bitB f j)
  unfold ckS
  rw [pS, this, msb_w, Bool.not_not, shm_w, xr_w]
  split <;> rfl
theorem checkOf_s {f : Vector Int 64} (h : fU f) : frame_checkOf f = some (ckS f 744) := by
  have inner : ∀ i : Nat, i < 62 → loop (t2 (frame_checkOf_L2 f (i : Int))) (ckS f (12 * i), 11) = some (ckS f (12 * (i + 1))) := fun i hi => by
    have hw := h i
    have := loop_dn (body := frame_checkOf_L2 f (i : Int)) (fun j => ckS f (12 * i + j)) (ckS f (12 * (i + 1))) (b := 12) (fun k hk => by
      have hd := div_bd hw k
      have hv := (pS (bitB f) (12 * i + (12 - 1 - k))).isLt
      unfold frame_checkOf_L2
      have e1 : shl .i64 (ckS f (12 * i + (12 - 1 - k))) 1 = some (ckS f (12 * i + (12 - 1 - k)) * 2) := shl_w _
      rw [if_pos (by simp), e1, Option.bind_some, vidx_w f (by omega), Option.bind_some, shr_u16 _ (by omega), Option.bind_some, band_u16_1 hd, i64v (by omega) (by omega)]
      have eb : bitB f (12 * i + (12 - 1 - k)) = decide (wd f i / (2 : Int) ^ k % 2 = 1) := by
        unfold bitB
        rw [decide_eq_true (show 12 * i + (12 - 1 - k) < 744 by omega), Bool.true_and, show (12 * i + (12 - 1 - k)) / 12 = i by omega, show 11 - (12 * i + (12 - 1 - k)) % 12 = k by omega]
      have := ckS_step f (12 * i + (12 - 1 - k))
      rw [eb] at this
      rw [show 12 * i + (12 - k) = 12 * i + (12 - 1 - k) + 1 by omega, this]
      split <;> rfl) (by unfold frame_checkOf_L2; rw [if_neg (by decide)]; rw [show 12 * (i + 1) = 12 * i + 12 by omega])
    exact this
  have := loop_st (body := frame_checkOf_L1 f) (fun i => ckS f (12 * i)) (ckS f 744) (a := 0) (b := 62) (by decide) (fun k _ hk => by
    unfold frame_checkOf_L1
    rw [if_pos (by simp; omega), inner k hk, Option.bind_some, t1_mk, i64v (by omega) (by omega)]) (by unfold frame_checkOf_L1; rw [if_neg (by decide)])
  unfold frame_checkOf
  have e0 : ((0 : Int), (0 : Int)) = ((fun i => ckS f (12 * i)) 0, ((0 : Nat) : Int)) := rfl
  rw [e0, this]
  rfl
def rkS (f : Vector Int 64) (k : Nat) : Int := ((rS (bitB f) k).toNat : Int)
theorem rcheck_s {f : Vector Int 64} (h : fU f) : ref1_check f = some (ckS f 744) := by
  have hfin : rkS f 766 = ckS f 744 := by
    unfold rkS ckS
    rw [show 766 = 744 + 22 from rfl, crc_eq (fun k hk => by unfold bitB; rw [decide_eq_false (by omega), Bool.false_and])]
  have := loop_st (body := ref1_check_L1 f) (rkS f) (ckS f 744) (a := 0) (b := 766) (by decide) (fun k _ hk => by
    have hv := (rS (bitB f) k).isLt
    have hb : ((if (decide ((k : Int) < 744)) = true then (quo .i64 (k : Int) 12).bind fun q => (vidx f q).bind fun x => (rem (k : Int) 12).bind fun q2 => (shr .i64 (i64 x) (i64 (11 - q2))).bind fun q3 => some (band .i64 q3 1) else some 0) : Option Int) = some ((bitB f k).toNat : Int) := by
      by_cases hk2 : k < 744
      · have hw := h (k / 12)
        rw [if_pos (by simp; omega)]
        have e1 : quo .i64 (k : Int) 12 = some ((k / 12 : Nat) : Int) := by
          unfold quo
          rw [if_neg (by decide), Int.tdiv_eq_ediv_of_nonneg (by omega), w64 (by omega) (by omega)]
          rfl
        rw [e1, Option.bind_some, vidx_w f (by omega), Option.bind_some, rem_n (by omega) _ (by decide), Option.bind_some, i64v (by omega) (by omega)]
        have e2 : i64 (11 - (k : Int) % 12) = ((11 - k % 12 : Nat) : Int) := by rw [i64v (by omega) (by omega)]; omega
        rw [e2, shr_i64 _ (by omega), Option.bind_some, band_i64_1]
        unfold bitB
        rw [decide_eq_true hk2, Bool.true_and]
        generalize wd f (k / 12) / (2 : Int) ^ (11 - k % 12) = z
        by_cases hz : z % 2 = 1
        · rw [decide_eq_true hz, hz]; rfl
        · rw [decide_eq_false hz, show z % 2 = 0 by omega]; rfl
      · rw [if_neg (by simp; omega)]
        unfold bitB
        rw [decide_eq_false hk2, Bool.false_and]; rfl
    unfold ref1_check_L1
    rw [if_pos (by simp; omega), hb, Option.bind_some, t1_mk]
    have hbl : (bitB f k).toNat ≤ 1 := by cases bitB f k <;> decide
    have hs := rS_step (rS (bitB f) k) (bitB f k)
    simp only at hs
    have er : i64 (i64 (rkS f k * 2) + ((bitB f k).toNat : Int)) = ((2 * (rS (bitB f) k).toNat + (bitB f k).toNat : Nat) : Int) := by
      unfold rkS
      rw [i64v (z := ((rS (bitB f) k).toNat : Int) * 2) (by omega) (by omega), i64v (by omega) (by omega)]; push_cast; omega
    have en : rkS f (k + 1) = ((zS (rS (bitB f) k) ^^^ (if bitB f k then 1#22 else 0#22)).toNat : Int) := rfl
    rw [er, en, ← hs, i64v (z := (k : Int) + 1) (by omega) (by omega)]
    by_cases hc : 4194304 ≤ 2 * (rS (bitB f) k).toNat + (bitB f k).toNat
    · rw [if_pos (by simp; omega), if_pos hc, show (6291471 : Int) = ((6291471 : Nat) : Int) from rfl, bxor_n (by omega) (by omega)]
    · rw [if_neg (by simp; omega), if_neg hc]) (by unfold ref1_check_L1; rw [if_neg (by decide), hfin])
  unfold ref1_check
  rw [show ((0 : Int), (0 : Int)) = (rkS f 0, ((0 : Nat) : Int)) from rfl, this]
  rfl
end Go.Vx

namespace Go.Vx
open Go Go.RowKit
theorem loop_allN {ρ : Type} {body : Int → Option (Int ⊕ ρ)} (P : Nat → Bool) (A Z : ρ) {a b : Nat} (hab : a ≤ b)
    (hstep : ∀ k : Nat, a ≤ k → k < b → body (k : Int) = if P k = true then some (.inl ((k : Int) + 1)) else some (.inr A)) (hend : body (b : Int) = some (.inr Z)) :
    loop (t1 body) (a : Int) = some (cond ((List.range' a (b - a)).all P) Z A) := by
  refine loop_to (body := t1 body) (fun i => ∃ k : Nat, i = k ∧ a ≤ k ∧ k ≤ b) (fun i => b - i.toNat) (fun i => cond ((List.range' i.toNat (b - i.toNat)).all P) Z A) ?_ (a : Int) ⟨a, rfl, Nat.le_refl _, hab⟩
  rintro i ⟨k, rfl, h1, h2⟩
  simp only [Int.toNat_natCast, t1_mk]
  rcases Nat.lt_or_ge k b with h | h
  · rw [hstep k h1 h]
    obtain ⟨n, hn⟩ : ∃ n, b - k = n + 1 := ⟨b - k - 1, by omega⟩
    rw [hn, List.range'_succ, List.all_cons]
    cases hp : P k
    · right; simp
    · left
      refine ⟨_, by rw [if_pos rfl], ⟨k + 1, by push_cast; rfl, by omega, h⟩, by omega, ?_⟩
      rw [show ((k : Int) + 1).toNat = k + 1 by omega, show b - (k + 1) = n by omega, Bool.true_and]
  · obtain rfl : k = b := by omega
    right
    rw [hend]; simp
def flL (P : Nat → Bool) (c : Int) (a n : Nat) : List api_Flaw := ((List.range' a n).filter fun k => !P k).map fun (k : Nat) => api_Flaw.mk (k : Int) c
theorem flL_succ (P : Nat → Bool) (c : Int) (a n : Nat) : flL P c a (n + 1) = flL P c a n ++ (if P (a + n) = true then [] else [api_Flaw.mk ((a + n : Nat) : Int) c]) := by
  unfold flL
  rw [List.range'_1_concat, List.filter_append, List.map_append]
  congr 1
  cases h : P (a + n) <;> simp [h]
theorem flL_len (P : Nat → Bool) (c : Int) (a : Nat) : ∀ n, (flL P c a n).length ≤ n
  | 0 => by simp [flL]
  | n + 1 => by
    have := flL_len P c a n
    rw [flL_succ, List.length_append]; split <;> simp <;> omega
theorem flL_nil (P : Nat → Bool) (c : Int) (a n : Nat) : (flL P c a n).length = 0 ↔ (List.range' a n).all P = true := by
  unfold flL
  rw [List.length_map, List.length_eq_zero_iff, List.filter_eq_nil_iff, List.all_eq_true]
  exact ⟨fun h x hx => by have := h x hx; simpa using this, fun h x hx => by rw [h x hx]; decide⟩
theorem loop_fl {body : List api_Flaw → Int → Option ((List api_Flaw × Int) ⊕ List api_Flaw)} (P : Nat → Bool) (c : Int) {a b : Nat} (hab : a ≤ b) (l0 : List api_Flaw) (hl : l0.length ≤ 1000) (hb : b ≤ 1000)
    (hstep : ∀ (l : List api_Flaw) (k : Nat), l.length ≤ 2000 → a ≤ k → k < b → body l (k : Int) = if P k = true then some (.inl (l, (k : Int) + 1)) else some (.inl (l ++ [api_Flaw.mk (k : Int) c], (k : Int) + 1)))
    (hend : ∀ l, body l (b : Int) = some (.inr l)) : loop (t2 body) (l0, (a : Int)) = some (l0 ++ flL P c a (b - a)) := by
  have := loop_st (body := body) (fun k => l0 ++ flL P c a (k - a)) (l0 ++ flL P c a (b - a)) (a := a) (b := b) hab (fun k h1 h2 => by
    have hlen := flL_len P c a (k - a)
    rw [hstep _ k (by rw [List.length_append]; omega) h1 h2, show k + 1 - a = k - a + 1 by omega, flL_succ, show a + (k - a) = k by omega]
    cases P k <;> simp) (hend _)
  have e : (fun k => l0 ++ flL P c a (k - a)) a = l0 := by simp [flL]
  simp only at e
  rw [e] at this
  exact this
noncomputable def oddC (n : Nat) : Bool := decide (frame_odd (n : Int) = ref1_odd_c (n : Int)) && (ref1_odd_c (n : Int)).isSome
theorem odd_all : (List.range 4096).all oddC = true := by decide +kernel
noncomputable def oddB (x : Int) : Bool := (ref1_odd_c x).getD false
theorem odd_s {x : Int} (h : 0 ≤ x ∧ x ≤ 4095) : frame_odd x = some (oddB x) ∧ ref1_odd x = some (oddB x) := by
  obtain ⟨n, rfl⟩ : ∃ n : Nat, x = n := ⟨x.toNat, by omega⟩
  have := List.all_eq_true.1 odd_all n (List.mem_range.2 (by omega))
  simp only [oddC, Bool.and_eq_true, decide_eq_true_eq] at this
  obtain ⟨h2, h3⟩ := this
  obtain ⟨b, hb⟩ := Option.isSome_iff_exists.1 h3
  unfold oddB
  rw [hb]
  exact ⟨h2.trans hb, le_ref1_odd _ b hb⟩
def narrowP (f : Vector Int 64) (k : Nat) : Bool := decide (wd f k ≤ 4095)
def narrowB (f : Vector Int 64) : Bool := (List.range' 0 64).all (narrowP f)
theorem narrow_of {f : Vector Int 64} (h : narrowB f = true) (k : Nat) (hk : k < 64) : wd f k ≤ 4095 := by
  have := List.all_eq_true.1 h k (List.mem_range'.2 ⟨k, hk, by omega⟩)
  simpa [narrowP] using this
theorem wide_s (f : Vector Int 64) : frame_wide f = some (!narrowB f) := by
  have := loop_allN (body := frame_wide_L1 f) (narrowP f) (.inl true : Bool ⊕ Unit) (.inr ()) (a := 0) (b := 64) (by decide) (fun k _ hk => by
    unfold frame_wide_L1 narrowP
    rw [if_pos (by simp; omega), vidx_w f hk, Option.bind_some, i64v (by omega) (by omega)]
    by_cases hw : 4095 < wd f k
    · rw [if_pos (by simpa using hw), if_neg (by simpa using hw)]
    · rw [if_neg (by simpa using hw), if_pos (by simpa using hw)]) (by unfold frame_wide_L1; rw [if_neg (by decide)])
  unfold frame_wide
  have e0 : (0 : Int) = ((0 : Nat) : Int) := rfl
  rw [e0, this]
  unfold narrowB
  rw [Nat.sub_zero]
  cases (List.range' 0 64).all (narrowP f) <;> rfl
def syncV (n : Int) : Int := gv_frame_syncs.toList.getD (n % 4).toNat 0
theorem sync_s {n : Int} (h : 0 ≤ n) : rem n 4 = some (n % 4) ∧ vidx gv_frame_syncs (n % 4) = some (syncV n) := by
  refine ⟨rem_n h _ (by decide), ?_⟩
  unfold vidx syncV
  rw [if_pos (by omega)]
  obtain ⟨x, hx⟩ := get_ex (xs := gv_frame_syncs.toList) (k := (n % 4).toNat) (by simp; omega)
  rw [List.getD_eq_getElem?_getD, hx]; rfl
theorem syncOf_s {n : Int} (h : 0 ≤ n) : ref1_syncOf n = some (syncV n) := by
  unfold ref1_syncOf
  have := (sync_s h).2
  unfold gv_frame_syncs at this
  rw [(sync_s h).1, Option.bind_some, this, Option.bind_some]
noncomputable def oddP (f : Vector Int 64) (k : Nat) : Bool := oddB (wd f k)
def ckW (f : Vector Int 64) : Int := wd f 62 % 2048 * 2048 + wd f 63 % 2048
noncomputable def sndB (f : Vector Int 64) : Bool := narrowB f && (decide (wd f 0 = syncV (num f)) && (decide (wd f 61 % 2048 = sumS f 60) && ((List.range' 1 63).all (oddP f) && decide (ckW f = ckS f 744))))
theorem sound_s {f : Vector Int 64} (h : fU f) : frame_sound f = some (sndB f) := by
  unfold frame_sound
  rw [wide_s, Option.bind_some]
  cases hn : narrowB f
  · unfold sndB
    rw [hn]
    simp [gd]
  · have hnb := num_bd f
    have h0 := h 0
    have v0 : vidx f 0 = some (wd f 0) := vidx_w f (i := 0) (by decide)
    have v61 : vidx f 61 = some (wd f 61) := vidx_w f (i := 61) (by decide)
    have v62 : vidx f 62 = some (wd f 62) := vidx_w f (i := 62) (by decide)
    have v63 : vidx f 63 = some (wd f 63) := vidx_w f (i := 63) (by decide)
    have ck := ckW f
    have e0 : ((!true) == false) = true := rfl
    have ob : 0 ≤ wd f 62 % 2048 ∧ wd f 62 % 2048 < 2048 := by omega
    have oc : 0 ≤ wd f 63 % 2048 ∧ wd f 63 % 2048 < 2048 := by omega
    rw [e0, gd_t, v0, Option.bind_some, gd_t, (numberOf_s h).1, Option.bind_some, gd_t, (sync_s hnb.1).1, Option.bind_some, gd_t, (sync_s hnb.1).2, Option.bind_some]
    unfold sndB
    rw [hn, Bool.not_true, Bool.false_or, Bool.true_and]
    by_cases hs : wd f 0 = syncV (num f)
    · have e1 : decide (wd f 0 = syncV (num f)) = true := decide_eq_true hs
      rw [e1, Bool.not_true, show (false == false) = true from rfl, gd_t, v61, Option.bind_some, gd_t, data_s (h 61), Option.bind_some, gd_t, (sumOf_s h).1, Option.bind_some, Bool.false_or, Bool.true_and]
      by_cases hs2 : wd f 61 % 2048 = sumS f 60
      · rw [if_neg (by simp [hs2]), decide_eq_true hs2, Bool.true_and]
        have := loop_allN (body := frame_sound_L1 f) (oddP f) (.inl false : Bool ⊕ Unit) (.inr ()) (a := 1) (b := 64) (by decide) (fun k _ hk => by
          unfold frame_sound_L1 oddP
          have := narrow_of hn k hk
          rw [if_pos (by simp; omega), vidx_w f hk, Option.bind_some, (odd_s ⟨(h k).1, this⟩).1, Option.bind_some, i64v (by omega) (by omega)]
          cases oddB (wd f k) <;> rfl) (by unfold frame_sound_L1; rw [if_neg (by decide)])
        have e1 : (1 : Int) = ((1 : Nat) : Int) := rfl
        rw [e1, this, Option.bind_some]
        rw [show 64 - 1 = 63 from rfl]
        cases (List.range' 1 63).all (oddP f)
        · rfl
        · rw [Bool.true_and]
          show (vidx f 62).bind _ = _
          rw [v62, Option.bind_some, data_s (h 62), Option.bind_some]
          unfold ckW
          have eb := (bor_d ob oc).2
          obtain ⟨q, hq, hq2⟩ : ∃ q, shl .i64 (wd f 62 % 2048) 11 = some q ∧ bor .i64 q (wd f 63 % 2048) = wd f 62 % 2048 * 2048 + wd f 63 % 2048 := by
            cases hh : shl .i64 (wd f 62 % 2048) 11 with
            | none => rw [hh] at eb; cases eb
            | some q => rw [hh, Option.bind_some] at eb; exact ⟨q, rfl, Option.some.inj eb⟩
          rw [hq, Option.bind_some, v63, Option.bind_some, data_s (h 63), Option.bind_some, checkOf_s h, Option.bind_some, hq2]
      · rw [if_pos (by simp [hs2]), decide_eq_false hs2, Bool.false_and]
    · rw [decide_eq_false hs]
      simp [gd]
theorem Sound_s {f : Vector Int 64} (h : fU f) : frame_Sound f = some (sndB f) := by
  unfold frame_Sound
  rw [sound_s h, Option.bind_some]
def oneF (b : Bool) (i c : Int) : List api_Flaw := if b = true then [] else [api_Flaw.mk i c]
noncomputable def flws (f : Vector Int 64) : List api_Flaw :=
  if narrowB f = true then ((oneF (decide (wd f 0 = syncV (num f))) 0 1 ++ flL (oddP f) 2 1 63) ++ oneF (decide (wd f 61 % 2048 = sumS f 60)) 61 3) ++ oneF (decide (ckW f = ckS f 744)) 62 4
  else flL (narrowP f) 5 0 64
theorem oneF_len (b : Bool) (i c : Int) : (oneF b i c).length ≤ 1 ∧ ((oneF b i c).length = 0 ↔ b = true) := by cases b <;> simp [oneF]
theorem Flaws_s {f : Vector Int 64} (h : fU f) : ref1_Flaws f = some (flws f) := by
  have hl1 := loop_fl (body := ref1_Flaws_L1 f) (narrowP f) 5 (a := 0) (b := 64) (by decide) [] (by decide) (by decide) (fun l k hl _ hk => by
    unfold ref1_Flaws_L1 narrowP
    rw [if_pos (by simp; omega), vidx_w f hk, Option.bind_some, i64v (by omega) (by omega)]
    by_cases hw : 4095 < wd f k
    · rw [if_pos (by simpa using hw), if_neg (by simpa using hw), app_of (by simp; omega), Option.bind_some]
    · rw [if_neg (by simpa using hw), if_pos (by simpa using hw)]) (fun l => by unfold ref1_Flaws_L1; rw [if_neg (by decide)])
  unfold ref1_Flaws
  have e0 : (([] : List api_Flaw), (0 : Int)) = ([], ((0 : Nat) : Int)) := rfl
  rw [e0, hl1, Option.bind_some, t1_mk, List.nil_append, Nat.sub_zero]
  have hz := flL_nil (narrowP f) 5 0 64
  unfold flws
  cases hn : narrowB f
  · have : ¬ (flL (narrowP f) 5 0 64).length = 0 := fun hc => by rw [hz.1 hc |> fun e => (show narrowB f = true from e)] at hn; cases hn
    rw [if_pos (by simp only [decide_eq_true_eq]; omega), if_neg (by decide)]
  · have hz0 : (flL (narrowP f) 5 0 64).length = 0 := hz.2 hn
    have hnil : flL (narrowP f) 5 0 64 = [] := List.length_eq_zero_iff.1 hz0
    have hnb := num_bd f
    have v0 : vidx f 0 = some (wd f 0) := vidx_w f (i := 0) (by decide)
    have v61 : vidx f 61 = some (wd f 61) := vidx_w f (i := 61) (by decide)
    have v62 : vidx f 62 = some (wd f 62) := vidx_w f (i := 62) (by decide)
    have v63 : vidx f 63 = some (wd f 63) := vidx_w f (i := 63) (by decide)
    have w0 := h 0
    have w61 := h 61
    have w62 := h 62
    have w63 := h 63
    rw [hnil, if_neg (by decide), v0, Option.bind_some, (numberOf_s h).2, Option.bind_some, syncOf_s hnb.1, Option.bind_some, i64v (z := wd f 0) (by omega) (by omega)]
    have s1 : (if (!decide (wd f 0 = syncV (num f))) = true then (app ([] : List api_Flaw) ([(api_Flaw.mk 0 1)] : List api_Flaw)).bind fun l2 => some l2 else some []) = some (oneF (decide (wd f 0 = syncV (num f))) 0 1) := by
      by_cases hs : wd f 0 = syncV (num f) <;> simp [hs, oneF, app]
    rw [s1, Option.bind_some, t1_mk]
    have hl2 := loop_fl (body := ref1_Flaws_L2 f) (oddP f) 2 (a := 1) (b := 64) (by decide) (oneF (decide (wd f 0 = syncV (num f))) 0 1) (by have := (oneF_len (decide (wd f 0 = syncV (num f))) 0 1).1; omega) (by decide) (fun l k hl _ hk => by
      unfold ref1_Flaws_L2 oddP
      have hw := h k
      rw [if_pos (by simp; omega), vidx_w f hk, Option.bind_some, i64v (z := wd f k) (by omega) (by omega), (odd_s ⟨hw.1, narrow_of hn k hk⟩).2, Option.bind_some, i64v (by omega) (by omega)]
      cases oddB (wd f k)
      · rw [if_pos (by decide), app_of (by simp; omega), Option.bind_some]; rfl
      · rfl) (fun l => by unfold ref1_Flaws_L2; rw [if_neg (by decide)])
    have e1 : (1 : Int) = ((1 : Nat) : Int) := rfl
    have e2 : (oneF (decide (wd f 0 = syncV (num f))) 0 1, (1 : Int)) = (oneF (decide (wd f 0 = syncV (num f))) 0 1, ((1 : Nat) : Int)) := rfl
    rw [e2, hl2, Option.bind_some, t1_mk, show 64 - 1 = 63 from rfl]
    have b1 := (oneF_len (decide (wd f 0 = syncV (num f))) 0 1).1
    have b2 := flL_len (oddP f) 2 1 63
    have b3 := (oneF_len (decide (wd f 61 % 2048 = sumS f 60)) 61 3).1
    generalize hX : oneF (decide (wd f 0 = syncV (num f))) 0 1 ++ flL (oddP f) 2 1 63 = X
    have bX : X.length ≤ 64 := by rw [← hX, List.length_append]; omega
    rw [v61, Option.bind_some, i64v (z := wd f 61) (by omega) (by omega), rem_n w61.1 _ (by decide), Option.bind_some, (sumOf_s h).2, Option.bind_some]
    have s2 : (if (!decide (wd f 61 % 2048 = sumS f 60)) = true then (app X ([(api_Flaw.mk 61 3)] : List api_Flaw)).bind fun l4 => some l4 else some X) = some (X ++ oneF (decide (wd f 61 % 2048 = sumS f 60)) 61 3) := by
      by_cases hs : wd f 61 % 2048 = sumS f 60
      · simp [hs, oneF]
      · rw [app_of (by simp; omega)]; simp [hs, oneF]
    rw [s2, Option.bind_some, t1_mk]
    generalize hW : X ++ oneF (decide (wd f 61 % 2048 = sumS f 60)) 61 3 = W
    have bW : W.length ≤ 65 := by rw [← hW, List.length_append]; omega
    rw [v62, Option.bind_some, i64v (z := wd f 62) (by omega) (by omega), rem_n w62.1 _ (by decide), Option.bind_some, v63, Option.bind_some, i64v (z := wd f 63) (by omega) (by omega), rem_n w63.1 _ (by decide), Option.bind_some, rcheck_s h, Option.bind_some]
    rw [i64v (z := wd f 62 % 2048 * 2048) (by omega) (by omega), i64v (z := wd f 62 % 2048 * 2048 + wd f 63 % 2048) (by omega) (by omega)]
    unfold ckW
    by_cases hs : wd f 62 % 2048 * 2048 + wd f 63 % 2048 = ckS f 744
    · simp [hs, oneF]
    · rw [app_of (by simp; omega)]; simp [hs, oneF]
theorem rSound_s {f : Vector Int 64} (h : fU f) : ref1_Sound f = some (sndB f) := by
  unfold ref1_Sound
  rw [Flaws_s h, Option.bind_some]
  congr 1
  unfold flws sndB
  cases hn : narrowB f
  · have hz := flL_nil (narrowP f) 5 0 64
    have : ¬ (flL (narrowP f) 5 0 64).length = 0 := fun hc => by rw [hz.1 hc |> fun e => (show narrowB f = true from e)] at hn; cases hn
    rw [if_neg (by decide), Bool.false_and, decide_eq_false_iff_not]; omega
  · rw [if_pos rfl, Bool.true_and, Bool.eq_iff_iff, decide_eq_true_eq]
    simp only [List.length_append, Bool.and_eq_true]
    have b1 := (oneF_len (decide (wd f 0 = syncV (num f))) 0 1).2
    have b2 := flL_nil (oddP f) 2 1 63
    have b3 := (oneF_len (decide (wd f 61 % 2048 = sumS f 60)) 61 3).2
    have b4 := (oneF_len (decide (ckW f = ckS f 744)) 62 4).2
    rw [← b1, ← b2, ← b3, ← b4]
    omega
end Go.Vx

namespace Go.Vx
open Go Go.RowKit
def pk (Z : List Int) : List Int := (List.range ((Z.length + 1) / 2)).map fun k => 16 * Z.getD (2 * k) 0 + Z.getD (2 * k + 1) 0
theorem u8w {z : Int} (h1 : 0 ≤ z) (h2 : z ≤ 255) : u8 z = z := by
  unfold u8 IntKind.wrap
  have e : (2 : Int) ^ IntKind.u8.bits = 256 := by decide
  have e2 : IntKind.u8.signed = false := rfl
  simp only [e, e2]
  simp
  omega
theorem hL_getD {Z : List Int} (h : hL Z) (k : Nat) : 0 ≤ Z.getD k 0 ∧ Z.getD k 0 ≤ 15 := by
  rw [List.getD_eq_getElem?_getD]
  cases hq : Z[k]? with
  | none => simp
  | some x => exact h x (List.mem_of_getElem? hq)
theorem ofHalves_loop {Z : List Int} (h : hL Z) (hl : Z.length ≤ 10000000) : loop (t2 (ref4_OfHalves_L1 Z)) ([], 0) = some (pk Z) := by
  have := loop_to (body := t2 (ref4_OfHalves_L1 Z)) (fun s => ∃ k : Nat, s.2 = ((2 * k : Nat) : Int) ∧ k ≤ (Z.length + 1) / 2 ∧ s.1 = (List.range k).map fun k => 16 * Z.getD (2 * k) 0 + Z.getD (2 * k + 1) 0) (fun s => Z.length + 1 - s.2.toNat) (fun _ => pk Z) (by
    rintro ⟨acc, i⟩ ⟨k, hi, hk, ha⟩
    simp only at hi ha
    subst hi
    simp only [t2_mk]
    rcases Nat.lt_or_ge (2 * k) Z.length with hlt | hge
    · left
      obtain ⟨x, hx⟩ := get_ex hlt
      have hxb := h x (List.mem_of_getElem? hx)
      have hc := lt_of hx
      have hacc : acc.length = k := by rw [ha]; simp
      refine ⟨(acc ++ [16 * x + Z.getD (2 * k + 1) 0], ((2 * (k + 1) : Nat) : Int)), ?_, ⟨k + 1, rfl, by omega, ?_⟩, by simp only; omega, by trivial⟩
      · unfold ref4_OfHalves_L1
        rw [if_pos (by simpa using hc), idx_of hx, Option.bind_some]
        have e1 : i64 (((2 * k : Nat) : Int) + 1) = ((2 * k + 1 : Nat) : Int) := by rw [i64v (by omega) (by omega)]; push_cast; rfl
        have e2 : i64 (((2 * k : Nat) : Int) + 2) = ((2 * (k + 1) : Nat) : Int) := by rw [i64v (by omega) (by omega)]; push_cast; omega
        rw [e1, e2]
        by_cases h1 : 2 * k + 1 < Z.length
        · obtain ⟨y, hy⟩ := get_ex h1
          have hyb := h y (List.mem_of_getElem? hy)
          rw [if_pos (by simp; omega), idx_of hy, Option.bind_some, Option.bind_some, t1_mk, u8w (z := 16 * x) (by omega) (by omega), u8w (by omega) (by omega), app_of (by simp; omega), Option.bind_some, getD_of hy]
        · rw [if_neg (by simp; omega), Option.bind_some, t1_mk, u8w (z := 16 * x) (by omega) (by omega), app_of (by simp; omega), Option.bind_some]
          have : Z.getD (2 * k + 1) 0 = 0 := by rw [List.getD_eq_getElem?_getD, List.getElem?_eq_none (by omega)]; rfl
          rw [this]; simp
      · simp only
        rw [ha, List.range_succ, List.map_append, ← getD_of hx]
        rfl
    · right
      have : k = (Z.length + 1) / 2 := by omega
      subst this
      unfold ref4_OfHalves_L1
      rw [if_neg (by simp; omega), ha]
      rfl) ([], 0) ⟨0, rfl, by omega, by simp⟩
  exact this
theorem OfHalves_s {l : List Int} (h : hL l) (hl : l.length ≤ 9000000) (low : Bool) :
    ref4_OfHalves l low = some ⟨pk (if (low && decide (0 < l.length)) = true then 0 :: l else l), low && decide (0 < l.length)⟩ := by
  unfold ref4_OfHalves
  have e : (decide (0 < (l.length : Int))) = decide (0 < l.length) := by rw [decide_eq_decide]; omega
  rw [e]
  by_cases hc : (low && decide (0 < l.length)) = true
  · simp only [hc, if_true]
    rw [app_of (by simp; omega)]
    simp only [Option.bind_some, t1_mk]
    rw [show ([0] ++ l : List Int) = 0 :: l from rfl, ofHalves_loop (by intro x hx; rcases List.mem_cons.1 hx with rfl | hx; exact ⟨by decide, by decide⟩; exact h x hx) (by simp; omega)]
    rfl
  · have hc' : (low && decide (0 < l.length)) = false := by simpa using hc
    simp only [hc', Bool.false_eq_true, if_false, Option.bind_some, t1_mk]
    rw [ofHalves_loop h (by omega)]
    rfl
end Go.Vx

namespace Go.Vx
open Go Go.RowKit
theorem slcN {l : List Int} {a b : Nat} (h1 : a ≤ b) (h2 : b ≤ l.length) : slc l (a : Int) (b : Int) = some ((l.take b).drop a) := by
  unfold slc
  rw [if_pos (by omega)]
  simp
end Go.Vx

namespace Go.Vx
open Go Go.RowKit
theorem u16_of {n : Int} (h : 0 ≤ n ∧ n ≤ 65535) : u16 n = n := by
  unfold u16 IntKind.wrap
  simp only [IntKind.signed, IntKind.bits]
  have e : (2 : Int) ^ 16 = 65536 := by decide
  simp [e]
  omega
def wAt (H : List Int) (k : Nat) : Int := w3 (H.getD k 0) (H.getD (k + 1) 0) (H.getD (k + 2) 0)
theorem wAt_bd {H : List Int} (h : hL H) (k : Nat) : 0 ≤ wAt H k ∧ wAt H k ≤ 4095 := by
  have h1 := hL_getD h k
  have h2 := hL_getD h (k + 1)
  have h3 := hL_getD h (k + 2)
  unfold wAt w3
  omega
theorem wd_vset (f : Vector Int 64) {k : Nat} (hk : k < 64) (x : Int) (i : Nat) : wd (vset f (k : Int) x) i = if k = i then x else wd f i := by
  unfold wd
  rw [vset_list, Int.toNat_natCast, List.getD_eq_getElem?_getD, List.getElem?_set, List.getD_eq_getElem?_getD]
  split
  · rw [if_pos (by simp; omega)]; rfl
  · rfl
def inH (H : List Int) (at_ : Int) (i : Nat) : Bool := decide (0 ≤ at_ + 3 * i ∧ at_ + 3 * i + 3 ≤ (H.length : Int))
def fpre (H : List Int) (at_ : Int) (k : Nat) : Vector Int 64 × Vector Bool 64 := (List.range k).foldl (putW H at_) (Vector.replicate 64 0, Vector.replicate 64 false)
theorem fpre_wd (H : List Int) (at_ : Int) : ∀ (k : Nat), k ≤ 64 → ∀ i, wd (fpre H at_ k).1 i = if (decide (i < k) && inH H at_ i) = true then wAt H (at_ + 3 * i).toNat else 0
  | 0, _, i => by
    rw [if_neg (by simp)]
    show (Vector.replicate 64 (0 : Int)).toList.getD i 0 = 0
    rw [Vector.toList_replicate, List.getD_eq_getElem?_getD, List.getElem?_replicate]; split <;> rfl
  | k + 1, hk, i => by
    have ih := fpre_wd H at_ k (by omega) i
    have e : fpre H at_ (k + 1) = putW H at_ (fpre H at_ k) k := range_fold_step _ _ _
    rw [e]
    unfold putW
    by_cases hc : 0 ≤ at_ + 3 * k ∧ at_ + 3 * k + 3 ≤ (H.length : Int)
    · rw [if_pos hc, wd_vset _ (by omega), ih]
      by_cases hik : k = i
      · subst hik
        rw [if_pos rfl, if_pos (by simp [inH]; omega)]; rfl
      · rw [if_neg hik]
        have : decide (i < k + 1) = decide (i < k) := by rw [decide_eq_decide]; omega
        rw [this]
    · rw [if_neg hc, ih]
      by_cases hik : k = i
      · subst hik
        rw [if_neg (by simp), if_neg (by simp [inH]; omega)]
      · have : decide (i < k + 1) = decide (i < k) := by rw [decide_eq_decide]; omega
        rw [this]
theorem frW_wd (H : List Int) (at_ : Int) (i : Nat) (hi : i < 64) : wd (frW H at_).1 i = if inH H at_ i = true then wAt H (at_ + 3 * i).toNat else 0 := by
  have := fpre_wd H at_ 64 (Nat.le_refl _) i
  rw [decide_eq_true hi, Bool.true_and] at this
  exact this
theorem wd_big (f : Vector Int 64) {i : Nat} (hi : 64 ≤ i) : wd f i = 0 := by
  unfold wd
  rw [List.getD_eq_getElem?_getD, List.getElem?_eq_none (by simp; omega)]; rfl
theorem frW_narrow {H : List Int} (h : hL H) (at_ : Int) (i : Nat) : 0 ≤ wd (frW H at_).1 i ∧ wd (frW H at_).1 i ≤ 4095 := by
  rcases Nat.lt_or_ge i 64 with hi | hi
  · rw [frW_wd H at_ i hi]
    split
    · exact wAt_bd h _
    · exact ⟨by decide, by decide⟩
  · rw [wd_big _ hi]; exact ⟨by decide, by decide⟩
theorem frW_U {H : List Int} (h : hL H) (at_ : Int) : fU (frW H at_).1 := fun i => ⟨(frW_narrow h at_ i).1, by have := (frW_narrow h at_ i).2; omega⟩
theorem slc_w {H : List Int} (h : hL H) {k : Nat} (hk : k + 3 ≤ H.length) : ∃ l, slc H (k : Int) ((k : Int) + 3) = some l ∧ salvage_wordAt l = some (wAt H k) := by
  obtain ⟨a, ha⟩ := get_ex (xs := H) (k := k) (by omega)
  obtain ⟨b, hb⟩ := get_ex (xs := H) (k := k + 1) (by omega)
  obtain ⟨c, hc⟩ := get_ex (xs := H) (k := k + 2) (by omega)
  refine ⟨_, slc3 ha hb hc, ?_⟩
  unfold wAt
  rw [wordAt_s (h a (List.mem_of_getElem? ha)) (h b (List.mem_of_getElem? hb)) (h c (List.mem_of_getElem? hc)), getD_of ha, getD_of hb, getD_of hc]
theorem frameIn_s {H : List Int} (h : hL H) {at_ : Nat} (hat : at_ + 192 ≤ H.length) {v : Vector Int 192} (hv : v.toList = (H.drop at_).take 192) : salvage_frameIn v = some (frW H (at_ : Int)).1 := by
  have hvl : v.toList.length = 192 := by simp
  have hvh : hL v.toList := fun x hx => by rw [hv] at hx; exact h x (List.mem_of_mem_drop (List.mem_of_mem_take hx))
  have := loop_st (body := salvage_frameIn_L1 v) (fun k => (fpre H (at_ : Int) k).1) (frW H (at_ : Int)).1 (a := 0) (b := 64) (by decide) (fun k _ hk => by
    unfold salvage_frameIn_L1
    obtain ⟨l, hl1, hl2⟩ := slc_w hvh (k := 3 * k) (by omega)
    have e1 : i64 (3 * (k : Int)) = ((3 * k : Nat) : Int) := by rw [i64v (by omega) (by omega)]; push_cast; rfl
    rw [if_pos (by simp; omega), e1, i64v (z := ((3 * k : Nat) : Int) + 3) (by omega) (by omega), hl1, Option.bind_some, hl2, Option.bind_some, vidx_w _ hk, Option.bind_some, i64v (z := (k : Int) + 1) (by omega) (by omega)]
    have eg : ∀ j, j < 192 → v.toList.getD j 0 = H.getD (at_ + j) 0 := fun j hj => by
      rw [hv, List.getD_eq_getElem?_getD, List.getElem?_take, if_pos hj, List.getElem?_drop, List.getD_eq_getElem?_getD]
    have ew : wAt v.toList (3 * k) = wAt H (at_ + 3 * k) := by
      unfold wAt
      rw [eg _ (by omega), eg _ (by omega), eg _ (by omega)]; rfl
    have es : (fpre H (at_ : Int) (k + 1)).1 = vset (fpre H (at_ : Int) k).1 (k : Int) (wAt H (at_ + 3 * k)) := by
      have e : fpre H (at_ : Int) (k + 1) = putW H (at_ : Int) (fpre H (at_ : Int) k) k := range_fold_step _ _ _
      rw [e]
      unfold putW
      rw [if_pos (by omega)]
      have : ((at_ : Int) + 3 * (k : Int)).toNat = at_ + 3 * k := by omega
      rw [this]; rfl
    rw [es, ew]) (by unfold salvage_frameIn_L1; rw [if_neg (by decide)]; rfl)
  unfold salvage_frameIn
  have e0 : (Vector.replicate 64 (0 : Int), (0 : Int)) = ((fpre H (at_ : Int) 0).1, ((0 : Nat) : Int)) := rfl
  rw [e0, this]
  rfl
def synB (w : Int) : Bool := decide (w = 583) || (decide (w = 1464) || (decide (w = 2631) || decide (w = 3512)))
theorem isSync_s (w : Int) : salvage_isSync w = some (synB w) := by
  have := loop_allN (body := salvage_isSync_L1 w) (fun k => !decide (syncV (k : Int) = w)) (.inl true : Bool ⊕ Unit) (.inr ()) (a := 0) (b := 4) (by decide) (fun k _ hk => by
    unfold salvage_isSync_L1 frame_Sync
    have hb : 0 ≤ syncV (k : Int) ∧ syncV (k : Int) ≤ 65535 := by
      have : k = 0 ∨ k = 1 ∨ k = 2 ∨ k = 3 := by omega
      rcases this with rfl | rfl | rfl | rfl <;> exact ⟨by decide, by decide⟩
    obtain ⟨s1, s2⟩ := sync_s (n := (k : Int)) (by omega)
    rw [if_pos (by simp; omega), if_neg (by simp; omega), s1, Option.bind_some, s2, Option.bind_some, Option.bind_some, i64v (z := syncV (k : Int)) (by omega) (by omega), u16_of hb, i64v (z := (k : Int) + 1) (by omega) (by omega)]
    by_cases hw : syncV (k : Int) = w
    · rw [if_pos (by simpa using hw), if_neg (by simpa using hw)]
    · rw [if_neg (by simpa using hw), if_pos (by simpa using hw)]) (by unfold salvage_isSync_L1; rw [if_neg (by decide)])
  unfold salvage_isSync
  rw [show (0 : Int) = ((0 : Nat) : Int) from rfl, this, Option.bind_some]
  have e : (List.range' 0 (4 - 0)).all (fun k => !decide (syncV (k : Int) = w)) = !synB w := by
    have s0 : syncV ((0 : Nat) : Int) = 583 := by decide
    have s1 : syncV ((1 : Nat) : Int) = 1464 := by decide
    have s2 : syncV ((2 : Nat) : Int) = 2631 := by decide
    have s3 : syncV ((3 : Nat) : Int) = 3512 := by decide
    show (!decide (syncV ((0 : Nat) : Int) = w) && (!decide (syncV ((1 : Nat) : Int) = w) && (!decide (syncV ((2 : Nat) : Int) = w) && (!decide (syncV ((3 : Nat) : Int) = w) && true)))) = !synB w
    rw [s0, s1, s2, s3]
    unfold synB
    simp only [Bool.not_or, Bool.and_true, eq_comm]
  rw [e]
  cases synB w <;> rfl
noncomputable def scF (H : List Int) (k : Nat) : List api_Found := if (synB (wAt H k) && sndB (frW H (k : Int)).1) = true then [api_Found.mk (k : Int) (frW H (k : Int)).1] else []
noncomputable def scL (H : List Int) (n : Nat) : List api_Found := (List.range n).flatMap (scF H)
theorem scL_succ (H : List Int) (n : Nat) : scL H (n + 1) = scL H n ++ scF H n := by
  unfold scL
  rw [List.range_succ, List.flatMap_append]; simp
theorem scF_len (H : List Int) (k : Nat) : (scF H k).length ≤ 1 := by unfold scF; split <;> simp
theorem scL_len (H : List Int) : ∀ n, (scL H n).length ≤ n
  | 0 => by simp [scL]
  | n + 1 => by
    have := scL_len H n
    have := scF_len H n
    rw [scL_succ, List.length_append]; omega
theorem scan_s {H : List Int} (h : hL H) (hl : H.length ≤ 900000) : salvage_scan H = some (scL H (H.length - 191)) ∧ ref4_scan H = some (scL H (H.length - 191)) := by
  constructor
  · have := loop_st (body := salvage_scan_it_L1 H) (scL H) (scL H (H.length - 191)) (a := 0) (b := H.length - 191) (by omega) (fun k _ hk => by
      have hlen := scL_len H k
      unfold salvage_scan_it_L1
      obtain ⟨l, hl1, hl2⟩ := slc_w h (k := k) (by omega)
      rw [i64v (z := (k : Int) + 192) (by omega) (by omega), if_pos (by simp; omega), i64v (z := (k : Int) + 3) (by omega) (by omega), hl1, Option.bind_some, hl2, Option.bind_some, isSync_s, Option.bind_some, scL_succ, i64v (z := (k : Int) + 1) (by omega) (by omega)]
      unfold scF
      cases hs : synB (wAt H k)
      · rw [if_pos (by decide), Option.bind_some, Bool.false_and, if_neg (by decide), List.append_nil]; rfl
      · rw [if_neg (by decide)]
        have hsl : slc H (k : Int) ((k : Int) + 192) = some ((H.drop k).take 192) := by
          have := slcN (l := H) (a := k) (b := k + 192) (by omega) (by omega)
          rw [show ((k + 192 : Nat) : Int) = (k : Int) + 192 by omega] at this
          rw [this, List.drop_take]
          congr 2
          omega
        have hlen2 : ((H.drop k).take 192).length = 192 := by rw [List.length_take, List.length_drop]; omega
        rw [hsl, Option.bind_some]
        obtain ⟨v, hv⟩ : ∃ v, tov 192 ((H.drop k).take 192) = some v := by unfold tov; rw [dif_pos (by omega)]; exact ⟨_, rfl⟩
        have hv2 := (tov_some hv).2
        rw [List.take_of_length_le (by omega)] at hv2
        rw [hv, Option.bind_some, frameIn_s h (by omega) hv2, Option.bind_some, Sound_s (frW_U h _), Option.bind_some, Bool.true_and]
        cases hsn : sndB (frW H (k : Int)).1
        · rw [if_neg (by decide), if_neg (by decide), if_neg (by decide), Option.bind_some, List.append_nil]; rfl
        · rw [if_pos (by decide), if_pos (by decide), app_of (by simp; omega), Option.bind_some]; rfl) (by
      unfold salvage_scan_it_L1
      rw [i64v (by omega) (by omega), if_neg (by simp; omega)])
    unfold salvage_scan salvage_scan_it
    have e0 : (([] : List api_Found), (0 : Int)) = (scL H 0, ((0 : Nat) : Int)) := rfl
    rw [e0, this]
  · have := loop_st (body := ref4_scan_L1 H) (scL H) (scL H (H.length - 191)) (a := 0) (b := H.length - 191) (by omega) (fun k _ hk => by
      have hlen := scL_len H k
      obtain ⟨a, ha⟩ := get_ex (xs := H) (k := k) (by omega)
      obtain ⟨b, hb⟩ := get_ex (xs := H) (k := k + 1) (by omega)
      obtain ⟨c, hc⟩ := get_ex (xs := H) (k := k + 2) (by omega)
      have ba := h a (List.mem_of_getElem? ha)
      have bb := h b (List.mem_of_getElem? hb)
      have bc := h c (List.mem_of_getElem? hc)
      have ew : wAt H k = w3 a b c := by unfold wAt; rw [getD_of ha, getD_of hb, getD_of hc]
      have e1 : i64 ((k : Int) + 1) = ((k + 1 : Nat) : Int) := by rw [i64v (by omega) (by omega)]; push_cast; rfl
      have e2 : i64 ((k : Int) + 2) = ((k + 2 : Nat) : Int) := by rw [i64v (by omega) (by omega)]; push_cast; rfl
      have e3 : i64 (i64 (i64 (i64 a * 256) + i64 (i64 b * 16)) + i64 c) = w3 a b c := by
        rw [i64v (z := a) (by omega) (by omega), i64v (z := b) (by omega) (by omega), i64v (z := c) (by omega) (by omega), i64v (z := a * 256) (by omega) (by omega), i64v (z := b * 16) (by omega) (by omega), i64v (z := a * 256 + b * 16) (by omega) (by omega), i64v (by omega) (by omega)]
        unfold w3; omega
      unfold ref4_scan_L1
      rw [i64v (z := (k : Int) + 192) (by omega) (by omega), if_pos (by simp; omega), idx_of ha, Option.bind_some, e1, idx_of hb, Option.bind_some, e2, idx_of hc, Option.bind_some, e3, scL_succ, ← ew]
      have hsy : (((!decide (wAt H k = 583) && !decide (wAt H k = 1464)) && !decide (wAt H k = 2631)) && !decide (wAt H k = 3512)) = !synB (wAt H k) := by
        unfold synB
        simp only [Bool.not_or, Bool.and_assoc]
      rw [hsy]
      unfold scF
      cases hs : synB (wAt H k)
      · rw [if_pos (by decide), Option.bind_some, Bool.false_and, if_neg (by decide), List.append_nil]; rfl
      · rw [if_neg (by decide), rframeAt_s h (by omega) (by omega), Option.bind_some, rSound_s (frW_U h _), Option.bind_some, Bool.true_and]
        cases hsn : sndB (frW H (k : Int)).1
        · rw [if_neg (by decide), if_neg (by decide), Option.bind_some, List.append_nil]; rfl
        · rw [if_pos (by decide), if_pos (by decide), app_of (by simp; omega), Option.bind_some]; rfl) (by
      unfold ref4_scan_L1
      rw [i64v (by omega) (by omega), if_neg (by simp; omega)])
    unfold ref4_scan
    have e0 : (([] : List api_Found), (0 : Int)) = (scL H 0, ((0 : Nat) : Int)) := rfl
    rw [e0, this]
    rfl
noncomputable def outS (p : api_Piece) : List api_Found × Int := if chkP p = 0 then (scL (hv p) ((hv p).length - 191), 0) else ([], chkP p)
theorem Scan_s {p : api_Piece} (hu : u8L p.Bytes) : salvage_Scan p = some (outS p) ∧ ref4_Scan p = some (outS p) := by
  unfold salvage_Scan ref4_Scan outS
  rw [CheckPiece_s p hu, rCheckPiece_s p hu, Option.bind_some, Option.bind_some]
  by_cases h : chkP p = 0
  · have hl := hv_le h
    obtain ⟨s1, s2⟩ := scan_s (hv_bd hu) (H := hv p) (by omega)
    have hd : (!decide (chkP p = 0)) = false := by rw [decide_eq_true h]; rfl
    rw [hd, if_neg Bool.false_ne_true, if_neg Bool.false_ne_true, if_pos h, halves_s hu h, rHalves_s hu (chk_ok h).1, Option.bind_some, Option.bind_some, s1, s2, Option.bind_some]
    exact ⟨rfl, rfl⟩
  · have hd : (!decide (chkP p = 0)) = true := by rw [decide_eq_false h]; rfl
    rw [hd, if_pos rfl, if_pos rfl, if_neg h]; exact ⟨rfl, rfl⟩
end Go.Vx

namespace Go.Vx
open Go Go.RowKit
theorem hvB_pk {Z : List Int} (h : hL Z) : hvB (pk Z) = Z ++ (if Z.length % 2 = 1 then [0] else []) := by
  refine List.ext_getElem? fun j => ?_
  have hlen : (pk Z).length = (Z.length + 1) / 2 := by unfold pk; simp
  have hg : ∀ k, k < (Z.length + 1) / 2 → (pk Z)[k]? = some (16 * Z.getD (2 * k) 0 + Z.getD (2 * k + 1) 0) := fun k hk => by
    unfold pk; rw [List.getElem?_map, List.getElem?_range hk]; rfl
  have hR : ∀ j, j < Z.length → (Z ++ (if Z.length % 2 = 1 then [0] else []))[j]? = some (Z.getD j 0) := fun j hj => by
    rw [List.getElem?_append_left hj]
    obtain ⟨x, hx⟩ := get_ex hj
    rw [hx, getD_of hx]
  have hlast : ∀ j, Z.length ≤ j → Z.getD j 0 = 0 := fun j hj => by rw [List.getD_eq_getElem?_getD, List.getElem?_eq_none hj]; rfl
  by_cases hj : j < 2 * ((Z.length + 1) / 2)
  · have hk := hg (j / 2) (by omega)
    obtain ⟨g1, g2⟩ := hvB_get hk
    have b1 := hL_getD h (2 * (j / 2))
    have b2 := hL_getD h (2 * (j / 2) + 1)
    have e1 : (16 * Z.getD (2 * (j / 2)) 0 + Z.getD (2 * (j / 2) + 1) 0) / 16 = Z.getD (2 * (j / 2)) 0 := by omega
    have e2 : (16 * Z.getD (2 * (j / 2)) 0 + Z.getD (2 * (j / 2) + 1) 0) % 16 = Z.getD (2 * (j / 2) + 1) 0 := by omega
    rw [e1] at g1
    rw [e2] at g2
    have hL' : (hvB (pk Z))[j]? = some (Z.getD j 0) := by
      rcases Nat.mod_two_eq_zero_or_one j with hm | hm
      · have : 2 * (j / 2) = j := by omega
        rw [this] at g1; exact g1
      · have : 2 * (j / 2) + 1 = j := by omega
        rw [this] at g2; exact g2
    rw [hL']
    by_cases hjl : j < Z.length
    · rw [hR j hjl]
    · have hjz : j = Z.length := by omega
      rw [hlast j (by omega), List.getElem?_append_right (by omega), if_pos (by omega)]
      subst hjz; simp
  · rw [List.getElem?_eq_none (by rw [hvB_len, hlen]; omega), List.getElem?_eq_none]
    rw [List.length_append]
    split <;> simp <;> omega
end Go.Vx

namespace Go.Vx
open Go Go.RowKit
def hf (f : Vector Int 64) (n : Nat) : Int := wd f (n / 3) / (2 : Int) ^ (8 - 4 * (n % 3)) % 16
theorem hf_bd (f : Vector Int 64) (n : Nat) : 0 ≤ hf f n ∧ hf f n ≤ 15 := by unfold hf; omega
def hfL (f : Vector Int 64) : List Int := (List.range 192).map (hf f)
theorem hfL_h (f : Vector Int 64) : hL (hfL f) := fun x hx => by
  obtain ⟨n, _, rfl⟩ := List.mem_map.1 hx
  exact hf_bd f n
theorem hfL_len (f : Vector Int 64) : (hfL f).length = 192 := by unfold hfL; rw [List.length_map, List.length_range]
theorem hfL_get (f : Vector Int 64) {n : Nat} (hn : n < 192) : (hfL f).getD n 0 = hf f n := by
  unfold hfL
  rw [List.getD_eq_getElem?_getD, List.getElem?_map, List.getElem?_range hn]; rfl
theorem hf_w {f : Vector Int 64} {i : Nat} (h : 0 ≤ wd f i ∧ wd f i ≤ 4095) : w3 (hf f (3 * i)) (hf f (3 * i + 1)) (hf f (3 * i + 2)) = wd f i := by
  unfold hf w3
  rw [show 3 * i / 3 = i by omega, show (3 * i + 1) / 3 = i by omega, show (3 * i + 2) / 3 = i by omega, show 8 - 4 * (3 * i % 3) = 8 by omega, show 8 - 4 * ((3 * i + 1) % 3) = 4 by omega, show 8 - 4 * ((3 * i + 2) % 3) = 0 by omega]
  rw [show (2 : Int) ^ 8 = 256 by decide, show (2 : Int) ^ 4 = 16 by decide, show (2 : Int) ^ 0 = 1 by decide]
  omega
theorem band_i64_15 (x : Int) : band .i64 x 15 = x % 16 := and_mask (v := x) (n := 4) (by decide)
theorem Half_s {f : Vector Int 64} (h : fU f) {n : Nat} (hn : n < 192) : ref1_Half f (n : Int) = some (hf f n) := by
  have hw := h (n / 3)
  unfold ref1_Half
  have e1 : quo .i64 (n : Int) 3 = some ((n / 3 : Nat) : Int) := by
    unfold quo
    rw [if_neg (by decide), Int.tdiv_eq_ediv_of_nonneg (by omega), w64 (by omega) (by omega)]
    rfl
  have e2 : i64 (8 - i64 ((n : Int) % 3 * 4)) = ((8 - 4 * (n % 3) : Nat) : Int) := by
    rw [i64v (z := (n : Int) % 3 * 4) (by omega) (by omega), i64v (by omega) (by omega)]; omega
  rw [e1, Option.bind_some, vidx_w f (by omega), Option.bind_some, rem_n (by omega) _ (by decide), Option.bind_some, i64v (z := wd f (n / 3)) (by omega) (by omega), e2, shr_i64 _ (by omega), Option.bind_some, band_i64_15]
  rfl
theorem pk_hfL (f : Vector Int 64) : (pk (hfL f)).length = 96 ∧ ∀ k, k < 96 → (pk (hfL f))[k]? = some (16 * hf f (2 * k) + hf f (2 * k + 1)) := by
  have h0 : (pk (hfL f)).length = 96 := by unfold pk; rw [List.length_map, List.length_range, hfL_len]
  refine ⟨h0, fun k hk => ?_⟩
  unfold pk
  rw [hfL_len, List.getElem?_map, List.getElem?_range (by omega)]
  simp only [Option.map_some]
  rw [hfL_get f (by omega), hfL_get f (by omega)]
theorem bytes_s {f : Vector Int 64} (h : fU f) : ref1_bytes f = some (pk (hfL f)) := by
  obtain ⟨hl, hg⟩ := pk_hfL f
  unfold ref1_bytes
  have e0 : mks 96 (0 : Int) = some (List.replicate 96 0) := by unfold mks; rw [if_pos (by decide)]; rfl
  rw [e0, Option.bind_some]
  have hrl : (List.replicate 96 (0 : Int)).length = 96 := List.length_replicate
  have := loop_fill (body := ref1_bytes_L1 f (List.replicate 96 0)) (pk (hfL f)) (fun k acc x ha hx => by
    have hk := (List.getElem?_eq_some_iff.1 hx).1
    rw [hl] at hk
    rw [hg k hk] at hx
    have hx := Option.some.inj hx
    have b1 := hf_bd f (2 * k)
    have b2 := hf_bd f (2 * k + 1)
    unfold ref1_bytes_L1
    have e1 : i64 (2 * (k : Int)) = ((2 * k : Nat) : Int) := by rw [i64v (by omega) (by omega)]; push_cast; rfl
    have e2 : i64 (((2 * k : Nat) : Int) + 1) = ((2 * k + 1 : Nat) : Int) := by rw [i64v (by omega) (by omega)]; push_cast; rfl
    obtain ⟨y, hy⟩ := get_ex (xs := acc) (k := k) (by omega)
    rw [if_pos (by rw [hrl]; simp; omega), e1, Half_s h (by omega), Option.bind_some, e2, Half_s h (by omega), Option.bind_some, idx_of hy, Option.bind_some, Int.toNat_natCast, i64v (z := 16 * hf f (2 * k)) (by omega) (by omega), i64v (by omega) (by omega), u8w (by omega) (by omega), hx, i64v (by omega) (by omega)]) (fun acc => by
    unfold ref1_bytes_L1
    rw [if_neg (by rw [hrl, hl]; decide)]) (l0 := List.replicate 96 0) (by rw [hl, hrl])
  rw [this]
  rfl
theorem Wide_s (f : Vector Int 64) : ref1_Wide f = some (!narrowB f) := by
  have := loop_allN (body := ref1_Wide_L1 f) (narrowP f) (.inl true : Bool ⊕ Unit) (.inr ()) (a := 0) (b := 64) (by decide) (fun k _ hk => by
    unfold ref1_Wide_L1 narrowP
    rw [if_pos (by simp; omega), vidx_w f hk, Option.bind_some, i64v (by omega) (by omega)]
    by_cases hw : 4095 < wd f k
    · rw [if_pos (by simpa using hw), if_neg (by simpa using hw)]
    · rw [if_neg (by simpa using hw), if_pos (by simpa using hw)]) (by unfold ref1_Wide_L1; rw [if_neg (by decide)])
  unfold ref1_Wide
  have e0 : (0 : Int) = ((0 : Nat) : Int) := rfl
  rw [e0, this]
  unfold narrowB
  rw [Nat.sub_zero]
  cases (List.range' 0 64).all (narrowP f) <;> rfl
theorem vec_ext {f g : Vector Int 64} (h : ∀ i, i < 64 → wd f i = wd g i) : f = g := by
  refine Vector.toList_inj.1 (List.ext_getElem? fun i => ?_)
  rcases Nat.lt_or_ge i 64 with hi | hi
  · obtain ⟨x, hx⟩ := get_ex (xs := f.toList) (k := i) (by simp; omega)
    obtain ⟨y, hy⟩ := get_ex (xs := g.toList) (k := i) (by simp; omega)
    have := h i hi
    unfold wd at this
    rw [getD_of hx, getD_of hy] at this
    rw [hx, hy, this]
  · rw [List.getElem?_eq_none (by simp; omega), List.getElem?_eq_none (by simp; omega)]
theorem syn_of (n : Int) (h : 0 ≤ n) : synB (syncV n) = true := by
  have e : ∀ m, m < 4 → synB (gv_frame_syncs.toList.getD m 0) = true := by decide
  exact e _ (by omega)
theorem contains_s {l : List api_Found} {v : api_Found} (hl : l.length ≤ 1000000) (hv : v ∈ l) : slices_Contains_api_Found_api_Found l v = some true := by
  have hI := loop_inv (body := t1 (slices_Index_api_Found_api_Found_L1 l v)) (fun i => ∃ k : Nat, i = k ∧ v ∈ l.drop k) (fun i => l.length - i.toNat) (fun r => ∃ i : Int, r = .inl i ∧ 0 ≤ i) (by
    rintro i ⟨k, rfl, hk⟩
    have hlt : k < l.length := by
      rcases Nat.lt_or_ge k l.length with h | h
      · exact h
      · rw [List.drop_eq_nil_of_le h] at hk; cases hk
    obtain ⟨x, hx⟩ := get_ex hlt
    rw [t1_mk]
    have eb : slices_Index_api_Found_api_Found_L1 l v (k : Int) = if (decide (v.At = x.At) && (decide (v.Frame = x.Frame) && true)) = true then some (.inr (.inl (k : Int))) else some (.inl ((k : Int) + 1)) := by
      unfold slices_Index_api_Found_api_Found_L1
      rw [if_pos (by simp; omega), idx_of hx, Option.bind_some, i64v (z := (k : Int) + 1) (by omega) (by omega)]
    rw [eb]
    by_cases hc : (decide (v.At = x.At) && (decide (v.Frame = x.Frame) && true)) = true
    · right
      exact ⟨_, by rw [if_pos hc], _, rfl, by omega⟩
    · left
      refine ⟨_, by rw [if_neg hc], ⟨k + 1, by push_cast; rfl, ?_⟩, by omega⟩
      rw [drop_cons hx] at hk
      rcases List.mem_cons.1 hk with rfl | h
      · exact (hc (by simp)).elim
      · exact h) 0 ⟨0, rfl, by simpa using hv⟩
  obtain ⟨r, h1, i, rfl, h2⟩ := hI
  unfold slices_Contains_api_Found_api_Found slices_Index_api_Found_api_Found
  rw [h1, Option.bind_some]
  show (some i).bind _ = _
  rw [Option.bind_some, decide_eq_true h2]
theorem getD_app {A B : List Int} {j : Nat} : (A ++ B).getD (A.length + j) 0 = B.getD j 0 := by
  rw [List.getD_eq_getElem?_getD, List.getElem?_append_right (by omega), List.getD_eq_getElem?_getD, show A.length + j - A.length = j by omega]
theorem getD_app1 {A B : List Int} {j : Nat} (h : j < A.length) : (A ++ B).getD j 0 = A.getD j 0 := by
  rw [List.getD_eq_getElem?_getD, List.getElem?_append_left h, List.getD_eq_getElem?_getD]
theorem law_VFinds (x : Vector Int 64) (ahead behind : List Int) (half : Bool) (hx : wfV (wfI .u16) x) (ha : wfL (wfI .u8) ahead) (hb : wfL (wfI .u8) behind)
    (z1 : ahead.length ≤ 140737488355328) (z2 : behind.length ≤ 140737488355328) : law4_SalvageFindsWholeFrames x ahead behind half = some true := by
  have hU := fU_of hx
  have ua : u8L ahead := fun y hy => wf_u8 (ha.2 y hy)
  have ub : u8L behind := fun y hy => wf_u8 (hb.2 y hy)
  unfold law4_SalvageFindsWholeFrames ref1_ToBytes
  rw [Wide_s, Option.bind_some]
  cases hn : narrowB x
  · simp [gd, saved_s]
  · rw [if_neg (by decide), bytes_s hU, Option.bind_some, Option.bind_some]
    have e0 : ((!decide ((0 : Int) = 0)) == false) = true := by decide
    have e00 : (!decide ((0 : Int) = 0)) = false := by decide
    rw [e00, show (false == false) = true from rfl, gd_t, rSound_s hU, Option.bind_some, Bool.false_or, i64v (z := (ahead.length : Int) + (behind.length : Int)) (by omega) (by omega)]
    cases hs : sndB x
    · rw [if_pos (by simp), saved_s]; rfl
    · by_cases hbig : 1000 < (ahead.length : Int) + (behind.length : Int)
      · rw [if_pos (by simp [hbig]), saved_s]; rfl
      · rw [if_neg (by simp only [Bool.not_true, Bool.false_or, decide_eq_true_eq]; exact hbig)]
        have la : (hvB ahead).length = 2 * ahead.length := hvB_len ahead
        have lb : (hvB behind).length = 2 * behind.length := hvB_len behind
        have H1 : ref4_Halves ⟨ahead, false⟩ = some (hvB ahead) := rHalves_s (p := ⟨ahead, false⟩) ua (by show ahead.length ≤ 200000; omega)
        have H2 : ref4_Halves ⟨behind, false⟩ = some (hvB behind) := rHalves_s (p := ⟨behind, false⟩) ub (by show behind.length ≤ 200000; omega)
        obtain ⟨hpl, hpg⟩ := pk_hfL x
        have up : u8L (pk (hfL x)) := fun y hy => by
          obtain ⟨k, hk⟩ := List.getElem?_of_mem hy
          have hlt := (List.getElem?_eq_some_iff.1 hk).1
          rw [hpl] at hlt
          rw [hpg k hlt] at hk
          have hk := Option.some.inj hk
          have b1 := hf_bd x (2 * k)
          have b2 := hf_bd x (2 * k + 1)
          omega
        have H3 : ref4_Halves ⟨pk (hfL x), false⟩ = some (hfL x) := by
          rw [rHalves_s (p := ⟨pk (hfL x), false⟩) up (by show (pk (hfL x)).length ≤ 200000; omega)]
          show some (hvB (pk (hfL x))) = _
          rw [hvB_pk (hfL_h x), hfL_len, if_neg (by decide), List.append_nil]
        rw [H1, Option.bind_some]
        -- what lies ahead
        obtain ⟨A, hA, hAh, hAl⟩ : ∃ A : List Int, ((if half = true then (app (hvB ahead) ([5] : List Int)).bind fun l => some (l, (i64 (((hvB ahead).length : Int) + 1))) else some (hvB ahead, ((hvB ahead).length : Int))) : Option ((List Int) × Int)) = some (A, (A.length : Int)) ∧ hL A ∧ A.length ≤ 2001 := by
          cases half
          · exact ⟨hvB ahead, by rw [if_neg (by decide)], hvB_bd ua, by omega⟩
          · refine ⟨hvB ahead ++ [5], ?_, ?_, by simp; omega⟩
            · rw [if_pos rfl, app_of (by simp; omega), Option.bind_some, i64v (by omega) (by omega)]; simp
            · intro y hy
              rcases List.mem_append.1 hy with h | h
              · exact hvB_bd ua y h
              · have := List.mem_singleton.1 h; omega
        rw [hA, Option.bind_some, t2_mk, H3, Option.bind_some, app_of (by rw [hfL_len]; omega), Option.bind_some, H2, Option.bind_some, app_of (by rw [List.length_append, hfL_len]; omega), Option.bind_some]
        generalize hL3 : A ++ hfL x ++ hvB behind = L
        have hLh : hL L := fun y hy => by
          rw [← hL3] at hy
          rcases List.mem_append.1 hy with h | h
          · rcases List.mem_append.1 h with h | h
            · exact hAh y h
            · exact hfL_h x y h
          · exact hvB_bd ub y h
        have hLl : L.length = A.length + 192 + 2 * behind.length := by rw [← hL3, List.length_append, List.length_append, hfL_len, lb]
        rw [OfHalves_s hLh (by omega), Option.bind_some, Bool.false_and, if_neg (by decide)]
        have hpkl : (pk L).length = (L.length + 1) / 2 := by unfold pk; simp
        have uL : u8L (pk L) := by
          intro y hy
          obtain ⟨k, _, rfl⟩ := List.mem_map.1 hy
          have b1 := hL_getD hLh (2 * k)
          have b2 := hL_getD hLh (2 * k + 1)
          omega
        have hck : chkP ⟨pk L, false⟩ = 0 := by
          unfold chkP
          rw [if_neg (by show ¬ (200000 < ((pk L).length : Int)); omega), if_neg (by simp)]
        rw [(Scan_s (p := ⟨pk L, false⟩) uL).1, Option.bind_some]
        have hout : outS ⟨pk L, false⟩ = (scL (hvB (pk L)) ((hvB (pk L)).length - 191), 0) := by unfold outS; rw [if_pos hck]; rfl
        rw [hout]
        generalize hG : hvB (pk L) = G
        have hGe : G = L ++ (if L.length % 2 = 1 then [0] else []) := by rw [← hG]; exact hvB_pk hLh
        have hGl : L.length ≤ G.length ∧ G.length ≤ L.length + 1 := by rw [hGe, List.length_append]; split <;> simp
        have hget : ∀ j, j < 192 → G.getD (A.length + j) 0 = hf x j := fun j hj => by
          rw [hGe, getD_app1 (by omega), ← hL3, getD_app1 (by rw [List.length_append, hfL_len]; omega), getD_app, hfL_get x hj]
        have hwd : ∀ i, i < 64 → wAt G (A.length + 3 * i) = wd x i := fun i hi => by
          unfold wAt
          rw [show A.length + 3 * i + 1 = A.length + (3 * i + 1) by omega, show A.length + 3 * i + 2 = A.length + (3 * i + 2) by omega, hget _ (by omega), hget _ (by omega), hget _ (by omega)]
          exact hf_w ⟨(hU i).1, narrow_of hn i hi⟩
        have hfr : (frW G (A.length : Int)).1 = x := vec_ext fun i hi => by
          rw [frW_wd G _ i hi, if_pos (by unfold inH; rw [decide_eq_true_eq]; omega), show ((A.length : Int) + 3 * (i : Int)).toNat = A.length + 3 * i by omega]
          exact hwd i hi
        have hsync : wd x 0 = syncV (num x) := by
          unfold sndB at hs
          simp only [Bool.and_eq_true, decide_eq_true_eq] at hs
          exact hs.2.1
        have hmem : api_Found.mk (A.length : Int) x ∈ scL G (G.length - 191) := by
          unfold scL
          refine List.mem_flatMap.2 ⟨A.length, List.mem_range.2 (by omega), ?_⟩
          unfold scF
          have hw0 := hwd 0 (by decide)
          rw [Nat.mul_zero, Nat.add_zero] at hw0
          rw [hfr, hw0, hsync, syn_of _ (num_bd x).1, hs, if_pos (by decide)]
          exact List.mem_singleton.2 rfl
        have hlen := scL_len G (G.length - 191)
        rw [contains_s (by omega) hmem, saved_s]
        rfl
end Go.Vx
