/- A text of the proof: a verified executor of the program form, or the contracts of the functions that the law reaches. -/
import Derived.Test.YthdiljjohpamnaaGreatDoorRRPA
set_option linter.all false
namespace Go.Vx
open Go Go.RowKit
def w3 (a b c : Int) : Int := 256 * a + 16 * b + c
def w3B (n : Nat) : Bool :=
  let a : Int := ((n / 256 : Nat) : Int); let b : Int := ((n / 16 % 16 : Nat) : Int); let c : Int := ((n % 16 : Nat) : Int)
  decide (shl .u16 (u16 a) 8 = some (256 * a)) && decide (shl .u16 (u16 b) 4 = some (16 * b)) && decide (bor .u16 (bor .u16 (256 * a) (16 * b)) (u16 c) = w3 a b c) && decide (u16 (u16 (u16 (u16 a * 256) + u16 (u16 b * 16)) + u16 c) = w3 a b c)
theorem w3_all : (List.range 4096).all w3B = true := by decide +kernel
theorem w3_one {a b c : Int} (ha : 0 ≤ a ∧ a ≤ 15) (hb : 0 ≤ b ∧ b ≤ 15) (hc : 0 ≤ c ∧ c ≤ 15) :
    shl .u16 (u16 a) 8 = some (256 * a) ∧ shl .u16 (u16 b) 4 = some (16 * b) ∧ bor .u16 (bor .u16 (256 * a) (16 * b)) (u16 c) = w3 a b c ∧ u16 (u16 (u16 (u16 a * 256) + u16 (u16 b * 16)) + u16 c) = w3 a b c := by
  have := List.all_eq_true.1 w3_all (a.toNat * 256 + b.toNat * 16 + c.toNat) (List.mem_range.2 (by omega))
  simp only [w3B, Bool.and_eq_true, decide_eq_true_eq] at this
  have e1 : (((a.toNat * 256 + b.toNat * 16 + c.toNat) / 256 : Nat) : Int) = a := by omega
  have e2 : (((a.toNat * 256 + b.toNat * 16 + c.toNat) / 16 % 16 : Nat) : Int) = b := by omega
  have e3 : (((a.toNat * 256 + b.toNat * 16 + c.toNat) % 16 : Nat) : Int) = c := by omega
  rw [e1, e2, e3] at this
  exact ⟨this.1.1.1, this.1.1.2, this.1.2, this.2⟩
def hL (l : List Int) : Prop := ∀ x ∈ l, 0 ≤ x ∧ x ≤ 15
theorem wordAt_s {a b c : Int} {tl : List Int} (ha : 0 ≤ a ∧ a ≤ 15) (hb : 0 ≤ b ∧ b ≤ 15) (hc : 0 ≤ c ∧ c ≤ 15) : salvage_wordAt (a :: b :: c :: tl) = some (w3 a b c) := by
  obtain ⟨h1, h2, h3, _⟩ := w3_one ha hb hc
  unfold salvage_wordAt
  have e0 : idx (a :: b :: c :: tl) 0 = some a := by simp [idx]
  have e1 : idx (a :: b :: c :: tl) 1 = some b := by simp [idx]
  have e2 : idx (a :: b :: c :: tl) 2 = some c := by simp [idx]
  rw [e0, Option.bind_some, h1, Option.bind_some, e1, Option.bind_some, h2, Option.bind_some, e2, Option.bind_some, h3]
theorem slc3 {l : List Int} {k : Nat} {a b c : Int} (h0 : l[k]? = some a) (h1 : l[k + 1]? = some b) (h2 : l[k + 2]? = some c) : slc l (k : Int) ((k : Int) + 3) = some [a, b, c] := by
  have hk := (List.getElem?_eq_some_iff.1 h2).1
  unfold slc
  rw [if_pos (by omega)]
  congr 1
  have e1 : ((k : Int) + 3).toNat = k + 3 := by omega
  rw [e1, Int.toNat_natCast]
  have : l.take (k + 3) = l.take k ++ [a, b, c] := by
    rw [show k + 3 = k + 1 + 1 + 1 by omega, List.take_add_one, List.take_add_one, List.take_add_one, h0, h1, show k + 1 + 1 = k + 2 by omega, h2]
    simp
  rw [this, List.drop_append_of_le_length (by simp; omega), List.drop_eq_nil_of_le (by simp; omega)]
  rfl
theorem frameAt_body {h : List Int} (hh : hL h) {at_ : Int} (hat : -1000000 ≤ at_ ∧ at_ ≤ 1000000) (hlen : h.length ≤ 1000000) (f : Vector Int 64) (w : Vector Bool 64) {i : Int} (hi : 0 ≤ i) :
    ref4_frameAt_L1 h at_ f w i = salvage_partly_L1 h at_ f w i := by
  unfold ref4_frameAt_L1 salvage_partly_L1
  by_cases hi2 : i < 64
  · have e0 : decide (i < 64) = true := by simpa using hi2
    simp only [e0, if_true]
    rw [i64v (z := 3 * i) (by omega) (by omega), i64v (z := at_ + 3 * i) (by omega) (by omega), i64v (z := at_ + 3 * i + 3) (by omega) (by omega)]
    by_cases hc : 0 ≤ at_ + 3 * i ∧ at_ + 3 * i + 3 ≤ (h.length : Int)
    · rw [if_neg (by simp; omega), if_pos (by simp; omega)]
      obtain ⟨k, hk⟩ : ∃ k : Nat, at_ + 3 * i = k := ⟨(at_ + 3 * i).toNat, by omega⟩
      obtain ⟨j, rfl⟩ : ∃ j : Nat, i = j := ⟨i.toNat, by omega⟩
      rw [hk] at hc ⊢
      obtain ⟨a, ha⟩ := get_ex (xs := h) (k := k) (by omega)
      obtain ⟨b, hb⟩ := get_ex (xs := h) (k := k + 1) (by omega)
      obtain ⟨c, hc'⟩ := get_ex (xs := h) (k := k + 2) (by omega)
      have ba := hh a (List.mem_of_getElem? ha)
      have bb := hh b (List.mem_of_getElem? hb)
      have bc := hh c (List.mem_of_getElem? hc')
      have e1 : i64 ((k : Int) + 1) = ((k + 1 : Nat) : Int) := by rw [i64v (by omega) (by omega)]; push_cast; rfl
      have e2 : i64 ((k : Int) + 2) = ((k + 2 : Nat) : Int) := by rw [i64v (by omega) (by omega)]; push_cast; rfl
      rw [slc3 ha hb hc', Option.bind_some, wordAt_s ba bb bc, Option.bind_some, e1, e2, idx_of ha, idx_of hb, idx_of hc']
      obtain ⟨_, _, _, h4⟩ := w3_one ba bb bc
      simp only [Option.bind_some, h4]
      have v1 : ∃ x, vidx f (j : Int) = some x := ⟨_, by unfold vidx; rw [if_pos (by omega)]; exact List.getElem?_eq_getElem (by simp; omega)⟩
      have v2 : ∃ x, vidx w (j : Int) = some x := ⟨_, by unfold vidx; rw [if_pos (by omega)]; exact List.getElem?_eq_getElem (by simp; omega)⟩
      obtain ⟨x1, v1⟩ := v1
      obtain ⟨x2, v2⟩ := v2
      rw [v1, v2]; rfl
    · rw [if_pos (by simp; omega), if_neg (by simp; omega)]
  · have e0 : decide (i < 64) = false := by simpa using hi2
    simp only [e0, Bool.false_eq_true, if_false]
def putW (h : List Int) (at_ : Int) (s : Vector Int 64 × Vector Bool 64) (i : Nat) : Vector Int 64 × Vector Bool 64 :=
  if 0 ≤ at_ + 3 * i ∧ at_ + 3 * i + 3 ≤ (h.length : Int) then (vset s.1 i (w3 (h.getD (at_ + 3 * i).toNat 0) (h.getD ((at_ + 3 * i).toNat + 1) 0) (h.getD ((at_ + 3 * i).toNat + 2) 0)), vset s.2 i true) else s
def frW (h : List Int) (at_ : Int) : Vector Int 64 × Vector Bool 64 := (List.range 64).foldl (putW h at_) (Vector.replicate 64 0, Vector.replicate 64 false)
theorem getD_of {l : List Int} {k : Nat} {x : Int} (h : l[k]? = some x) : l.getD k 0 = x := by rw [List.getD_eq_getElem?_getD, h]; rfl
theorem range_fold_step {σ : Type} (g : σ → Nat → σ) (s0 : σ) (k : Nat) : (List.range (k + 1)).foldl g s0 = g ((List.range k).foldl g s0) k := by rw [List.range_succ, List.foldl_append]; rfl
theorem partly_s {h : List Int} (hh : hL h) {at_ : Int} (hat : -1000000 ≤ at_ ∧ at_ ≤ 1000000) (hlen : h.length ≤ 1000000) : salvage_partly h at_ = some (frW h at_) := by
  have := loop_to (body := t3 (salvage_partly_L1 h at_)) (fun s => ∃ k : Nat, s.2.2 = k ∧ k ≤ 64 ∧ (s.1, s.2.1) = (List.range k).foldl (putW h at_) (Vector.replicate 64 0, Vector.replicate 64 false)) (fun s => 64 - s.2.2.toNat) (fun _ => frW h at_) (by
    rintro ⟨f, w, i⟩ ⟨k, hi, hk, hs⟩
    simp only at hi hs
    subst hi
    show (∃ s', salvage_partly_L1 h at_ f w (k : Int) = _ ∧ _) ∨ salvage_partly_L1 h at_ f w (k : Int) = _
    rcases Nat.lt_or_ge k 64 with hlt | hge
    · left
      refine ⟨((putW h at_ (f, w) k).1, (putW h at_ (f, w) k).2, (k : Int) + 1), ?_, ⟨k + 1, by push_cast; rfl, hlt, ?_⟩, by simp only; omega, rfl⟩
      · unfold salvage_partly_L1 putW
        rw [if_pos (by simp; omega)]
        rw [i64v (z := 3 * (k : Int)) (by omega) (by omega), i64v (z := at_ + 3 * (k : Int)) (by omega) (by omega), i64v (z := at_ + 3 * (k : Int) + 3) (by omega) (by omega), i64v (z := (k : Int) + 1) (by omega) (by omega)]
        by_cases hc : 0 ≤ at_ + 3 * (k : Int) ∧ at_ + 3 * (k : Int) + 3 ≤ (h.length : Int)
        · rw [if_pos (by simp; omega), if_pos hc]
          obtain ⟨q, hq⟩ : ∃ q : Nat, at_ + 3 * (k : Int) = q := ⟨(at_ + 3 * (k : Int)).toNat, by omega⟩
          rw [hq] at hc ⊢
          obtain ⟨a, ha⟩ := get_ex (xs := h) (k := q) (by omega)
          obtain ⟨b, hb⟩ := get_ex (xs := h) (k := q + 1) (by omega)
          obtain ⟨c, hc'⟩ := get_ex (xs := h) (k := q + 2) (by omega)
          have ba := hh a (List.mem_of_getElem? ha)
          have bb := hh b (List.mem_of_getElem? hb)
          have bc := hh c (List.mem_of_getElem? hc')
          rw [slc3 ha hb hc', Option.bind_some, wordAt_s ba bb bc, Option.bind_some]
          obtain ⟨x1, v1⟩ : ∃ x, vidx f (k : Int) = some x := ⟨_, by unfold vidx; rw [if_pos (by omega)]; exact List.getElem?_eq_getElem (by simp; omega)⟩
          obtain ⟨x2, v2⟩ : ∃ x, vidx w (k : Int) = some x := ⟨_, by unfold vidx; rw [if_pos (by omega)]; exact List.getElem?_eq_getElem (by simp; omega)⟩
          rw [v1, Option.bind_some, v2, Option.bind_some, Int.toNat_natCast, getD_of ha, getD_of hb, getD_of hc']
        · rw [if_neg (by simp; omega), if_neg hc]
      · simp only
        rw [range_fold_step, ← hs]
    · right
      have : k = 64 := by omega
      subst this
      unfold salvage_partly_L1
      rw [if_neg (by decide)]
      unfold frW
      rw [← hs]) (Vector.replicate 64 0, Vector.replicate 64 false, 0) ⟨0, rfl, by omega, rfl⟩
  unfold salvage_partly
  rw [this]
  rfl
theorem zV : (#v[0, 0, 0, 0, 0, 0, 0, 0, 0, 0, 0, 0, 0, 0, 0, 0, 0, 0, 0, 0, 0, 0, 0, 0, 0, 0, 0, 0, 0, 0, 0, 0, 0, 0, 0, 0, 0, 0, 0, 0, 0, 0, 0, 0, 0, 0, 0, 0, 0, 0, 0, 0, 0, 0, 0, 0, 0, 0, 0, 0, 0, 0, 0, 0] : Vector Int 64) = Vector.replicate 64 0 := by decide
theorem zB : (#v[false, false, false, false, false, false, false, false, false, false, false, false, false, false, false, false, false, false, false, false, false, false, false, false, false, false, false, false, false, false, false, false, false, false, false, false, false, false, false, false, false, false, false, false, false, false, false, false, false, false, false, false, false, false, false, false, false, false, false, false, false, false, false, false] : Vector Bool 64) = Vector.replicate 64 false := by decide
theorem rframeAt_s {h : List Int} (hh : hL h) {at_ : Int} (hat : -1000000 ≤ at_ ∧ at_ ≤ 1000000) (hlen : h.length ≤ 1000000) : ref4_frameAt h at_ = some (frW h at_) := by
  have h1 := partly_s hh hat hlen
  unfold salvage_partly at h1
  unfold ref4_frameAt
  rw [zV, zB]
  have e : loop (t3 (ref4_frameAt_L1 h at_)) (Vector.replicate 64 0, Vector.replicate 64 false, 0) = loop (t3 (salvage_partly_L1 h at_)) (Vector.replicate 64 0, Vector.replicate 64 false, 0) := by
    have key : loop (t3 (salvage_partly_L1 h at_)) (Vector.replicate 64 0, Vector.replicate 64 false, 0) = some (frW h at_) := by
      cases hq : loop (t3 (salvage_partly_L1 h at_)) (Vector.replicate 64 0, Vector.replicate 64 false, 0) with
      | none => rw [hq] at h1; cases h1
      | some r => rw [hq] at h1; exact h1
    rw [key]
    have := loop_to (body := t3 (ref4_frameAt_L1 h at_)) (fun s => ∃ k : Nat, s.2.2 = k ∧ k ≤ 64 ∧ (s.1, s.2.1) = (List.range k).foldl (putW h at_) (Vector.replicate 64 0, Vector.replicate 64 false)) (fun s => 64 - s.2.2.toNat) (fun _ => frW h at_) (by
      rintro ⟨f, w, i⟩ ⟨k, hi, hk, hs⟩
      simp only at hi hs
      subst hi
      show (∃ s', ref4_frameAt_L1 h at_ f w (k : Int) = _ ∧ _) ∨ ref4_frameAt_L1 h at_ f w (k : Int) = _
      rw [frameAt_body hh hat hlen f w (by omega)]
      rcases Nat.lt_or_ge k 64 with hlt | hge
      · left
        refine ⟨((putW h at_ (f, w) k).1, (putW h at_ (f, w) k).2, (k : Int) + 1), ?_, ⟨k + 1, by push_cast; rfl, hlt, ?_⟩, by simp only; omega, rfl⟩
        · unfold salvage_partly_L1 putW
          rw [if_pos (by simp; omega)]
          rw [i64v (z := 3 * (k : Int)) (by omega) (by omega), i64v (z := at_ + 3 * (k : Int)) (by omega) (by omega), i64v (z := at_ + 3 * (k : Int) + 3) (by omega) (by omega), i64v (z := (k : Int) + 1) (by omega) (by omega)]
          by_cases hc : 0 ≤ at_ + 3 * (k : Int) ∧ at_ + 3 * (k : Int) + 3 ≤ (h.length : Int)
          · rw [if_pos (by simp; omega), if_pos hc]
            obtain ⟨q, hq⟩ : ∃ q : Nat, at_ + 3 * (k : Int) = q := ⟨(at_ + 3 * (k : Int)).toNat, by omega⟩
            rw [hq] at hc ⊢
            obtain ⟨a, ha⟩ := get_ex (xs := h) (k := q) (by omega)
            obtain ⟨b, hb⟩ := get_ex (xs := h) (k := q + 1) (by omega)
            obtain ⟨c, hc'⟩ := get_ex (xs := h) (k := q + 2) (by omega)
            have ba := hh a (List.mem_of_getElem? ha)
            have bb := hh b (List.mem_of_getElem? hb)
            have bc := hh c (List.mem_of_getElem? hc')
            rw [slc3 ha hb hc', Option.bind_some, wordAt_s ba bb bc, Option.bind_some]
            obtain ⟨x1, v1⟩ : ∃ x, vidx f (k : Int) = some x := ⟨_, by unfold vidx; rw [if_pos (by omega)]; exact List.getElem?_eq_getElem (by simp; omega)⟩
            obtain ⟨x2, v2⟩ : ∃ x, vidx w (k : Int) = some x := ⟨_, by unfold vidx; rw [if_pos (by omega)]; exact List.getElem?_eq_getElem (by simp; omega)⟩
            rw [v1, Option.bind_some, v2, Option.bind_some, Int.toNat_natCast, getD_of ha, getD_of hb, getD_of hc']
          · rw [if_neg (by simp; omega), if_neg hc]
        · simp only
          rw [range_fold_step, ← hs]
      · right
        have : k = 64 := by omega
        subst this
        unfold salvage_partly_L1
        rw [if_neg (by decide)]
        unfold frW
        rw [← hs]) (Vector.replicate 64 0, Vector.replicate 64 false, 0) ⟨0, rfl, by omega, rfl⟩
    exact this
  rw [e]
  exact h1
theorem hv_le {p : api_Piece} (h : chkP p = 0) : (hv p).length ≤ 400000 := by have := (chk_ok h).1; rw [hv_len]; omega
end Go.Vx

namespace Go.Vx
open Go Go.RowKit
theorem loop_st {σ ρ : Type} {body : σ → Int → Option ((σ × Int) ⊕ ρ)} (S : Nat → σ) (R : ρ) {a b : Nat} (hab : a ≤ b)
    (hstep : ∀ k : Nat, a ≤ k → k < b → body (S k) (k : Int) = some (.inl (S (k + 1), (k : Int) + 1))) (hend : body (S b) (b : Int) = some (.inr R)) :
    loop (t2 body) (S a, (a : Int)) = some R := by
  refine loop_to (body := t2 body) (fun s => ∃ k : Nat, a ≤ k ∧ k ≤ b ∧ s = (S k, (k : Int))) (fun s => b - s.2.toNat) (fun _ => R) ?_ _ ⟨a, Nat.le_refl _, hab, rfl⟩
  rintro _ ⟨k, h1, h2, rfl⟩
  rcases Nat.lt_or_ge k b with h | h
  · exact .inl ⟨_, hstep k h1 h, ⟨k + 1, by omega, h, by push_cast; rfl⟩, by simp only; omega, rfl⟩
  · obtain rfl : k = b := by omega
    exact .inr hend
theorem loop_dn {σ ρ : Type} {body : σ → Int → Option ((σ × Int) ⊕ ρ)} (S : Nat → σ) (R : ρ) {b : Nat}
    (hstep : ∀ k : Nat, k < b → body (S (b - 1 - k)) (k : Int) = some (.inl (S (b - k), (k : Int) - 1))) (hend : body (S b) (-1) = some (.inr R)) :
    loop (t2 body) (S 0, (b : Int) - 1) = some R := by
  refine loop_to (body := t2 body) (fun s => ∃ k : Nat, k ≤ b ∧ s = (S (b - k), (k : Int) - 1)) (fun s => (s.2 + 1).toNat) (fun _ => R) ?_ _ ⟨b, Nat.le_refl _, by rw [Nat.sub_self]⟩
  rintro _ ⟨k, h2, rfl⟩
  rcases Nat.eq_zero_or_pos k with rfl | h
  · exact .inr hend
  · obtain ⟨j, rfl⟩ : ∃ j, k = j + 1 := ⟨k - 1, by omega⟩
    refine .inl ⟨_, ?_, ⟨j, by omega, rfl⟩, ?_, rfl⟩
    · have := hstep j h2
      rw [show ((j + 1 : Nat) : Int) - 1 = (j : Int) by omega, show b - (j + 1) = b - 1 - j by omega]
      exact this
    · simp only; omega
def wd (f : Vector Int 64) (i : Nat) : Int := f.toList.getD i 0
def fU (f : Vector Int 64) : Prop := ∀ i, 0 ≤ wd f i ∧ wd f i ≤ 65535
theorem vidx_w (f : Vector Int 64) {i : Nat} (hi : i < 64) : vidx f (i : Int) = some (wd f i) := by
  unfold vidx wd
  rw [if_pos (by omega), Int.toNat_natCast]
  obtain ⟨x, hx⟩ := get_ex (xs := f.toList) (k := i) (by simp; omega)
  rw [List.getD_eq_getElem?_getD, hx]; rfl
theorem data_s {x : Int} (h : 0 ≤ x ∧ x ≤ 65535) : frame_data x = some (x % 2048) := by
  obtain ⟨n, rfl⟩ : ∃ n : Nat, x = n := ⟨x.toNat, by omega⟩
  have e0 : IntKind.u16.bits = 16 := rfl
  have e1 : (BitVec.ofInt 16 (n : Int)).toNat = n := by
    rw [BitVec.ofInt_natCast, BitVec.toNat_ofNat]; exact Nat.mod_eq_of_lt (by omega)
  have e2 : (BitVec.ofInt 16 2047).toNat = 2 ^ 11 - 1 := rfl
  have e3 : band .u16 (n : Int) 2047 = ((n % 2048 : Nat) : Int) := by
    unfold band
    rw [e0, BitVec.toNat_and, e1, e2, Nat.and_two_pow_sub_one_eq_mod]
    have : n % 2 ^ 11 < 2048 := Nat.mod_lt _ (by decide)
    simp only [IntKind.wrap, IntKind.signed, IntKind.bits]
    have e : (2 : Int) ^ 16 = 65536 := by decide
    simp [e]
    omega
  unfold frame_data
  rw [e3, i64v (by omega) (by omega)]; rfl
theorem rem_n {x : Int} (h : 0 ≤ x) (n : Int) (hn : 0 < n) : rem x n = some (x % n) := by
  unfold rem
  rw [if_neg (by omega), Int.tmod_eq_emod_of_nonneg h]
def fnumv (f : Vector Int 64) : Int := wd f 1 % 2048 + wd f 2 % 2048 * 2048
theorem fnum_bd (f : Vector Int 64) : 0 ≤ fnumv f ∧ fnumv f < 4194304 := by unfold fnumv; omega
theorem bor_d {a b : Int} (ha : 0 ≤ a ∧ a < 2048) (hb : 0 ≤ b ∧ b < 2048) : (shl .i64 b 11).bind (fun q => some (bor .i64 a q)) = some (a + b * 2048) ∧ (shl .i64 a 11).bind (fun q => some (bor .i64 q b)) = some (a * 2048 + b) := by
  have e : ∀ z : Int, 0 ≤ z ∧ z < 2048 → shl .i64 z 11 = some (z * 2048) := fun z hz => by
    unfold shl
    rw [if_neg (by decide)]
    have e : (2 : Int) ^ min (Int.toNat 11) IntKind.i64.bits = 2048 := rfl
    rw [e, w64 (by omega) (by omega)]
  have e2 : ∀ x y : Int, 0 ≤ x ∧ x < 2048 → 0 ≤ y ∧ y < 2048 → bor .i64 x (y * 2048) = x + y * 2048 := fun x y hx hy => by
    obtain ⟨m, rfl⟩ : ∃ m : Nat, x = m := ⟨x.toNat, by omega⟩
    obtain ⟨n, rfl⟩ : ∃ n : Nat, y = n := ⟨y.toNat, by omega⟩
    have := bor_s (a := m) (b := n) (n := 11) (by rw [show (2 : Nat) ^ 11 = 2048 by decide]; omega) (by rw [show (2 : Nat) ^ 11 = 2048 by decide, show (2 : Nat) ^ 62 = 4611686018427387904 by decide]; omega)
    rw [show (2 : Nat) ^ 11 = 2048 by decide] at this
    rw [show ((n : Int) * 2048) = ((2048 * n : Nat) : Int) by omega, this]; omega
  have e3 : ∀ x y : Int, bor .i64 x y = bor .i64 y x := fun x y => by unfold bor; rw [BitVec.or_comm]
  rw [e b hb, e a ha, Option.bind_some, Option.bind_some, e2 a b ha hb, e3, e2 b a hb ha]
  exact ⟨rfl, by rw [Int.add_comm]⟩
theorem numA {a b : Int} (h1 : 0 ≤ a ∧ a ≤ 65535) (h2 : 0 ≤ b ∧ b ≤ 65535) : i64 (b % 2048 * 2048) = b % 2048 * 2048 ∧ i64 (a % 2048 + b % 2048 * 2048) = a % 2048 + b % 2048 * 2048 ∧ i64 a = a ∧ i64 b = b := ⟨i64v (by omega) (by omega), i64v (by omega) (by omega), i64v (by omega) (by omega), i64v (by omega) (by omega)⟩
theorem fnum_s {f : Vector Int 64} (h : fU f) : frame_numberOf f = some (fnumv f) ∧ ref1_numberOf f = some (fnumv f) := by
  have v1 : vidx f 1 = some (wd f 1) := vidx_w f (i := 1) (by decide)
  have v2 : vidx f 2 = some (wd f 2) := vidx_w f (i := 2) (by decide)
  obtain ⟨e1, e2, e3, e4⟩ := numA (h 1) (h 2)
  refine ⟨?_, ?_⟩
  · unfold frame_numberOf fnumv
    rw [v1, Option.bind_some, data_s (h 1), Option.bind_some, v2, Option.bind_some, data_s (h 2), Option.bind_some, (bor_d (by omega) (by omega)).1]
  · unfold ref1_numberOf fnumv
    rw [v1, Option.bind_some, e3, rem_n (h 1).1 _ (by decide), Option.bind_some, v2, Option.bind_some, e4, rem_n (h 2).1 _ (by decide), Option.bind_some, e1, e2]
def sumS (f : Vector Int 64) : Nat → Int
  | 0 => 0
  | k + 1 => bxor .i64 (sumS f k) (wd f (k + 1) % 2048)
theorem sumOf_s {f : Vector Int 64} (h : fU f) : frame_sumOf f = some (sumS f 60) ∧ ref1_sum f = some (sumS f 60) := by
  constructor
  · have := loop_st (body := frame_sumOf_L1 f) (sumS f) (sumS f 60) (a := 0) (b := 60) (by decide) (fun k _ hk => by
      have hw := h (k + 1)
      unfold frame_sumOf_L1
      rw [if_pos (by simp; omega), i64v (by omega) (by omega), show (k : Int) + 1 = ((k + 1 : Nat) : Int) by push_cast; rfl, vidx_w f (by omega), Option.bind_some, data_s hw, Option.bind_some]
      rfl) (by unfold frame_sumOf_L1; rw [if_neg (by decide)])
    unfold frame_sumOf
    rw [show ((0 : Int), (0 : Int)) = (sumS f 0, ((0 : Nat) : Int)) from rfl, this]
    rfl
  · have := loop_st (body := ref1_sum_L1 f) (fun k => sumS f (k - 1)) (sumS f 60) (a := 1) (b := 61) (by decide) (fun k h1 hk => by
      have hw := h k
      obtain ⟨j, rfl⟩ : ∃ j, k = j + 1 := ⟨k - 1, by omega⟩
      unfold ref1_sum_L1
      rw [if_pos (by simp; omega), vidx_w f (by omega), Option.bind_some, i64v (by omega) (by omega), rem_n hw.1 _ (by decide), Option.bind_some, i64v (by omega) (by omega)]
      rfl) (by unfold ref1_sum_L1; rw [if_neg (by decide)])
    unfold ref1_sum
    rw [show ((0 : Int), (1 : Int)) = ((fun k => sumS f (k - 1)) 1, ((1 : Nat) : Int)) from rfl, this]
    rfl
def bitB (f : Vector Int 64) (j : Nat) : Bool := decide (j < 744) && decide (wd f (j / 12) / (2 : Int) ^ (11 - j % 12) % 2 = 1)
theorem shr_u16 (x : Int) {k : Nat} (hk : k ≤ 11) : shr .u16 x (k : Int) = some (x / (2 : Int) ^ k) := by
  unfold shr
  have hm : min ((k : Int)).toNat IntKind.u16.bits = k := by
    have : IntKind.u16.bits = 16 := rfl
    rw [Int.toNat_natCast]; omega
  have hp : (0 : Int) < 2 ^ k := Int.pow_pos (by decide)
  rw [if_neg (by omega), hm, Int.fdiv_eq_ediv_of_nonneg _ (by omega)]
theorem shr_i64 (x : Int) {k : Nat} (hk : k ≤ 11) : shr .i64 x (k : Int) = some (x / (2 : Int) ^ k) := by
  unfold shr
  have hm : min ((k : Int)).toNat IntKind.i64.bits = k := by
    have : IntKind.i64.bits = 64 := rfl
    rw [Int.toNat_natCast]; omega
  have hp : (0 : Int) < 2 ^ k := Int.pow_pos (by decide)
  rw [if_neg (by omega), hm, Int.fdiv_eq_ediv_of_nonneg _ (by omega)]
theorem dvw_bd {x : Int} (h : 0 ≤ x ∧ x ≤ 65535) (k : Nat) : 0 ≤ x / (2 : Int) ^ k ∧ x / (2 : Int) ^ k ≤ 65535 := by
  have hp : (0 : Int) < 2 ^ k := Int.pow_pos (by decide)
  have h1 := Int.ediv_nonneg h.1 (Int.le_of_lt hp)
  have h2 : x / (2 : Int) ^ k ≤ x := Int.ediv_le_self _ h.1
  omega
theorem band_u16_1 {x : Int} (h : 0 ≤ x ∧ x ≤ 65535) : band .u16 x 1 = x % 2 := by
  obtain ⟨n, rfl⟩ : ∃ n : Nat, x = n := ⟨x.toNat, by omega⟩
  have e0 : IntKind.u16.bits = 16 := rfl
  have e1 : (BitVec.ofInt 16 (n : Int)).toNat = n := by
    rw [BitVec.ofInt_natCast, BitVec.toNat_ofNat]; exact Nat.mod_eq_of_lt (by omega)
  have e2 : (BitVec.ofInt 16 1).toNat = 2 ^ 1 - 1 := rfl
  unfold band
  rw [e0, BitVec.toNat_and, e1, e2, Nat.and_two_pow_sub_one_eq_mod]
  have : n % 2 ^ 1 < 2 := Nat.mod_lt _ (by decide)
  simp only [IntKind.wrap, IntKind.signed, IntKind.bits]
  have e : (2 : Int) ^ 16 = 65536 := by decide
  simp [e]
  omega
theorem band_i64_1 (x : Int) : band .i64 x 1 = x % 2 := and_mask (v := x) (n := 1) (by decide)
def ckS (f : Vector Int 64) (k : Nat) : Int := ((pS (bitB f) k).toNat : Int)
theorem ckS_step (f : Vector Int 64) (j : Nat) : ckS f (j + 1) = if (!((!decide (band .i64 (ckS f j) 2097152 = 0)) == bitB f j)) = true then bxor .i64 (band .i64 (ckS f j * 2) 4194303) 2097167 else band .i64 (ckS f j * 2) 4194303 := by
  have := pS_step (pS (bitB f) j) (bitB f j)
  unfold ckS
  rw [pS, this, msb_w, Bool.not_not, shm_w, xr_w]
  split <;> rfl
theorem checkOf_s {f : Vector Int 64} (h : fU f) : frame_checkOf f = some (ckS f 744) := by
  have inner : ∀ i : Nat, i < 62 → loop (t2 (frame_checkOf_L2 f (i : Int))) (ckS f (12 * i), 11) = some (ckS f (12 * (i + 1))) := fun i hi => by
    have hw := h i
    have := loop_dn (body := frame_checkOf_L2 f (i : Int)) (fun j => ckS f (12 * i + j)) (ckS f (12 * (i + 1))) (b := 12) (fun k hk => by
      have hd := dvw_bd hw k
      have hv := (pS (bitB f) (12 * i + (12 - 1 - k))).isLt
      unfold frame_checkOf_L2
      have e1 : shl .i64 (ckS f (12 * i + (12 - 1 - k))) 1 = some (ckS f (12 * i + (12 - 1 - k)) * 2) := shl_w _
      rw [if_pos (by simp), e1, Option.bind_some, vidx_w f (by omega), Option.bind_some, shr_u16 _ (by omega), Option.bind_some, band_u16_1 hd, i64v (by omega) (by omega)]
      have eb : bitB f (12 * i + (12 - 1 - k)) = decide (wd f i / (2 : Int) ^ k % 2 = 1) := by
        unfold bitB
        rw [decide_eq_true (show 12 * i + (12 - 1 - k) < 744 by omega), Bool.true_and, show (12 * i + (12 - 1 - k)) / 12 = i by omega, show 11 - (12 * i + (12 - 1 - k)) % 12 = k by omega]
      have := ckS_step f (12 * i + (12 - 1 - k))
      rw [eb] at this
      rw [show 12 * i + (12 - k) = 12 * i + (12 - 1 - k) + 1 by omega, this]
      split <;> rfl) (by unfold frame_checkOf_L2; rw [if_neg (by decide)]; rw [show 12 * (i + 1) = 12 * i + 12 by omega])
    exact this
  have := loop_st (body := frame_checkOf_L1 f) (fun i => ckS f (12 * i)) (ckS f 744) (a := 0) (b := 62) (by decide) (fun k _ hk => by
    unfold frame_checkOf_L1
    rw [if_pos (by simp; omega), inner k hk, Option.bind_some, t1_mk, i64v (by omega) (by omega)]) (by unfold frame_checkOf_L1; rw [if_neg (by decide)])
  unfold frame_checkOf
  have e0 : ((0 : Int), (0 : Int)) = ((fun i => ckS f (12 * i)) 0, ((0 : Nat) : Int)) := rfl
  rw [e0, this]
  rfl
def rkS (f : Vector Int 64) (k : Nat) : Int := ((rS (bitB f) k).toNat : Int)
theorem rcks_s {f : Vector Int 64} (h : fU f) : ref1_check f = some (ckS f 744) := by
  have hfin : rkS f 766 = ckS f 744 := by
    unfold rkS ckS
    rw [show 766 = 744 + 22 from rfl, crc_eq (fun k hk => by unfold bitB; rw [decide_eq_false (by omega), Bool.false_and])]
  have := loop_st (body := ref1_check_L1 f) (rkS f) (ckS f 744) (a := 0) (b := 766) (by decide) (fun k _ hk => by
    have hv := (rS (bitB f) k).isLt
    have hb : ((if (decide ((k : Int) < 744)) = true then (quo .i64 (k : Int) 12).bind fun q => (vidx f q).bind fun x => (rem (k : Int) 12).bind fun q2 => (shr .i64 (i64 x) (i64 (11 - q2))).bind fun q3 => some (band .i64 q3 1) else some 0) : Option Int) = some ((bitB f k).toNat : Int) := by
      by_cases hk2 : k < 744
      · have hw := h (k / 12)
        rw [if_pos (by simp; omega)]
        have e1 : quo .i64 (k : Int) 12 = some ((k / 12 : Nat) : Int) := by
          unfold quo
          rw [if_neg (by decide), Int.tdiv_eq_ediv_of_nonneg (by omega), w64 (by omega) (by omega)]
          rfl
        rw [e1, Option.bind_some, vidx_w f (by omega), Option.bind_some, rem_n (by omega) _ (by decide), Option.bind_some, i64v (by omega) (by omega)]
        have e2 : i64 (11 - (k : Int) % 12) = ((11 - k % 12 : Nat) : Int) := by rw [i64v (by omega) (by omega)]; omega
        rw [e2, shr_i64 _ (by omega), Option.bind_some, band_i64_1]
        unfold bitB
        rw [decide_eq_true hk2, Bool.true_and]
        generalize wd f (k / 12) / (2 : Int) ^ (11 - k % 12) = z
        by_cases hz : z % 2 = 1
        · rw [decide_eq_true hz, hz]; rfl
        · rw [decide_eq_false hz, show z % 2 = 0 by omega]; rfl
      · rw [if_neg (by simp; omega)]
        unfold bitB
        rw [decide_eq_false hk2, Bool.false_and]; rfl
    unfold ref1_check_L1
    rw [if_pos (by simp; omega), hb, Option.bind_some, t1_mk]
    have hbl : (bitB f k).toNat ≤ 1 := by cases bitB f k <;> decide
    have hs := rS_step (rS (bitB f) k) (bitB f k)
    simp only at hs
    have er : i64 (i64 (rkS f k * 2) + ((bitB f k).toNat : Int)) = ((2 * (rS (bitB f) k).toNat + (bitB f k).toNat : Nat) : Int) := by
      unfold rkS
      rw [i64v (z := ((rS (bitB f) k).toNat : Int) * 2) (by omega) (by omega), i64v (by omega) (by omega)]; push_cast; omega
    have en : rkS f (k + 1) = ((zS (rS (bitB f) k) ^^^ (if bitB f k then 1#22 else 0#22)).toNat : Int) := rfl
    rw [er, en, ← hs, i64v (z := (k : Int) + 1) (by omega) (by omega)]
    by_cases hc : 4194304 ≤ 2 * (rS (bitB f) k).toNat + (bitB f k).toNat
    · rw [if_pos (by simp; omega), if_pos hc, show (6291471 : Int) = ((6291471 : Nat) : Int) from rfl, bxor_n (by omega) (by omega)]
    · rw [if_neg (by simp; omega), if_neg hc]) (by unfold ref1_check_L1; rw [if_neg (by decide), hfin])
  unfold ref1_check
  rw [show ((0 : Int), (0 : Int)) = (rkS f 0, ((0 : Nat) : Int)) from rfl, this]
  rfl
end Go.Vx

namespace Go.Vx
open Go Go.RowKit
theorem loop_allN {ρ : Type} {body : Int → Option (Int ⊕ ρ)} (P : Nat → Bool) (A Z : ρ) {a b : Nat} (hab : a ≤ b)
    (hstep : ∀ k : Nat, a ≤ k → k < b → body (k : Int) = if P k = true then some (.inl ((k : Int) + 1)) else some (.inr A)) (hend : body (b : Int) = some (.inr Z)) :
    loop (t1 body) (a : Int) = some (cond ((List.range' a (b - a)).all P) Z A) := by
  refine loop_to (body := t1 body) (fun i => ∃ k : Nat, i = k ∧ a ≤ k ∧ k ≤ b) (fun i => b - i.toNat) (fun i => cond ((List.range' i.toNat (b - i.toNat)).all P) Z A) ?_ (a : Int) ⟨a, rfl, Nat.le_refl _, hab⟩
  rintro i ⟨k, rfl, h1, h2⟩
  simp only [Int.toNat_natCast, t1_mk]
  rcases Nat.lt_or_ge k b with h | h
  · rw [hstep k h1 h]
    obtain ⟨n, hn⟩ : ∃ n, b - k = n + 1 := ⟨b - k - 1, by omega⟩
    rw [hn, List.range'_succ, List.all_cons]
    cases hp : P k
    · right; simp
    · left
      refine ⟨_, by rw [if_pos rfl], ⟨k + 1, by push_cast; rfl, by omega, h⟩, by omega, ?_⟩
      rw [show ((k : Int) + 1).toNat = k + 1 by omega, show b - (k + 1) = n by omega, Bool.true_and]
  · obtain rfl : k = b := by omega
    right
    rw [hend]; simp
def flL (P : Nat → Bool) (c : Int) (a n : Nat) : List api_Flaw := ((List.range' a n).filter fun k => !P k).map fun (k : Nat) => api_Flaw.mk (k : Int) c
theorem flL_succ (P : Nat → Bool) (c : Int) (a n : Nat) : flL P c a (n + 1) = flL P c a n ++ (if P (a + n) = true then [] else [api_Flaw.mk ((a + n : Nat) : Int) c]) := by
  unfold flL
  rw [List.range'_1_concat, List.filter_append, List.map_append]
  congr 1
  cases h : P (a + n) <;> simp [h]
theorem flL_len (P : Nat → Bool) (c : Int) (a : Nat) : ∀ n, (flL P c a n).length ≤ n
  | 0 => by simp [flL]
  | n + 1 => by
    have := flL_len P c a n
    rw [flL_succ, List.length_append]; split <;> simp <;> omega
theorem flL_nil (P : Nat → Bool) (c : Int) (a n : Nat) : (flL P c a n).length = 0 ↔ (List.range' a n).all P = true := by
  unfold flL
  rw [List.length_map, List.length_eq_zero_iff, List.filter_eq_nil_iff, List.all_eq_true]
  exact ⟨fun h x hx => by have := h x hx; simpa using this, fun h x hx => by rw [h x hx]; decide⟩
theorem loop_fl {body : List api_Flaw → Int → Option ((List api_Flaw × Int) ⊕ List api_Flaw)} (P : Nat → Bool) (c : Int) {a b : Nat} (hab : a ≤ b) (l0 : List api_Flaw) (hl : l0.length ≤ 1000) (hb : b ≤ 1000)
    (hstep : ∀ (l : List api_Flaw) (k : Nat), l.length ≤ 2000 → a ≤ k → k < b → body l (k : Int) = if P k = true then some (.inl (l, (k : Int) + 1)) else some (.inl (l ++ [api_Flaw.mk (k : Int) c], (k : Int) + 1)))
    (hend : ∀ l, body l (b : Int) = some (.inr l)) : loop (t2 body) (l0, (a : Int)) = some (l0 ++ flL P c a (b - a)) := by
  have := loop_st (body := body) (fun k => l0 ++ flL P c a (k - a)) (l0 ++ flL P c a (b - a)) (a := a) (b := b) hab (fun k h1 h2 => by
    have hlen := flL_len P c a (k - a)
    rw [hstep _ k (by rw [List.length_append]; omega) h1 h2, show k + 1 - a = k - a + 1 by omega, flL_succ, show a + (k - a) = k by omega]
    cases P k <;> simp) (hend _)
  have e : (fun k => l0 ++ flL P c a (k - a)) a = l0 := by simp [flL]
  simp only at e
  rw [e] at this
  exact this
noncomputable def oddC (n : Nat) : Bool := decide (frame_odd (n : Int) = ref1_odd_c (n : Int)) && (ref1_odd_c (n : Int)).isSome
theorem odd_all : (List.range 4096).all oddC = true := by decide +kernel
noncomputable def oddB (x : Int) : Bool := (ref1_odd_c x).getD false
theorem odd_s {x : Int} (h : 0 ≤ x ∧ x ≤ 4095) : frame_odd x = some (oddB x) ∧ ref1_odd x = some (oddB x) := by
  obtain ⟨n, rfl⟩ : ∃ n : Nat, x = n := ⟨x.toNat, by omega⟩
  have := List.all_eq_true.1 odd_all n (List.mem_range.2 (by omega))
  simp only [oddC, Bool.and_eq_true, decide_eq_true_eq] at this
  obtain ⟨h2, h3⟩ := this
  obtain ⟨b, hb⟩ := Option.isSome_iff_exists.1 h3
  unfold oddB
  rw [hb]
  exact ⟨h2.trans hb, le_ref1_odd _ b hb⟩
def narrowP (f : Vector Int 64) (k : Nat) : Bool := decide (wd f k ≤ 4095)
def narrowB (f : Vector Int 64) : Bool := (List.range' 0 64).all (narrowP f)
theorem narrow_of {f : Vector Int 64} (h : narrowB f = true) (k : Nat) (hk : k < 64) : wd f k ≤ 4095 := by
  have := List.all_eq_true.1 h k (List.mem_range'.2 ⟨k, hk, by omega⟩)
  simpa [narrowP] using this
theorem wide_s (f : Vector Int 64) : frame_wide f = some (!narrowB f) := by
  have := loop_allN (body := frame_wide_L1 f) (narrowP f) (.inl true : Bool ⊕ Unit) (.inr ()) (a := 0) (b := 64) (by decide) (fun k _ hk => by
    unfold frame_wide_L1 narrowP
    rw [if_pos (by simp; omega), vidx_w f hk, Option.bind_some, i64v (by omega) (by omega)]
    by_cases hw : 4095 < wd f k
    · rw [if_pos (by simpa using hw), if_neg (by simpa using hw)]
    · rw [if_neg (by simpa using hw), if_pos (by simpa using hw)]) (by unfold frame_wide_L1; rw [if_neg (by decide)])
  unfold frame_wide
  have e0 : (0 : Int) = ((0 : Nat) : Int) := rfl
  rw [e0, this]
  unfold narrowB
  rw [Nat.sub_zero]
  cases (List.range' 0 64).all (narrowP f) <;> rfl
def syncV (n : Int) : Int := gv_frame_syncs.toList.getD (n % 4).toNat 0
theorem sync_s {n : Int} (h : 0 ≤ n) : rem n 4 = some (n % 4) ∧ vidx gv_frame_syncs (n % 4) = some (syncV n) := by
  refine ⟨rem_n h _ (by decide), ?_⟩
  unfold vidx syncV
  rw [if_pos (by omega)]
  obtain ⟨x, hx⟩ := get_ex (xs := gv_frame_syncs.toList) (k := (n % 4).toNat) (by simp; omega)
  rw [List.getD_eq_getElem?_getD, hx]; rfl
theorem syncOf_s {n : Int} (h : 0 ≤ n) : ref1_syncOf n = some (syncV n) := by
  unfold ref1_syncOf
  have := (sync_s h).2
  unfold gv_frame_syncs at this
  rw [(sync_s h).1, Option.bind_some, this, Option.bind_some]
noncomputable def oddP (f : Vector Int 64) (k : Nat) : Bool := oddB (wd f k)
def ckW (f : Vector Int 64) : Int := wd f 62 % 2048 * 2048 + wd f 63 % 2048
noncomputable def sndB (f : Vector Int 64) : Bool := narrowB f && (decide (wd f 0 = syncV (fnumv f)) && (decide (wd f 61 % 2048 = sumS f 60) && ((List.range' 1 63).all (oddP f) && decide (ckW f = ckS f 744))))
theorem sound_s {f : Vector Int 64} (h : fU f) : frame_sound f = some (sndB f) := by
  unfold frame_sound
  rw [wide_s, Option.bind_some]
  cases hn : narrowB f
  · unfold sndB
    rw [hn]
    simp [gd]
  · have hnb := fnum_bd f
    have h0 := h 0
    have v0 : vidx f 0 = some (wd f 0) := vidx_w f (i := 0) (by decide)
    have v61 : vidx f 61 = some (wd f 61) := vidx_w f (i := 61) (by decide)
    have v62 : vidx f 62 = some (wd f 62) := vidx_w f (i := 62) (by decide)
    have v63 : vidx f 63 = some (wd f 63) := vidx_w f (i := 63) (by decide)
    have ck := ckW f
    have e0 : ((!true) == false) = true := rfl
    have ob : 0 ≤ wd f 62 % 2048 ∧ wd f 62 % 2048 < 2048 := by omega
    have oc : 0 ≤ wd f 63 % 2048 ∧ wd f 63 % 2048 < 2048 := by omega
    rw [e0, gd_t, v0, Option.bind_some, gd_t, (fnum_s h).1, Option.bind_some, gd_t, (sync_s hnb.1).1, Option.bind_some, gd_t, (sync_s hnb.1).2, Option.bind_some]
    unfold sndB
    rw [hn, Bool.not_true, Bool.false_or, Bool.true_and]
    by_cases hs : wd f 0 = syncV (fnumv f)
    · have e1 : decide (wd f 0 = syncV (fnumv f)) = true := decide_eq_true hs
      rw [e1, Bool.not_true, show (false == false) = true from rfl, gd_t, v61, Option.bind_some, gd_t, data_s (h 61), Option.bind_some, gd_t, (sumOf_s h).1, Option.bind_some, Bool.false_or, Bool.true_and]
      by_cases hs2 : wd f 61 % 2048 = sumS f 60
      · rw [if_neg (by simp [hs2]), decide_eq_true hs2, Bool.true_and]
        have := loop_allN (body := frame_sound_L1 f) (oddP f) (.inl false : Bool ⊕ Unit) (.inr ()) (a := 1) (b := 64) (by decide) (fun k _ hk => by
          unfold frame_sound_L1 oddP
          have := narrow_of hn k hk
          rw [if_pos (by simp; omega), vidx_w f hk, Option.bind_some, (odd_s ⟨(h k).1, this⟩).1, Option.bind_some, i64v (by omega) (by omega)]
          cases oddB (wd f k) <;> rfl) (by unfold frame_sound_L1; rw [if_neg (by decide)])
        have e1 : (1 : Int) = ((1 : Nat) : Int) := rfl
        rw [e1, this, Option.bind_some]
        rw [show 64 - 1 = 63 from rfl]
        cases (List.range' 1 63).all (oddP f)
        · rfl
        · rw [Bool.true_and]
          show (vidx f 62).bind _ = _
          rw [v62, Option.bind_some, data_s (h 62), Option.bind_some]
          unfold ckW
          have eb := (bor_d ob oc).2
          obtain ⟨q, hq, hq2⟩ : ∃ q, shl .i64 (wd f 62 % 2048) 11 = some q ∧ bor .i64 q (wd f 63 % 2048) = wd f 62 % 2048 * 2048 + wd f 63 % 2048 := by
            cases hh : shl .i64 (wd f 62 % 2048) 11 with
            | none => rw [hh] at eb; cases eb
            | some q => rw [hh, Option.bind_some] at eb; exact ⟨q, rfl, Option.some.inj eb⟩
          rw [hq, Option.bind_some, v63, Option.bind_some, data_s (h 63), Option.bind_some, checkOf_s h, Option.bind_some, hq2]
      · rw [if_pos (by simp [hs2]), decide_eq_false hs2, Bool.false_and]
    · rw [decide_eq_false hs]
      simp [gd]
theorem Sound_s {f : Vector Int 64} (h : fU f) : frame_Sound f = some (sndB f) := by
  unfold frame_Sound
  rw [sound_s h, Option.bind_some]
def oneF (b : Bool) (i c : Int) : List api_Flaw := if b = true then [] else [api_Flaw.mk i c]
noncomputable def flws (f : Vector Int 64) : List api_Flaw :=
  if narrowB f = true then ((oneF (decide (wd f 0 = syncV (fnumv f))) 0 1 ++ flL (oddP f) 2 1 63) ++ oneF (decide (wd f 61 % 2048 = sumS f 60)) 61 3) ++ oneF (decide (ckW f = ckS f 744)) 62 4
  else flL (narrowP f) 5 0 64
theorem oneF_len (b : Bool) (i c : Int) : (oneF b i c).length ≤ 1 ∧ ((oneF b i c).length = 0 ↔ b = true) := by cases b <;> simp [oneF]
theorem Flaws_s {f : Vector Int 64} (h : fU f) : ref1_Flaws f = some (flws f) := by
  have hl1 := loop_fl (body := ref1_Flaws_L1 f) (narrowP f) 5 (a := 0) (b := 64) (by decide) [] (by decide) (by decide) (fun l k hl _ hk => by
    unfold ref1_Flaws_L1 narrowP
    rw [if_pos (by simp; omega), vidx_w f hk, Option.bind_some, i64v (by omega) (by omega)]
    by_cases hw : 4095 < wd f k
    · rw [if_pos (by simpa using hw), if_neg (by simpa using hw), app_of (by simp; omega), Option.bind_some]
    · rw [if_neg (by simpa using hw), if_pos (by simpa using hw)]) (fun l => by unfold ref1_Flaws_L1; rw [if_neg (by decide)])
  unfold ref1_Flaws
  have e0 : (([] : List api_Flaw), (0 : Int)) = ([], ((0 : Nat) : Int)) := rfl
  rw [e0, hl1, Option.bind_some, t1_mk, List.nil_append, Nat.sub_zero]
  have hz := flL_nil (narrowP f) 5 0 64
  unfold flws
  cases hn : narrowB f
  · have : ¬ (flL (narrowP f) 5 0 64).length = 0 := fun hc => by rw [hz.1 hc |> fun e => (show narrowB f = true from e)] at hn; cases hn
    rw [if_pos (by simp only [decide_eq_true_eq]; omega), if_neg (by decide)]
  · have hz0 : (flL (narrowP f) 5 0 64).length = 0 := hz.2 hn
    have hnil : flL (narrowP f) 5 0 64 = [] := List.length_eq_zero_iff.1 hz0
    have hnb := fnum_bd f
    have v0 : vidx f 0 = some (wd f 0) := vidx_w f (i := 0) (by decide)
    have v61 : vidx f 61 = some (wd f 61) := vidx_w f (i := 61) (by decide)
    have v62 : vidx f 62 = some (wd f 62) := vidx_w f (i := 62) (by decide)
    have v63 : vidx f 63 = some (wd f 63) := vidx_w f (i := 63) (by decide)
    have w0 := h 0
    have w61 := h 61
    have w62 := h 62
    have w63 := h 63
    rw [hnil, if_neg (by decide), v0, Option.bind_some, (fnum_s h).2, Option.bind_some, syncOf_s hnb.1, Option.bind_some, i64v (z := wd f 0) (by omega) (by omega)]
    have s1 : (if (!decide (wd f 0 = syncV (fnumv f))) = true then (app ([] : List api_Flaw) ([(api_Flaw.mk 0 1)] : List api_Flaw)).bind fun l2 => some l2 else some []) = some (oneF (decide (wd f 0 = syncV (fnumv f))) 0 1) := by
      by_cases hs : wd f 0 = syncV (fnumv f) <;> simp [hs, oneF, app]
    rw [s1, Option.bind_some, t1_mk]
    have hl2 := loop_fl (body := ref1_Flaws_L2 f) (oddP f) 2 (a := 1) (b := 64) (by decide) (oneF (decide (wd f 0 = syncV (fnumv f))) 0 1) (by have := (oneF_len (decide (wd f 0 = syncV (fnumv f))) 0 1).1; omega) (by decide) (fun l k hl _ hk => by
      unfold ref1_Flaws_L2 oddP
      have hw := h k
      rw [if_pos (by simp; omega), vidx_w f hk, Option.bind_some, i64v (z := wd f k) (by omega) (by omega), (odd_s ⟨hw.1, narrow_of hn k hk⟩).2, Option.bind_some, i64v (by omega) (by omega)]
      cases oddB (wd f k)
      · rw [if_pos (by decide), app_of (by simp; omega), Option.bind_some]; rfl
      · rfl) (fun l => by unfold ref1_Flaws_L2; rw [if_neg (by decide)])
    have e1 : (1 : Int) = ((1 : Nat) : Int) := rfl
    have e2 : (oneF (decide (wd f 0 = syncV (fnumv f))) 0 1, (1 : Int)) = (oneF (decide (wd f 0 = syncV (fnumv f))) 0 1, ((1 : Nat) : Int)) := rfl
    rw [e2, hl2, Option.bind_some, t1_mk, show 64 - 1 = 63 from rfl]
    have b1 := (oneF_len (decide (wd f 0 = syncV (fnumv f))) 0 1).1
    have b2 := flL_len (oddP f) 2 1 63
    have b3 := (oneF_len (decide (wd f 61 % 2048 = sumS f 60)) 61 3).1
    generalize hX : oneF (decide (wd f 0 = syncV (fnumv f))) 0 1 ++ flL (oddP f) 2 1 63 = X
    have bX : X.length ≤ 64 := by rw [← hX, List.length_append]; omega
    rw [v61, Option.bind_some, i64v (z := wd f 61) (by omega) (by omega), rem_n w61.1 _ (by decide), Option.bind_some, (sumOf_s h).2, Option.bind_some]
    have s2 : (if (!decide (wd f 61 % 2048 = sumS f 60)) = true then (app X ([(api_Flaw.mk 61 3)] : List api_Flaw)).bind fun l4 => some l4 else some X) = some (X ++ oneF (decide (wd f 61 % 2048 = sumS f 60)) 61 3) := by
      by_cases hs : wd f 61 % 2048 = sumS f 60
      · simp [hs, oneF]
      · rw [app_of (by simp; omega)]; simp [hs, oneF]
    rw [s2, Option.bind_some, t1_mk]
    generalize hW : X ++ oneF (decide (wd f 61 % 2048 = sumS f 60)) 61 3 = W
    have bW : W.length ≤ 65 := by rw [← hW, List.length_append]; omega
    rw [v62, Option.bind_some, i64v (z := wd f 62) (by omega) (by omega), rem_n w62.1 _ (by decide), Option.bind_some, v63, Option.bind_some, i64v (z := wd f 63) (by omega) (by omega), rem_n w63.1 _ (by decide), Option.bind_some, rcks_s h, Option.bind_some]
    rw [i64v (z := wd f 62 % 2048 * 2048) (by omega) (by omega), i64v (z := wd f 62 % 2048 * 2048 + wd f 63 % 2048) (by omega) (by omega)]
    unfold ckW
    by_cases hs : wd f 62 % 2048 * 2048 + wd f 63 % 2048 = ckS f 744
    · simp [hs, oneF]
    · rw [app_of (by simp; omega)]; simp [hs, oneF]
theorem rSound_s {f : Vector Int 64} (h : fU f) : ref1_Sound f = some (sndB f) := by
  unfold ref1_Sound
  rw [Flaws_s h, Option.bind_some]
  congr 1
  unfold flws sndB
  cases hn : narrowB f
  · have hz := flL_nil (narrowP f) 5 0 64
    have : ¬ (flL (narrowP f) 5 0 64).length = 0 := fun hc => by rw [hz.1 hc |> fun e => (show narrowB f = true from e)] at hn; cases hn
    rw [if_neg (by decide), Bool.false_and, decide_eq_false_iff_not]; omega
  · rw [if_pos rfl, Bool.true_and, Bool.eq_iff_iff, decide_eq_true_eq]
    simp only [List.length_append, Bool.and_eq_true]
    have b1 := (oneF_len (decide (wd f 0 = syncV (fnumv f))) 0 1).2
    have b2 := flL_nil (oddP f) 2 1 63
    have b3 := (oneF_len (decide (wd f 61 % 2048 = sumS f 60)) 61 3).2
    have b4 := (oneF_len (decide (ckW f = ckS f 744)) 62 4).2
    rw [← b1, ← b2, ← b3, ← b4]
    omega
end Go.Vx

namespace Go.Vx
open Go Go.RowKit
theorem hL_getD {Z : List Int} (h : hL Z) (k : Nat) : 0 ≤ Z.getD k 0 ∧ Z.getD k 0 ≤ 15 := by
  rw [List.getD_eq_getElem?_getD]
  cases hq : Z[k]? with
  | none => simp
  | some x => exact h x (List.mem_of_getElem? hq)
end Go.Vx

namespace Go.Vx
open Go Go.RowKit
theorem slcN {α : Type} {l : List α} {a b : Nat} (h1 : a ≤ b) (h2 : b ≤ l.length) : slc l (a : Int) (b : Int) = some ((l.take b).drop a) := by
  unfold slc
  rw [if_pos (by omega)]
  simp
end Go.Vx

namespace Go.Vx
open Go Go.RowKit
def selE {ε ρ : Type} (A : ε → ρ) (Z : ρ) : Option ε → ρ
  | some e => A e
  | none => Z
theorem loop_genE {τ ρ ε : Type} {body : τ → Option (τ ⊕ ρ)} (S : Nat → τ) (P : Nat → Option ε) (A : ε → ρ) (Z : ρ) {b : Nat}
    (hstep : ∀ k, k < b → (∃ e, P k = some e ∧ body (S k) = some (.inr (A e))) ∨ (P k = none ∧ body (S k) = some (.inl (S (k + 1))))) (hend : body (S b) = some (.inr Z)) :
    loop body (S 0) = some (selE A Z ((List.range' 0 b).findSome? P)) := by
  have key : ∀ n k, k + n = b → loop body (S k) = some (selE A Z ((List.range' k n).findSome? P)) := by
    intro n
    induction n with
    | zero =>
      intro k hk
      obtain rfl : k = b := by omega
      rw [loop_eq, hend]; rfl
    | succ n ih =>
      intro k hk
      rw [loop_eq, List.range'_succ, List.findSome?_cons]
      rcases hstep k (by omega) with ⟨e, h1, h2⟩ | ⟨h1, h2⟩
      · rw [h1, h2]; rfl
      · rw [h1, h2]
        exact ih (k + 1) (by omega)
  exact key b 0 (by omega)
theorem findE_none {ε : Type} {P : Nat → Option ε} {b : Nat} (h : (List.range' 0 b).findSome? P = none) (k : Nat) (hk : k < b) : P k = none :=
  List.findSome?_eq_none_iff.1 h k (List.mem_range'.2 ⟨k, hk, by omega⟩)
theorem any_wd (v : Vector Int 64) (g : Int → Bool) : v.toList.any g = true ↔ ∃ i, i < 64 ∧ g (wd v i) = true := by
  rw [List.any_eq_true]
  constructor
  · rintro ⟨x, hx, hg⟩
    obtain ⟨i, hi⟩ := List.getElem?_of_mem hx
    refine ⟨i, by have := (List.getElem?_eq_some_iff.1 hi).1; simpa using this, ?_⟩
    unfold wd
    rw [getD_of hi]; exact hg
  · rintro ⟨i, hi, hg⟩
    obtain ⟨x, hx⟩ := get_ex (xs := v.toList) (k := i) (by simp; omega)
    unfold wd at hg
    rw [getD_of hx] at hg
    exact ⟨x, List.mem_of_getElem? hx, hg⟩
theorem containsI (s : List Int) (hs : s.length ≤ 1000000) (g : Int → Bool) : slices_ContainsFunc_int_int s (fun z0 => some (g z0)) = some (s.any g) := by
  have := loop_genE (body := t1 (slices_IndexFunc_int_int_L1 s (fun z0 => some (g z0)))) (fun k => (k : Int)) (fun k => if g (s.getD k 0) = true then some (k : Int) else none) (fun e => (.inl e : Int ⊕ Unit)) (.inr ()) (b := s.length) (fun k hk => by
    obtain ⟨x, hx⟩ := get_ex hk
    have eb : slices_IndexFunc_int_int_L1 s (fun z0 => some (g z0)) (k : Int) = if g x = true then some (.inr (.inl (k : Int))) else some (.inl ((k : Int) + 1)) := by
      unfold slices_IndexFunc_int_int_L1
      rw [if_pos (by simp; omega), idx_of hx, Option.bind_some, Option.bind_some, i64v (by omega) (by omega)]
    rw [t1_mk, eb, getD_of hx]
    by_cases hg : g x = true
    · exact .inl ⟨_, by rw [if_pos hg], by rw [if_pos hg]⟩
    · exact .inr ⟨by rw [if_neg hg], by rw [if_neg hg]; push_cast; rfl⟩) (by
    rw [t1_mk]
    unfold slices_IndexFunc_int_int_L1
    rw [if_neg (by simp)])
  have e0 : (0 : Int) = ((0 : Nat) : Int) := rfl
  unfold slices_ContainsFunc_int_int slices_IndexFunc_int_int
  rw [e0, this, Option.bind_some]
  cases hf : (List.range' 0 s.length).findSome? (fun k => if g (s.getD k 0) = true then some (k : Int) else none) with
  | none =>
    show (some (-1 : Int)).bind _ = _
    rw [Option.bind_some]
    have : s.any g = false := by
      rw [List.any_eq_false]
      intro x hx hg
      obtain ⟨i, hi⟩ := List.getElem?_of_mem hx
      have := findE_none hf i (List.getElem?_eq_some_iff.1 hi).1
      rw [getD_of hi, if_pos hg] at this
      cases this
    rw [this]; rfl
  | some e =>
    show (some (e : Int)).bind _ = _
    rw [Option.bind_some]
    obtain ⟨k, hk, hke⟩ := List.exists_of_findSome?_eq_some hf
    have hk2 : k < s.length := by obtain ⟨j, hj, rfl⟩ := List.mem_range'.1 hk; omega
    obtain ⟨x, hx⟩ := get_ex hk2
    split at hke
    · rename_i hg
      cases hke
      rw [getD_of hx] at hg
      have : s.any g = true := List.any_eq_true.2 ⟨x, List.mem_of_getElem? hx, hg⟩
      rw [this, decide_eq_true (by omega)]
    · cases hke
theorem slc64 (v : Vector Int 64) : slc v.toList 0 (64 : Int) = some v.toList := by
  have := slcN (l := v.toList) (a := 0) (b := 64) (by omega) (by simp)
  rw [show ((64 : Nat) : Int) = 64 from rfl, show ((0 : Nat) : Int) = 0 from rfl] at this
  rw [this, List.drop_zero, List.take_of_length_le (by simp)]
theorem some_s (r : api_Rest) (a b : Int) : salvage_some r a b = some (r.States.toList.any fun s => decide (s = a) || decide (s = b)) := by
  unfold salvage_some
  rw [slc64, Option.bind_some]
  have := containsI r.States.toList (by simp) (fun s => decide (s = a) || decide (s = b))
  unfold salvage_some_1
  rw [this]; rfl
theorem all_s (r : api_Rest) (a : Int) : salvage_all r a = some (!r.States.toList.any fun s => !decide (s = a)) := by
  unfold salvage_all
  rw [slc64, Option.bind_some]
  have := containsI r.States.toList (by simp) (fun s => !decide (s = a))
  unfold salvage_all_1
  rw [this]; rfl
noncomputable def numN (f : Vector Int 64) : Int × Bool := if (oddB (wd f 1) && oddB (wd f 2)) = true then (fnumv f, true) else (0, false)
theorem Number_s {f : Vector Int 64} (h : fU f) (h1 : wd f 1 ≤ 4095) (h2 : wd f 2 ≤ 4095) : frame_Number f = some (numN f) ∧ ref1_Number f = some (numN f) := by
  have w1 := h 1
  have w2 := h 2
  have v1 : vidx f 1 = some (wd f 1) := vidx_w f (i := 1) (by decide)
  have v2 : vidx f 2 = some (wd f 2) := vidx_w f (i := 2) (by decide)
  obtain ⟨o1, o1'⟩ := odd_s (x := wd f 1) ⟨w1.1, h1⟩
  obtain ⟨o2, o2'⟩ := odd_s (x := wd f 2) ⟨w2.1, h2⟩
  obtain ⟨n1, n2⟩ := fnum_s h
  have right : ∀ x : Int, 0 ≤ x → x ≤ 4095 → ref1_odd x = some (oddB x) → ref1_Right x = some (oddB x) := fun x a b e => by
    unfold ref1_Right
    rw [decide_eq_true b, gd_tt, i64v (by omega) (by omega), e, Option.bind_some, Bool.true_and]
  have r1 := right _ w1.1 h1 o1'
  have r2 := right _ w2.1 h2 o2'
  unfold frame_Number ref1_Number numN
  rw [v1, v2, Option.bind_some, Option.bind_some, o1, r1, Option.bind_some, Option.bind_some, n1, n2]
  generalize fnumv f = n
  cases oddB (wd f 1)
  · exact ⟨rfl, rfl⟩
  · simp only [Bool.not_true, gd_t, show (false == false) = true from rfl, Option.bind_some, o2, r2]
    cases oddB (wd f 2)
    · exact ⟨rfl, rfl⟩
    · exact ⟨rfl, rfl⟩
noncomputable def sasB (f : Vector Int 64) (n : Int) : Bool := sndB f && decide ((numN f).1 = n)
theorem soundAs_s {f : Vector Int 64} (h : fU f) (h1 : wd f 1 ≤ 4095) (h2 : wd f 2 ≤ 4095) (n : Int) : salvage_soundAs f n = some (sasB f n) := by
  unfold salvage_soundAs
  rw [(Number_s h h1 h2).1, Option.bind_some, Sound_s h, Option.bind_some]; rfl
theorem number_s {f : Vector Int 64} (h : fU f) (h1 : wd f 1 ≤ 4095) (h2 : wd f 2 ≤ 4095) : ref4_number f = some (numN f).1 := by
  unfold ref4_number
  rw [(Number_s h h1 h2).2, Option.bind_some]
end Go.Vx

namespace Go.Vx
open Go Go.RowKit
theorem u16_of {n : Int} (h : 0 ≤ n ∧ n ≤ 65535) : u16 n = n := by
  unfold u16 IntKind.wrap
  simp only [IntKind.signed, IntKind.bits]
  have e : (2 : Int) ^ 16 = 65536 := by decide
  simp [e]
  omega
def wAt (H : List Int) (k : Nat) : Int := w3 (H.getD k 0) (H.getD (k + 1) 0) (H.getD (k + 2) 0)
theorem wAt_bd {H : List Int} (h : hL H) (k : Nat) : 0 ≤ wAt H k ∧ wAt H k ≤ 4095 := by
  have h1 := hL_getD h k
  have h2 := hL_getD h (k + 1)
  have h3 := hL_getD h (k + 2)
  unfold wAt w3
  omega
theorem wd_vset (f : Vector Int 64) {k : Nat} (hk : k < 64) (x : Int) (i : Nat) : wd (vset f (k : Int) x) i = if k = i then x else wd f i := by
  unfold wd
  rw [vset_list, Int.toNat_natCast, List.getD_eq_getElem?_getD, List.getElem?_set, List.getD_eq_getElem?_getD]
  split
  · rw [if_pos (by simp; omega)]; rfl
  · rfl
def inH (H : List Int) (at_ : Int) (i : Nat) : Bool := decide (0 ≤ at_ + 3 * i ∧ at_ + 3 * i + 3 ≤ (H.length : Int))
def fpre (H : List Int) (at_ : Int) (k : Nat) : Vector Int 64 × Vector Bool 64 := (List.range k).foldl (putW H at_) (Vector.replicate 64 0, Vector.replicate 64 false)
theorem fpre_wd (H : List Int) (at_ : Int) : ∀ (k : Nat), k ≤ 64 → ∀ i, wd (fpre H at_ k).1 i = if (decide (i < k) && inH H at_ i) = true then wAt H (at_ + 3 * i).toNat else 0
  | 0, _, i => by
    rw [if_neg (by simp)]
    show (Vector.replicate 64 (0 : Int)).toList.getD i 0 = 0
    rw [Vector.toList_replicate, List.getD_eq_getElem?_getD, List.getElem?_replicate]; split <;> rfl
  | k + 1, hk, i => by
    have ih := fpre_wd H at_ k (by omega) i
    have e : fpre H at_ (k + 1) = putW H at_ (fpre H at_ k) k := range_fold_step _ _ _
    rw [e]
    unfold putW
    by_cases hc : 0 ≤ at_ + 3 * k ∧ at_ + 3 * k + 3 ≤ (H.length : Int)
    · rw [if_pos hc, wd_vset _ (by omega), ih]
      by_cases hik : k = i
      · subst hik
        rw [if_pos rfl, if_pos (by simp [inH]; omega)]; rfl
      · rw [if_neg hik]
        have : decide (i < k + 1) = decide (i < k) := by rw [decide_eq_decide]; omega
        rw [this]
    · rw [if_neg hc, ih]
      by_cases hik : k = i
      · subst hik
        rw [if_neg (by simp), if_neg (by simp [inH]; omega)]
      · have : decide (i < k + 1) = decide (i < k) := by rw [decide_eq_decide]; omega
        rw [this]
theorem frW_wd (H : List Int) (at_ : Int) (i : Nat) (hi : i < 64) : wd (frW H at_).1 i = if inH H at_ i = true then wAt H (at_ + 3 * i).toNat else 0 := by
  have := fpre_wd H at_ 64 (Nat.le_refl _) i
  rw [decide_eq_true hi, Bool.true_and] at this
  exact this
theorem wd_big (f : Vector Int 64) {i : Nat} (hi : 64 ≤ i) : wd f i = 0 := by
  unfold wd
  rw [List.getD_eq_getElem?_getD, List.getElem?_eq_none (by simp; omega)]; rfl
theorem frW_narrow {H : List Int} (h : hL H) (at_ : Int) (i : Nat) : 0 ≤ wd (frW H at_).1 i ∧ wd (frW H at_).1 i ≤ 4095 := by
  rcases Nat.lt_or_ge i 64 with hi | hi
  · rw [frW_wd H at_ i hi]
    split
    · exact wAt_bd h _
    · exact ⟨by decide, by decide⟩
  · rw [wd_big _ hi]; exact ⟨by decide, by decide⟩
theorem frW_U {H : List Int} (h : hL H) (at_ : Int) : fU (frW H at_).1 := fun i => ⟨(frW_narrow h at_ i).1, by have := (frW_narrow h at_ i).2; omega⟩
theorem slc_w {H : List Int} (h : hL H) {k : Nat} (hk : k + 3 ≤ H.length) : ∃ l, slc H (k : Int) ((k : Int) + 3) = some l ∧ salvage_wordAt l = some (wAt H k) := by
  obtain ⟨a, ha⟩ := get_ex (xs := H) (k := k) (by omega)
  obtain ⟨b, hb⟩ := get_ex (xs := H) (k := k + 1) (by omega)
  obtain ⟨c, hc⟩ := get_ex (xs := H) (k := k + 2) (by omega)
  refine ⟨_, slc3 ha hb hc, ?_⟩
  unfold wAt
  rw [wordAt_s (h a (List.mem_of_getElem? ha)) (h b (List.mem_of_getElem? hb)) (h c (List.mem_of_getElem? hc)), getD_of ha, getD_of hb, getD_of hc]
theorem frameIn_s {H : List Int} (h : hL H) {at_ : Nat} (hat : at_ + 192 ≤ H.length) {v : Vector Int 192} (hv : v.toList = (H.drop at_).take 192) : salvage_frameIn v = some (frW H (at_ : Int)).1 := by
  have hvl : v.toList.length = 192 := by simp
  have hvh : hL v.toList := fun x hx => by rw [hv] at hx; exact h x (List.mem_of_mem_drop (List.mem_of_mem_take hx))
  have := loop_st (body := salvage_frameIn_L1 v) (fun k => (fpre H (at_ : Int) k).1) (frW H (at_ : Int)).1 (a := 0) (b := 64) (by decide) (fun k _ hk => by
    unfold salvage_frameIn_L1
    obtain ⟨l, hl1, hl2⟩ := slc_w hvh (k := 3 * k) (by omega)
    have e1 : i64 (3 * (k : Int)) = ((3 * k : Nat) : Int) := by rw [i64v (by omega) (by omega)]; push_cast; rfl
    rw [if_pos (by simp; omega), e1, i64v (z := ((3 * k : Nat) : Int) + 3) (by omega) (by omega), hl1, Option.bind_some, hl2, Option.bind_some, vidx_w _ hk, Option.bind_some, i64v (z := (k : Int) + 1) (by omega) (by omega)]
    have eg : ∀ j, j < 192 → v.toList.getD j 0 = H.getD (at_ + j) 0 := fun j hj => by
      rw [hv, List.getD_eq_getElem?_getD, List.getElem?_take, if_pos hj, List.getElem?_drop, List.getD_eq_getElem?_getD]
    have ew : wAt v.toList (3 * k) = wAt H (at_ + 3 * k) := by
      unfold wAt
      rw [eg _ (by omega), eg _ (by omega), eg _ (by omega)]; rfl
    have es : (fpre H (at_ : Int) (k + 1)).1 = vset (fpre H (at_ : Int) k).1 (k : Int) (wAt H (at_ + 3 * k)) := by
      have e : fpre H (at_ : Int) (k + 1) = putW H (at_ : Int) (fpre H (at_ : Int) k) k := range_fold_step _ _ _
      rw [e]
      unfold putW
      rw [if_pos (by omega)]
      have : ((at_ : Int) + 3 * (k : Int)).toNat = at_ + 3 * k := by omega
      rw [this]; rfl
    rw [es, ew]) (by unfold salvage_frameIn_L1; rw [if_neg (by decide)]; rfl)
  unfold salvage_frameIn
  have e0 : (Vector.replicate 64 (0 : Int), (0 : Int)) = ((fpre H (at_ : Int) 0).1, ((0 : Nat) : Int)) := rfl
  rw [e0, this]
  rfl
def synB (w : Int) : Bool := decide (w = 583) || (decide (w = 1464) || (decide (w = 2631) || decide (w = 3512)))
theorem isSync_s (w : Int) : salvage_isSync w = some (synB w) := by
  have := loop_allN (body := salvage_isSync_L1 w) (fun k => !decide (syncV (k : Int) = w)) (.inl true : Bool ⊕ Unit) (.inr ()) (a := 0) (b := 4) (by decide) (fun k _ hk => by
    unfold salvage_isSync_L1 frame_Sync
    have hb : 0 ≤ syncV (k : Int) ∧ syncV (k : Int) ≤ 65535 := by
      have : k = 0 ∨ k = 1 ∨ k = 2 ∨ k = 3 := by omega
      rcases this with rfl | rfl | rfl | rfl <;> exact ⟨by decide, by decide⟩
    obtain ⟨s1, s2⟩ := sync_s (n := (k : Int)) (by omega)
    rw [if_pos (by simp; omega), if_neg (by simp; omega), s1, Option.bind_some, s2, Option.bind_some, Option.bind_some, i64v (z := syncV (k : Int)) (by omega) (by omega), u16_of hb, i64v (z := (k : Int) + 1) (by omega) (by omega)]
    by_cases hw : syncV (k : Int) = w
    · rw [if_pos (by simpa using hw), if_neg (by simpa using hw)]
    · rw [if_neg (by simpa using hw), if_pos (by simpa using hw)]) (by unfold salvage_isSync_L1; rw [if_neg (by decide)])
  unfold salvage_isSync
  rw [show (0 : Int) = ((0 : Nat) : Int) from rfl, this, Option.bind_some]
  have e : (List.range' 0 (4 - 0)).all (fun k => !decide (syncV (k : Int) = w)) = !synB w := by
    have s0 : syncV ((0 : Nat) : Int) = 583 := by decide
    have s1 : syncV ((1 : Nat) : Int) = 1464 := by decide
    have s2 : syncV ((2 : Nat) : Int) = 2631 := by decide
    have s3 : syncV ((3 : Nat) : Int) = 3512 := by decide
    show (!decide (syncV ((0 : Nat) : Int) = w) && (!decide (syncV ((1 : Nat) : Int) = w) && (!decide (syncV ((2 : Nat) : Int) = w) && (!decide (syncV ((3 : Nat) : Int) = w) && true)))) = !synB w
    rw [s0, s1, s2, s3]
    unfold synB
    simp only [Bool.not_or, Bool.and_true, eq_comm]
  rw [e]
  cases synB w <;> rfl
noncomputable def scF (H : List Int) (k : Nat) : List api_Found := if (synB (wAt H k) && sndB (frW H (k : Int)).1) = true then [api_Found.mk (k : Int) (frW H (k : Int)).1] else []
noncomputable def scL (H : List Int) (n : Nat) : List api_Found := (List.range n).flatMap (scF H)
theorem scL_succ (H : List Int) (n : Nat) : scL H (n + 1) = scL H n ++ scF H n := by
  unfold scL
  rw [List.range_succ, List.flatMap_append]; simp
theorem scF_len (H : List Int) (k : Nat) : (scF H k).length ≤ 1 := by unfold scF; split <;> simp
theorem scL_len (H : List Int) : ∀ n, (scL H n).length ≤ n
  | 0 => by simp [scL]
  | n + 1 => by
    have := scL_len H n
    have := scF_len H n
    rw [scL_succ, List.length_append]; omega
theorem scan_s {H : List Int} (h : hL H) (hl : H.length ≤ 900000) : salvage_scan H = some (scL H (H.length - 191)) ∧ ref4_scan H = some (scL H (H.length - 191)) := by
  constructor
  · have := loop_st (body := salvage_scan_it_L1 H) (scL H) (scL H (H.length - 191)) (a := 0) (b := H.length - 191) (by omega) (fun k _ hk => by
      have hlen := scL_len H k
      unfold salvage_scan_it_L1
      obtain ⟨l, hl1, hl2⟩ := slc_w h (k := k) (by omega)
      rw [i64v (z := (k : Int) + 192) (by omega) (by omega), if_pos (by simp; omega), i64v (z := (k : Int) + 3) (by omega) (by omega), hl1, Option.bind_some, hl2, Option.bind_some, isSync_s, Option.bind_some, scL_succ, i64v (z := (k : Int) + 1) (by omega) (by omega)]
      unfold scF
      cases hs : synB (wAt H k)
      · rw [if_pos (by decide), Option.bind_some, Bool.false_and, if_neg (by decide), List.append_nil]; rfl
      · rw [if_neg (by decide)]
        have hsl : slc H (k : Int) ((k : Int) + 192) = some ((H.drop k).take 192) := by
          have := slcN (l := H) (a := k) (b := k + 192) (by omega) (by omega)
          rw [show ((k + 192 : Nat) : Int) = (k : Int) + 192 by omega] at this
          rw [this, List.drop_take]
          congr 2
          omega
        have hlen2 : ((H.drop k).take 192).length = 192 := by rw [List.length_take, List.length_drop]; omega
        rw [hsl, Option.bind_some]
        obtain ⟨v, hv⟩ : ∃ v, tov 192 ((H.drop k).take 192) = some v := by unfold tov; rw [dif_pos (by omega)]; exact ⟨_, rfl⟩
        have hv2 := (tov_some hv).2
        rw [List.take_of_length_le (by omega)] at hv2
        rw [hv, Option.bind_some, frameIn_s h (by omega) hv2, Option.bind_some, Sound_s (frW_U h _), Option.bind_some, Bool.true_and]
        cases hsn : sndB (frW H (k : Int)).1
        · rw [if_neg (by decide), if_neg (by decide), if_neg (by decide), Option.bind_some, List.append_nil]; rfl
        · rw [if_pos (by decide), if_pos (by decide), app_of (by simp; omega), Option.bind_some]; rfl) (by
      unfold salvage_scan_it_L1
      rw [i64v (by omega) (by omega), if_neg (by simp; omega)])
    unfold salvage_scan salvage_scan_it
    have e0 : (([] : List api_Found), (0 : Int)) = (scL H 0, ((0 : Nat) : Int)) := rfl
    rw [e0, this]
  · have := loop_st (body := ref4_scan_L1 H) (scL H) (scL H (H.length - 191)) (a := 0) (b := H.length - 191) (by omega) (fun k _ hk => by
      have hlen := scL_len H k
      obtain ⟨a, ha⟩ := get_ex (xs := H) (k := k) (by omega)
      obtain ⟨b, hb⟩ := get_ex (xs := H) (k := k + 1) (by omega)
      obtain ⟨c, hc⟩ := get_ex (xs := H) (k := k + 2) (by omega)
      have ba := h a (List.mem_of_getElem? ha)
      have bb := h b (List.mem_of_getElem? hb)
      have bc := h c (List.mem_of_getElem? hc)
      have ew : wAt H k = w3 a b c := by unfold wAt; rw [getD_of ha, getD_of hb, getD_of hc]
      have e1 : i64 ((k : Int) + 1) = ((k + 1 : Nat) : Int) := by rw [i64v (by omega) (by omega)]; push_cast; rfl
      have e2 : i64 ((k : Int) + 2) = ((k + 2 : Nat) : Int) := by rw [i64v (by omega) (by omega)]; push_cast; rfl
      have e3 : i64 (i64 (i64 (i64 a * 256) + i64 (i64 b * 16)) + i64 c) = w3 a b c := by
        rw [i64v (z := a) (by omega) (by omega), i64v (z := b) (by omega) (by omega), i64v (z := c) (by omega) (by omega), i64v (z := a * 256) (by omega) (by omega), i64v (z := b * 16) (by omega) (by omega), i64v (z := a * 256 + b * 16) (by omega) (by omega), i64v (by omega) (by omega)]
        unfold w3; omega
      unfold ref4_scan_L1
      rw [i64v (z := (k : Int) + 192) (by omega) (by omega), if_pos (by simp; omega), idx_of ha, Option.bind_some, e1, idx_of hb, Option.bind_some, e2, idx_of hc, Option.bind_some, e3, scL_succ, ← ew]
      have hsy : (((!decide (wAt H k = 583) && !decide (wAt H k = 1464)) && !decide (wAt H k = 2631)) && !decide (wAt H k = 3512)) = !synB (wAt H k) := by
        unfold synB
        simp only [Bool.not_or, Bool.and_assoc]
      rw [hsy]
      unfold scF
      cases hs : synB (wAt H k)
      · rw [if_pos (by decide), Option.bind_some, Bool.false_and, if_neg (by decide), List.append_nil]; rfl
      · rw [if_neg (by decide), rframeAt_s h (by omega) (by omega), Option.bind_some, rSound_s (frW_U h _), Option.bind_some, Bool.true_and]
        cases hsn : sndB (frW H (k : Int)).1
        · rw [if_neg (by decide), if_neg (by decide), Option.bind_some, List.append_nil]; rfl
        · rw [if_pos (by decide), if_pos (by decide), app_of (by simp; omega), Option.bind_some]; rfl) (by
      unfold ref4_scan_L1
      rw [i64v (by omega) (by omega), if_neg (by simp; omega)])
    unfold ref4_scan
    have e0 : (([] : List api_Found), (0 : Int)) = (scL H 0, ((0 : Nat) : Int)) := rfl
    rw [e0, this]
    rfl
theorem scF_mem {H : List Int} {k : Nat} {x : api_Found} (h : x ∈ scF H k) : x = api_Found.mk (k : Int) (frW H (k : Int)).1 ∧ synB (wAt H k) = true ∧ sndB (frW H (k : Int)).1 = true := by
  unfold scF at h
  split at h
  · rename_i hc
    rw [Bool.and_eq_true] at hc
    exact ⟨by simpa using h, hc⟩
  · cases h
theorem scL_mem {H : List Int} {n : Nat} {x : api_Found} (h : x ∈ scL H n) : ∃ k, k < n ∧ x = api_Found.mk (k : Int) (frW H (k : Int)).1 ∧ synB (wAt H k) = true ∧ sndB (frW H (k : Int)).1 = true := by
  unfold scL at h
  obtain ⟨k, hk, hx⟩ := List.mem_flatMap.1 h
  exact ⟨k, List.mem_range.1 hk, scF_mem hx⟩
theorem scL_sorted (H : List Int) : ∀ n, (scL H n).Pairwise fun a b => a.At < b.At
  | 0 => by simp [scL]
  | n + 1 => by
    rw [scL_succ, List.pairwise_append]
    refine ⟨scL_sorted H n, ?_, fun a ha b hb => ?_⟩
    · unfold scF; split <;> simp
    · obtain ⟨k, hk, rfl, _⟩ := scL_mem ha
      obtain ⟨rfl, _⟩ := scF_mem hb
      show (k : Int) < (n : Int)
      omega
def fz : api_Found := api_Found.mk 0 (Vector.replicate 64 0)
def Ord (l : List api_Found) : Prop := (l.Pairwise fun a b => a.At < b.At) ∧ ∀ x ∈ l, 0 ≤ x.At ∧ x.At ≤ 1000000
theorem ord_scL (H : List Int) (n : Nat) (hn : n ≤ 1000000) : Ord (scL H n) := ⟨scL_sorted H n, fun x hx => by
  obtain ⟨k, hk, rfl, _⟩ := scL_mem hx
  exact ⟨by show (0 : Int) ≤ (k : Int); omega, by show (k : Int) ≤ 1000000; omega⟩⟩
theorem ord_next {l : List api_Found} (h : Ord l) {k : Nat} {x y : api_Found} (hx : l[k]? = some x) (hy : l[k + 1]? = some y) : x.At < y.At := by
  obtain ⟨h1, rfl⟩ := List.getElem?_eq_some_iff.1 hx
  obtain ⟨h2, rfl⟩ := List.getElem?_eq_some_iff.1 hy
  exact List.pairwise_iff_getElem.1 h.1 k (k + 1) h1 h2 (by omega)
def certB (l : List api_Found) (k : Nat) : Bool :=
  (decide (k = 0) || decide (192 ≤ (l.getD k fz).At - (l.getD (k - 1) fz).At)) && (decide (k + 1 = l.length) || decide (192 ≤ (l.getD (k + 1) fz).At - (l.getD k fz).At))
def cerF (l : List api_Found) (k : Nat) : List api_Found := if certB l k = true then [l.getD k fz] else []
def cerN (l : List api_Found) (n : Nat) : List api_Found := (List.range n).flatMap (cerF l)
def cerL (l : List api_Found) : List api_Found := cerN l l.length
theorem cerN_succ (l : List api_Found) (n : Nat) : cerN l (n + 1) = cerN l n ++ cerF l n := by
  unfold cerN
  rw [List.range_succ, List.flatMap_append]; simp
theorem cerN_len (l : List api_Found) : ∀ n, (cerN l n).length ≤ n
  | 0 => by simp [cerN]
  | n + 1 => by
    have := cerN_len l n
    have : (cerF l n).length ≤ 1 := by unfold cerF; split <;> simp
    rw [cerN_succ, List.length_append]; omega
theorem getF {l : List api_Found} {k : Nat} {x : api_Found} (h : l[k]? = some x) : l.getD k fz = x := by rw [List.getD_eq_getElem?_getD, h]; rfl
theorem certain_both {l : List api_Found} (h : Ord l) (hl : l.length ≤ 1000000) : loop (t2 (salvage_certain_L1 l)) ([], 0) = some (cerL l) ∧ loop (t2 (ref4_certain_L1 l)) ([], 0) = some (cerL l) := by
  have e0 : (([] : List api_Found), (0 : Int)) = (cerN l 0, ((0 : Nat) : Int)) := rfl
  have facts : ∀ k, k < l.length → ∃ x p n : api_Found, l[k]? = some x ∧ (k ≠ 0 → l[k - 1]? = some p ∧ p.At < x.At ∧ 0 ≤ p.At) ∧ (k + 1 ≠ l.length → l[k + 1]? = some n ∧ x.At < n.At ∧ n.At ≤ 1000000) ∧ 0 ≤ x.At ∧ x.At ≤ 1000000 := by
    intro k hk
    obtain ⟨x, hx⟩ := get_ex hk
    have bx := h.2 x (List.mem_of_getElem? hx)
    refine ⟨x, l.getD (k - 1) fz, l.getD (k + 1) fz, hx, fun h0 => ?_, fun h1 => ?_, bx⟩
    · obtain ⟨p, hp⟩ := get_ex (xs := l) (k := k - 1) (by omega)
      rw [getF hp]
      have := ord_next h (k := k - 1) hp (by rw [show k - 1 + 1 = k by omega]; exact hx)
      exact ⟨hp, this, (h.2 p (List.mem_of_getElem? hp)).1⟩
    · obtain ⟨n, hn⟩ := get_ex (xs := l) (k := k + 1) (by omega)
      rw [getF hn]
      exact ⟨hn, ord_next h hx hn, (h.2 n (List.mem_of_getElem? hn)).2⟩
  constructor
  · have := loop_st (body := salvage_certain_L1 l) (cerN l) (cerL l) (a := 0) (b := l.length) (by omega) (fun k _ hk => by
      obtain ⟨x, p, n, hx, hp, hn, bx⟩ := facts k hk
      have hlen := cerN_len l k
      unfold salvage_certain_L1
      have e1 : i64 ((k : Int) + 1) = ((k + 1 : Nat) : Int) := by rw [i64v (by omega) (by omega)]; push_cast; rfl
      have e2 : i64 ((l.length : Int) - 1) = (l.length : Int) - 1 := i64v (by omega) (by omega)
      have d2 : decide ((k : Int) = (l.length : Int) - 1) = decide (k + 1 = l.length) := by rw [decide_eq_decide]; omega
      have d0 : decide ((k : Int) = 0) = decide (k = 0) := by rw [decide_eq_decide]; omega
      rw [if_pos (by simp; omega), idx_of hx, Option.bind_some, e1, e2, d2, d0, cerN_succ]
      have en : ((k + 1 : Nat) : Int) = (k : Int) + 1 := by push_cast; rfl
      unfold cerF certB
      rw [getF hx]
      have A : ∃ b1 : Bool, ∃ x2, (gd ((decide (k = 0)) == false) (api_Found.mk 0 (Vector.replicate 64 0)) (idx l (i64 ((k : Int) - 1)))) = some x2 ∧ (decide (k = 0) || decide (192 ≤ i64 (x.At - x2.At))) = b1 ∧ (decide (k = 0) || decide (192 ≤ x.At - (l.getD (k - 1) fz).At)) = b1 := by
        by_cases h0 : k = 0
        · exact ⟨true, _, by rw [decide_eq_true h0]; rfl, by rw [decide_eq_true h0]; rfl, by rw [decide_eq_true h0]; rfl⟩
        · obtain ⟨q1, q2, q3⟩ := hp h0
          have ei : i64 ((k : Int) - 1) = ((k - 1 : Nat) : Int) := by rw [i64v (by omega) (by omega)]; omega
          refine ⟨_, p, by rw [decide_eq_false h0, ei, idx_of q1]; rfl, rfl, ?_⟩
          rw [getF q1, i64v (by omega) (by omega)]
      obtain ⟨b1, x2, a1, a2, a3⟩ := A
      rw [a1, Option.bind_some, a2, a3]
      have B : ∃ b2 : Bool, ∃ x3, (gd ((b1 == true) && ((decide (k + 1 = l.length)) == false)) (api_Found.mk 0 (Vector.replicate 64 0)) (idx l ((k + 1 : Nat) : Int))) = some x3 ∧ (b1 && (decide (k + 1 = l.length) || decide (192 ≤ i64 (x3.At - x.At)))) = b2 ∧ (b1 && (decide (k + 1 = l.length) || decide (192 ≤ (l.getD (k + 1) fz).At - x.At))) = b2 := by
        by_cases h0 : k + 1 = l.length
        · refine ⟨b1, api_Found.mk 0 (Vector.replicate 64 0), by rw [decide_eq_true h0, show (true == false) = false from rfl, Bool.and_false]; rfl, by rw [decide_eq_true h0, Bool.true_or, Bool.and_true], by rw [decide_eq_true h0, Bool.true_or, Bool.and_true]⟩
        · obtain ⟨q1, q2, q3⟩ := hn h0
          cases b1
          · exact ⟨false, _, rfl, rfl, rfl⟩
          · refine ⟨_, n, by rw [decide_eq_false h0, idx_of q1]; rfl, rfl, ?_⟩
            rw [getF q1, i64v (by omega) (by omega)]
      obtain ⟨b2, x3, c1, c2, c3⟩ := B
      rw [c1, Option.bind_some, c2, c3]
      cases b2
      · rw [if_neg (by decide), if_neg (by decide), List.append_nil, en]
      · rw [if_pos rfl, if_pos rfl, app_of (by simp; omega), Option.bind_some, en]) (by
      unfold salvage_certain_L1
      rw [if_neg (by simp)]; rfl)
    rw [e0, this]
  · have := loop_st (body := ref4_certain_L1 l) (cerN l) (cerL l) (a := 0) (b := l.length) (by omega) (fun k _ hk => by
      obtain ⟨x, p, n, hx, hp, hn, bx⟩ := facts k hk
      have hlen := cerN_len l k
      unfold ref4_certain_L1
      have e1 : i64 ((k : Int) + 1) = ((k + 1 : Nat) : Int) := by rw [i64v (by omega) (by omega)]; push_cast; rfl
      have d2 : decide (((k + 1 : Nat) : Int) = (l.length : Int)) = decide (k + 1 = l.length) := by rw [decide_eq_decide]; omega
      have d0 : decide ((k : Int) = 0) = decide (k = 0) := by rw [decide_eq_decide]; omega
      rw [if_pos (by simp; omega), idx_of hx, Option.bind_some, e1, d2, d0, cerN_succ]
      have en : ((k + 1 : Nat) : Int) = (k : Int) + 1 := by push_cast; rfl
      unfold cerF certB
      rw [getF hx]
      have A : ∃ b1 : Bool, ∃ x2 y, (gd ((decide (k = 0)) == false) (api_Found.mk 0 (Vector.replicate 64 0)) (idx l (i64 ((k : Int) - 1)))) = some x2 ∧ (gd ((decide (k = 0)) == false) 0 (ref4_apart x2.At x.At)) = some y ∧ (decide (k = 0) || decide (192 ≤ y)) = b1 ∧ (decide (k = 0) || decide (192 ≤ x.At - (l.getD (k - 1) fz).At)) = b1 := by
        by_cases h0 : k = 0
        · exact ⟨true, _, _, by rw [decide_eq_true h0]; rfl, by rw [decide_eq_true h0]; rfl, by rw [decide_eq_true h0]; rfl, by rw [decide_eq_true h0]; rfl⟩
        · obtain ⟨q1, q2, q3⟩ := hp h0
          have ei : i64 ((k : Int) - 1) = ((k - 1 : Nat) : Int) := by rw [i64v (by omega) (by omega)]; omega
          have ea : ref4_apart p.At x.At = some (x.At - p.At) := by unfold ref4_apart; rw [if_pos (by simpa using q2), i64v (by omega) (by omega)]
          refine ⟨_, p, _, by rw [decide_eq_false h0, ei, idx_of q1]; rfl, by rw [decide_eq_false h0, ea]; rfl, rfl, ?_⟩
          rw [getF q1]
      obtain ⟨b1, x2, y, a1, a1', a2, a3⟩ := A
      rw [a1, Option.bind_some, a1', Option.bind_some, a2, a3]
      have B : ∃ b2 : Bool, ∃ x3 y2, (gd ((b1 == true) && ((decide (k + 1 = l.length)) == false)) (api_Found.mk 0 (Vector.replicate 64 0)) (idx l ((k + 1 : Nat) : Int))) = some x3 ∧ (gd ((b1 == true) && ((decide (k + 1 = l.length)) == false)) 0 (ref4_apart x3.At x.At)) = some y2 ∧ (b1 && (decide (k + 1 = l.length) || decide (192 ≤ y2))) = b2 ∧ (b1 && (decide (k + 1 = l.length) || decide (192 ≤ (l.getD (k + 1) fz).At - x.At))) = b2 := by
        by_cases h0 : k + 1 = l.length
        · refine ⟨b1, api_Found.mk 0 (Vector.replicate 64 0), 0, by rw [decide_eq_true h0, show (true == false) = false from rfl, Bool.and_false]; rfl, by rw [decide_eq_true h0, show (true == false) = false from rfl, Bool.and_false]; rfl, by rw [decide_eq_true h0, Bool.true_or, Bool.and_true], by rw [decide_eq_true h0, Bool.true_or, Bool.and_true]⟩
        · obtain ⟨q1, q2, q3⟩ := hn h0
          cases b1
          · exact ⟨false, _, _, rfl, rfl, rfl, rfl⟩
          · have ea : ref4_apart n.At x.At = some (n.At - x.At) := by unfold ref4_apart; rw [if_neg (by simp; omega), i64v (by omega) (by omega)]
            refine ⟨_, n, _, by rw [decide_eq_false h0, idx_of q1]; rfl, by rw [decide_eq_false h0, ea]; rfl, rfl, ?_⟩
            rw [getF q1]
      obtain ⟨b2, x3, y2, c1, c1', c2, c3⟩ := B
      rw [c1, Option.bind_some, c1', Option.bind_some, c2, c3]
      cases b2
      · rw [if_neg (by decide), if_neg (by decide), List.append_nil, en]
      · rw [if_pos rfl, if_pos rfl, app_of (by simp; omega), Option.bind_some, en]) (by
      unfold ref4_certain_L1
      rw [if_neg (by simp)]; rfl)
    rw [e0, this]
theorem scL_small (H : List Int) (hl : H.length ≤ 900000) : (scL H (H.length - 191)).length ≤ 1000000 ∧ Ord (scL H (H.length - 191)) := ⟨by have := scL_len H (H.length - 191); omega, ord_scL H _ (by omega)⟩
theorem certain_s {H : List Int} (h : hL H) (hl : H.length ≤ 900000) : salvage_certain H = some (cerL (scL H (H.length - 191))) ∧ ref4_certain (scL H (H.length - 191)) = some (cerL (scL H (H.length - 191))) := by
  obtain ⟨b1, b2⟩ := scL_small H hl
  obtain ⟨c1, c2⟩ := certain_both b2 b1
  unfold salvage_certain ref4_certain
  rw [(scan_s h hl).1, Option.bind_some, c1, c2]
  exact ⟨rfl, rfl⟩
end Go.Vx

namespace Go.Vx
open Go Go.RowKit
end Go.Vx

namespace Go.Vx
open Go Go.RowKit
def hf (f : Vector Int 64) (n : Nat) : Int := wd f (n / 3) / (2 : Int) ^ (8 - 4 * (n % 3)) % 16
theorem vec_ext {f g : Vector Int 64} (h : ∀ i, i < 64 → wd f i = wd g i) : f = g := by
  refine Vector.toList_inj.1 (List.ext_getElem? fun i => ?_)
  rcases Nat.lt_or_ge i 64 with hi | hi
  · obtain ⟨x, hx⟩ := get_ex (xs := f.toList) (k := i) (by simp; omega)
    obtain ⟨y, hy⟩ := get_ex (xs := g.toList) (k := i) (by simp; omega)
    have := h i hi
    unfold wd at this
    rw [getD_of hx, getD_of hy] at this
    rw [hx, hy, this]
  · rw [List.getElem?_eq_none (by simp; omega), List.getElem?_eq_none (by simp; omega)]
theorem syn_of (n : Int) (h : 0 ≤ n) : synB (syncV n) = true := by
  have e : ∀ m, m < 4 → synB (gv_frame_syncs.toList.getD m 0) = true := by decide
  exact e _ (by omega)
end Go.Vx

namespace Go.Vx
open Go Go.RowKit
theorem loop_li {σ ρ : Type} {body : σ → Int → Option ((σ × Int) ⊕ ρ)} {N : Nat} (I : Nat → σ → Prop) (Q : ρ → Prop)
    (hstep : ∀ (k : Nat) s, k < N → I k s → (∃ s', body s (k : Int) = some (.inl (s', (k : Int) + 1)) ∧ I (k + 1) s') ∨ ∃ r, body s (k : Int) = some (.inr r) ∧ Q r)
    (hend : ∀ s, I N s → ∃ r, body s (N : Int) = some (.inr r) ∧ Q r) {s0 : σ} (h0 : I 0 s0) : ∃ r, loop (t2 body) (s0, 0) = some r ∧ Q r := by
  refine loop_inv (body := t2 body) (fun p => ∃ k : Nat, p.2 = k ∧ k ≤ N ∧ I k p.1) (fun p => N - p.2.toNat) Q ?_ (s0, 0) ⟨0, rfl, Nat.zero_le _, h0⟩
  rintro ⟨s, i⟩ ⟨k, hi, hk, hI⟩
  simp only at hi hI
  subst hi
  simp only [Int.toNat_natCast, t2_mk]
  rcases Nat.lt_or_ge k N with h | h
  · rcases hstep k s h hI with ⟨s', h1, h2⟩ | ⟨r, h1, h2⟩
    · exact .inl ⟨_, h1, ⟨k + 1, by push_cast; rfl, h, h2⟩, by simp only; omega⟩
    · exact .inr ⟨r, h1, h2⟩
  · have : k = N := by omega
    subst this
    exact .inr (hend s hI)
theorem loop_li3 {α β ρ : Type} {body : α → β → Int → Option ((α × β × Int) ⊕ ρ)} {N : Nat} (I : Nat → α → β → Prop) (Q : ρ → Prop)
    (hstep : ∀ (k : Nat) a b, k < N → I k a b → (∃ a' b', body a b (k : Int) = some (.inl (a', b', (k : Int) + 1)) ∧ I (k + 1) a' b') ∨ ∃ r, body a b (k : Int) = some (.inr r) ∧ Q r)
    (hend : ∀ a b, I N a b → ∃ r, body a b (N : Int) = some (.inr r) ∧ Q r) {a0 : α} {b0 : β} (h0 : I 0 a0 b0) : ∃ r, loop (t3 body) (a0, b0, 0) = some r ∧ Q r := by
  refine loop_inv (body := t3 body) (fun p => ∃ k : Nat, p.2.2 = k ∧ k ≤ N ∧ I k p.1 p.2.1) (fun p => N - p.2.2.toNat) Q ?_ (a0, b0, 0) ⟨0, rfl, Nat.zero_le _, h0⟩
  rintro ⟨a, b, i⟩ ⟨k, hi, hk, hI⟩
  simp only at hi hI
  subst hi
  simp only [Int.toNat_natCast, t3_mk]
  rcases Nat.lt_or_ge k N with h | h
  · rcases hstep k a b h hI with ⟨a', b', h1, h2⟩ | ⟨r, h1, h2⟩
    · exact .inl ⟨_, h1, ⟨k + 1, by push_cast; rfl, h, h2⟩, by simp only; omega⟩
    · exact .inr ⟨r, h1, h2⟩
  · have : k = N := by omega
    subst this
    exact .inr (hend a b hI)
theorem inc64 {k N : Nat} (h : k < N) (hN : N ≤ 4000000000) : i64 ((k : Int) + 1) = (k : Int) + 1 := i64v (by omega) (by omega)
theorem wd_rep (c : Int) {i : Nat} (hi : i < 64) : wd (Vector.replicate 64 c) i = c := by
  show (Vector.replicate 64 c).toList.getD i 0 = c
  rw [Vector.toList_replicate, List.getD_eq_getElem?_getD, List.getElem?_replicate, if_pos hi]; rfl
theorem wd_rep0 (i : Nat) : wd (Vector.replicate 64 (0 : Int)) i = 0 := by
  by_cases h : i < 64
  · exact wd_rep 0 h
  · exact wd_big _ (by omega)
theorem fillc {body : Vector Int 64 → Int → Option ((Vector Int 64 × Int) ⊕ Vector Int 64)} (c : Int) (h1 : ∀ (v : Vector Int 64) (k : Nat), k < 64 → body v k = some (.inl (vset v k c, (k : Int) + 1)))
    (h2 : ∀ v, body v 64 = some (.inr v)) (v0 : Vector Int 64) : loop (t2 body) (v0, 0) = some (Vector.replicate 64 c) := by
  obtain ⟨r, e1, e2⟩ := loop_li (body := body) (N := 64) (fun k v => ∀ i, i < k → wd v i = c) (fun r => r = Vector.replicate 64 c) (fun k v hk hI => .inl ⟨_, h1 v k hk, fun i hi => by
    rw [wd_vset v hk]
    split
    · rfl
    · exact hI i (by omega)⟩) (fun v hI => ⟨v, h2 v, vec_ext fun i hi => by rw [hI i hi, wd_rep c hi]⟩) (fun i hi => by omega)
  rw [e1, e2]
theorem filled_s (c : Int) : salvage_filled c = some (Vector.replicate 64 c) := by
  unfold salvage_filled
  rw [fillc (body := salvage_filled_L1 c) c (fun v k hk => by
    unfold salvage_filled_L1
    rw [if_pos (by simp; omega), vidx_w v hk, Option.bind_some, inc64 hk (by omega)]) (fun v => by unfold salvage_filled_L1; rw [if_neg (by simp)])]
  rfl
structure MOK (n : Int) (l : List api_Rest) : Prop where
  ne : l ≠ []
  len : l.length ≤ 1000000000
  num : ∀ r ∈ l, r.Number = n
  nar : ∀ r ∈ l, ∀ i, 0 ≤ wd r.Frame i ∧ wd r.Frame i ≤ 4095
  cop : ∀ r ∈ l, 0 ≤ r.Copies ∧ r.Copies ≤ 1000000000
def sumC (l : List api_Rest) : Int := (l.map (·.Copies)).sum
theorem sumC_bd : ∀ {l : List api_Rest}, (∀ r ∈ l, 0 ≤ r.Copies ∧ r.Copies ≤ 1000000000) → 0 ≤ sumC l ∧ sumC l ≤ 1000000000 * l.length
  | [], _ => ⟨Int.le_refl 0, Int.le_refl 0⟩
  | r :: l, h => by
    have h1 := h r (by simp)
    have h2 := sumC_bd (l := l) fun x hx => h x (by simp [hx])
    simp only [sumC, List.map_cons, List.sum_cons, List.length_cons] at *
    omega
theorem sumC_take {l : List api_Rest} {k : Nat} {x : api_Rest} (hx : l[k]? = some x) : sumC (l.take (k + 1)) = sumC (l.take k) + x.Copies := by
  rw [List.take_succ, hx]
  simp [sumC]
def Snd (l : List api_Rest) (s : api_Rest) : Prop := s ∈ l ∧ s.Sound = true
def Clash (l : List api_Rest) : Prop := (∃ r ∈ l, r.Conflict = true) ∨ ∃ r s, Snd l r ∧ Snd l s ∧ r.Frame ≠ s.Frame
def Top (l : List api_Rest) (V : Vector Int 64) : Prop := ∀ i, i < 64 → (∀ r, Snd l r → wd r.States i ≤ wd V i) ∧ 0 ≤ wd V i ∧ (wd V i = 0 ∨ ∃ r, Snd l r ∧ wd r.States i = wd V i)
def Agr (l : List api_Rest) (i : Nat) (w : Int) : Prop := (∃ r ∈ l, wd r.States i ≠ 0 ∧ wd r.Frame i = w) ∧ ∀ r ∈ l, wd r.States i ≠ 0 → wd r.Frame i = w
def Parts4 (l : List api_Rest) (F S : Vector Int 64) : Prop := ∀ i, i < 64 → (Agr l i (wd F i) ∧ wd S i = 1) ∨ ((∀ w, ¬ Agr l i w) ∧ wd F i = 0 ∧ wd S i = 0)
open Classical in
noncomputable def sndOut (n C : Int) (F V : Vector Int 64) : api_Rest := ⟨n, F, V, true, if (∀ i, i < 64 → wd V i = 3) then max C 1 else C, false⟩
open Classical in
noncomputable def prtOut (n C : Int) (F S : Vector Int 64) : api_Rest := if (∀ i, i < 64 → wd S i = 1) ∧ sasB F n = true then ⟨n, F, Vector.replicate 64 3, true, 1, false⟩ else ⟨n, F, S, false, C, false⟩
inductive MG (n : Int) (l : List api_Rest) : api_Rest → Prop
  | clash : Clash l → MG n l ⟨n, Vector.replicate 64 0, Vector.replicate 64 0, false, sumC l, true⟩
  | sound {s : api_Rest} {V : Vector Int 64} : ¬ Clash l → Snd l s → Top l V → MG n l (sndOut n (sumC l) s.Frame V)
  | parts {F S : Vector Int 64} : ¬ Clash l → (∀ s, ¬ Snd l s) → Parts4 l F S → MG n l (prtOut n (sumC l) F S)
theorem Snd.congr {l l' : List api_Rest} (h : ∀ r, r ∈ l ↔ r ∈ l') (s : api_Rest) : Snd l s ↔ Snd l' s := by unfold Snd; rw [h]
theorem Clash.congr {l l' : List api_Rest} (h : ∀ r, r ∈ l ↔ r ∈ l') : Clash l ↔ Clash l' := by
  unfold Clash
  simp only [Snd.congr h, h]
theorem top_uniq {l l' : List api_Rest} (h : ∀ r, r ∈ l ↔ r ∈ l') {V V' : Vector Int 64} (h1 : Top l V) (h2 : Top l' V') : V = V' := vec_ext fun i hi => by
  obtain ⟨a1, a2, a3⟩ := h1 i hi
  obtain ⟨b1, b2, b3⟩ := h2 i hi
  have le1 : wd V i ≤ wd V' i := by
    rcases a3 with e | ⟨r, hr, e⟩
    · omega
    · rw [← e]; exact b1 r ((Snd.congr h r).1 hr)
  have le2 : wd V' i ≤ wd V i := by
    rcases b3 with e | ⟨r, hr, e⟩
    · omega
    · rw [← e]; exact a1 r ((Snd.congr h r).2 hr)
  omega
theorem agr_uniq {l l' : List api_Rest} (h : ∀ r, r ∈ l ↔ r ∈ l') {i : Nat} {w w' : Int} (h1 : Agr l i w) (h2 : Agr l' i w') : w = w' := by
  obtain ⟨⟨r, hr, h3, h4⟩, _⟩ := h1
  rw [← h4]; exact h2.2 r ((h r).1 hr) h3
theorem agr_congr {l l' : List api_Rest} (h : ∀ r, r ∈ l ↔ r ∈ l') {i : Nat} {w : Int} : Agr l i w ↔ Agr l' i w := by unfold Agr; simp only [h]
theorem parts_uniq {l l' : List api_Rest} (h : ∀ r, r ∈ l ↔ r ∈ l') {F F' S S' : Vector Int 64} (h1 : Parts4 l F S) (h2 : Parts4 l' F' S') : F = F' ∧ S = S' := by
  have key : ∀ i, i < 64 → wd F i = wd F' i ∧ wd S i = wd S' i := fun i hi => by
    rcases h1 i hi with ⟨a1, a2⟩ | ⟨a1, a2, a3⟩ <;> rcases h2 i hi with ⟨b1, b2⟩ | ⟨b1, b2, b3⟩
    · exact ⟨agr_uniq h a1 b1, by omega⟩
    · exact (b1 _ ((agr_congr h).1 a1)).elim
    · exact (a1 _ ((agr_congr h).2 b1)).elim
    · exact ⟨by omega, by omega⟩
  exact ⟨vec_ext fun i hi => (key i hi).1, vec_ext fun i hi => (key i hi).2⟩
theorem MG.uniq {n : Int} {l l' : List api_Rest} (h : ∀ r, r ∈ l ↔ r ∈ l') (hs : sumC l = sumC l') {o o' : api_Rest} (h1 : MG n l o) (h2 : MG n l' o') : o = o' := by
  cases h1 with
  | clash c1 =>
    cases h2 with
    | clash c2 => rw [hs]
    | sound c2 => exact (c2 ((Clash.congr h).1 c1)).elim
    | parts c2 => exact (c2 ((Clash.congr h).1 c1)).elim
  | @sound s V c1 s1 t1 =>
    cases h2 with
    | clash c2 => exact (c1 ((Clash.congr h).2 c2)).elim
    | @sound s' V' c2 s2 t2 =>
      have : s.Frame = s'.Frame := Classical.byContradiction fun e => c1 (.inr ⟨s, s', s1, (Snd.congr h s').2 s2, e⟩)
      rw [hs, this, top_uniq h t1 t2]
    | parts c2 s2 => exact (s2 s ((Snd.congr h s).1 s1)).elim
  | @parts F S c1 s1 p1 =>
    cases h2 with
    | clash c2 => exact (c1 ((Clash.congr h).2 c2)).elim
    | @sound s' V' c2 s2 t2 => exact (s1 s' ((Snd.congr h s').2 s2)).elim
    | parts c2 s2 p2 =>
      obtain ⟨e1, e2⟩ := parts_uniq h p1 p2
      rw [hs, e1, e2]
end Go.Vx

namespace Go.Vx
open Go Go.RowKit
theorem containsR (s : List api_Rest) (hs : s.length ≤ 1000000000) (g : api_Rest → Bool) : slices_ContainsFunc_api_Rest_api_Rest s (fun z0 => some (g z0)) = some (s.any g) := by
  have z : api_Rest := ⟨0, Vector.replicate 64 0, Vector.replicate 64 0, false, 0, false⟩
  have := loop_genE (body := t1 (slices_IndexFunc_api_Rest_api_Rest_L1 s (fun z0 => some (g z0)))) (fun k => (k : Int)) (fun k => if g (s.getD k z) = true then some (k : Int) else none) (fun e => (.inl e : Int ⊕ Unit)) (.inr ()) (b := s.length) (fun k hk => by
    obtain ⟨x, hx⟩ := get_ex hk
    have ex : s.getD k z = x := by rw [List.getD_eq_getElem?_getD, hx]; rfl
    have eb : slices_IndexFunc_api_Rest_api_Rest_L1 s (fun z0 => some (g z0)) (k : Int) = if g x = true then some (.inr (.inl (k : Int))) else some (.inl ((k : Int) + 1)) := by
      unfold slices_IndexFunc_api_Rest_api_Rest_L1
      rw [if_pos (by simp; omega), idx_of hx, Option.bind_some, Option.bind_some, i64v (by omega) (by omega)]
    rw [t1_mk, eb, ex]
    by_cases hg : g x = true
    · exact .inl ⟨_, by rw [if_pos hg], by rw [if_pos hg]⟩
    · exact .inr ⟨by rw [if_neg hg], by rw [if_neg hg]; push_cast; rfl⟩) (by
    rw [t1_mk]
    unfold slices_IndexFunc_api_Rest_api_Rest_L1
    rw [if_neg (by simp)])
  have e0 : (0 : Int) = ((0 : Nat) : Int) := rfl
  unfold slices_ContainsFunc_api_Rest_api_Rest slices_IndexFunc_api_Rest_api_Rest
  rw [e0, this, Option.bind_some]
  cases hf : (List.range' 0 s.length).findSome? (fun k => if g (s.getD k z) = true then some (k : Int) else none) with
  | none =>
    show (some (-1 : Int)).bind _ = _
    rw [Option.bind_some]
    have : s.any g = false := by
      rw [List.any_eq_false]
      intro x hx hg
      obtain ⟨i, hi⟩ := List.getElem?_of_mem hx
      have := findE_none hf i (List.getElem?_eq_some_iff.1 hi).1
      rw [show s.getD i z = x by rw [List.getD_eq_getElem?_getD, hi]; rfl, if_pos hg] at this
      cases this
    rw [this]; rfl
  | some e =>
    show (some (e : Int)).bind _ = _
    rw [Option.bind_some]
    obtain ⟨k, hk, he⟩ := List.exists_of_findSome?_eq_some hf
    simp only [List.mem_range'_1] at hk
    split at he
    · rename_i hg
      cases he
      obtain ⟨x, hx⟩ := get_ex (xs := s) (k := k) (by omega)
      rw [show s.getD k z = x by rw [List.getD_eq_getElem?_getD, hx]; rfl] at hg
      have : s.any g = true := List.any_eq_true.2 ⟨x, List.mem_of_getElem? hx, hg⟩
      rw [this, show decide ((((0 : Nat)) : Int) ≤ (k : Int)) = true by simp]
    · cases he
theorem mem_take_succ {l : List api_Rest} {k : Nat} {x r : api_Rest} (hx : l[k]? = some x) : r ∈ l.take (k + 1) ↔ r ∈ l.take k ∨ r = x := by
  rw [List.take_succ, hx]; simp
theorem copies_s {l : List api_Rest} (hl : l.length ≤ 1000000000) (hc : ∀ r ∈ l, 0 ≤ r.Copies ∧ r.Copies ≤ 1000000000) : loop (t2 (salvage_merge_L1 l)) (0, 0) = some (sumC l) := by
  obtain ⟨r, e1, e2⟩ := loop_li (body := salvage_merge_L1 l) (N := l.length) (fun k c => c = sumC (l.take k)) (fun r => r = sumC l) (fun k c hk hI => by
    obtain ⟨x, hx⟩ := get_ex hk
    have b1 := sumC_bd (l := l.take (k + 1)) fun r hr => hc r (List.mem_of_mem_take hr)
    rw [List.length_take, sumC_take hx] at b1
    refine .inl ⟨_, ?_, (sumC_take hx).symm⟩
    unfold salvage_merge_L1
    rw [if_pos (by simp; omega), idx_of hx, Option.bind_some, inc64 hk (by omega), hI, i64v (by omega) (by omega)]) (fun c hI => ⟨c, by unfold salvage_merge_L1; rw [if_neg (by simp)], by rw [hI, List.take_length]⟩) (s0 := (0 : Int)) (by simp [sumC])
  rw [e1, e2]
theorem maxl {body : Vector Int 64 → Int → Option ((Vector Int 64 × Int) ⊕ api_Rest)} (x : Vector Int 64) (mk : Vector Int 64 → api_Rest)
    (h1 : ∀ (v : Vector Int 64) (k : Nat), k < 64 → body v k = some (.inl (vset v k (max (wd v k) (wd x k)), (k : Int) + 1))) (h2 : ∀ v, body v 64 = some (.inr (mk v))) (v0 : Vector Int 64) :
    ∃ V, loop (t2 body) (v0, 0) = some (mk V) ∧ ∀ i, i < 64 → wd V i = max (wd v0 i) (wd x i) := by
  obtain ⟨r, e1, V, e2, e3⟩ := loop_li (body := body) (N := 64) (fun k v => ∀ i, i < 64 → wd v i = if i < k then max (wd v0 i) (wd x i) else wd v0 i) (fun r => ∃ V, r = mk V ∧ ∀ i, i < 64 → wd V i = max (wd v0 i) (wd x i)) (fun k v hk hI => .inl ⟨_, h1 v k hk, fun i hi => by
    rw [wd_vset v hk]
    by_cases hki : k = i
    · subst hki; rw [if_pos rfl, if_pos (by omega), hI k hk, if_neg (by omega)]
    · rw [if_neg hki, hI i hi]
      by_cases hik : i < k
      · rw [if_pos hik, if_pos (by omega)]
      · rw [if_neg hik, if_neg (by omega)]⟩) (fun v hI => ⟨_, h2 v, v, rfl, fun i hi => by rw [hI i hi, if_pos hi]⟩) (s0 := v0) (fun i hi => by rw [if_neg (by omega)])
  exact ⟨V, by rw [e1, e2], e3⟩
theorem top_step {l : List api_Rest} {k : Nat} {x : api_Rest} (hx : l[k]? = some x) (hs : x.Sound = true) {V0 V : Vector Int 64} (h0 : Top (l.take k) V0) (hV : ∀ i, i < 64 → wd V i = max (wd V0 i) (wd x.States i)) : Top (l.take (k + 1)) V := fun i hi => by
  obtain ⟨a1, a2, a3⟩ := h0 i hi
  rw [hV i hi]
  refine ⟨fun r hr => ?_, by omega, ?_⟩
  · rcases (mem_take_succ hx).1 hr.1 with h | rfl
    · have := a1 r ⟨h, hr.2⟩; omega
    · omega
  · by_cases hle : wd x.States i ≤ wd V0 i
    · rw [show max (wd V0 i) (wd x.States i) = wd V0 i by omega]
      rcases a3 with e | ⟨r, hr, e⟩
      · exact .inl e
      · exact .inr ⟨r, ⟨(mem_take_succ hx).2 (.inl hr.1), hr.2⟩, e⟩
    · rw [show max (wd V0 i) (wd x.States i) = wd x.States i by omega]
      exact .inr ⟨x, ⟨(mem_take_succ hx).2 (.inr rfl), hs⟩, rfl⟩
theorem top_nil : Top [] (Vector.replicate 64 0) := fun i _ => ⟨fun r hr => (List.not_mem_nil hr.1).elim, by rw [wd_rep0]; exact Int.le_refl 0, Or.inl (wd_rep0 i)⟩
theorem top_skip {l : List api_Rest} {k : Nat} {x : api_Rest} (hx : l[k]? = some x) (hs : x.Sound = false) {V : Vector Int 64} (h0 : Top (l.take k) V) : Top (l.take (k + 1)) V := fun i hi => by
  obtain ⟨a1, a2, a3⟩ := h0 i hi
  refine ⟨fun r hr => ?_, a2, ?_⟩
  · rcases (mem_take_succ hx).1 hr.1 with h | rfl
    · exact a1 r ⟨h, hr.2⟩
    · have := hr.2; rw [hs] at this; cases this
  · rcases a3 with e | ⟨r, hr, e⟩
    · exact .inl e
    · exact .inr ⟨r, ⟨(mem_take_succ hx).2 (.inl hr.1), hr.2⟩, e⟩
theorem snd_take {l : List api_Rest} {k : Nat} {s : api_Rest} (h : Snd (l.take k) s) : Snd l s := ⟨List.mem_of_mem_take h.1, h.2⟩
def SInv (n C : Int) (l : List api_Rest) (k : Nat) (o : api_Rest) : Prop :=
  ∃ F V, Top (l.take k) V ∧ (((∀ s, ¬ Snd (l.take k) s) ∧ o = ⟨n, Vector.replicate 64 0, Vector.replicate 64 0, false, C, false⟩) ∨
    ((∃ s, Snd (l.take k) s ∧ s.Frame = F) ∧ (∀ s, Snd (l.take k) s → s.Frame = F) ∧ o = ⟨n, F, V, true, C, false⟩))
def SQ (n C : Int) (l : List api_Rest) : (Bool × api_Rest) ⊕ api_Rest → Prop
  | .inl p => p.1 = false ∧ p.2.Number = n ∧ p.2.Copies = C ∧ ∃ r s, Snd l r ∧ Snd l s ∧ r.Frame ≠ s.Frame
  | .inr o => SInv n C l l.length o
theorem ofSound_s {l : List api_Rest} (hl : l.length ≤ 1000000000) (n C : Int) : ∃ b o, salvage_ofSound ⟨n, Vector.replicate 64 0, Vector.replicate 64 0, false, C, false⟩ l = some (b, o) ∧ o.Number = n ∧ o.Copies = C ∧
    (b = false → ∃ r s, Snd l r ∧ Snd l s ∧ r.Frame ≠ s.Frame) ∧ (b = true → SInv n C l l.length o) := by
  obtain ⟨r, e1, e2⟩ := loop_li (body := salvage_ofSound_L1 l) (N := l.length) (SInv n C l)
    (SQ n C l) (fun k o hk hI => by
    obtain ⟨x, hx⟩ := get_ex hk
    obtain ⟨F, V, ht, hI⟩ := hI
    unfold salvage_ofSound_L1
    rw [if_pos (by simp; omega), idx_of hx, Option.bind_some, inc64 hk (by omega)]
    cases hs : x.Sound with
    | false =>
      left
      refine ⟨o, by simp, F, V, top_skip hx hs ht, ?_⟩
      have hsn : ∀ s, Snd (l.take (k + 1)) s ↔ Snd (l.take k) s := fun s => ⟨fun h => ⟨(mem_take_succ hx).1 h.1 |>.elim id fun e => (by have := h.2; rw [e, hs] at this; cases this), h.2⟩, fun h => ⟨(mem_take_succ hx).2 (.inl h.1), h.2⟩⟩
      simp only [hsn]
      exact hI
    | true =>
      have hxs : Snd (l.take (k + 1)) x := ⟨(mem_take_succ hx).2 (.inr rfl), hs⟩
      have hmax : ∀ o : api_Rest, ∃ W, loop (t2 (salvage_ofSound_L2 o x)) (o.States, 0) = some (api_Rest.mk o.Number x.Frame W true o.Copies o.Conflict) ∧ ∀ i, i < 64 → wd W i = max (wd o.States i) (wd x.States i) := fun o =>
        maxl (body := salvage_ofSound_L2 o x) x.States (fun W => api_Rest.mk o.Number x.Frame W true o.Copies o.Conflict) (fun v k hk => by
          unfold salvage_ofSound_L2
          rw [if_pos (by simp; omega), vidx_w _ hk, Option.bind_some, vidx_w _ hk, Option.bind_some, Option.bind_some, inc64 hk (by omega)]) (fun v => by unfold salvage_ofSound_L2; rw [if_neg (by simp)]) _
      obtain ⟨W, w1, w2⟩ := hmax o
      rcases hI with ⟨h1, rfl⟩ | ⟨⟨s0, h0, h0'⟩, h1, rfl⟩
      · left
        refine ⟨_, by simp [w1], x.Frame, W, top_step hx hs ht (fun i hi => ?_), .inr ⟨⟨x, hxs, rfl⟩, fun s hs' => ?_, rfl⟩⟩
        · rw [w2 i hi]
          have := ht i hi
          rcases this.2.2 with e | ⟨r, hr, _⟩
          · rw [e, wd_rep0]
          · exact (h1 r hr).elim
        · rcases (mem_take_succ hx).1 hs'.1 with h | rfl
          · exact (h1 s ⟨h, hs'.2⟩).elim
          · rfl
      · by_cases hf : F = x.Frame
        · left
          subst hf
          refine ⟨_, by simp [w1], x.Frame, W, top_step hx hs ht w2, .inr ⟨⟨x, hxs, rfl⟩, fun s hs' => ?_, rfl⟩⟩
          rcases (mem_take_succ hx).1 hs'.1 with h | rfl
          · exact h1 s ⟨h, hs'.2⟩
          · rfl
        · right
          exact ⟨.inl (false, ⟨n, F, V, true, C, false⟩), by simp [hf], rfl, rfl, rfl, s0, x, snd_take h0, snd_take hxs, by rw [h0']; exact hf⟩)
    (fun o hI => ⟨.inr o, by unfold salvage_ofSound_L1; rw [if_neg (by simp)], hI⟩) (s0 := ⟨n, Vector.replicate 64 0, Vector.replicate 64 0, false, C, false⟩)
    ⟨Vector.replicate 64 0, Vector.replicate 64 0, by rw [List.take_zero]; exact top_nil, .inl ⟨fun s h => (List.not_mem_nil (by rw [List.take_zero] at h; exact h.1)).elim, rfl⟩⟩
  unfold salvage_ofSound
  rw [e1, Option.bind_some]
  cases r with
  | inl p =>
    obtain ⟨b, o⟩ := p
    obtain ⟨rfl, h2, h3, h4⟩ := e2
    exact ⟨false, o, rfl, h2, h3, fun _ => h4, fun h => by cases h⟩
  | inr o =>
    refine ⟨true, o, rfl, ?_, ?_, (fun h => by cases h), fun _ => e2⟩
    · obtain ⟨F, V, _, ⟨_, rfl⟩ | ⟨_, _, rfl⟩⟩ := e2 <;> rfl
    · obtain ⟨F, V, _, ⟨_, rfl⟩ | ⟨_, _, rfl⟩⟩ := e2 <;> rfl
end Go.Vx

namespace Go.Vx
open Go Go.RowKit
def PInv (l : List api_Rest) (i k : Nat) (f s : Int) (d : Bool) : Prop :=
  ((∀ r ∈ l.take k, wd r.States i = 0) ∧ f = 0 ∧ s = 0 ∧ d = false) ∨
  ((∃ r ∈ l.take k, wd r.States i ≠ 0 ∧ wd r.Frame i = f) ∧ s = 1 ∧ (d = false ↔ ∀ r ∈ l.take k, wd r.States i ≠ 0 → wd r.Frame i = f))
theorem pinv_skip {l : List api_Rest} {i k : Nat} {f s : Int} {d : Bool} {x : api_Rest} (hx : l[k]? = some x) (h0 : wd x.States i = 0) (h : PInv l i k f s d) : PInv l i (k + 1) f s d := by
  rcases h with ⟨h1, h2⟩ | ⟨⟨r, hr, h1⟩, h2, h3⟩
  · exact .inl ⟨fun r hr => ((mem_take_succ hx).1 hr).elim (h1 r) fun e => by rw [e]; exact h0, h2⟩
  · refine .inr ⟨⟨r, (mem_take_succ hx).2 (.inl hr), h1⟩, h2, h3.trans ⟨fun h r hr hn => ?_, fun h r hr hn => h r ((mem_take_succ hx).2 (.inl hr)) hn⟩⟩
    rcases (mem_take_succ hx).1 hr with h' | rfl
    · exact h r h' hn
    · exact (hn h0).elim
theorem pinv_take {l : List api_Rest} {i k : Nat} {f s : Int} {d : Bool} {x : api_Rest} (hx : l[k]? = some x) (h0 : wd x.States i ≠ 0) (h : PInv l i k f s d) :
    PInv l i (k + 1) (wd x.Frame i) 1 (d || ((!decide (s = 0)) && (!decide (f = wd x.Frame i)))) := by
  right
  refine ⟨⟨x, (mem_take_succ hx).2 (.inr rfl), h0, rfl⟩, rfl, ?_⟩
  rcases h with ⟨h1, rfl, rfl, rfl⟩ | ⟨⟨r0, hr0, hn0, e0⟩, rfl, h3⟩
  · simp only [Bool.false_or, decide_true, Bool.not_true, Bool.false_and, true_iff]
    intro r hr hn
    rcases (mem_take_succ hx).1 hr with h' | rfl
    · exact (hn (h1 r h')).elim
    · rfl
  · simp only [show decide ((1 : Int) = 0) = false from rfl, Bool.not_false, Bool.true_and, Bool.or_eq_false_iff, Bool.not_eq_false', decide_eq_true_eq]
    constructor
    · rintro ⟨hd, e⟩ r hr hn
      rcases (mem_take_succ hx).1 hr with h' | rfl
      · rw [h3.1 hd r h' hn, e]
      · rfl
    · intro h
      have e1 := h r0 ((mem_take_succ hx).2 (.inl hr0)) hn0
      refine ⟨h3.2 fun r hr hn => ?_, by rw [← e0, e1]⟩
      rw [h r ((mem_take_succ hx).2 (.inl hr)) hn, ← e0, e1]
theorem pinv_agr {l : List api_Rest} {i : Nat} {f s : Int} {d : Bool} (h : PInv l i l.length f s d) : (Agr l i f ∧ s = 1 ∧ d = false) ∨ ((∀ w, ¬ Agr l i w) ∧ (d = true ∨ (f = 0 ∧ s = 0 ∧ d = false))) := by
  unfold PInv at h
  rw [List.take_length] at h
  rcases h with ⟨h1, h2⟩ | ⟨⟨r, hr, h1, h1'⟩, h2, h3⟩
  · exact .inr ⟨fun w ⟨⟨r, hr, hn, _⟩, _⟩ => hn (h1 r hr), .inr h2⟩
  · cases d with
    | false => exact .inl ⟨⟨⟨r, hr, h1, h1'⟩, h3.1 rfl⟩, h2, rfl⟩
    | true =>
      refine .inr ⟨fun w ⟨_, hw⟩ => ?_, .inl rfl⟩
      have : (true : Bool) = false := h3.2 fun r' hr' hn => by rw [hw r' hr' hn, ← h1', hw r hr h1]
      cases this
theorem parts_loop {l : List api_Rest} (hl : l.length ≤ 1000000000) {n C : Int} {F S : Vector Int 64} {i : Nat} (hi : i < 64) (hF : wd F i = 0) (hS : wd S i = 0) :
    ∃ F' S' d, loop (t3 (salvage_ofParts_L2 l (i : Int))) (⟨n, F, S, false, C, false⟩, false, 0) = some (⟨n, F', S', false, C, false⟩, d) ∧ (∀ j, j ≠ i → wd F' j = wd F j ∧ wd S' j = wd S j) ∧ PInv l i l.length (wd F' i) (wd S' i) d := by
  obtain ⟨r, e1, F', S', d, rfl, e2, e3⟩ := loop_li3 (body := salvage_ofParts_L2 l (i : Int)) (N := l.length)
    (fun k o d => ∃ F' S', o = ⟨n, F', S', false, C, false⟩ ∧ (∀ j, j ≠ i → wd F' j = wd F j ∧ wd S' j = wd S j) ∧ PInv l i k (wd F' i) (wd S' i) d)
    (fun r => ∃ F' S' d, r = (⟨n, F', S', false, C, false⟩, d) ∧ (∀ j, j ≠ i → wd F' j = wd F j ∧ wd S' j = wd S j) ∧ PInv l i l.length (wd F' i) (wd S' i) d)
    (by
      rintro k o d hk ⟨F', S', rfl, h1, h2⟩
      obtain ⟨x, hx⟩ := get_ex hk
      left
      unfold salvage_ofParts_L2
      rw [if_pos (by simp; omega), idx_of hx, Option.bind_some, vidx_w _ hi, Option.bind_some, inc64 hk (by omega)]
      by_cases h0 : wd x.States i = 0
      · rw [if_pos (by simpa using h0)]
        exact ⟨_, _, rfl, F', S', rfl, h1, pinv_skip hx h0 h2⟩
      · rw [if_neg (by simpa using h0)]
        have g : ∀ (b : Bool) (v : Vector Int 64), gd b 0 (vidx v (i : Int)) = some (if b = true then wd v i else 0) := fun b v => by
          cases b
          · rfl
          · rw [gd_t, vidx_w _ hi]; rfl
        rw [g, Option.bind_some, g, Option.bind_some, g, Option.bind_some, vidx_w _ hi, Option.bind_some, vidx_w _ hi, Option.bind_some, vidx_w _ hi, Option.bind_some]
        refine ⟨_, _, rfl, _, _, rfl, fun j hj => ?_, ?_⟩
        · rw [wd_vset _ hi, wd_vset _ hi, if_neg (Ne.symm hj), if_neg (Ne.symm hj)]; exact h1 j hj
        · rw [wd_vset _ hi, wd_vset _ hi, if_pos rfl, if_pos rfl]
          have := pinv_take hx h0 h2
          cases d with
          | true => simpa using this
          | false =>
            by_cases hs : wd S' i = 0
            · simpa [hs] using this
            · simpa [hs] using this)
    (by
      rintro o d ⟨F', S', rfl, h1, h2⟩
      exact ⟨_, by unfold salvage_ofParts_L2; rw [if_neg (by simp)], F', S', d, rfl, h1, h2⟩)
    (a0 := ⟨n, F, S, false, C, false⟩) (b0 := false) ⟨F, S, rfl, fun j _ => ⟨rfl, rfl⟩, .inl ⟨fun r hr => by rw [List.take_zero] at hr; exact (List.not_mem_nil hr).elim, hF, hS, rfl⟩⟩
  exact ⟨F', S', d, e1, e2, e3⟩
theorem ofParts_s {l : List api_Rest} (hl : l.length ≤ 1000000000) (n C : Int) : ∃ F S, salvage_ofParts ⟨n, Vector.replicate 64 0, Vector.replicate 64 0, false, C, false⟩ l = some ⟨n, F, S, false, C, false⟩ ∧ Parts4 l F S := by
  obtain ⟨r, e1, F, S, rfl, e2⟩ := loop_li (body := salvage_ofParts_L1 l) (N := 64)
    (fun k o => ∃ F S, o = ⟨n, F, S, false, C, false⟩ ∧ (∀ j, j < k → (Agr l j (wd F j) ∧ wd S j = 1) ∨ ((∀ w, ¬ Agr l j w) ∧ wd F j = 0 ∧ wd S j = 0)) ∧ ∀ j, k ≤ j → wd F j = 0 ∧ wd S j = 0)
    (fun r => ∃ F S, r = ⟨n, F, S, false, C, false⟩ ∧ Parts4 l F S)
    (by
      rintro k o hk ⟨F, S, rfl, h1, h2⟩
      left
      obtain ⟨F', S', d, g1, g2, g3⟩ := parts_loop hl (n := n) (C := C) hk (h2 k (Nat.le_refl _)).1 (h2 k (Nat.le_refl _)).2
      unfold salvage_ofParts_L1
      rw [if_pos (by simp; omega), g1, Option.bind_some, t2_mk, inc64 hk (by omega)]
      have hag := pinv_agr g3
      cases d with
      | true =>
        rw [if_pos rfl, vidx_w _ hk, Option.bind_some, vidx_w _ hk, Option.bind_some]
        refine ⟨_, rfl, _, _, rfl, fun j hj => ?_, fun j hj => ?_⟩
        · rw [wd_vset _ hk, wd_vset _ hk]
          by_cases hjk : k = j
          · subst hjk
            rw [if_pos rfl, if_pos rfl]
            rcases hag with ⟨_, _, h⟩ | ⟨h, _⟩
            · cases h
            · exact .inr ⟨h, rfl, rfl⟩
          · rw [if_neg hjk, if_neg hjk, (g2 j (Ne.symm hjk)).1, (g2 j (Ne.symm hjk)).2]; exact h1 j (by omega)
        · rw [wd_vset _ hk, wd_vset _ hk, if_neg (by omega), if_neg (by omega), (g2 j (by omega)).1, (g2 j (by omega)).2]; exact h2 j (by omega)
      | false =>
        rw [if_neg (by simp)]
        refine ⟨_, rfl, _, _, rfl, fun j hj => ?_, fun j hj => ?_⟩
        · by_cases hjk : k = j
          · subst hjk
            rcases hag with ⟨h, h', _⟩ | ⟨h, h' | ⟨h', h'', _⟩⟩
            · exact .inl ⟨h, h'⟩
            · cases h'
            · exact .inr ⟨h, h', h''⟩
          · rw [(g2 j (Ne.symm hjk)).1, (g2 j (Ne.symm hjk)).2]; exact h1 j (by omega)
        · rw [(g2 j (by omega)).1, (g2 j (by omega)).2]; exact h2 j (by omega))
    (by
      rintro o ⟨F, S, rfl, h1, _⟩
      exact ⟨_, by unfold salvage_ofParts_L1; rw [if_neg (by simp)], F, S, rfl, h1⟩)
    (s0 := ⟨n, Vector.replicate 64 0, Vector.replicate 64 0, false, C, false⟩) ⟨_, _, rfl, fun j hj => by omega, fun j _ => ⟨wd_rep0 j, wd_rep0 j⟩⟩
  exact ⟨F, S, e1, e2⟩
theorem parts_nar {n : Int} {l : List api_Rest} (h : MOK n l) {F S : Vector Int 64} (hp : Parts4 l F S) (i : Nat) : 0 ≤ wd F i ∧ wd F i ≤ 4095 := by
  by_cases hi : i < 64
  · rcases hp i hi with ⟨⟨⟨r, hr, _, e⟩, _⟩, _⟩ | ⟨_, e, _⟩
    · rw [← e]; exact h.nar r hr i
    · omega
  · rw [wd_big _ (by omega)]; omega
theorem any_st (v : Vector Int 64) (c : Int) : (v.toList.any fun s => decide (s = c) || decide (s = c)) = true ↔ ∃ i, i < 64 ∧ wd v i = c := by
  rw [any_wd v (fun s => decide (s = c) || decide (s = c))]; simp
theorem all_st (v : Vector Int 64) (c : Int) : (!v.toList.any fun s => !decide (s = c)) = true ↔ ∀ i, i < 64 → wd v i = c := by
  have := any_wd v (fun s => !decide (s = c))
  cases hb : v.toList.any fun s => !decide (s = c) with
  | true =>
    obtain ⟨i, hi, h⟩ := this.1 hb
    simp at h
    simp
    exact ⟨i, hi, h⟩
  | false =>
    simp only [Bool.not_false, true_iff]
    intro i hi
    exact Classical.byContradiction fun hc => by
      have := this.2 ⟨i, hi, by simpa using hc⟩
      rw [hb] at this; cases this
theorem merge_s {n : Int} {l : List api_Rest} (h : MOK n l) : ∃ o, salvage_merge l = some o ∧ MG n l o := by
  obtain ⟨x, hx⟩ := get_ex (xs := l) (k := 0) (List.length_pos_iff.2 h.ne)
  have hxn : x.Number = n := h.num x (List.mem_of_getElem? hx)
  have hb := sumC_bd h.cop
  have hlen := h.len
  have hx0 : idx l 0 = some x := idx_of (k := 0) hx
  unfold salvage_merge salvage_merge_1
  rw [hx0, Option.bind_some, copies_s h.len h.cop, Option.bind_some, t1_mk, containsR l h.len (fun z => z.Conflict), Option.bind_some, hxn]
  obtain ⟨b, o, e1, e2, e3, e4, e5⟩ := ofSound_s h.len n (sumC l)
  rw [e1, Option.bind_some]
  simp only
  cases hc : (l.any fun z => z.Conflict) with
  | true =>
    rw [if_pos (by simp)]
    obtain ⟨r, hr, hrc⟩ := List.any_eq_true.1 hc
    exact ⟨_, rfl, by rw [e2, e3]; exact .clash (.inl ⟨r, hr, hrc⟩)⟩
  | false =>
    cases b with
    | false =>
      rw [if_pos (by simp)]
      exact ⟨_, rfl, by rw [e2, e3]; exact .clash (.inr (e4 rfl))⟩
    | true =>
      rw [if_neg (by simp)]
      obtain ⟨F, V, ht, hI⟩ := e5 rfl
      rw [List.take_length] at ht hI
      have hnc : ¬ ∃ r ∈ l, r.Conflict = true := fun ⟨r, hr, hrc⟩ => by
        have := List.any_eq_true.2 ⟨r, hr, hrc⟩
        rw [hc] at this; cases this
      rcases hI with ⟨h1, rfl⟩ | ⟨⟨s, hs, hsF⟩, h1, rfl⟩
      · have hcl : ¬ Clash l := fun hcl => hcl.elim hnc fun ⟨r, s, hr, _⟩ => h1 r hr
        rw [if_pos (by simp)]
        obtain ⟨F, S, p1, p2⟩ := ofParts_s h.len n (sumC l)
        have hN := parts_nar h p2
        rw [p1, Option.bind_some, some_s, Option.bind_some]
        have hso : salvage_soundAs F n = some (sasB F n) := soundAs_s (fun i => ⟨(hN i).1, by have := (hN i).2; omega⟩) (hN 1).2 (hN 2).2 n
        simp only
        have hpo : MG n l (prtOut n (sumC l) F S) := .parts hcl h1 p2
        have hany := any_st S 0
        cases ha : (S.toList.any fun s => decide (s = 0) || decide (s = 0)) with
        | true =>
          obtain ⟨i, hi, h0⟩ := hany.1 ha
          have hne : ¬ ((∀ i, i < 64 → wd S i = 1) ∧ sasB F n = true) := fun hh => by have := hh.1 i hi; omega
          unfold prtOut at hpo
          rw [if_neg hne] at hpo
          refine ⟨_, ?_, hpo⟩
          simp
        | false =>
          have hall : ∀ i, i < 64 → wd S i = 1 := fun i hi => by
            rcases p2 i hi with ⟨_, e⟩ | ⟨_, _, e⟩
            · exact e
            · have := hany.2 ⟨i, hi, e⟩; rw [ha] at this; cases this
          simp only [Bool.not_false, show ((true : Bool) == true) = true from rfl, gd_t]
          rw [hso, Option.bind_some]
          cases hsb : sasB F n with
          | true =>
            rw [if_pos (by simp), filled_s, Option.bind_some, Option.bind_some, t1_mk]
            simp only [show ((true : Bool) == true) = true from rfl, gd_t]
            rw [all_s, Option.bind_some]
            have : (!((Vector.replicate 64 (3 : Int)).toList.any fun s => !decide (s = 3))) = true := (all_st _ 3).2 fun i hi => wd_rep 3 hi
            simp only at this ⊢
            rw [this, if_pos (by simp)]
            unfold prtOut at hpo
            rw [if_pos ⟨hall, hsb⟩] at hpo
            exact ⟨_, rfl, hpo⟩
          | false =>
            rw [if_neg (by simp), Option.bind_some, t1_mk]
            unfold prtOut at hpo
            rw [if_neg (fun hh => by rw [hsb] at hh; cases hh.2)] at hpo
            exact ⟨_, by simp, hpo⟩
      · have hcl : ¬ Clash l := fun hcl => hcl.elim hnc fun ⟨r, s, hr, hs, hne⟩ => hne (by rw [h1 r hr, h1 s hs])
        rw [if_neg (by simp), Option.bind_some, t1_mk]
        have hmo : MG n l (sndOut n (sumC l) s.Frame V) := .sound hcl hs ht
        rw [hsF] at hmo
        simp only [show ((true : Bool) == true) = true from rfl, gd_t]
        rw [all_s, Option.bind_some]
        have hall := all_st V 3
        unfold sndOut at hmo
        cases ha : (!V.toList.any fun s => !decide (s = 3)) with
        | true =>
          rw [if_pos (hall.1 ha)] at hmo
          exact ⟨_, by simp, hmo⟩
        | false =>
          rw [if_neg (fun hh => by rw [hall.2 hh] at ha; cases ha)] at hmo
          exact ⟨_, by simp, hmo⟩
end Go.Vx

namespace Go.Vx
open Go Go.RowKit
theorem agreed_s {l : List api_Rest} (hl : l.length ≤ 1000000000) {i : Nat} (hi : i < 64) : ∃ w b, ref4_agreed l (i : Int) = some (w, b) ∧ ((b = true ∧ Agr l i w) ∨ (b = false ∧ ∀ w, ¬ Agr l i w)) := by
  obtain ⟨r, e1, e2⟩ := loop_li3 (body := ref4_agreed_L1 l (i : Int)) (N := l.length)
    (fun k w b => ((∀ r ∈ l.take k, wd r.States i = 0) ∧ b = false) ∨ (b = true ∧ (∃ r ∈ l.take k, wd r.States i ≠ 0 ∧ wd r.Frame i = w) ∧ ∀ r ∈ l.take k, wd r.States i ≠ 0 → wd r.Frame i = w))
    (fun r => match r with | .inl p => p.2 = false ∧ ∀ w, ¬ Agr l i w | .inr p => (p.2 = true ∧ Agr l i p.1) ∨ (p.2 = false ∧ ∀ w, ¬ Agr l i w))
    (by
      intro k w b hk hI
      obtain ⟨x, hx⟩ := get_ex hk
      unfold ref4_agreed_L1
      rw [if_pos (by simp; omega), idx_of hx, Option.bind_some, vidx_w _ hi, Option.bind_some, inc64 hk (by omega)]
      by_cases h0 : wd x.States i = 0
      · rw [if_pos (by simpa using h0)]
        left
        refine ⟨_, _, rfl, ?_⟩
        rcases hI with ⟨h1, h2⟩ | ⟨h1, ⟨r, hr, h2⟩, h3⟩
        · exact .inl ⟨fun r hr => ((mem_take_succ hx).1 hr).elim (h1 r) fun e => by rw [e]; exact h0, h2⟩
        · refine .inr ⟨h1, ⟨r, (mem_take_succ hx).2 (.inl hr), h2⟩, fun r hr hn => ?_⟩
          rcases (mem_take_succ hx).1 hr with h | rfl
          · exact h3 r h hn
          · exact (hn h0).elim
      · rw [if_neg (by simpa using h0)]
        have hxm : x ∈ l.take (k + 1) := (mem_take_succ hx).2 (.inr rfl)
        rcases hI with ⟨h1, rfl⟩ | ⟨rfl, ⟨r, hr, hn, h2⟩, h3⟩
        · left
          rw [show ((false : Bool) == true) = false from rfl, gd_f, Option.bind_some, if_neg (by simp), vidx_w _ hi, Option.bind_some]
          refine ⟨_, _, rfl, .inr ⟨rfl, ⟨x, hxm, h0, rfl⟩, fun r hr hn => ?_⟩⟩
          rcases (mem_take_succ hx).1 hr with h | rfl
          · exact (hn (h1 r h)).elim
          · rfl
        · rw [gd_tt, vidx_w _ hi, Option.bind_some]
          by_cases he : w = wd x.Frame i
          · left
            rw [if_neg (by simp [he]), Option.bind_some]
            refine ⟨_, _, rfl, .inr ⟨rfl, ⟨x, hxm, h0, rfl⟩, fun r' hr' hn' => ?_⟩⟩
            rcases (mem_take_succ hx).1 hr' with h | rfl
            · rw [h3 r' h hn', he]
            · rfl
          · right
            rw [if_pos (by simp [he])]
            refine ⟨_, rfl, rfl, fun v ⟨_, hv⟩ => he ?_⟩
            rw [← h2, hv r (List.mem_of_mem_take hr) hn, hv x (List.mem_of_mem_take hxm) h0])
    (by
      intro w b hI
      rw [List.take_length] at hI
      unfold ref4_agreed_L1
      rw [if_neg (by simp)]
      refine ⟨_, rfl, ?_⟩
      rcases hI with ⟨h1, rfl⟩ | ⟨rfl, h2⟩
      · exact .inr ⟨rfl, fun w ⟨⟨r, hr, hn, _⟩, _⟩ => hn (h1 r hr)⟩
      · exact .inl ⟨rfl, h2⟩)
    (a0 := (0 : Int)) (b0 := false) (.inl ⟨fun r hr => by rw [List.take_zero] at hr; exact (List.not_mem_nil hr).elim, rfl⟩)
  unfold ref4_agreed
  rw [e1, Option.bind_some]
  cases r with
  | inl p => exact ⟨p.1, p.2, rfl, .inr e2⟩
  | inr p => exact ⟨p.1, p.2, rfl, e2⟩
def RInv (n : Int) (l : List api_Rest) (k : Nat) (o : api_Rest) : Prop :=
  ∃ F V b, Top (l.take k) V ∧ o.Number = n ∧ o.Copies = sumC (l.take k) ∧ o.Conflict = b ∧ (b = true → Clash l) ∧
    (((∀ s, ¬ Snd (l.take k) s) ∧ o.Sound = false ∧ o.Frame = Vector.replicate 64 0 ∧ o.States = Vector.replicate 64 0 ∧ (b = false → ∀ r ∈ l.take k, r.Conflict = false)) ∨
     (o.Sound = true ∧ o.Frame = F ∧ o.States = V ∧ (∃ s, Snd (l.take k) s ∧ s.Frame = F) ∧ (b = false → (∀ s, Snd (l.take k) s → s.Frame = F) ∧ ∀ r ∈ l.take k, r.Conflict = false)))
theorem rmerge_loop {n : Int} {l : List api_Rest} (h : MOK n l) : ∃ o, loop (t2 (ref4_merge_L1 l)) (⟨n, Vector.replicate 64 0, Vector.replicate 64 0, false, 0, false⟩, 0) = some o ∧ RInv n l l.length o := by
  have hlen := h.len
  refine loop_li (body := ref4_merge_L1 l) (N := l.length) (RInv n l) (RInv n l l.length) (fun k o hk hI => ?_) (fun o hI => ⟨o, by unfold ref4_merge_L1; rw [if_neg (by simp)], hI⟩) ?_
  · obtain ⟨x, hx⟩ := get_ex hk
    have hxl : x ∈ l := List.mem_of_getElem? hx
    have b1 := sumC_bd (l := l.take (k + 1)) fun r hr => h.cop r (List.mem_of_mem_take hr)
    rw [List.length_take, sumC_take hx] at b1
    obtain ⟨F, V, b, ht, hn, hC, hb, hcl, hI⟩ := hI
    obtain ⟨oN, oF, oS, oD, oC, oX⟩ := o
    simp only at hn hC hb hI
    subst hn hb
    have hCx : i64 (oC + x.Copies) = sumC (l.take (k + 1)) := by rw [hC, sumC_take hx, i64v (by omega) (by omega)]
    left
    unfold ref4_merge_L1
    rw [if_pos (by simp; omega), idx_of hx, Option.bind_some, inc64 hk (by omega)]
    simp only [hCx]
    cases hs : x.Sound with
    | false =>
      refine ⟨_, by simp; rfl, F, V, oX || x.Conflict, top_skip hx hs ht, rfl, rfl, rfl, fun hh => ?_, ?_⟩
      · rcases Bool.or_eq_true_iff.1 hh with h1 | h1
        · exact hcl h1
        · exact .inl ⟨x, hxl, h1⟩
      · have hsn : ∀ s, Snd (l.take (k + 1)) s ↔ Snd (l.take k) s := fun s => ⟨fun h => ⟨(mem_take_succ hx).1 h.1 |>.elim id fun e => (by have := h.2; rw [e, hs] at this; cases this), h.2⟩, fun h => ⟨(mem_take_succ hx).2 (.inl h.1), h.2⟩⟩
        have hcf : (oX || x.Conflict) = false → (oX = false → ∀ r ∈ l.take k, r.Conflict = false) → ∀ r ∈ l.take (k + 1), r.Conflict = false := fun h1 h2 r hr => by
          simp only [Bool.or_eq_false_iff] at h1
          rcases (mem_take_succ hx).1 hr with h' | rfl
          · exact h2 h1.1 r h'
          · exact h1.2
        simp only [hsn]
        rcases hI with ⟨h1, h2, h3, h4, h5⟩ | ⟨h1, h2, h3, h4, h5⟩
        · exact .inl ⟨h1, h2, h3, h4, fun hh => hcf hh h5⟩
        · exact .inr ⟨h1, h2, h3, h4, fun hh => ⟨(h5 (by simp only [Bool.or_eq_false_iff] at hh; exact hh.1)).1, hcf hh fun h6 => (h5 h6).2⟩⟩
    | true =>
      have hxs : Snd (l.take (k + 1)) x := ⟨(mem_take_succ hx).2 (.inr rfl), hs⟩
      have hmax : ∀ cf : Bool, ∃ W, loop (t2 (ref4_merge_L2 ⟨oN, oF, oS, oD, oC, oX⟩ x cf)) (oS, 0) = some (api_Rest.mk oN x.Frame W true (sumC (l.take (k + 1))) cf) ∧ ∀ i, i < 64 → wd W i = max (wd oS i) (wd x.States i) := fun cf =>
        maxl (body := ref4_merge_L2 ⟨oN, oF, oS, oD, oC, oX⟩ x cf) x.States (fun W => api_Rest.mk oN x.Frame W true (sumC (l.take (k + 1))) cf) (fun v k hk => by
          unfold ref4_merge_L2
          rw [if_pos (by simp; omega), vidx_w _ hk, Option.bind_some, vidx_w _ hk, Option.bind_some, Option.bind_some, inc64 hk (by omega)]) (fun v => by unfold ref4_merge_L2; rw [if_neg (by simp)]; simp only [hCx]) _
      have fin : ∀ cf : Bool, (cf = true → Clash l) → (cf = false → oX = false ∧ x.Conflict = false ∧ (oD = true → oF = x.Frame)) → ∃ W, loop (t2 (ref4_merge_L2 ⟨oN, oF, oS, oD, oC, oX⟩ x cf)) (oS, 0) = some (api_Rest.mk oN x.Frame W true (sumC (l.take (k + 1))) cf) ∧ RInv oN l (k + 1) (api_Rest.mk oN x.Frame W true (sumC (l.take (k + 1))) cf) := fun cf hc1 hc2 => by
        obtain ⟨W, w1, w2⟩ := hmax cf
        refine ⟨W, w1, x.Frame, W, cf, top_step hx hs ht (fun i hi => ?_), rfl, rfl, rfl, hc1, .inr ⟨rfl, rfl, rfl, ⟨x, hxs, rfl⟩, fun hcf => ?_⟩⟩
        · rw [w2 i hi]
          rcases hI with ⟨h1, h2, h3, h4, h5⟩ | ⟨h1, h2, h3, h4, h5⟩
          · have := ht i hi
            rcases this.2.2 with e | ⟨r, hr, _⟩
            · rw [e, h4, wd_rep0]
            · exact (h1 r hr).elim
          · rw [h3]
        · obtain ⟨g1, g2, g3⟩ := hc2 hcf
          rcases hI with ⟨h1, h2, h3, h4, h5⟩ | ⟨h1, h2, h3, h4, h5⟩
          · refine ⟨fun s hs' => ?_, fun r hr => ?_⟩
            · rcases (mem_take_succ hx).1 hs'.1 with h | rfl
              · exact (h1 s ⟨h, hs'.2⟩).elim
              · rfl
            · rcases (mem_take_succ hx).1 hr with h' | rfl
              · exact h5 g1 r h'
              · exact g2
          · refine ⟨fun s hs' => ?_, fun r hr => ?_⟩
            · rcases (mem_take_succ hx).1 hs'.1 with h | rfl
              · rw [(h5 g1).1 s ⟨h, hs'.2⟩, ← h2, g3 h1]
              · rfl
            · rcases (mem_take_succ hx).1 hr with h' | rfl
              · exact (h5 g1).2 r h'
              · exact g2
      by_cases hne : (oD && !decide (oF = x.Frame)) = true
      · simp only [Bool.and_eq_true, Bool.not_eq_true', decide_eq_false_iff_not] at hne
        have hcl' : Clash l := by
          rcases hI with ⟨h1, h2, _⟩ | ⟨h1, h2, h3, ⟨s, hs1, hs2⟩, h5⟩
          · rw [h2] at hne; cases hne.1
          · exact .inr ⟨s, x, snd_take hs1, snd_take hxs, by rw [hs2, ← h2]; exact hne.2⟩
        obtain ⟨W, w1, w2⟩ := fin true (fun _ => hcl') (fun hh => by cases hh)
        obtain ⟨hd, hf⟩ := hne
        subst hd
        refine ⟨_, ?_, w2⟩
        simp only [Bool.not_true, Bool.false_eq_true, if_false]
        rw [if_pos (by simp [hf]), Option.bind_some, t1_mk, w1, Option.bind_some]
        rfl
      · obtain ⟨W, w1, w2⟩ := fin (oX || x.Conflict) (fun hh => by
          rcases Bool.or_eq_true_iff.1 hh with h1 | h1
          · exact hcl h1
          · exact .inl ⟨x, hxl, h1⟩) (fun hh => by
          simp only [Bool.or_eq_false_iff] at hh
          refine ⟨hh.1, hh.2, fun hd => ?_⟩
          subst hd
          simpa using hne)
        refine ⟨_, ?_, w2⟩
        simp only [Bool.not_true, Bool.false_eq_true, if_false]
        rw [if_neg hne, Option.bind_some, t1_mk, w1, Option.bind_some]
        rfl
  · exact ⟨Vector.replicate 64 0, Vector.replicate 64 0, false, by rw [List.take_zero]; exact top_nil, rfl, by rw [List.take_zero]; rfl, rfl, (fun hh => by cases hh), .inl ⟨fun s hs => (List.not_mem_nil (by rw [List.take_zero] at hs; exact hs.1)).elim, rfl, rfl, rfl, fun _ r hr => by rw [List.take_zero] at hr; exact (List.not_mem_nil hr).elim⟩⟩
end Go.Vx
