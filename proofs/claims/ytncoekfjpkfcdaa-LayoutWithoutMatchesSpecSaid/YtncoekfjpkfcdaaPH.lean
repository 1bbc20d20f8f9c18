/- A text of the proof: a verified executor of the program form, or the contracts of the functions that the law reaches. -/
import Derived.Test.YtncoekfjpkfcdaaPG
set_option linter.all false
namespace Go.Vx
open Go Go.RowKit
theorem mid_split {d lo n : Nat} (h : d / 2 ^ lo % 2 ^ n = 0) : d = 2 ^ (lo + n) * (d / 2 ^ (lo + n)) + d % 2 ^ lo := by
  have h1 := Nat.mod_mul (a := 2 ^ lo) (b := 2 ^ n) (x := d)
  rw [h, Nat.mul_zero, Nat.add_zero, ← Nat.pow_add] at h1
  have h2 := Nat.div_add_mod d (2 ^ (lo + n))
  omega
theorem put_or {d lo n v : Nat} (h : d / 2 ^ lo % 2 ^ n = 0) (hv : v < 2 ^ n) : d ||| 2 ^ lo * v = d + 2 ^ lo * v ∧ 2 ^ lo * v + d % 2 ^ lo < 2 ^ (lo + n) := by
  have hs := mid_split h
  have hl : d % 2 ^ lo < 2 ^ lo := Nat.mod_lt _ (Nat.two_pow_pos _)
  have hx : 2 ^ lo * v + d % 2 ^ lo < 2 ^ (lo + n) := by
    have h1 : 2 ^ lo * (v + 1) ≤ 2 ^ lo * 2 ^ n := Nat.mul_le_mul_left _ hv
    rw [← Nat.pow_add, Nat.mul_add, Nat.mul_one] at h1
    omega
  refine ⟨?_, hx⟩
  have e1 := Nat.two_pow_add_eq_or_of_lt (i := lo + n) (b := d % 2 ^ lo) (by omega) (d / 2 ^ (lo + n))
  have e2 := Nat.two_pow_add_eq_or_of_lt (i := lo) (b := d % 2 ^ lo) hl v
  have e3 := Nat.two_pow_add_eq_or_of_lt (i := lo + n) (b := 2 ^ lo * v + d % 2 ^ lo) hx (d / 2 ^ (lo + n))
  have : d ||| 2 ^ lo * v = 2 ^ (lo + n) * (d / 2 ^ (lo + n)) ||| (2 ^ lo * v + d % 2 ^ lo) := by
    rw [e2, Nat.or_comm (2 ^ lo * v), ← Nat.or_assoc, ← e1, ← hs]
  rw [this, ← e3]
  omega
theorem put_bd {d lo n v : Nat} (h : d / 2 ^ lo % 2 ^ n = 0) (hv : v < 2 ^ n) (hd : d ≤ 2047) (hln : lo + n ≤ 11) : d + 2 ^ lo * v ≤ 2047 := by
  have hs := mid_split h
  have hx := (put_or h hv).2
  have e : 2 ^ 11 = 2 ^ (lo + n) * 2 ^ (11 - (lo + n)) := by rw [← Nat.pow_add]; congr 1; omega
  have h1 : d / 2 ^ (lo + n) < 2 ^ (11 - (lo + n)) := by
    rw [Nat.div_lt_iff_lt_mul (Nat.two_pow_pos _), Nat.mul_comm, ← e]; omega
  have h2 : 2 ^ (lo + n) * (d / 2 ^ (lo + n) + 1) ≤ 2 ^ (lo + n) * 2 ^ (11 - (lo + n)) := Nat.mul_le_mul_left _ h1
  rw [← e, Nat.mul_add, Nat.mul_one] at h2
  omega
theorem put_self {d lo n v : Nat} (h : d / 2 ^ lo % 2 ^ n = 0) (hv : v < 2 ^ n) : (d + 2 ^ lo * v) / 2 ^ lo % 2 ^ n = v := by
  rw [Nat.add_mul_div_left _ _ (Nat.two_pow_pos _), Nat.add_mod, h, Nat.zero_add, Nat.mod_mod, Nat.mod_eq_of_lt hv]
theorem put_other {d lo n v lo' n' : Nat} (h : d / 2 ^ lo % 2 ^ n = 0) (hv : v < 2 ^ n) (hd : lo + n ≤ lo' ∨ lo' + n' ≤ lo) : (d + 2 ^ lo * v) / 2 ^ lo' % 2 ^ n' = d / 2 ^ lo' % 2 ^ n' := by
  rcases hd with hd | hd
  · have hs := mid_split h
    have hx := (put_or h hv).2
    have hl : d % 2 ^ lo < 2 ^ (lo + n) := by omega
    have e : 2 ^ lo' = 2 ^ (lo + n) * 2 ^ (lo' - (lo + n)) := by rw [← Nat.pow_add]; congr 1; omega
    have e1 : (d + 2 ^ lo * v) / 2 ^ (lo + n) = d / 2 ^ (lo + n) := by
      have : d + 2 ^ lo * v = (2 ^ lo * v + d % 2 ^ lo) + 2 ^ (lo + n) * (d / 2 ^ (lo + n)) := by omega
      rw [this, Nat.add_mul_div_left _ _ (Nat.two_pow_pos _), Nat.div_eq_of_lt hx, Nat.zero_add]
    rw [e, ← Nat.div_div_eq_div_mul, e1, Nat.div_div_eq_div_mul]
  · have e : 2 ^ lo * v = 2 ^ lo' * (2 ^ n' * (2 ^ (lo - lo' - n') * v)) := by
      rw [← Nat.mul_assoc, ← Nat.mul_assoc, ← Nat.pow_add, ← Nat.pow_add]; congr 2; omega
    rw [e, Nat.add_mul_div_left _ _ (Nat.two_pow_pos _), Nat.add_mul_mod_self_left]
def rowOf (l : Vector (List Int) 16) (q : api_Place) : List Int := l.toList.getD q.Frame.toNat []
def wr (l : Vector (List Int) 16) (w : api_Place × Nat) : Vector (List Int) 16 := vset l w.1.Frame ((rowOf l w.1).set (w.1.Word - 3).toNat ((datN l w.1 + 2 ^ w.1.Low.toNat * w.2 : Nat) : Int))
theorem wr_get {l : Vector (List Int) 16} {q : api_Place} {v : Nat} (hq : placeR q) (k : Nat) : (wr l (q, v)).toList[k]? = if k = q.Frame.toNat then some ((rowOf l q).set (q.Word - 3).toNat ((datN l q + 2 ^ q.Low.toNat * v : Nat) : Int)) else l.toList[k]? := by
  obtain ⟨hf, _⟩ := hq
  have h16 : l.toList.length = 16 := by simp
  have e : (wr l (q, v)).toList = l.toList.set q.Frame.toNat ((rowOf l q).set (q.Word - 3).toNat ((datN l q + 2 ^ q.Low.toNat * v : Nat) : Int)) := by simp [wr, vset]
  rw [e, List.getElem?_set]
  by_cases h : k = q.Frame.toNat
  · subst h; rw [if_pos rfl, if_pos (by omega), if_pos rfl]
  · rw [if_neg (fun hh => h hh.symm), if_neg h]
theorem row_mem {l : Vector (List Int) 16} {q : api_Place} (hq : placeR q) : l.toList[q.Frame.toNat]? = some (rowOf l q) := by
  obtain ⟨hf, _⟩ := hq
  have h16 : l.toList.length = 16 := by simp
  obtain ⟨x, hx⟩ := get_ex (xs := l.toList) (k := q.Frame.toNat) (by omega)
  unfold rowOf
  rw [List.getD_eq_getElem?_getD, hx]; rfl
theorem wr_dat {l : Vector (List Int) 16} (hl : DatOK l) {q q' : api_Place} {v : Nat} (hq : placeR q) (hq' : placeR q') :
    datN (wr l (q, v)) q' = if q'.Frame = q.Frame ∧ q'.Word = q.Word then datN l q + 2 ^ q.Low.toNat * v else datN l q' := by
  obtain ⟨h58, _⟩ := hl _ (List.mem_of_getElem? (row_mem (l := l) hq))
  have e0 : datN (wr l (q, v)) q' = ((((wr l (q, v)).toList[q'.Frame.toNat]?).getD []).getD (q'.Word - 3).toNat 0).toNat := by unfold datN; rw [List.getD_eq_getElem?_getD (l := (wr l (q, v)).toList)]
  have e00 : datN l q' = (((l.toList[q'.Frame.toNat]?).getD []).getD (q'.Word - 3).toNat 0).toNat := by unfold datN; rw [List.getD_eq_getElem?_getD (l := l.toList)]
  rw [e0, e00, wr_get hq]
  obtain ⟨a1, a2, _⟩ := hq
  obtain ⟨b1, b2, _⟩ := hq'
  by_cases hf : q'.Frame = q.Frame
  · have hf' : q'.Frame.toNat = q.Frame.toNat := by omega
    rw [if_pos hf']
    simp only [Option.getD_some]
    by_cases hw2 : q'.Word = q.Word
    · rw [if_pos ⟨hf, hw2⟩, hw2, List.getD_eq_getElem?_getD, List.getElem?_set_self (by omega)]
      simp
      exact Int.toNat_natCast _
    · have hw3 : (q'.Word - 3).toNat ≠ (q.Word - 3).toNat := by omega
      rw [if_neg (fun h => hw2 h.2), List.getD_eq_getElem?_getD, List.getElem?_set_ne (fun h => hw3 h.symm), ← List.getD_eq_getElem?_getD, hf']
      unfold rowOf
      rw [List.getD_eq_getElem?_getD (l := l.toList)]
  · have hf' : ¬ q'.Frame.toNat = q.Frame.toNat := by omega
    rw [if_neg hf', if_neg (fun h => hf h.1)]
def disj (a b : api_Place) : Prop := ∀ x, hasP x a = true → hasP x b = false
theorem wr_ok {l : Vector (List Int) 16} (hl : DatOK l) {q : api_Place} {v : Nat} (hq : placeR q) (h0 : chunk l q = 0) (hv : v < 2 ^ q.Bits.toNat) : DatOK (wr l (q, v)) ∧ chunk (wr l (q, v)) q = v ∧ ∀ q', placeR q' → disj q q' → chunk (wr l (q, v)) q' = chunk l q' := by
  have hm := row_mem (l := l) hq
  obtain ⟨h58, hd⟩ := hl _ (List.mem_of_getElem? hm)
  have hdat : datN l q ≤ 2047 := by obtain ⟨_, _, _, h⟩ := dat_s hl hq; exact h
  refine ⟨?_, ?_, ?_⟩
  · intro y hy
    obtain ⟨k, hk⟩ := List.getElem?_of_mem hy
    rw [wr_get hq] at hk
    split at hk
    · cases hk
      refine ⟨by simpa using h58, fun d hdm => ?_⟩
      rcases List.mem_or_eq_of_mem_set hdm with h | rfl
      · exact hd d h
      · have := put_bd h0 hv hdat (by obtain ⟨_, _, h3, h4, h5⟩ := hq; omega)
        omega
    · exact hl y (List.mem_of_getElem? hk)
  · unfold chunk
    rw [wr_dat hl hq hq, if_pos ⟨rfl, rfl⟩]
    exact put_self h0 hv
  · intro q' hq' hdis
    unfold chunk
    rw [wr_dat hl hq hq']
    split
    · rename_i h
      have e : datN l q' = datN l q := by unfold datN; rw [h.1, h.2]
      rw [e]
      refine put_other h0 hv ?_
      obtain ⟨_, _, h3, h4, h5⟩ := hq
      obtain ⟨_, _, g3, g4, g5⟩ := hq'
      rcases Nat.lt_or_ge q'.Low.toNat (q.Low.toNat + q.Bits.toNat) with c1 | c1
      · rcases Nat.lt_or_ge q.Low.toNat (q'.Low.toNat + q'.Bits.toNat) with c2 | c2
        · exfalso
          by_cases hle : q.Low ≤ q'.Low
          · have := hdis ⟨q.Frame, q.Word, q'.Low⟩ (by simp [hasP]; omega)
            simp [hasP, h.1, h.2] at this
            omega
          · have := hdis ⟨q.Frame, q.Word, q.Low⟩ (by simp [hasP]; omega)
            simp [hasP, h.1, h.2] at this
            omega
        · exact .inr c2
      · exact .inl c1
    · rfl
end Go.Vx

namespace Go.Vx
open Go Go.RowKit
abbrev WL := List (api_Place × Nat)
structure Pre (out : Vector (List Int) 16) (W : WL) (ver : Int) : Prop where
  dat : DatOK out
  pl : ∀ w ∈ W, placeR w.1 ∧ w.2 < 2 ^ w.1.Bits.toNat ∧ chunk out w.1 = 0
  dis : W.Pairwise fun a b => disj a.1 b.1
  ver : ∀ x ∈ out.toList, x.getD 0 0 = ver
theorem wr_ver {l : Vector (List Int) 16} {ver : Int} (h : ∀ x ∈ l.toList, x.getD 0 0 = ver) {q : api_Place} {v : Nat} (hq : placeR q) : ∀ x ∈ (wr l (q, v)).toList, x.getD 0 0 = ver := by
  intro x hx
  obtain ⟨k, hk⟩ := List.getElem?_of_mem hx
  rw [wr_get hq] at hk
  split at hk
  · cases hk
    have := h _ (List.mem_of_getElem? (row_mem (l := l) hq))
    obtain ⟨_, a, _⟩ := hq
    rw [List.getD_eq_getElem?_getD, List.getElem?_set_ne (by omega), ← List.getD_eq_getElem?_getD]
    exact this
  · exact h x (List.mem_of_getElem? hk)
theorem Pre.step {out : Vector (List Int) 16} {w : api_Place × Nat} {W : WL} {ver : Int} (h : Pre out (w :: W) ver) : Pre (wr out w) W ver := by
  obtain ⟨q, v⟩ := w
  obtain ⟨h1, h2, h3⟩ := h.pl _ List.mem_cons_self
  obtain ⟨g1, g2, g3⟩ := wr_ok h.dat h1 h3 h2
  have hd := List.pairwise_cons.1 h.dis
  refine ⟨g1, fun w hw => ?_, hd.2, wr_ver h.ver h1⟩
  obtain ⟨a1, a2, a3⟩ := h.pl w (List.mem_cons_of_mem _ hw)
  exact ⟨a1, a2, by rw [g3 _ a1 (hd.1 w hw)]; exact a3⟩
def wrF : Vector (List Int) 16 → WL → Vector (List Int) 16
  | out, [] => out
  | out, w :: W => wrF (wr out w) W
theorem Pre.app {ver : Int} : ∀ {W1 W2 : WL} {out : Vector (List Int) 16}, Pre out (W1 ++ W2) ver → Pre (wrF out W1) W2 ver
  | [], _, _, h => h
  | w :: W1, W2, out, h => Pre.app (W1 := W1) (Pre.step (by simpa using h))
theorem Pre.left {ver : Int} {W1 W2 : WL} {out : Vector (List Int) 16} (h : Pre out (W1 ++ W2) ver) : Pre out W1 ver :=
  ⟨h.dat, fun w hw => h.pl w (List.mem_append_left _ hw), (List.pairwise_append.1 h.dis).1, h.ver⟩
end Go.Vx
