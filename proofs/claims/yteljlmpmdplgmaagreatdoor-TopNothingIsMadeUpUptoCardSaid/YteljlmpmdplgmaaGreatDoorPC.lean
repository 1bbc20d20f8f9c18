/- A text of the proof: a verified executor of the program form, or the contracts of the functions that the law reaches. -/
import Derived.Test.YteljlmpmdplgmaaGreatDoorPB
import Derived.Test.YteljlmpmdplgmaaGreatDoorPA
set_option linter.all false
namespace Go.Vx
open Go Go.RowKit
def wb (w : Vector Bool 64) (i : Nat) : Bool := w.toList.getD i false
theorem ZfV (w : Vector Bool 64) {i : Nat} (hi : i < 64) : ZA w (i : Int) = some (wb w i) := by
  unfold ZA wb
  rw [if_pos (by omega)]
  obtain ⟨x, hx⟩ := ZG (xs := w.toList) (k := ((i : Int)).toNat) (by simp; omega)
  rw [hx, List.getD_eq_getElem?_getD]
  simp only [Int.toNat_natCast] at hx
  rw [hx]; rfl
theorem Ze5 {n : Int} (h : 0 ≤ n) : 0 ≤ Qx n ∧ Qx n ≤ 4095 := by
  have := ZlO n h
  unfold ZdH at this
  simp only [Bool.or_eq_true, decide_eq_true_eq] at this
  omega
theorem ZeV (f : Vector Int 64) : 0 ≤ (Zc8 f).1 ∧ (Zc8 f).1 < 4194304 := by
  unfold Zc8
  have := Zfm f
  split <;> simp only <;> omega
theorem Zj2 {n : Int} (h1 : 0 ≤ n) (h2 : n < 4194304) : JR n = some (Qx n, 0) ∧ Zb4 n = some (Qx n, 0) := by
  have hb := Ze5 h1
  constructor
  · unfold JR
    rw [if_neg (by simp; omega), (Zdc h1).1, Option.bind_some, (Zdc h1).2, Option.bind_some, ZO (by omega) (by omega)]
  · unfold Zb4
    rw [if_neg (by simp; omega), Zhj h1, Option.bind_some]
noncomputable def Zhr (f : Vector Int 64) (w : Vector Bool 64) : Int × Bool := if (wb w 0 && wb w 1 && wb w 2) = true then ((Zc8 f).1, (Zc8 f).2 && decide (wd f 0 = Qx (Zc8 f).1)) else (0, false)
theorem ZnP {f : Vector Int 64} (h : fU f) (hn : ∀ i, 0 ≤ wd f i ∧ wd f i ≤ 4095) (w : Vector Bool 64) : ZbH f w = some (Zhr f w) ∧ Zba f w = some (Zhr f w) := by
  have v0 : ZA w 0 = some (wb w 0) := ZfV w (i := 0) (by decide)
  have v1 : ZA w 1 = some (wb w 1) := ZfV w (i := 1) (by decide)
  have v2 : ZA w 2 = some (wb w 2) := ZfV w (i := 2) (by decide)
  have f0 : ZA f 0 = some (wd f 0) := ZW f (i := 0) (by decide)
  obtain ⟨n1, n2⟩ := ZeX h (hn 1).2 (hn 2).2
  have hb := ZeV f
  obtain ⟨s1, s2⟩ := Zj2 hb.1 hb.2
  have hs := Ze5 hb.1
  have h0 := hn 0
  unfold ZbH Zba Zhr
  rw [v0, v1, v2, n1, n2]
  cases hw0 : wb w 0
  · exact ⟨rfl, rfl⟩
  cases hw1 : wb w 1
  · exact ⟨rfl, rfl⟩
  cases hw2 : wb w 2
  · exact ⟨rfl, rfl⟩
  have e : ¬ (((!true) || (!true)) || (!true)) = true := by decide
  have g : ∀ (α : Type) (d : α) (o : Option α), gd ((!true) == false) d o = o := fun _ _ _ => rfl
  have g2 : ∀ (α : Type) (d : α) (o : Option α), gd (((!true) || (!true)) == false) d o = o := fun _ _ _ => rfl
  simp only [Option.bind_some, g, g2]
  rw [if_neg e, if_neg e, if_pos (by rfl)]
  rw [s1, s2]
  have hn0 : (Zc8 f).2 = false → (Zc8 f).1 = 0 := by
    unfold Zc8
    split
    · intro hh; cases hh
    · intro _; rfl
  cases hok : (Zc8 f).2
  · simp [hn0 hok, gd]
  · simp only [Option.bind_some, Zbg, f0, Bool.true_and]
    rw [Zdn (n := Qx (Zc8 f).1) (by omega), ZO (z := wd f 0) (by omega) (by omega)]
    exact ⟨rfl, rfl⟩
def qO (C : List api_Found) (i : Nat) (xi : api_Found) : Nat → Prop := fun j => j ≠ i ∧ ∃ x, C[j]? = some x ∧ (x.At - xi.At).tmod 194 = 0
theorem Zmj (z : Int) : rem z 194 = some (z.tmod 194) := by unfold rem; rw [if_neg (by decide)]
theorem Zlq {H : List Int} {C : List api_Found} (hC : COK H C) {i : Nat} {xi : api_Found} (hi : C[i]? = some xi) {p : Int} (hp : -1000000 ≤ p ∧ p ≤ 1000000) : ∃ b, loop (t2 (Xs C (i : Int) p)) ((-1), 0) = some b ∧ Jg C (qO C i xi) p C.length b := by
  have hlen := hC.len
  have hia := hC.at_ hi
  obtain ⟨r, e1, e2⟩ := Q1 (body := Xs C (i : Int) p) (N := C.length) (fun k best => Jg C (qO C i xi) p k best) (fun r => Jg C (qO C i xi) p C.length r)
    (fun k best hk hI => by
      obtain ⟨y, hy⟩ := ZG hk
      have hya := hC.at_ hy
      left
      unfold Xs
      rw [if_pos (by simp; omega), ZM hy, Option.bind_some, QG hk (by omega), ZM hi]
      by_cases hki : k = i
      · subst hki
        exact ⟨best, by simp [gd], Zed (fun hq => hq.1 rfl) hI⟩
      rw [decide_eq_false (show ¬ ((k : Int) = (i : Int)) by omega), show (false == false) = true from rfl, ZbE, Option.bind_some, ZbE, ZO (z := y.At - xi.At) (by omega) (by omega), Zmj, Option.bind_some]
      by_cases hm : (y.At - xi.At).tmod 194 = 0
      · have hq : qO C i xi k := ⟨hki, y, hy, hm⟩
        rw [decide_eq_true hm, if_neg (by decide)]
        rcases hI with ⟨rfl, h2⟩ | ⟨b, x, rfl, h2, h3, h4, h5⟩
        · exact ⟨k, by simp [gd], ZeC hq hy (.inl ⟨rfl, h2⟩)⟩
        · have hxa := hC.at_ h4
          refine ⟨_, ?_, ZfJ hq hy h4 (.inr ⟨b, x, rfl, h2, h3, h4, h5⟩)⟩
          rw [show decide ((b : Int) < 0) = false by simp, Ze8 (by omega) hp, ZM h4]
          simp only [show (false == false) = true from rfl, ZbE, Option.bind_some, Bool.false_or]
          rw [Ze8 (by omega) hp, Option.bind_some]
          by_cases hd : dst y.At p < dst x.At p
          · rw [if_pos (by simp [hd]), if_pos hd]
          · rw [if_neg (by simp; omega), if_neg hd]
      · rw [decide_eq_false hm, if_pos (by decide)]
        exact ⟨best, rfl, Zed (fun ⟨_, x, hx, he⟩ => by rw [hy] at hx; cases hx; exact hm he) hI⟩)
    (fun best hI => ⟨best, by unfold Xs; rw [if_neg (by simp)], hI⟩) (Zj5 C _ p)
  exact ⟨r, e1, e2⟩
theorem Zm3 {H : List Int} {C : List api_Found} {N : List Int} (hC : COK H C) {i : Nat} {xi : api_Found} (hi : C[i]? = some xi) {p : Int} (hp : -1000000 ≤ p ∧ p ≤ 1000000) : ∃ b, QP ⟨H, C, N, ()⟩ (i : Int) p = some b ∧ Jg C (qO C i xi) p C.length b := by
  have hlen := hC.len
  have hia := hC.at_ hi
  obtain ⟨r, e1, e2⟩ := ZbC (body := QM ⟨H, C, N, ()⟩ (i : Int) p) (N := C.length)
    (fun k best least => Jg C (qO C i xi) p k best ∧ ∀ (b : Nat) x, best = b → C[b]? = some x → least = dst x.At p) (fun r => Jg C (qO C i xi) p C.length r)
    (fun k best least hk hI => by
      obtain ⟨hI, hL⟩ := hI
      obtain ⟨y, hy⟩ := ZG hk
      have hya := hC.at_ hy
      left
      unfold QM
      rw [show (⟨H, C, N, ()⟩ : salvage_finder).certain = C from rfl, if_pos (by simp; omega), ZM hy, Option.bind_some, QG hk (by omega), ZM hi]
      by_cases hki : k = i
      · subst hki
        exact ⟨best, least, by simp [gd], Zed (fun hq => hq.1 rfl) hI, hL⟩
      rw [decide_eq_false (show ¬ ((k : Int) = (i : Int)) by omega), show (false == false) = true from rfl, ZbE, Option.bind_some, ZbE, ZO (z := y.At - xi.At) (by omega) (by omega), Zmj, Option.bind_some]
      by_cases hm : (y.At - xi.At).tmod 194 = 0
      · have hq : qO C i xi k := ⟨hki, y, hy, hm⟩
        rw [decide_eq_true hm, if_neg (by decide), Zlz (by omega) hp, Option.bind_some]
        have hnew : ∀ (b : Nat) x, (k : Int) = b → C[b]? = some x → dst y.At p = dst x.At p := fun b x e hx => by
          have : b = k := by omega
          subst this; rw [hy] at hx; cases hx; rfl
        rcases hI with ⟨rfl, h2⟩ | ⟨b, x, rfl, h2, h3, h4, h5⟩
        · exact ⟨k, dst y.At p, by simp, ZeC hq hy (.inl ⟨rfl, h2⟩), hnew⟩
        · have hxa := hC.at_ h4
          have hl := hL b x rfl h4
          subst hl
          have hn := ZfJ hq hy h4 (.inr ⟨b, x, rfl, h2, h3, h4, h5⟩)
          by_cases hd : dst y.At p < dst x.At p
          · rw [if_pos hd] at hn
            exact ⟨k, dst y.At p, by rw [if_pos (by simp [hd])], hn, hnew⟩
          · rw [if_neg hd] at hn
            exact ⟨b, dst x.At p, by rw [if_neg (by simp; omega)], hn, hL⟩
      · rw [decide_eq_false hm, if_pos (by decide)]
        exact ⟨best, least, rfl, Zed (fun ⟨_, x, hx, he⟩ => by rw [hy] at hx; cases hx; exact hm he) hI, hL⟩)
    (fun best least hI => ⟨best, by unfold QM; rw [show (⟨H, C, N, ()⟩ : salvage_finder).certain = C from rfl, if_neg (by simp)], hI.1⟩) (a0 := -1) (b0 := 0) ⟨Zj5 C _ p, fun b x e => by omega⟩
  exact ⟨r, by unfold QP; rw [e1]; rfl, e2⟩
theorem Znd {d t : Int} (hd : d ≠ 0) : 0 < t ↔ d * t ≠ 0 ∧ (0 < d * t ↔ 0 < d) := by
  rcases Int.lt_trichotomy t 0 with h | h | h
  · rcases Int.lt_or_gt_of_ne hd with h' | h'
    · have := Int.mul_pos_of_neg_of_neg h' h; omega
    · have := Int.mul_neg_of_pos_of_neg h' h; omega
  · subst h; simp
  · rcases Int.lt_or_gt_of_ne hd with h' | h'
    · have := Int.mul_neg_of_neg_of_pos h' h; omega
    · have := Int.mul_pos h' h; omega
theorem Zg0 {a b : Int} (hb : b ≠ 0) (ha : -1000000000000 ≤ a ∧ a ≤ 1000000000000) : quo .i64 a b = some (a.tdiv b) ∧ (a.tdiv b).natAbs ≤ a.natAbs := by
  have h := Int.natAbs_tdiv_le_natAbs a b
  refine ⟨?_, h⟩
  unfold quo
  rw [if_neg hb, w64 (by omega) (by omega)]
noncomputable def nm (x : api_Found) : Int := (Zc8 x.Frame).1
end Go.Vx

namespace Go.Vx
open Go Go.RowKit
noncomputable def fnd (H : List Int) (C : List api_Found) : salvage_finder := ⟨H, C, C.map nm, ()⟩
theorem Zjl {H : List Int} (h : hL H) (hl : H.length ≤ 400000) : XT H = some (fnd H (ZcA (scL H (H.length - 191)))) := by
  have hC := cok h hl
  generalize hCe : ZcA (scL H (H.length - 191)) = C at hC
  have hlen := hC.len
  unfold XT
  rw [(Zft h (by omega)).1, hCe, Option.bind_some]
  obtain ⟨r, e1, e2⟩ := ZbC (body := Xg C) (N := C.length) (fun k numbers _ => numbers = (C.take k).map nm) (fun r => r.1 = C.map nm)
    (fun k numbers at_ hk hI => by
      obtain ⟨y, hy⟩ := ZG hk
      obtain ⟨u, w⟩ := hC.fU hy
      left
      refine ⟨numbers ++ [nm y], ZV kqI at_ y.At (k : Int), ?_, by rw [hI, List.take_succ, hy]; simp⟩
      unfold Xg
      rw [if_pos (by simp; omega), ZM hy, Option.bind_some, (ZeX u (w 1).2 (w 2).2).1, Option.bind_some, QV (by rw [hI]; simp; omega), QG hk (by omega)]
      rfl)
    (fun numbers at_ hI => ⟨_, by unfold Xg; rw [if_neg (by simp)], by rw [hI, List.take_length]⟩) (a0 := []) (b0 := ([] : List (Int × Int))) (by simp)
  obtain ⟨r1, r2⟩ := r
  simp only at e2
  subst e2
  rw [e1, Option.bind_some, Zbj]; rfl
theorem ZiO {H : List Int} {C : List api_Found} (hC : COK H C) {i : Nat} {xi : api_Found} (hi : C[i]? = some xi) {p : Int} (hp : -1000000 ≤ p ∧ p ≤ 1000000) (w : Vector Bool 64) {f : Vector Int 64} (hf : fU f) (hn : ∀ i, 0 ≤ wd f i ∧ wd f i ≤ 4095) :
    ∃ (n : Int) (ok : Bool), Q2 (fnd H C) (i : Int) p f w = some (n, ok) ∧
      ((if (!(Zhr f w).2) = true then (J6 C (i : Int) p).bind fun y9 => some (y9.1, y9.2) else some ((Zhr f w).1, (Zhr f w).2)) : Option (Int × Bool)) = some (n, ok) ∧ (ok = true → 0 ≤ n ∧ n < 4194304) ∧ (-9223372036854775808 ≤ n ∧ n ≤ 9223372036854775807) := by
  have hlen := hC.len
  have hia := hC.at_ hi
  unfold Q2
  rw [(ZnP hf hn w).1, Option.bind_some]
  cases ho : (Zhr f w).2
  rotate_left
  · have hb : 0 ≤ (Zhr f w).1 ∧ (Zhr f w).1 < 4194304 := by
      unfold Zhr
      split
      · exact ZeV f
      · simp only; omega
    exact ⟨_, true, by rw [if_pos rfl], by rw [if_neg (by decide)], fun _ => hb, by omega⟩
  rw [if_neg (by decide), if_pos (by decide)]
  obtain ⟨b, e1, e2⟩ := Zm3 (N := C.map nm) hC hi hp
  obtain ⟨b', e1', e2'⟩ := Zlq hC hi hp
  have := ZfD e2 e2'
  subst this
  unfold J6
  rw [show QP (fnd H C) (i : Int) p = some b from e1, Option.bind_some, e1', Option.bind_some, Qa]
  rcases e2 with ⟨rfl, _⟩ | ⟨k, x, rfl, h2, ⟨hki, x', hx', hm⟩, h4, _⟩
  · exact ⟨0, false, rfl, rfl, (fun h => by cases h), by omega⟩
  rw [h4] at hx'; cases hx'
  have hka := hC.at_ h4
  have hN : ∀ {j : Nat} {z : api_Found}, C[j]? = some z → idx (fnd H C).numbers (j : Int) = some (nm z) := fun {j z} hz => ZM (by
    show (C.map nm)[j]? = _
    rw [List.getElem?_map, hz]; rfl)
  have hR : ∀ {j : Nat} {z : api_Found}, C[j]? = some z → XR z.Frame = some (nm z) := fun {j z} hz => by
    obtain ⟨u, w⟩ := hC.fU hz
    exact ZeU u (w 1).2 (w 2).2
  have hb1 : 0 ≤ nm x ∧ nm x < 4194304 := ZeV _
  have hb2 : 0 ≤ nm xi ∧ nm xi < 4194304 := ZeV _
  rw [show (fnd H C).certain = C from rfl, hN h4, hN hi]
  simp only [decide_eq_false (show ¬ ((k : Int) < 0) by omega), Bool.false_eq_true, if_false, ZM hi, ZM h4, Option.bind_some, hR h4, hR hi]
  rw [ZO (z := p - xi.At) (by omega) (by omega), ZO (z := x.At - xi.At) (by omega) (by omega), ZO (z := nm x - nm xi) (by omega) (by omega)]
  obtain ⟨q1, q1b⟩ := Zg0 (a := p - xi.At) (b := 194) (by decide) (by omega)
  obtain ⟨q2, q2b⟩ := Zg0 (a := x.At - xi.At) (b := 194) (by decide) (by omega)
  have hq1 : ((p - xi.At).tdiv 194).natAbs ≤ 10000 := by
    have := Int.mul_tdiv_add_tmod (p - xi.At) 194
    have := Int.tmod_lt_of_pos (p - xi.At) (show (0 : Int) < 194 by decide)
    have := Int.lt_tmod_of_pos (p - xi.At) (show (0 : Int) < 194 by decide)
    omega
  generalize (p - xi.At).tdiv 194 = q at q1 q1b hq1
  have hne : x.At ≠ xi.At := fun e => by
    rcases Nat.lt_or_gt_of_ne hki with h | h
    · have := hC.lt h h4 hi; omega
    · have := hC.lt h hi h4; omega
  have hd0 : (x.At - xi.At).tdiv 194 ≠ 0 := fun e => by
    have := Int.mul_tdiv_add_tmod (x.At - xi.At) 194
    rw [e, hm] at this
    omega
  generalize (x.At - xi.At).tdiv 194 = d at q2 q2b hd0
  rw [q1, Option.bind_some, q2, Option.bind_some]
  generalize hΔ : nm x - nm xi = Δ
  have hΔb : -4194304 < Δ ∧ Δ < 4194304 := by omega
  obtain ⟨q3, q3b⟩ := Zg0 (a := Δ) (b := d) hd0 (by omega)
  have hrem : rem Δ d = some (Δ.tmod d) := by unfold rem; rw [if_neg hd0]
  have hsum := Int.mul_tdiv_add_tmod Δ d
  rw [hrem]
  simp only [Option.bind_some, q3, hrem]
  by_cases hr : Δ.tmod d = 0
  · rw [hr] at hsum ⊢
    have hs := Znd (t := Δ.tdiv d) hd0
    rw [show d * Δ.tdiv d = Δ by omega] at hs
    generalize Δ.tdiv d = t at q3b hs
    simp only [decide_true, Bool.not_true, show (false == false) = true from rfl, ZbE, Option.bind_some, Bool.false_or, Bool.or_false]
    by_cases ht : 0 < t
    · obtain ⟨hΔ0, hsg⟩ := hs.1 ht
      have hc : (decide (Δ = 0) || !((decide (0 < Δ)) == (decide (0 < d)))) = false := by
        rw [decide_eq_false hΔ0, Bool.false_or, Bool.not_eq_false']
        by_cases h : 0 < d
        · rw [decide_eq_true h, decide_eq_true (hsg.2 h)]; rfl
        · rw [decide_eq_false h, decide_eq_false (fun h' => h (hsg.1 h'))]; rfl
      rw [hc]
      have m1 := Int.mul_le_mul_of_nonneg_right (show q ≤ 10000 by omega) (show 0 ≤ t by omega)
      have m2 := Int.mul_le_mul_of_nonneg_right (show -10000 ≤ q by omega) (show 0 ≤ t by omega)
      rw [ZO (z := q * t) (by omega) (by omega), ZO (z := nm xi + q * t) (by omega) (by omega)]
      refine ⟨nm xi + q * t, decide (0 ≤ nm xi + q * t) && decide (nm xi + q * t < 4194304), ?_, ?_, ?_, by omega⟩
      · rw [if_neg (by simpa using ht)]
        unfold Za4
        rw [Option.bind_some]
        have : decide (nm xi + q * t ≤ 4194303) = decide (nm xi + q * t < 4194304) := by rw [decide_eq_decide]; omega
        rw [this]
      · simp [gd]
      · intro h
        simpa using h
    · have hc : (decide (Δ = 0) || !((decide (0 < Δ)) == (decide (0 < d)))) = true := by
        by_cases h0 : Δ = 0
        · rw [decide_eq_true h0]; rfl
        · rw [decide_eq_false h0, Bool.false_or]
          by_cases h : 0 < d
          · rw [decide_eq_true h, decide_eq_false (fun h' => ht (hs.2 ⟨h0, ⟨fun _ => h, fun _ => h'⟩⟩))]; rfl
          · rw [decide_eq_false h]
            by_cases h' : 0 < Δ
            · rw [decide_eq_true h']; rfl
            · exact (ht (hs.2 ⟨h0, ⟨fun a => (h' a).elim, fun a => (h a).elim⟩⟩)).elim
      rw [hc]
      exact ⟨0, false, by rw [if_pos (by simpa using ht)], by simp [gd], (fun h => by cases h), by omega⟩
  · rw [decide_eq_false hr]
    refine ⟨0, false, by simp [gd], ?_, (fun h => by cases h), by omega⟩
    have : ∀ c : Bool, ((gd (c == false) 0 (some (Δ.tmod d))).bind fun q4 => if (c || !decide (q4 = 0)) = true then some ((0 : Int), false) else (some (Δ.tdiv d)).bind fun q5 => some (i64 (nm xi + i64 (q * q5)), decide (0 ≤ i64 (nm xi + i64 (q * q5))) && decide (i64 (nm xi + i64 (q * q5)) < 4194304))) = some ((0 : Int), false) := fun c => by
      cases c
      · simp [gd, hr]
      · simp [gd]
    have := this (decide (Δ = 0) || !((decide (0 < Δ)) == (decide (0 < d))))
    simp only [Option.bind_some] at this ⊢
    rw [this, Option.bind_some]
end Go.Vx

namespace Go.Vx
open Go Go.RowKit
noncomputable def rg (f : Vector Int 64) (w : Vector Bool 64) (n s : Int) (i : Nat) : Bool :=
  if i = 0 then wb w i && decide (wd f i = s) else
  if i = 1 then wb w i && (ZaD (wd f i) && decide (wd f i % 2048 = n.tmod 2048)) else
  if i = 2 then wb w i && (ZaD (wd f i) && decide (wd f i % 2048 = n.tdiv 2048)) else wb w i && ZaD (wd f i)
structure RSk (f : Vector Int 64) (w : Vector Bool 64) (n s : Int) (k : Nat) (r : api_Rest) : Prop where
  num : r.Number = n
  snd : r.Sound = false
  cop : r.Copies = 0
  con : r.Conflict = false
  fr : ∀ i, wd r.Frame i = if i < k ∧ rg f w n s i = true then wd f i else 0
  st : ∀ i, wd r.States i = if i < k ∧ rg f w n s i = true then 1 else 0
theorem ZoM (f : Vector Int 64) (w : Vector Bool 64) (n s : Int) : RSk f w n s 0 ⟨n, Vector.replicate 64 0, Vector.replicate 64 0, false, 0, false⟩ :=
  ⟨rfl, rfl, rfl, rfl, fun i => by rw [if_neg (by omega)]; exact JY i, fun i => by rw [if_neg (by omega)]; exact JY i⟩
theorem Zl1 {f : Vector Int 64} {w : Vector Bool 64} {n s : Int} {k : Nat} {r : api_Rest} (hk : k < 64) (h : RSk f w n s k r) (hr : rg f w n s k = true) :
    RSk f w n s (k + 1) ⟨r.Number, Qb r.Frame (k : Int) (wd f k), Qb r.States (k : Int) 1, r.Sound, r.Copies, r.Conflict⟩ := by
  refine ⟨h.num, h.snd, h.cop, h.con, fun i => ?_, fun i => ?_⟩ <;> simp only <;> rw [Xl _ hk]
  · by_cases e : k = i
    · subst e; rw [if_pos rfl, if_pos ⟨by omega, hr⟩]
    · rw [if_neg e, h.fr i]
      by_cases hi : i < k
      · simp [hi, show i < k + 1 by omega]
      · simp [hi, show ¬ i < k + 1 by omega]
  · by_cases e : k = i
    · subst e; rw [if_pos rfl, if_pos ⟨by omega, hr⟩]
    · rw [if_neg e, h.st i]
      by_cases hi : i < k
      · simp [hi, show i < k + 1 by omega]
      · simp [hi, show ¬ i < k + 1 by omega]
theorem ZnJ {f : Vector Int 64} {w : Vector Bool 64} {n s : Int} {k : Nat} {r : api_Rest} (h : RSk f w n s k r) (hr : rg f w n s k = false) : RSk f w n s (k + 1) r := by
  refine ⟨h.num, h.snd, h.cop, h.con, fun i => ?_, fun i => ?_⟩
  · rw [h.fr i]
    by_cases e : i = k
    · subst e; simp [hr]
    · simp [show i < k + 1 ↔ i < k by omega]
  · rw [h.st i]
    by_cases e : i = k
    · subst e; simp [hr]
    · simp [show i < k + 1 ↔ i < k by omega]
theorem Znu {f : Vector Int 64} {w : Vector Bool 64} {n s : Int} {k : Nat} {r r' : api_Rest} (h : RSk f w n s k r) (h' : RSk f w n s k r') : r = r' := by
  obtain ⟨a, b, c, d, e, g⟩ := r
  obtain ⟨a', b', c', d', e', g'⟩ := r'
  have h1 := h.num; have h2 := h'.num; have h3 := h.snd; have h4 := h'.snd; have h5 := h.cop; have h6 := h'.cop; have h7 := h.con; have h8 := h'.con
  simp only at h1 h2 h3 h4 h5 h6 h7 h8
  subst h1 h3 h5 h7 h2 h4 h6 h8
  have e1 : b = b' := Zbz fun i _ => by rw [h.fr i, h'.fr i]
  have e2 : c = c' := Zbz fun i _ => by rw [h.st i, h'.st i]
  rw [e1, e2]
theorem ZmS {x : Int} (h : 0 ≤ x ∧ x ≤ 4095) : JN x = some (ZaD x) := by
  unfold JN
  rw [decide_eq_true h.2, Zbg, ZO (by omega) (by omega), (ZgH h).2, Option.bind_some, Bool.true_and]
theorem ZmX {f : Vector Int 64} {w : Vector Bool 64} (hn : ∀ i, 0 ≤ wd f i ∧ wd f i ≤ 4095) {n : Int} (h1 : 0 ≤ n) (h2 : n < 4194304) {k : Nat} (hk : k < 64) :
    ∃ b, gd (wb w k == true) false (XF (wd f k) (k : Int) n) = some b ∧ (wb w k && b) = rg f w n (Qx n) k := by
  cases hw : wb w k
  · refine ⟨false, rfl, ?_⟩
    unfold rg
    rw [hw]
    simp
  · have hx := hn k
    have hb := Ze5 h1
    have hd : i64 (Xe .u16 (wd f k) 2047) = wd f k % 2048 := by
      have := Zdm (x := wd f k) (by omega)
      unfold QJ at this
      exact Option.some.inj this
    have hm : i64 (Xe .i64 n 2047) = n.tmod 2048 := by
      have := ZcY (v := n) (n := 11) (by decide)
      rw [show ((2 : Int) ^ 11 - 1) = 2047 by decide, show (2 : Int) ^ 11 = 2048 by decide] at this
      rw [this, Int.tmod_eq_emod_of_nonneg h1, ZO (by omega) (by omega)]
    have hm' : Xe .i64 n 2047 = n.tmod 2048 := by
      have := ZcY (v := n) (n := 11) (by decide)
      rw [show ((2 : Int) ^ 11 - 1) = 2047 by decide, show (2 : Int) ^ 11 = 2048 by decide] at this
      rw [this, Int.tmod_eq_emod_of_nonneg h1]
    have hq : shr .i64 n 11 = some (n.tdiv 2048) := by
      have := Zgx n (k := 11) (by decide)
      rw [show ((11 : Nat) : Int) = 11 from rfl, show (2 : Int) ^ 11 = 2048 by decide] at this
      rw [this, Int.tdiv_eq_ediv_of_nonneg h1]
    unfold XF Zb1 rg
    rw [hw, (ZgH hx).1, (Zj2 h1 h2).1]
    simp only [Option.bind_some, hd, hm', hq, Zbg, Bool.true_and]
    by_cases k0 : k = 0
    · subst k0
      refine ⟨_, by rw [if_pos (by decide)], ?_⟩
      rw [if_pos rfl, Zdn (by omega)]
    · rw [if_neg (by simp; omega), if_neg k0]
      by_cases k1 : k = 1
      · subst k1
        exact ⟨_, by rw [if_pos (by decide)], by rw [if_pos rfl]⟩
      · rw [if_neg (by simp; omega), if_neg k1]
        by_cases k2 : k = 2
        · subst k2
          rw [if_pos (by decide), if_pos rfl]
          cases ZaD (wd f 2)
          · exact ⟨false, rfl, rfl⟩
          · exact ⟨_, rfl, rfl⟩
        · exact ⟨_, by rw [if_neg (by simp; omega)], by rw [if_neg k2]⟩
theorem ZhC {f : Vector Int 64} {w : Vector Bool 64} (hn : ∀ i, 0 ≤ wd f i ∧ wd f i ≤ 4095) {n : Int} (h1 : 0 ≤ n) (h2 : n < 4194304) :
    ∃ r, loop (t2 (Qm (f, w) (n, true))) (⟨n, Vector.replicate 64 0, Vector.replicate 64 0, false, 0, false⟩, 0) = some r ∧ RSk f w n (Qx n) 64 r :=
  Q1 (N := 64) (fun k r => RSk f w n (Qx n) k r) _ (fun k r hk hI => by
    left
    obtain ⟨b, e1, e2⟩ := ZmX (w := w) hn h1 h2 hk
    unfold Qm
    simp only
    rw [if_pos (by simp; omega), ZW f hk, Option.bind_some, ZfV w hk, Option.bind_some, e1, Option.bind_some, e2, QG hk (by omega)]
    cases hr : rg f w n (Qx n) k
    · exact ⟨r, rfl, ZnJ hI hr⟩
    · exact ⟨_, by rw [if_pos rfl, ZW r.Frame hk, Option.bind_some, ZW r.States hk, Option.bind_some], Zl1 hk hI hr⟩)
    (fun r hI => ⟨r, by unfold Qm; rw [if_neg (by simp)], hI⟩) (ZoM f w n _)
theorem ZlZ (n : Int) : ∃ y, Zb4 n = some y ∧ (0 ≤ n → n < 4194304 → y.1 = Qx n) := by
  by_cases h : 0 ≤ n ∧ n < 4194304
  · exact ⟨_, (Zj2 h.1 h.2).2, fun _ _ => rfl⟩
  · exact ⟨(0, 9), by unfold Zb4; rw [if_pos (by simp; omega)], fun a b => (h ⟨a, b⟩).elim⟩
theorem ZiX {f : Vector Int 64} {w : Vector Bool 64} (hn : ∀ i, 0 ≤ wd f i ∧ wd f i ≤ 4095) (n : Int) (hnb : -9223372036854775808 ≤ n ∧ n ≤ 9223372036854775807) :
    ∃ r s, ZaH f w n = some r ∧ RSk f w n s 64 r ∧ (0 ≤ n → n < 4194304 → s = Qx n) := by
  obtain ⟨y, hy, hs⟩ := ZlZ n
  have hr2 : rem n 2048 = some (n.tmod 2048) := by unfold rem; rw [if_neg (by decide)]
  have hq2 : quo .i64 n 2048 = some (n.tdiv 2048) := by
    have := Int.natAbs_tdiv_le_natAbs n 2048
    have h3 := Int.mul_tdiv_add_tmod n 2048
    have h4 := Int.tmod_lt_of_pos n (show (0 : Int) < 2048 by decide)
    have h5 := Int.lt_tmod_of_pos n (show (0 : Int) < 2048 by decide)
    unfold quo
    rw [if_neg (by decide), w64 (by omega) (by omega)]
  obtain ⟨r, e1, e2⟩ := Q1 (body := ZaQ f w n y) (N := 64) (fun k r => RSk f w n y.1 k r) (fun r => RSk f w n y.1 64 r) (fun k r hk hI => by
    left
    have hx := hn k
    have hb : ((if (decide ((k : Int) = 0)) = true then (ZA w (k : Int)).bind fun x3 => (gd (x3 == true) 0 (ZA f (k : Int))).bind fun x4 => some (x3 && (decide ((i64 x4) = y.1)))
      else if (decide ((k : Int) = 1)) = true then
        (gd ((wb w k && (wb w k && ZaD (wd f k))) == true) 0 (ZA f (k : Int))).bind fun x5 => (gd ((wb w k && (wb w k && ZaD (wd f k))) == true) 0 (rem (i64 x5) 2048)).bind fun q => (gd ((wb w k && (wb w k && ZaD (wd f k))) == true) 0 (rem n 2048)).bind fun q2 => some ((wb w k && (wb w k && ZaD (wd f k))) && (decide (q = q2)))
      else if (decide ((k : Int) = 2)) = true then
        (gd ((wb w k && (wb w k && ZaD (wd f k))) == true) 0 (ZA f (k : Int))).bind fun x6 => (gd ((wb w k && (wb w k && ZaD (wd f k))) == true) 0 (rem (i64 x6) 2048)).bind fun q3 => (gd ((wb w k && (wb w k && ZaD (wd f k))) == true) 0 (quo .i64 n 2048)).bind fun q4 => some ((wb w k && (wb w k && ZaD (wd f k))) && (decide (q3 = q4)))
      else some (wb w k && (wb w k && ZaD (wd f k)))) : Option Bool) = some (rg f w n y.1 k) := by
      rw [ZW f hk, ZfV w hk, hr2, hq2]
      unfold rg
      have hi : i64 (wd f k) = wd f k := ZO (by omega) (by omega)
      by_cases k0 : k = 0
      · subst k0
        rw [if_pos (by decide), if_pos rfl]
        cases wb w 0
        · rfl
        · simp only [Option.bind_some, Zbg, hi]
      rw [if_neg (by simp; omega), if_neg k0]
      by_cases k1 : k = 1
      · subst k1
        rw [if_pos (by decide), if_pos rfl]
        cases wb w 1
        · rfl
        cases ZaD (wd f 1)
        · rfl
        · simp only [Bool.and_true, Zbg, Option.bind_some, hi, Zcu hx.1 2048 (by decide), Bool.true_and]
      rw [if_neg (by simp; omega), if_neg k1]
      by_cases k2 : k = 2
      · subst k2
        rw [if_pos (by decide), if_pos rfl]
        cases wb w 2
        · rfl
        cases ZaD (wd f 2)
        · rfl
        · simp only [Bool.and_true, Zbg, Option.bind_some, hi, Zcu hx.1 2048 (by decide), Bool.true_and]
      rw [if_neg (by simp; omega), if_neg k2]
      cases wb w k <;> rfl
    have hc : ∃ y2, gd (wb w k == true) 0 (ZA f (k : Int)) = some (if wb w k = true then wd f k else 0) ∧ gd (wb w k == true) false (JN (if wb w k = true then wd f k else 0)) = some y2 ∧ y2 = (wb w k && ZaD (wd f k)) := by
      rw [ZW f hk]
      cases wb w k
      · exact ⟨_, rfl, rfl, rfl⟩
      · exact ⟨_, rfl, ZmS hx, rfl⟩
    obtain ⟨y2, c1, c2, rfl⟩ := hc
    unfold ZaQ
    rw [if_pos (by simp; omega)]
    have hv := ZfV w hk
    rw [show (ZA w (k : Int)).bind = (some (wb w k)).bind by rw [hv], Option.bind_some, c1, Option.bind_some, c2, Option.bind_some, hb, Option.bind_some, Qa, QG hk (by omega)]
    cases hr : rg f w n y.1 k
    · exact ⟨r, rfl, ZnJ hI hr⟩
    · exact ⟨_, by rw [if_pos rfl, ZW f hk, Option.bind_some, ZW r.Frame hk, Option.bind_some, ZW r.States hk, Option.bind_some], Zl1 hk hI hr⟩)
    (fun r hI => ⟨r, by unfold ZaQ; rw [if_neg (by simp)], hI⟩) (ZoM f w n _)
  exact ⟨r, y.1, by unfold ZaH; rw [hy, Option.bind_some, e1]; rfl, e2, hs⟩
theorem ZmG (r : api_Rest) : ∃ b, Jh r 0 = some b ∧ JO r = some b := by
  refine ⟨_, Zln r 0, ?_⟩
  unfold JO
  rw [zV]
  congr 1
  rw [Bool.eq_iff_iff, decide_eq_true_eq, Bool.not_eq_true', ← Bool.not_eq_true, ZjC]
  constructor
  · rintro h ⟨i, hi, hg⟩
    rw [h, JY] at hg
    simp at hg
  · intro h
    refine Zbz fun i hi => ?_
    rw [JY]
    by_cases e : wd r.States i = 0
    · exact e
    · exact (h ⟨i, hi, by simpa using e⟩).elim
end Go.Vx

namespace Go.Vx
open Go Go.RowKit
noncomputable def Zm1 (h_ : List Int) (y2 : List api_Found) (i3 : Int) (at_ : Int) (out6 : List api_Rest) : Option (List api_Rest) :=
  (Jm h_ at_).bind fun y7 =>
  (Zba y7.1 y7.2).bind fun y8 =>
  ((if (!y8.2) = true then
  (J6 y2 i3 at_).bind fun y9 =>
  some (y9.1, y9.2)
  else
  some (y8.1, y8.2)) : Option ((Int × Bool))).bind (t2 fun (n : Int) (ok : Bool) =>
  (ZaH y7.1 y7.2 n).bind fun y10 =>
  (gd (ok == true) false (JO y10)).bind fun y11 =>
  if (ok && (!y11)) = true then
  (app out6 ([y10] : List api_Rest)).bind fun l2 =>
  some l2
  else
  some out6)
def Bes (H : List Int) (C : List api_Found) (i : Nat) (p : Int) (o : Option api_Rest) : Prop :=
  (∃ r, Qp (fnd H C) (i : Int) p = some (r, o.isSome) ∧ ∀ r', o = some r' → r = r') ∧
  (∀ acc : List api_Rest, acc.length ≤ 1000000000 → Zm1 H C (i : Int) p acc = some (acc ++ o.toList)) ∧
  ∀ r, o = some r → (∀ j, 0 ≤ wd r.Frame j ∧ wd r.Frame j ≤ 4095) ∧ 0 ≤ r.Copies ∧ r.Copies ≤ 1000000000
theorem Zn0 {H : List Int} {C : List api_Found} (hC : COK H C) {i : Nat} {xi : api_Found} (hi : C[i]? = some xi) {p : Int} (hp : -1000000 ≤ p ∧ p ≤ 1000000) : ∃ o, Bes H C i p o := by
  have hH := hC.hl
  have hfw := Zcr hC.hh p
  have hfu := ZiW hC.hh p
  obtain ⟨n, ok, e1, e2, e3, e4⟩ := ZiO hC hi hp (frW H p).2 hfu hfw
  have h1 : Xi (fnd H C).h_ p = some (frW H p) := ZgC hC.hh hp (by show H.length ≤ _; omega)
  have h2 := ZgS hC.hh hp (show H.length ≤ 1000000 by omega)
  have h3 := (ZnP hfu hfw (frW H p).2).2
  unfold Bes
  have hS : Qp (fnd H C) (i : Int) p = (some (n, ok)).bind fun y2 => if (!y2.2) = true then
      some ((api_Rest.mk 0 (Vector.replicate 64 0) (Vector.replicate 64 0) false 0 false), false) else
      ((loop (t2 (Qm (frW H p) y2)) ((api_Rest.mk y2.1 (Vector.replicate 64 0) (Vector.replicate 64 0) false 0 false), 0)) : Option ((api_Rest))).bind (t1 fun (r_ : api_Rest) =>
      (Jh r_ 0).bind fun y4 => some (r_, (!y4))) := by
    unfold Qp
    rw [h1, Option.bind_some, e1]
  have hR : ∀ acc : List api_Rest, Zm1 H C (i : Int) p acc = (ZaH (frW H p).1 (frW H p).2 n).bind fun y10 =>
      (gd (ok == true) false (JO y10)).bind fun y11 => if (ok && (!y11)) = true then (app acc ([y10] : List api_Rest)).bind fun l2 => some l2 else some acc := fun acc => by
    unfold Zm1
    rw [h2, Option.bind_some, h3, Option.bind_some, e2, Option.bind_some, Zbj]
  cases ok
  · refine ⟨none, ⟨_, by rw [hS]; rfl, fun r' h => by cases h⟩, fun acc _ => ?_, fun r h => by cases h⟩
    obtain ⟨r, hr⟩ : ∃ r, ZaH (frW H p).1 (frW H p).2 n = some r := by
      obtain ⟨r, s, hr, _⟩ := ZiX (w := (frW H p).2) hfw n e4
      exact ⟨r, hr⟩
    rw [hR, hr]
    simp [gd]
  · obtain ⟨n1, n2⟩ := e3 rfl
    obtain ⟨r, g1, g2⟩ := ZhC (w := (frW H p).2) hfw n1 n2
    obtain ⟨r', s, g3, g4, g5⟩ := ZiX (w := (frW H p).2) hfw n (by omega)
    rw [g5 n1 n2] at g4
    have := Znu g2 g4
    subst this
    obtain ⟨b, l1, l2⟩ := ZmG r
    refine ⟨if b = true then none else some r, ⟨r, ?_, fun r' h => ?_⟩, fun acc hacc => ?_, fun r' h => ?_⟩
    · rw [hS, Option.bind_some, if_neg (by simp)]
      simp only
      rw [g1, Option.bind_some, Qa, l1, Option.bind_some]
      cases b <;> rfl
    · cases b
      · exact Option.some.inj h
      · cases h
    · rw [hR, g3, Option.bind_some, Zbg, l2, Option.bind_some]
      cases b
      · rw [if_pos (by rfl), QV (by simp; omega)]; rfl
      · rw [if_neg (by decide)]; simp
    · have hr' : r = r' := by
        cases b
        · exact Option.some.inj h
        · cases h
      subst hr'
      refine ⟨fun j => ?_, by rw [g2.cop]; omega, by rw [g2.cop]; omega⟩
      rw [g2.fr j]
      split
      · exact hfw j
      · omega
noncomputable def bes (H : List Int) (C : List api_Found) (i : Nat) (p : Int) : Option api_Rest := Classical.epsilon (Bes H C i p)
theorem Zkx {H : List Int} {C : List api_Found} (hC : COK H C) {i : Nat} {xi : api_Found} (hi : C[i]? = some xi) {p : Int} (hp : -1000000 ≤ p ∧ p ≤ 1000000) : Bes H C i p (bes H C i p) := Classical.epsilon_spec (Zn0 hC hi hp)
end Go.Vx

namespace Go.Vx
open Go Go.RowKit
def inb (H : List Int) (p : Int) : Prop := -192 < p ∧ p < H.length
def Pl (H : List Int) (C : List api_Found) (i : Nat) (xi : api_Found) (p : Int) : Prop := inb H p ∧ Jg C Zgo p C.length (i : Int) ∧ 192 ≤ dst xi.At p
theorem ZhB {H : List Int} {C : List api_Found} (hC : COK H C) {i : Nat} {xi : api_Found} (hi : C[i]? = some xi) {p p' : Int} (h : Jg C Zgo p C.length (i : Int)) (hb : (p ≤ p' ∧ p' ≤ xi.At) ∨ (xi.At ≤ p' ∧ p' ≤ p)) : Jg C Zgo p' C.length (i : Int) := by
  rcases h with ⟨h1, _⟩ | ⟨b, x, h1, h2, h3, h4, h5⟩
  · omega
  have : b = i := by omega
  subst this
  rw [hi] at h4; cases h4
  refine .inr ⟨b, xi, rfl, h2, trivial, hi, fun j y hj _ hy => ?_⟩
  obtain ⟨g1, g2⟩ := h5 j y hj trivial hy
  refine ⟨fun hlt => ?_, fun hlt => ?_⟩
  · have := g1 hlt
    have := hC.lt hlt hy hi
    unfold dst at *
    omega
  · have := g2 hlt
    have := hC.lt hlt hi hy
    unfold dst at *
    omega
theorem Zky {H : List Int} {C : List api_Found} (hC : COK H C) {i : Nat} {xi : api_Found} (hi : C[i]? = some xi) {f : Nat → Int} {s : Int} (hs : s = 194 ∨ s = -194)
    (hf : ∀ k, f k = xi.At + s * ((k : Int) + 1)) (acc : List Int) (hacc : acc.length ≤ 10000) :
    ∃ a, loop (t2 (QD (fnd H C) (i : Int) s)) (acc, f 0) = some (acc ++ (List.range a).map f) ∧ (∀ k, k < a → Pl H C i xi (f k)) ∧ ¬ (inb H (f a) ∧ Jg C Zgo (f a) C.length (i : Int)) ∧ a ≤ 2100 := by
  have hlen := hC.len
  have hH := hC.hl
  have hia := hC.at_ hi
  have hne : C ≠ [] := fun e => by rw [e] at hi; simp at hi
  have hkb : ∀ k, inb H (f k) → k < 2100 := fun k ⟨h1, h2⟩ => by
    rw [hf] at h1 h2
    rcases hs with rfl | rfl <;> omega
  have hfs : ∀ k, f (k + 1) = f k + s := fun k => by
    rw [hf, hf]
    rcases hs with rfl | rfl <;> push_cast <;> omega
  have hds : ∀ k, 192 ≤ dst xi.At (f k) := fun k => by
    rw [hf]
    unfold dst
    rcases hs with rfl | rfl <;> split <;> omega
  obtain ⟨r, e1, a, rfl, e2⟩ := Zb9 (body := t2 (QD (fnd H C) (i : Int) s))
    (fun q => ∃ k : Nat, q = (acc ++ (List.range k).map f, f k) ∧ (∀ j, j < k → Pl H C i xi (f j)) ∧ k ≤ 2100)
    (fun q => acc.length + 3000 - q.1.length)
    (fun r => ∃ a : Nat, r = acc ++ (List.range a).map f ∧ (∀ k, k < a → Pl H C i xi (f k)) ∧ ¬ (inb H (f a) ∧ Jg C Zgo (f a) C.length (i : Int)) ∧ a ≤ 2100)
    (by
      rintro _ ⟨k, rfl, hk, hkl⟩
      rw [Zbj]
      unfold QD
      by_cases hin : inb H (f k)
      · have hkb' := hkb k hin
        have hi1 := hin.1
        have hi2 := hin.2
        rw [show (fnd H C).h_ = H from rfl, if_pos (by simp; exact ⟨hi1, hi2⟩)]
        obtain ⟨b, b1, b2⟩ := ZoB (N := C.map nm) hC hne (p := f k) (by omega)
        rw [show Qv (fnd H C) (f k) = some b from b1, Option.bind_some]
        by_cases hbi : b = i
        · subst hbi
          have hP : Pl H C i xi (f k) := ⟨hin, b2, hds k⟩
          rw [if_neg (by simp), show (fnd H C).certain = C from rfl, ZM hi, Option.bind_some, Zlz (by omega) (by omega), Option.bind_some, if_pos (by simpa using hds k), QV (by simp; omega)]
          left
          refine ⟨(acc ++ (List.range (k + 1)).map f, f (k + 1)), ?_, ⟨k + 1, rfl, fun j hj => ?_, by omega⟩, by simp; omega⟩
          · simp only [Option.bind_some, Sum.elim_inr, Qa]
            rw [ZO (by omega) (by omega), hfs, List.range_succ, List.map_append, List.append_assoc]; rfl
          · by_cases e : j = k
            · subst e; exact hP
            · exact hk j (by omega)
        · right
          exact ⟨_, by rw [if_pos (by simpa using hbi)]; rfl, k, rfl, hk, fun h => hbi (ZfD b2 h.2), hkl⟩
      · right
        refine ⟨_, by rw [show (fnd H C).h_ = H from rfl, if_neg (fun h => hin (show -192 < f k ∧ f k < (H.length : Int) by simpa using h))], k, rfl, hk, fun h => hin h.1, hkl⟩) (acc, f 0) ⟨0, by simp, fun j hj => by omega, by omega⟩
  exact ⟨a, e1, e2⟩
def fD (x : api_Found) (k : Nat) : Int := x.At + (-194) * ((k : Int) + 1)
def fU' (x : api_Found) (k : Nat) : Int := x.At + 194 * ((k : Int) + 1)
theorem ZlD {H : List Int} {C : List api_Found} (hC : COK H C) {i : Nat} {xi : api_Found} (hi : C[i]? = some xi) :
    ∃ a b, QA (fnd H C) (i : Int) = some ((List.range a).map (fD xi) ++ (List.range b).map (fU' xi)) ∧
      ((∀ k, k < a → Pl H C i xi (fD xi k)) ∧ ¬ (inb H (fD xi a) ∧ Jg C Zgo (fD xi a) C.length (i : Int)) ∧ a ≤ 2100) ∧
      ((∀ k, k < b → Pl H C i xi (fU' xi k)) ∧ ¬ (inb H (fU' xi b) ∧ Jg C Zgo (fU' xi b) C.length (i : Int)) ∧ b ≤ 2100) := by
  have hia := hC.at_ hi
  obtain ⟨a, a1, a2⟩ := Zky hC hi (f := fD xi) (s := -194) (.inr rfl) (fun k => rfl) [] (by simp)
  obtain ⟨b, b1, b2⟩ := Zky hC hi (f := fU' xi) (s := 194) (.inl rfl) (fun k => rfl) ((List.range a).map (fD xi)) (by simp; omega)
  refine ⟨a, b, ?_, a2, b2⟩
  unfold QA
  rw [show (fnd H C).certain = C from rfl, ZM hi, Option.bind_some]
  obtain ⟨r, e1, e2⟩ := Q1 (body := QB (fnd H C) (i : Int) xi) (N := 2)
    (fun k out => out = if k = 0 then [] else if k = 1 then (List.range a).map (fD xi) else (List.range a).map (fD xi) ++ (List.range b).map (fU' xi)) (fun r => r = (List.range a).map (fD xi) ++ (List.range b).map (fU' xi))
    (fun k out hk hI => by
      left
      unfold QB
      rw [if_pos (by simp; omega), QG hk (by omega)]
      by_cases k0 : k = 0
      · subst k0
        rw [if_pos rfl] at hI
        subst hI
        refine ⟨_, ?_, by rw [if_neg (by omega), if_pos rfl]⟩
        rw [show idx ([(-194), 194] : List Int) ((0 : Nat) : Int) = some (-194) from rfl, Option.bind_some, ZO (by omega) (by omega)]
        have : xi.At + -194 = fD xi 0 := by unfold fD; simp
        rw [this, a1, Option.bind_some, Qa]; rfl
      · have k1 : k = 1 := by omega
        subst k1
        rw [if_neg (by omega), if_pos rfl] at hI
        subst hI
        refine ⟨_, ?_, by rw [if_neg (by omega), if_neg (by omega)]⟩
        rw [show idx ([(-194), 194] : List Int) ((1 : Nat) : Int) = some 194 from rfl, Option.bind_some, ZO (by omega) (by omega)]
        have : xi.At + 194 = fU' xi 0 := by unfold fU'; simp
        rw [this, b1, Option.bind_some, Qa])
    (fun out hI => ⟨out, by unfold QB; rw [if_neg (by simp)], by rw [hI, if_neg (by omega), if_neg (by omega)]⟩) (by rw [if_pos rfl])
  rw [e1, Option.bind_some, Qa, e2]
noncomputable def plB (H : List Int) (C : List api_Found) (i : Nat) (xi : api_Found) (p : Int) : Bool := @decide (Pl H C i xi p) (Classical.propDecidable _)
theorem ZbW {H : List Int} {C : List api_Found} {i : Nat} {xi : api_Found} {p : Int} : plB H C i xi p = true ↔ Pl H C i xi p := by unfold plB; exact @decide_eq_true_iff _ (Classical.propDecidable _)
def gC (x : api_Found) (k : Nat) : Int := x.At % 194 - 194 + 194 * (k : Int)
noncomputable def KC (H : List Int) (C : List api_Found) (i : Nat) (xi : api_Found) (n : Nat) : List Int := ((List.range n).map (gC xi)).filter (plB H C i xi)
theorem ZfN {f : Nat → Int} (hf : ∀ i j, f i = f j → i = j) (n : Nat) : ((List.range n).map f).Nodup := by
  unfold List.Nodup
  rw [List.pairwise_map]
  exact List.Pairwise.imp (fun {a b} h e => h (hf a b e)) List.nodup_range
theorem Zi6 {H : List Int} {C : List api_Found} (hC : COK H C) {i : Nat} {xi : api_Found} (hi : C[i]? = some xi) :
    ∃ ps, QA (fnd H C) (i : Int) = some ps ∧ ps.Perm (KC H C i xi 2100) := by
  have hia := hC.at_ hi
  have hH := hC.hl
  obtain ⟨a, b, e1, ⟨a1, a2, a3⟩, ⟨b1, b2, b3⟩⟩ := ZlD hC hi
  refine ⟨_, e1, (List.perm_ext_iff_of_nodup ?_ ?_).2 fun p => ?_⟩
  · rw [List.nodup_append]
    refine ⟨ZfN (fun i j h => by unfold fD at h; omega) a, ZfN (fun i j h => by unfold fU' at h; omega) b, fun x hx y hy => ?_⟩
    obtain ⟨k, _, rfl⟩ := List.mem_map.1 hx
    obtain ⟨k', _, rfl⟩ := List.mem_map.1 hy
    unfold fD fU'
    omega
  · exact (ZfN (fun i j h => by unfold gC at h; omega) 2100).sublist List.filter_sublist
  · unfold KC
    simp only [List.mem_append, List.mem_map, List.mem_range, List.mem_filter, ZbW]
    constructor
    · rintro (⟨k, hk, rfl⟩ | ⟨k, hk, rfl⟩)
      · have hP := a1 k hk
        have h1 := hP.1.1
        refine ⟨⟨(xi.At / 194 - k).toNat, ?_, ?_⟩, hP⟩
        · omega
        · unfold gC fD at *; omega
      · have hP := b1 k hk
        have h1 := hP.1.2
        refine ⟨⟨(xi.At / 194 + 2 + k).toNat, ?_, ?_⟩, hP⟩
        · unfold fU' at h1; omega
        · unfold gC fU' at *; omega
    · rintro ⟨⟨k, hk, rfl⟩, hP⟩
      obtain ⟨⟨h1, h2⟩, h3, h4⟩ := hP
      rcases Int.lt_trichotomy (gC xi k) xi.At with h | h | h
      · left
        refine ⟨(xi.At / 194 - k).toNat, ?_, ?_⟩
        · apply Classical.byContradiction
          intro hge
          refine a2 ⟨⟨?_, ?_⟩, ZhB hC hi h3 (.inl ⟨?_, ?_⟩)⟩ <;> unfold fD gC at * <;> omega
        · unfold fD gC at *; omega
      · rw [h] at h4
        unfold dst at h4
        omega
      · right
        refine ⟨(k - xi.At / 194 - 2).toNat, ?_, ?_⟩
        · apply Classical.byContradiction
          intro hge
          refine b2 ⟨⟨?_, ?_⟩, ZhB hC hi h3 (.inr ⟨?_, ?_⟩)⟩ <;> unfold fU' gC at * <;> omega
        · unfold fU' gC at *; omega
end Go.Vx

namespace Go.Vx
open Go Go.RowKit
noncomputable def Zfw (x : api_Found) : api_Rest := ⟨nm x, x.Frame, Vector.replicate 64 3, true, 1, false⟩
noncomputable def ZgU (H : List Int) (C : List api_Found) (i : Nat) : List api_Rest := (KC H C i (C.getD i fz) 2100).filterMap (bes H C i)
noncomputable def RA (H : List Int) (C : List api_Found) (k : Nat) : List api_Rest := (C.take k).map Zfw ++ (List.range k).flatMap (ZgU H C)
theorem ZjL (H : List Int) (C : List api_Found) (i : Nat) (x : api_Found) (n : Nat) : (KC H C i x n).length ≤ n := by
  unfold KC
  exact Nat.le_trans (List.length_filter_le _ _) (by simp)
theorem Zjc (H : List Int) (C : List api_Found) (i : Nat) : (ZgU H C i).length ≤ 2100 := Nat.le_trans (List.length_filterMap_le _ _) (ZjL _ _ _ _ _)
theorem ZiB {F : Nat → List api_Rest} (hF : ∀ i, (F i).length ≤ 2100) : ∀ k, ((List.range k).flatMap F).length ≤ 2100 * k
  | 0 => by simp
  | k + 1 => by
    rw [List.range_succ, List.flatMap_append, List.length_append]
    have := ZiB hF k
    have := hF k
    simp only [List.flatMap_cons, List.flatMap_nil, List.append_nil]
    omega
theorem ZmF (H : List Int) (C : List api_Found) (k : Nat) : (RA H C k).length ≤ 2101 * k := by
  have := ZiB (Zjc H C) k
  unfold RA
  rw [List.length_append, List.length_map, List.length_take]
  omega
theorem ZmQ {H : List Int} {C : List api_Found} {k : Nat} {x : api_Found} (hx : C[k]? = some x) {l ps : List api_Rest} (hl : l.Perm (RA H C k)) (hp : ps.Perm (ZgU H C k)) : (l ++ [Zfw x] ++ ps).Perm (RA H C (k + 1)) := by
  have h1 : RA H C (k + 1) = (C.take k).map Zfw ++ ([Zfw x] ++ ((List.range k).flatMap (ZgU H C) ++ ZgU H C k)) := by
    unfold RA
    rw [List.take_succ, hx, List.range_succ, List.flatMap_append]
    simp
  rw [h1]
  refine ((hl.append_right [Zfw x]).append hp).trans ?_
  unfold RA
  rw [List.append_assoc, List.append_assoc]
  refine List.Perm.append_left _ ?_
  rw [← List.append_assoc, ← List.append_assoc]
  exact List.Perm.append_right _ List.perm_append_comm
theorem Zpo {H : List Int} {C : List api_Found} (hC : COK H C) {i : Nat} {xi : api_Found} (hi : C[i]? = some xi) {ps : List Int} (hb : ∀ p ∈ ps, -1000000 ≤ p ∧ p ≤ 1000000) (acc : List api_Rest) (hacc : acc.length + ps.length ≤ 1000000000) :
    loop (t2 (XA (fnd H C) (i : Int) ps)) (acc, 0) = some (acc ++ ps.filterMap (bes H C i)) := by
  obtain ⟨r, e1, e2⟩ := Q1 (body := XA (fnd H C) (i : Int) ps) (N := ps.length) (fun k out => out = acc ++ (ps.take k).filterMap (bes H C i)) (fun r => r = acc ++ ps.filterMap (bes H C i))
    (fun k out hk hI => by
      left
      obtain ⟨p, hp⟩ := ZG hk
      obtain ⟨⟨r, h1, h2⟩, _, _⟩ := Zkx hC hi (hb p (List.mem_of_getElem? hp))
      have hlen : out.length ≤ acc.length + k := by
        rw [hI, List.length_append]
        have := List.length_filterMap_le (bes H C i) (ps.take k)
        rw [List.length_take] at this
        omega
      unfold XA
      rw [if_pos (by simp; omega), ZM hp, Option.bind_some, h1, Option.bind_some, QG hk (by omega)]
      have ht : (ps.take (k + 1)).filterMap (bes H C i) = (ps.take k).filterMap (bes H C i) ++ (bes H C i p).toList := by
        rw [List.take_succ, hp, List.filterMap_append]
        congr 1
      cases ho : bes H C i p with
      | none => exact ⟨out, rfl, by rw [ht, ho, hI]; simp⟩
      | some r' =>
        have := h2 r' ho
        subst this
        refine ⟨out ++ [r], ?_, by rw [ht, ho, hI]; simp⟩
        rw [if_pos (by rfl), QV (by simp; omega)]; rfl)
    (fun out hI => ⟨out, by unfold XA; rw [if_neg (by simp)], by rw [hI, List.take_length]⟩) (s0 := acc) (by simp)
  rw [e1, e2]
theorem Zm6 {H : List Int} {C : List api_Found} (hC : COK H C) : ∃ l, loop (t2 (Xx (fnd H C))) ([], 0) = some l ∧ l.Perm (RA H C C.length) := by
  have hlen := hC.len
  have hH := hC.hl
  refine Q1 (body := Xx (fnd H C)) (N := C.length) (fun k (l : List api_Rest) => l.Perm (RA H C k)) (fun l => l.Perm (RA H C C.length)) (fun k l hk hI => ?_) (fun l hI => ⟨l, by unfold Xx; rw [show (fnd H C).certain = C from rfl, if_neg (by simp)], hI⟩) (by unfold RA; simp)
  left
  obtain ⟨x, hx⟩ := ZG hk
  obtain ⟨ps, p1, p2⟩ := Zi6 hC hx
  have hl := hI.length_eq
  have hRA := ZmF H C k
  have hpl : ps.length ≤ 2100 := by rw [p2.length_eq]; exact ZjL _ _ _ _ _
  have hg : C.getD k fz = x := ZfH hx
  have hb : ∀ p ∈ ps, -1000000 ≤ p ∧ p ≤ 1000000 := fun p hp => by
    have := p2.mem_iff.1 hp
    unfold KC at this
    have := (ZbW.1 (List.mem_filter.1 this).2).1
    unfold inb at this
    omega
  refine ⟨(l ++ [Zfw x]) ++ ps.filterMap (bes H C k), ?_, ZmQ hx hI ?_⟩
  · unfold Xx
    have hn : idx (fnd H C).numbers (k : Int) = some (nm x) := ZM (by
      show (C.map nm)[k]? = _
      rw [List.getElem?_map, hx]; rfl)
    rw [show (fnd H C).certain = C from rfl, if_pos (by simp; omega), ZM hx, Option.bind_some, hn, Option.bind_some, Zg1, Option.bind_some, QV (by simp; omega), Option.bind_some, p1, Option.bind_some]
    have := Zpo hC hx hb (l ++ [Zfw x]) (by simp; omega)
    unfold Zfw at this
    rw [this, Option.bind_some, Qa, QG hk (by omega)]; rfl
  · unfold ZgU
    rw [hg]
    exact p2.filterMap _
theorem Zh0 (H : List Int) (C : List api_Found) (i : Nat) (x : api_Found) (n : Nat) : KC H C i x (n + 1) = KC H C i x n ++ (if plB H C i x (gC x n) = true then [gC x n] else []) := by
  unfold KC
  rw [List.range_succ, List.map_append, List.filter_append]
  congr 1
  simp only [List.map_cons, List.map_nil, List.filter_cons, List.filter_nil]
theorem ZlE {H : List Int} {C : List api_Found} {i : Nat} {x : api_Found} {n : Nat} (hn : (H.length : Int) ≤ gC x n) : ∀ m, KC H C i x (n + m) = KC H C i x n
  | 0 => rfl
  | m + 1 => by
    rw [← Nat.add_assoc, Zh0, ZlE hn m, if_neg, List.append_nil]
    intro h
    have := (ZbW.1 h).1.2
    unfold gC at *
    omega
theorem ZoK {H : List Int} {C : List api_Found} (hC : COK H C) {i : Nat} {xi : api_Found} (hi : C[i]? = some xi) (acc : List api_Rest) (hacc : acc.length ≤ 900000000) :
    loop (t2 (Zbu H C (i : Int))) (acc, gC xi 0) = some (acc ++ ZgU H C i) := by
  have hia := hC.at_ hi
  have hH := hC.hl
  have hlen := hC.len
  have hg : C.getD i fz = xi := ZfH hi
  obtain ⟨r, e1, e2⟩ := Zb9 (body := t2 (Zbu H C (i : Int))) (fun q => ∃ k : Nat, q = (acc ++ (KC H C i xi k).filterMap (bes H C i), gC xi k) ∧ k ≤ 2100)
    (fun q => (1000000 - q.2).toNat) (fun r => r = acc ++ ZgU H C i)
    (by
      rintro _ ⟨k, rfl, hk⟩
      rw [Zbj]
      unfold Zbu
      by_cases hin : gC xi k < (H.length : Int)
      · left
        have hk' : k < 2100 := by unfold gC at hin; omega
        have hp : -1000000 ≤ gC xi k ∧ gC xi k ≤ 1000000 := by unfold gC at *; omega
        have hout : (acc ++ (KC H C i xi k).filterMap (bes H C i)).length ≤ 1000000000 := by
          have := List.length_filterMap_le (bes H C i) (KC H C i xi k)
          have := ZjL H C i xi k
          rw [List.length_append]; omega
        refine ⟨(acc ++ (KC H C i xi (k + 1)).filterMap (bes H C i), gC xi (k + 1)), ?_, ⟨k + 1, rfl, hk'⟩, by unfold gC; simp only; omega⟩
        rw [if_pos (by simpa using hin)]
        have hgn : i64 (gC xi k + 194) = gC xi (k + 1) := by rw [ZO (by omega) (by omega)]; unfold gC; push_cast; omega
        have hstep : ∀ o : List api_Rest, plB H C i xi (gC xi k) = false → (o = acc ++ (KC H C i xi k).filterMap (bes H C i)) → (some o : Option (List api_Rest)).bind (t1 fun (out7 : List api_Rest) => (some (.inl (out7, (i64 (gC xi k + 194)))) : Option ((List api_Rest × Int) ⊕ List api_Rest))) = some (.inl (acc ++ (KC H C i xi (k + 1)).filterMap (bes H C i), gC xi (k + 1))) := fun o h1 h2 => by
          rw [Option.bind_some, Qa, hgn, Zh0, h1, if_neg (by decide), List.append_nil, h2]
        by_cases hlow : gC xi k < -191
        · rw [decide_eq_true hlow]
          refine hstep _ ?_ rfl
          rw [← Bool.not_eq_true, ZbW]
          intro h
          have := h.1.1
          omega
        · rw [decide_eq_false hlow]
          obtain ⟨b, b1, b2⟩ := Zm4 hC hp
          simp only [show (false == false) = true from rfl, ZbE, Bool.false_or, b1, Option.bind_some]
          by_cases hbi : b = i
          · subst hbi
            rw [decide_eq_true rfl]
            simp only [Bool.not_true, show (false == false) = true from rfl, ZbE, Option.bind_some, Bool.false_or, ZM hi]
            rw [Ze8 (by omega) hp, Option.bind_some]
            by_cases hd : dst xi.At (gC xi k) < 192
            · rw [if_pos (by simpa using hd)]
              refine hstep _ ?_ rfl
              rw [← Bool.not_eq_true, ZbW]
              intro h
              have := h.2.2
              omega
            · rw [if_neg (by simpa using hd)]
              have hP : plB H C i xi (gC xi k) = true := ZbW.2 ⟨⟨by omega, hin⟩, b2, by omega⟩
              obtain ⟨_, h2, _⟩ := Zkx hC hi hp
              have h2 := h2 _ hout
              unfold Zm1 at h2
              rw [h2, Option.bind_some, Qa, hgn, Zh0, hP, if_pos rfl, List.filterMap_append, List.append_assoc]
              congr 5
          · rw [decide_eq_false hbi]
            refine hstep _ ?_ (by simp [gd])
            rw [← Bool.not_eq_true, ZbW]
            exact fun h => hbi (ZfD b2 h.2.1)
      · right
        refine ⟨_, by rw [if_neg (by simpa using hin)], ?_⟩
        unfold ZgU
        rw [hg, show 2100 = k + (2100 - k) by omega, ZlE (by omega)])
    (acc, gC xi 0) ⟨0, by simp [KC], by omega⟩
  rw [e1, e2]
theorem Zlk {H : List Int} (h : hL H) (hl : H.length ≤ 400000) : Zco H = some (RA H (ZcA (scL H (H.length - 191))) (ZcA (scL H (H.length - 191))).length) := by
  have hC := cok h hl
  unfold Zco
  rw [(ZjY h (by omega)).2, Option.bind_some, (Zft h (by omega)).2, Option.bind_some]
  generalize ZcA (scL H (H.length - 191)) = C at hC
  have hlen := hC.len
  obtain ⟨r, e1, rfl⟩ := Q1 (body := Zbv C) (N := C.length) (fun k l => l = (C.take k).map Zfw) (fun r => r = C.map Zfw) (fun k l hk hI => by
    left
    obtain ⟨x, hx⟩ := ZG hk
    obtain ⟨u, w⟩ := hC.fU hx
    refine ⟨l ++ [Zfw x], ?_, by rw [hI, List.take_succ, hx]; simp⟩
    have hfill : loop (t2 (Zae)) ((Vector.replicate 64 0), 0) = some (Vector.replicate 64 3) := Zkc (body := Zae) 3 (fun v j hj => by
      unfold Zae
      rw [if_pos (by simp; omega), ZW v hj, Option.bind_some, QG hj (by omega)]) (fun v => by unfold Zae; rw [if_neg (by simp)]) _
    have hll : l.length ≤ 400000 := by rw [hI]; simp; omega
    unfold Zbv
    rw [if_pos (by simp; omega), ZM hx, Option.bind_some, ZeU u (w 1).2 (w 2).2, Option.bind_some, hfill, Option.bind_some, Qa, QV (by simp; omega), Option.bind_some, QG hk (by omega)]
    rfl) (fun l hI => ⟨l, by unfold Zbv; rw [if_neg (by simp)], by rw [hI, List.take_length]⟩) (s0 := []) (by simp)
  rw [e1, Option.bind_some, Qa]
  obtain ⟨r, e2, rfl⟩ := Q1 (body := Zbx H C) (N := C.length) (fun k l => l = C.map Zfw ++ (List.range k).flatMap (ZgU H C)) (fun r => r = RA H C C.length) (fun k l hk hI => by
    left
    obtain ⟨x, hx⟩ := ZG hk
    have hia := hC.at_ hx
    have hH := hC.hl
    have hq : quo .i64 x.At 194 = some (x.At / 194) := by
      rw [(Zg0 (by decide) (by omega)).1, Int.tdiv_eq_ediv_of_nonneg hia.1]
    refine ⟨l ++ ZgU H C k, ?_, by rw [hI, List.range_succ, List.flatMap_append]; simp⟩
    have hll : l.length ≤ 900000000 := by
      have := ZiB (Zjc H C) k
      rw [hI, List.length_append, List.length_map]; omega
    unfold Zbx
    rw [if_pos (by simp; omega), ZM hx, Option.bind_some, hq, Option.bind_some, ZO (z := x.At / 194 * 194) (by omega) (by omega), ZO (z := x.At - x.At / 194 * 194) (by omega) (by omega), ZO (z := x.At - x.At / 194 * 194 - 194) (by omega) (by omega)]
    have : x.At - x.At / 194 * 194 - 194 = gC x 0 := by unfold gC; omega
    rw [this, ZoK hC hx l hll, Option.bind_some, Qa, QG hk (by omega)])
    (fun l hI => ⟨l, by unfold Zbx; rw [if_neg (by simp)], by rw [hI]; unfold RA; rw [List.take_length]⟩) (s0 := C.map Zfw) (by simp)
  rw [e2]; rfl
theorem Zpe {H : List Int} {C : List api_Found} (hC : COK H C) : LOK (RA H C C.length) := by
  have hlen := hC.len
  have key : ∀ r ∈ RA H C C.length, (∀ i, 0 ≤ wd r.Frame i ∧ wd r.Frame i ≤ 4095) ∧ 0 ≤ r.Copies ∧ r.Copies ≤ 1000000000 := fun r hr => by
    unfold RA at hr
    rcases List.mem_append.1 hr with hr | hr
    · obtain ⟨x, hx, rfl⟩ := List.mem_map.1 hr
      rw [List.take_length] at hx
      obtain ⟨k, hk⟩ := List.getElem?_of_mem hx
      exact ⟨(hC.fU hk).2, by show (0 : Int) ≤ 1; omega, by show (1 : Int) ≤ _; omega⟩
    · obtain ⟨i, hi, hr⟩ := List.mem_flatMap.1 hr
      obtain ⟨x, hx⟩ := ZG (xs := C) (k := i) (List.mem_range.1 hi)
      obtain ⟨p, hp, he⟩ := List.mem_filterMap.1 hr
      have hg : C.getD i fz = x := ZfH hx
      rw [hg] at hp
      unfold KC at hp
      have := (ZbW.1 (List.mem_filter.1 hp).2).1
      unfold inb at this
      have hH := hC.hl
      exact (Zkx hC hx (by omega)).2.2 r he
  exact ⟨Nat.le_trans (ZmF H C _) (by omega), fun r hr => (key r hr).1, fun r hr => (key r hr).2⟩
end Go.Vx

namespace Go.Vx
open Go Go.RowKit
theorem ZiU {y : List Int} (h : y.Pairwise (· < ·)) : y.Nodup := h.imp fun {a b} h e => by omega
theorem ZnV {l out : List api_Rest} (h : GR l out) : out.length ≤ l.length := by
  obtain ⟨y, h1, h2, h3, _⟩ := h
  have : y.length ≤ (l.map (·.Number)).length := (ZiU h1).length_le_of_subset fun n hn => by
    obtain ⟨r, hr, e⟩ := (h2 n).1 hn
    exact List.mem_map.2 ⟨r, hr, e⟩
  rw [h3]
  simpa using this
end Go.Vx

namespace Go.Vx
open Go Go.RowKit
noncomputable def Zgb (d : Int) : Int := if ZaD d = true then d else d + 2048
theorem ZkH : (List.range 2048).all (fun n => decide (bor .u16 (n : Int) 2048 = (n : Int) + 2048)) = true := by decide +kernel
theorem Zik {d : Int} (h : 0 ≤ d ∧ d ≤ 2047) : Qz d = some (Zgb d) ∧ Zb2 d = some (Zgb d) ∧ 0 ≤ Zgb d ∧ Zgb d ≤ 4095 := by
  obtain ⟨o1, o2⟩ := ZgH (x := d) (by omega)
  have hb : bor .u16 d 2048 = d + 2048 := by
    have := List.all_eq_true.1 ZkH d.toNat (List.mem_range.2 (by omega))
    have := of_decide_eq_true this
    rw [show ((d.toNat : Nat) : Int) = d by omega] at this
    exact this
  unfold Qz Zb2 Zgb
  rw [Zdn (by omega), o1, o2, Option.bind_some, Option.bind_some]
  cases ZaD d
  · rw [if_pos (show (!false) = true from rfl), if_neg (show ¬ (false = true) by decide), if_neg (show ¬ (false = true) by decide), hb, ZO (by omega) (by omega)]
    exact ⟨rfl, rfl, by omega, by omega⟩
  · rw [if_neg (show ¬ ((!true) = true) by decide), if_pos (show true = true from rfl), if_pos (show true = true from rfl)]
    exact ⟨rfl, rfl, by omega, by omega⟩
theorem ZjT (a b : Int) : ZbP .i64 a b = ZbP .i64 b a := by unfold ZbP; rw [BitVec.xor_comm]
theorem ZlT {a b : Int} (ha : 0 ≤ a ∧ a < 2048) (hb : 0 ≤ b ∧ b < 2048) : 0 ≤ ZbP .i64 a b ∧ ZbP .i64 a b < 2048 := by
  obtain ⟨n, rfl⟩ : ∃ n : Nat, a = n := ⟨a.toNat, by omega⟩
  obtain ⟨m, rfl⟩ : ∃ m : Nat, b = m := ⟨b.toNat, by omega⟩
  rw [ZiL (by omega) (by omega)]
  have := Nat.xor_lt_two_pow (x := n) (y := m) (n := 11) (by omega) (by omega)
  omega
theorem Zn9 (f : Vector Int 64) (k : Nat) : 0 ≤ ckS f k ∧ ckS f k < 4194304 := by
  unfold ckS
  have := (pS (ZbI f) k).isLt
  omega
theorem Zk5 {f : Vector Int 64} {i : Nat} (hi : i < 64) (h : wd f i = 0) : Qb f (i : Int) 0 = f := by
  refine Zbz fun j _ => ?_
  rw [Xl f hi]
  split
  · rename_i e; subst e; exact h.symm
  · rfl
theorem ZoS {f : Vector Int 64} (hn : ∀ i, 0 ≤ wd f i ∧ wd f i ≤ 4095) {i : Nat} (hi : i < 64) (h0 : wd f i = 0) :
    ∃ w, QW f (i : Int) = some (Qb f (i : Int) w) ∧ Jk f (i : Int) = some (Qb f (i : Int) w) ∧ 0 ≤ w ∧ w ≤ 4095 := by
  have hU : fU f := fun j => by have := hn j; omega
  obtain ⟨n1, n2⟩ := Ziu hU
  have hnb := Zfm f
  obtain ⟨s1, s2⟩ := Zim hU
  have hsb := Zkr f 60
  have c1 := ZhK hU
  have c2 := Zlt hU
  have hcb := Zn9 f 744
  have hv := ZW f hi
  have hv61 : ZA f 61 = some (wd f 61) := ZW f (i := 61) (by decide)
  have h61 := hn 61
  have hii := hn i
  by_cases i0 : i = 0
  · subst i0
    have hsy := Ze5 hnb.1
    have hv0 : ZA f 0 = some (wd f 0) := hv
    refine ⟨Qx (JB f), ?_, ?_, hsy.1, hsy.2⟩
    · unfold QW
      rw [if_pos (by decide), n1, Option.bind_some, (Zdc hnb.1).1, Option.bind_some, (Zdc hnb.1).2, Option.bind_some, hv0]; rfl
    · unfold Jk
      rw [if_pos (by decide), n2, Option.bind_some, Zhj hnb.1, Option.bind_some, hv0, Zdn (by omega)]; rfl
  by_cases i61 : i = 61
  · subst i61
    obtain ⟨w1, w2, w3, w4⟩ := Zik (d := Za7 f 60) (by omega)
    refine ⟨Zgb (Za7 f 60), ?_, ?_, w3, w4⟩
    · unfold QW
      rw [if_neg (by decide), if_pos (by decide), s1, Option.bind_some, w1, Option.bind_some, hv]; rfl
    · unfold Jk
      rw [if_neg (by decide), if_neg (by decide), if_pos (by decide), s2, Option.bind_some, w2, Option.bind_some, hv61, Zdn (by omega)]; rfl
  by_cases i62 : i = 62
  · subst i62
    obtain ⟨w1, w2, w3, w4⟩ := Zik (d := ckS f 744 / 2048) (by omega)
    have hq := Zgx (ckS f 744) (k := 11) (by decide)
    rw [show ((11 : Nat) : Int) = 11 from rfl, show (2 : Int) ^ 11 = 2048 by decide] at hq
    have hq2 : quo .i64 (ckS f 744) 2048 = some (ckS f 744 / 2048) := by
      rw [(Zg0 (by decide) (by omega)).1, Int.tdiv_eq_ediv_of_nonneg hcb.1]
    have hv0 : ZA f 62 = some (wd f 62) := hv
    refine ⟨Zgb (ckS f 744 / 2048), ?_, ?_, w3, w4⟩
    · unfold QW
      rw [if_neg (by decide), if_neg (by decide), if_pos (by decide), c1, Option.bind_some, hq, Option.bind_some, w1, Option.bind_some, hv]; rfl
    · unfold Jk
      rw [if_neg (by decide), if_neg (by decide), if_neg (by decide), if_pos (by decide), c2, Option.bind_some, hq2, Option.bind_some, w2, Option.bind_some, hv0, Zdn (by omega)]; rfl
  by_cases i63 : i = 63
  · subst i63
    obtain ⟨w1, w2, w3, w4⟩ := Zik (d := ckS f 744 % 2048) (by omega)
    have hm := ZcY (v := ckS f 744) (n := 11) (by decide)
    rw [show ((2 : Int) ^ 11 - 1) = 2047 by decide, show (2 : Int) ^ 11 = 2048 by decide] at hm
    have hv0 : ZA f 63 = some (wd f 63) := hv
    refine ⟨Zgb (ckS f 744 % 2048), ?_, ?_, w3, w4⟩
    · unfold QW
      rw [if_neg (by decide), if_neg (by decide), if_neg (by decide), if_pos (by decide), c1, Option.bind_some, hm, w1, Option.bind_some, hv]; rfl
    · unfold Jk
      rw [if_neg (by decide), if_neg (by decide), if_neg (by decide), if_neg (by decide), c2, Option.bind_some, Zcu hcb.1 2048 (by decide), Option.bind_some, w2, Option.bind_some, hv0, Zdn (by omega)]; rfl
  have d1 := Zdm (x := wd f i) (by omega)
  have d2 := Zdm (x := wd f 61) (by omega)
  have hx1 := ZlT (a := Za7 f 60) (b := wd f i % 2048) (by omega) (by omega)
  have hx2 := ZlT (a := ZbP .i64 (Za7 f 60) (wd f i % 2048)) (b := wd f 61 % 2048) hx1 (by omega)
  obtain ⟨w1, w2, w3, w4⟩ := Zik (d := ZbP .i64 (ZbP .i64 (Za7 f 60) (wd f i % 2048)) (wd f 61 % 2048)) (by omega)
  refine ⟨_, ?_, ?_, w3, w4⟩
  · unfold QW
    rw [if_neg (by simp; omega), if_neg (by simp; omega), if_neg (by simp; omega), if_neg (by simp; omega), s1, Option.bind_some, hv, Option.bind_some, d1, Option.bind_some, hv61, Option.bind_some, d2, Option.bind_some, w1]; rfl
  · unfold Jk
    rw [if_neg (by simp; omega), if_pos (by simp; omega), hv, Option.bind_some, ZO (z := wd f i) (by omega) (by omega), Zcu hii.1 2048 (by decide), Option.bind_some, s2, Option.bind_some, hv61, Option.bind_some, ZO (z := wd f 61) (by omega) (by omega), Zcu h61.1 2048 (by decide), Option.bind_some,
      ZjT (wd f i % 2048) (Za7 f 60), w2, Option.bind_some, Zdn (by omega)]; rfl
end Go.Vx

namespace Go.Vx
open Go Go.RowKit
def NoZ (r : api_Rest) (k : Nat) : Prop := ∀ i, i < k → wd r.States i ≠ 0
def Zmz (r : api_Rest) (k j : Nat) : Prop := j < k ∧ wd r.States j = 0 ∧ ∀ i, i < k → i ≠ j → wd r.States i ≠ 0
def Zm7 (r : api_Rest) (k : Nat) : Prop := ∃ i j, i < j ∧ j < k ∧ wd r.States i = 0 ∧ wd r.States j = 0
theorem Zpa (r : api_Rest) : ∃ lost place : Int, loop (t3 (Xm r)) (0, 0, 0) = some (lost, place) ∧ ((lost = 0 ∧ NoZ r 64) ∨ (lost = 1 ∧ ∃ j : Nat, place = j ∧ Zmz r 64 j) ∨ (2 ≤ lost ∧ Zm7 r 64)) := by
  obtain ⟨q, e1, lost, place, rfl, e2⟩ := ZbC (body := Xm r) (N := 64)
    (fun k lost place => (lost = 0 ∧ NoZ r k) ∨ (lost = 1 ∧ ∃ j : Nat, place = j ∧ Zmz r k j) ∨ (2 ≤ lost ∧ lost ≤ k ∧ Zm7 r k))
    (fun q => ∃ lost place : Int, q = (lost, place) ∧ ((lost = 0 ∧ NoZ r 64) ∨ (lost = 1 ∧ ∃ j : Nat, place = j ∧ Zmz r 64 j) ∨ (2 ≤ lost ∧ Zm7 r 64)))
    (fun k lost place hk hI => by
      left
      unfold Xm
      rw [if_pos (by simp; omega), ZW r.States hk, Option.bind_some, QG hk (by omega)]
      by_cases h0 : wd r.States k = 0
      · rw [if_pos (by simpa using h0)]
        have hb : 0 ≤ lost ∧ lost ≤ 64 := by rcases hI with ⟨h, _⟩ | ⟨h, _⟩ | ⟨h, h', _⟩ <;> omega
        refine ⟨_, _, rfl, ?_⟩
        rw [ZO (by omega) (by omega)]
        rcases hI with ⟨rfl, h⟩ | ⟨rfl, j, rfl, h1, h2, h3⟩ | ⟨h1, h2, i, j, h3, h4, h5, h6⟩
        · exact .inr (.inl ⟨rfl, k, rfl, by omega, h0, fun i hi hne => h i (by omega)⟩)
        · exact .inr (.inr ⟨by omega, by omega, j, k, h1, by omega, h2, h0⟩)
        · exact .inr (.inr ⟨by omega, by omega, i, j, h3, by omega, h5, h6⟩)
      · rw [if_neg (by simpa using h0)]
        refine ⟨_, _, rfl, ?_⟩
        rcases hI with ⟨rfl, h⟩ | ⟨rfl, j, rfl, h1, h2, h3⟩ | ⟨h1, h2, i, j, h3, h4, h5, h6⟩
        · refine .inl ⟨rfl, fun i hi => ?_⟩
          by_cases e : i = k
          · subst e; exact h0
          · exact h i (by omega)
        · refine .inr (.inl ⟨rfl, j, rfl, by omega, h2, fun i hi hne => ?_⟩)
          by_cases e : i = k
          · subst e; exact h0
          · exact h3 i (by omega) hne
        · exact .inr (.inr ⟨h1, by omega, i, j, h3, by omega, h5, h6⟩))
    (fun lost place hI => ⟨_, by unfold Xm; rw [if_neg (by simp)], lost, place, rfl, by
      rcases hI with h | h | ⟨h1, _, h2⟩
      · exact .inl h
      · exact .inr (.inl h)
      · exact .inr (.inr ⟨h1, h2⟩)⟩) (a0 := 0) (b0 := 0) (.inl ⟨rfl, fun i hi => by omega⟩)
  exact ⟨lost, place, e1, e2⟩
theorem Zoc (r : api_Rest) : ∃ q, loop (t2 (JJ r)) ((-1), 0) = some q ∧ ((q = .inl r ∧ Zm7 r 64) ∨ (q = .inr (-1) ∧ NoZ r 64) ∨ ∃ j : Nat, q = .inr (j : Int) ∧ Zmz r 64 j) :=
  Q1 (body := JJ r) (N := 64) (fun k at_ => (at_ = -1 ∧ NoZ r k) ∨ ∃ j : Nat, at_ = j ∧ Zmz r k j) _
    (fun k at_ hk hI => by
      unfold JJ
      rw [if_pos (by simp; omega), ZW r.States hk, Option.bind_some, QG hk (by omega)]
      by_cases h0 : wd r.States k = 0
      · rw [if_neg (by simpa using h0)]
        rcases hI with ⟨rfl, h⟩ | ⟨j, rfl, h1, h2, h3⟩
        · left
          exact ⟨_, by rw [if_neg (by decide)], .inr ⟨k, rfl, by omega, h0, fun i hi hne => h i (by omega)⟩⟩
        · right
          exact ⟨_, by rw [if_pos (by simp)], .inl ⟨rfl, j, k, h1, by omega, h2, h0⟩⟩
      · rw [if_pos (by simpa using h0)]
        left
        refine ⟨_, rfl, ?_⟩
        rcases hI with ⟨rfl, h⟩ | ⟨j, rfl, h1, h2, h3⟩
        · refine .inl ⟨rfl, fun i hi => ?_⟩
          by_cases e : i = k
          · subst e; exact h0
          · exact h i (by omega)
        · refine .inr ⟨j, rfl, by omega, h2, fun i hi hne => ?_⟩
          by_cases e : i = k
          · subst e; exact h0
          · exact h3 i (by omega) hne)
    (fun at_ hI => ⟨.inr at_, by unfold JJ; rw [if_neg (by simp)], by
      rcases hI with ⟨rfl, h⟩ | ⟨j, rfl, h⟩
      · exact .inr (.inl ⟨rfl, h⟩)
      · exact .inr (.inr ⟨j, rfl, h⟩)⟩) (.inl ⟨rfl, fun i hi => by omega⟩)
theorem Zml {r : api_Rest} (hn : ∀ i, 0 ≤ wd r.Frame i ∧ wd r.Frame i ≤ 4095) (hz : r.Sound = false → r.Conflict = false → ∀ i, i < 64 → wd r.States i = 0 → wd r.Frame i = 0) :
    ∃ o, XB r = some o ∧ ZcB r = some o := by
  obtain ⟨q, e1, e2⟩ := Zoc r
  unfold XB ZcB
  rw [e1, Option.bind_some]
  cases hsc : (r.Sound || r.Conflict)
  · have hs : r.Sound = false := by cases h : r.Sound <;> simp_all
    have hc : r.Conflict = false := by cases h : r.Conflict <;> simp_all
    rw [if_neg (show ¬ (false = true) by decide)]
    obtain ⟨lost, place, f1, f2⟩ := Zpa r
    rw [f1, Option.bind_some, Zbj]
    rcases e2 with ⟨rfl, i, j, h1, h2, h3, h4⟩ | ⟨rfl, h⟩ | ⟨j, rfl, h1, h2, h3⟩
    · have hl : 2 ≤ lost := by
        rcases f2 with ⟨_, hN⟩ | ⟨_, k, _, _, _, hk⟩ | ⟨h, _⟩
        · exact (hN i (by omega) h3).elim
        · by_cases e : i = k
          · exact (hk j (by omega) (by omega) h4).elim
          · exact (hk i (by omega) e h3).elim
        · exact h
      exact ⟨r, by rw [if_pos (by simp; omega)], rfl⟩
    · have hl : lost = 0 := by
        rcases f2 with ⟨h0, _⟩ | ⟨_, k, _, hk, hk0, _⟩ | ⟨_, i, j, _, hj, hi0, _⟩
        · exact h0
        · exact (h k hk hk0).elim
        · exact (h i (by omega) hi0).elim
      exact ⟨r, by rw [if_pos (by simp; omega)], rfl⟩
    · obtain ⟨rfl, rfl⟩ : lost = 1 ∧ place = j := by
        rcases f2 with ⟨_, hN⟩ | ⟨h, k, rfl, hk, hk0, hko⟩ | ⟨_, i, k, hik, hk, hi0, hk0⟩
        · exact (hN j h1 h2).elim
        · refine ⟨h, ?_⟩
          by_cases e : k = j
          · rw [e]
          · exact (h3 k hk e hk0).elim
        · by_cases e : i = j
          · exact (h3 k hk (by omega) hk0).elim
          · exact (h3 i (by omega) e hi0).elim
      have hF := hz hs hc j h1 h2
      obtain ⟨w, p1, p2, p3, p4⟩ := ZoS hn h1 hF
      have hgn : ∀ i, 0 ≤ wd (Qb r.Frame (j : Int) w) i ∧ wd (Qb r.Frame (j : Int) w) i ≤ 4095 := fun i => by
        rw [Xl _ h1]
        split
        · omega
        · exact hn i
      generalize hg : Qb r.Frame (j : Int) w = g at p1 p2 hgn
      have hgU : fU g := fun i => by have := hgn i; omega
      have hnb : Jn r.Frame = true := by
        unfold Jn
        rw [List.all_eq_true]
        intro k _
        exact decide_eq_true (hn k).2
      have hRp : JI r.Frame (j : Int) = some (if Zci g = true then (g, true) else (Vector.replicate 64 0, false)) := by
        unfold JI
        rw [if_neg (by simp; omega), ZW _ h1, Option.bind_some, Zk5 h1 hF, ZlY, hnb, Option.bind_some, if_neg (by decide), p1, Option.bind_some, Zkl hgU, Option.bind_some, zV]
        cases Zci g <;> rfl
      rw [if_neg (by decide), hRp, Option.bind_some]
      simp only [Sum.elim_inr, Qa]
      rw [if_neg (show ¬ ((false || decide ((j : Int) < 0)) = true) by simp), p2, Option.bind_some, ZeO hgU, Option.bind_some, ZeU hgU (hgn 1).2 (hgn 2).2]
      have hsa := ZhM hgU (hgn 1).2 (hgn 2).2 r.Number
      unfold Zj8 at hsa
      cases hsn : Zci g
      · exact ⟨r, rfl, by simp [gd]⟩
      · rw [hsn] at hsa
        rw [if_pos rfl]
        simp only [Bool.not_true, show (false == false) = true from rfl, ZbE, Option.bind_some, Bool.false_or, hsa, Bool.true_and]
        by_cases he : (Zc8 g).1 = r.Number
        · rw [decide_eq_true he, if_neg (by decide), if_neg (by decide), Zg1, Option.bind_some]
          have hfill : loop (t2 (JW)) ((Vector.replicate 64 0), 0) = some (Vector.replicate 64 3) := Zkc (body := JW) 3 (fun v j hj => by
            unfold JW
            rw [if_pos (by simp; omega), ZW v hj, Option.bind_some, QG hj (by omega)]) (fun v => by unfold JW; rw [if_neg (by simp)]) _
          rw [hfill, Option.bind_some, Qa, ZW _ h1, Option.bind_some, Option.bind_some, hc]
          exact ⟨_, rfl, rfl⟩
        · rw [decide_eq_false he]
          exact ⟨r, rfl, rfl⟩
  · refine ⟨r, by rw [if_pos rfl], ?_⟩
    rcases e2 with ⟨rfl, _⟩ | ⟨rfl, _⟩ | ⟨j, rfl, _⟩
    · rfl
    · simp only [Sum.elim_inr, Qa, Bool.true_or, if_true]
    · simp only [Sum.elim_inr, Qa, Bool.true_or, if_true]
end Go.Vx

namespace Go.Vx
open Go Go.RowKit
theorem ZmZ {H : List Int} {C : List api_Found} (hC : COK H C) {i : Nat} {xi : api_Found} (hi : C[i]? = some xi) {p : Int} (hp : -1000000 ≤ p ∧ p ≤ 1000000) {r : api_Rest} (h : bes H C i p = some r) : 0 ≤ r.Number ∧ r.Number < 4194304 ∧ r.Copies = 0 := by
  have hH := hC.hl
  obtain ⟨⟨r0, h1, h2⟩, _, _⟩ := Zkx hC hi hp
  have := h2 r h
  subst this
  rw [h] at h1
  have hfw := Zcr hC.hh p
  have hfu := ZiW hC.hh p
  obtain ⟨n, ok, e1, e2, e3, _⟩ := ZiO hC hi hp (frW H p).2 hfu hfw
  have g0 : Xi (fnd H C).h_ p = some (frW H p) := ZgC hC.hh hp (by show H.length ≤ _; omega)
  unfold Qp at h1
  rw [g0, Option.bind_some, e1, Option.bind_some] at h1
  cases ok
  · rw [if_pos (by simp)] at h1
    simp at h1
  · obtain ⟨n1, n2⟩ := e3 rfl
    obtain ⟨r', g1, g2⟩ := ZhC (w := (frW H p).2) hfw n1 n2
    rw [if_neg (by simp)] at h1
    simp only at h1
    obtain ⟨b, l1, _⟩ := ZmG r'
    rw [g1, Option.bind_some, Qa, l1, Option.bind_some] at h1
    have : r' = r0 := by
      have := Option.some.inj h1
      exact congrArg Prod.fst this
    subst this
    rw [g2.num, g2.cop]
    exact ⟨n1, n2, rfl⟩
theorem ZmH {H : List Int} {C : List api_Found} (hC : COK H C) {r : api_Rest} (hr : r ∈ RA H C C.length) : 0 ≤ r.Number ∧ r.Number < 4194304 ∧ 0 ≤ r.Copies ∧ r.Copies ≤ 1 := by
  unfold RA at hr
  rcases List.mem_append.1 hr with hr | hr
  · obtain ⟨x, hx, rfl⟩ := List.mem_map.1 hr
    have := ZeV x.Frame
    exact ⟨this.1, this.2, by show (0 : Int) ≤ 1; omega, by show (1 : Int) ≤ 1; omega⟩
  · obtain ⟨i, hi, hr⟩ := List.mem_flatMap.1 hr
    obtain ⟨x, hx⟩ := ZG (xs := C) (k := i) (List.mem_range.1 hi)
    obtain ⟨p, hp, he⟩ := List.mem_filterMap.1 hr
    have hg : C.getD i fz = x := ZfH hx
    rw [hg] at hp
    unfold KC at hp
    have := (ZbW.1 (List.mem_filter.1 hp).2).1
    unfold inb at this
    have hH := hC.hl
    have := ZmZ hC hx (by omega) he
    omega
def ZmR (r : api_Rest) : Prop := (∀ i, 0 ≤ wd r.Frame i ∧ wd r.Frame i ≤ 4095) ∧ (r.Sound = false → r.Conflict = false → ∀ i, i < 64 → wd r.States i = 0 → wd r.Frame i = 0)
theorem MG.nice {n : Int} {l : List api_Rest} (hM : MOK n l) {o : api_Rest} (h : MG n l o) : o.Number = n ∧ ZmR o := by
  cases h with
  | clash _ => exact ⟨rfl, fun i => by show 0 ≤ wd (Vector.replicate 64 0) i ∧ _; rw [JY]; omega, fun _ h => by cases h⟩
  | sound _ hs _ => exact ⟨rfl, fun i => hM.nar _ hs.1 i, fun h => by cases h⟩
  | parts _ _ hp =>
    unfold prtOut
    split
    · exact ⟨rfl, fun i => Zd6 hM hp i, fun h => by cases h⟩
    · refine ⟨rfl, fun i => Zd6 hM hp i, fun _ _ i hi h0 => ?_⟩
      rcases hp i hi with ⟨_, h1⟩ | ⟨_, h1, _⟩
      · simp only at h0; omega
      · exact h1
theorem MG.cop {n : Int} {l : List api_Rest} (hs : 0 ≤ sumC l ∧ sumC l ≤ 1000000000) {o : api_Rest} (h : MG n l o) : 0 ≤ o.Copies ∧ o.Copies ≤ 1000000000 := by
  cases h with
  | clash _ => exact hs
  | sound _ _ _ =>
    unfold sndOut
    simp only
    split <;> omega
  | parts _ _ hp =>
    unfold prtOut
    split
    · simp only; omega
    · exact hs
theorem ZiP : ∀ {l : List api_Rest}, (∀ r ∈ l, 0 ≤ r.Copies ∧ r.Copies ≤ 1) → 0 ≤ sumC l ∧ sumC l ≤ l.length
  | [], _ => ⟨Int.le_refl 0, Int.le_refl 0⟩
  | r :: l, h => by
    have h1 := h r (by simp)
    have h2 := ZiP (l := l) fun x hx => h x (by simp [hx])
    simp only [sumC, List.map_cons, List.sum_cons, List.length_cons] at *
    omega
theorem GR.get {l out : List api_Rest} (h : GR l out) {r : api_Rest} (hr : r ∈ out) : ∃ n, (∃ x ∈ l, x.Number = n) ∧ MG n (grp l n) r := by
  obtain ⟨y, h1, h2, h3, h4⟩ := h
  obtain ⟨i, hi⟩ := List.getElem?_of_mem hr
  obtain ⟨n, hn⟩ := ZG (xs := y) (k := i) (by rw [← h3]; exact (List.getElem?_eq_some_iff.1 hi).1)
  exact ⟨n, (h2 n).1 (List.mem_of_getElem? hn), h4 i n r hn hi⟩
theorem GR.nice {l out : List api_Rest} (hl : LOK l) (h : GR l out) {r : api_Rest} (hr : r ∈ out) : ZmR r := by
  obtain ⟨n, hx, hm⟩ := h.get hr
  exact (MG.nice (hl.grp (fun e => Zgv.1 e hx)) hm).2
theorem ZlW {l out : List api_Rest} (h : GR l out) (hn : ∀ r ∈ l, 0 ≤ r.Number ∧ r.Number < 4194304) : out.length ≤ 4194304 := by
  obtain ⟨y, h1, h2, h3, _⟩ := h
  have : y.length ≤ ((List.range 4194304).map (fun (k : Nat) => (k : Int))).length := (ZiU h1).length_le_of_subset fun n hy => by
    obtain ⟨r, hr, e⟩ := (h2 n).1 hy
    have := hn r hr
    exact List.mem_map.2 ⟨n.toNat, List.mem_range.2 (by omega), by omega⟩
  rw [List.length_map, List.length_range] at this
  omega
noncomputable def Zcz (p : api_Piece) : List api_Rest := (X1 (hv p)).getD []
theorem Znp {p : api_Piece} (hw : Jq p) (h : JG p = 0) :
    Jc p = some (hv p) ∧ X1 (hv p) = some (Zcz p) ∧ XQ p = some (hv p) ∧ (Zco (hv p)).bind J2 = some (Zcz p) ∧
    (Zcz p).length ≤ 4194304 ∧ ∀ r ∈ Zcz p, (∀ i, 0 ≤ wd r.Frame i ∧ wd r.Frame i ≤ 4095) ∧ 0 ≤ r.Copies ∧ r.Copies ≤ 1000000000 := by
  have hu := Zjx hw
  have hH : hL (hv p) := ZmB hu
  have hl := ZhT h
  have hC := cok hH hl
  have h1 := Zjl hH hl
  have h2 := Zlk hH hl
  generalize ZcA (scL (hv p) ((hv p).length - 191)) = C at hC h1 h2
  obtain ⟨l, e1, e2⟩ := Zm6 hC
  have hok := Zpe hC
  have hok' : LOK l := ⟨by rw [e2.length_eq]; exact hok.len, fun r hr => hok.nar r (e2.mem_iff.1 hr), fun r hr => hok.cop r (e2.mem_iff.1 hr)⟩
  obtain ⟨out, g1, g2, g3⟩ := Zfh hok' e2
  have hr : X1 (hv p) = some out := by
    unfold X1
    rw [h1, Option.bind_some, e1, Option.bind_some, Qa, g1]; rfl
  have ho : Zcz p = out := by unfold Zcz; rw [hr]; rfl
  rw [ho]
  have hnum : ∀ r ∈ l, 0 ≤ r.Number ∧ r.Number < 4194304 := fun r hr => by
    have := ZmH hC (e2.mem_iff.1 hr); omega
  refine ⟨Zlm hu h, hr, ZfQ hu (ZcP h).1, by rw [h2, Option.bind_some, g2], ZlW g3 hnum, fun r hr => ?_⟩
  refine ⟨(g3.nice hok' hr).1, ?_⟩
  obtain ⟨n, _, hm⟩ := g3.get hr
  refine hm.cop ?_
  have hs := ZiP (l := grp l n) fun x hx => by
    have := ZmH hC (e2.mem_iff.1 (ZcE.1 hx).1); omega
  have : (grp l n).length ≤ l.length := List.length_filter_le _ _
  have := hok'.len
  omega
def Zh9 (p : api_Piece) : Option Int := if JG p = 0 then none else some (JG p)
theorem Zhi {α ε : Type} {g : α → Option ε} {e : ε} : ∀ {xs : List α}, ZdO g xs = some e → ∃ x ∈ xs, g x = some e
  | [], h => by cases h
  | y :: tl, h => by
    simp only [ZdO] at h
    split at h
    · rename_i hg; cases h; exact ⟨y, by simp, hg⟩
    · obtain ⟨x, hx, h⟩ := Zhi h
      exact ⟨x, by simp [hx], h⟩
theorem ZnU {l : List api_Piece} (hw : wfL Jq l) (hl : l.length ≤ 200) :
    loop (t1 (Xc l)) 0 = some (Zga (fun e => .inl (([] : List api_Rest), e)) (.inr ()) (ZdO Zh9 l)) ∧
    loop (t1 (Xr l)) 0 = some (Zga (fun e => .inl e) (.inr ()) (ZdO Zh9 l)) := by
  have hmem : ∀ (k : Nat) x, l[k]? = some x → k < l.length ∧ u8L x.Bytes := fun k x hx => ⟨(List.getElem?_eq_some_iff.1 hx).1, Zjx (hw.2 x (List.mem_of_getElem? hx))⟩
  constructor
  · refine Zhz (body := Xc l) Zh9 _ _ (fun k x hx => ?_) (by unfold Xc; rw [if_neg (by simp)])
    obtain ⟨hk, hu⟩ := hmem k x hx
    unfold Xc Zh9
    rw [if_pos (by simp; omega), ZM hx, Option.bind_some, ZeW x hu, Option.bind_some, QG hk (by omega)]
    by_cases h : JG x = 0
    · rw [if_neg (by simp [h]), if_pos h]
    · rw [if_pos (by simpa using h), if_neg h]
  · refine Zhz (body := Xr l) Zh9 _ _ (fun k x hx => ?_) (by unfold Xr; rw [if_neg (by simp)])
    obtain ⟨hk, hu⟩ := hmem k x hx
    unfold Xr Zh9
    rw [if_pos (by simp; omega), ZM hx, Option.bind_some, ZcU x hu, Option.bind_some, QG hk (by omega)]
    by_cases h : JG x = 0
    · rw [if_neg (by simp [h]), if_pos h]
    · rw [if_pos (by simpa using h), if_neg h]
theorem ZhG {l : List api_Piece} (h : ∀ p ∈ l, (Zcz p).length ≤ 4194304) : (l.flatMap Zcz).length ≤ 4194304 * l.length := by
  induction l with
  | nil => simp
  | cons a t ih =>
    have := ih fun p hp => h p (by simp [hp])
    have := h a (by simp)
    rw [List.flatMap_cons, List.length_append, List.length_cons]
    omega
theorem ZkP {l : List api_Piece} (hw : wfL Jq l) (hl : l.length ≤ 200) (hc : ∀ p ∈ l, JG p = 0) :
    loop (t2 (Xb l)) ([], 0) = some (l.flatMap Zcz) ∧ loop (t2 (Ju l)) ([], 0) = some (l.flatMap Zcz) ∧ LOK (l.flatMap Zcz) := by
  have hP : ∀ p ∈ l, _ := fun p hp => Znp (hw.2 p hp) (hc p hp)
  have hlen := ZhG (l := l) fun p hp => (hP p hp).2.2.2.2.1
  have htl : ∀ k, ((l.take k).flatMap Zcz).length ≤ 4194304 * 200 := fun k => by
    have := ZhG (l := l.take k) fun p hp => (hP p (List.mem_of_mem_take hp)).2.2.2.2.1
    rw [List.length_take] at this
    omega
  have hts : ∀ (k : Nat) x, l[k]? = some x → (l.take (k + 1)).flatMap Zcz = (l.take k).flatMap Zcz ++ Zcz x := fun k x hx => by
    rw [List.take_succ, hx, List.flatMap_append]; simp
  refine ⟨?_, ?_, by omega, fun r hr => ?_, fun r hr => ?_⟩
  · obtain ⟨r, e1, e2⟩ := Q1 (body := Xb l) (N := l.length) (fun k o => o = (l.take k).flatMap Zcz) (fun o => o = l.flatMap Zcz) (fun k o hk hI => by
      left
      obtain ⟨x, hx⟩ := ZG hk
      obtain ⟨p1, p2, p3, p4, p5, _⟩ := hP x (List.mem_of_getElem? hx)
      have := htl k
      refine ⟨o ++ Zcz x, ?_, by rw [hts k x hx, hI]⟩
      unfold Xb
      rw [if_pos (by simp; omega), ZM hx, Option.bind_some, p1, Option.bind_some, p2, Option.bind_some, QV (by rw [hI]; omega), Option.bind_some, QG hk (by omega)])
      (fun o hI => ⟨o, by unfold Xb; rw [if_neg (by simp)], by rw [hI, List.take_length]⟩) (s0 := []) (by simp)
    rw [e1, e2]
  · obtain ⟨r, e1, e2⟩ := Q1 (body := Ju l) (N := l.length) (fun k o => o = (l.take k).flatMap Zcz) (fun o => o = l.flatMap Zcz) (fun k o hk hI => by
      left
      obtain ⟨x, hx⟩ := ZG hk
      obtain ⟨p1, p2, p3, p4, p5, _⟩ := hP x (List.mem_of_getElem? hx)
      have := htl k
      refine ⟨o ++ Zcz x, ?_, by rw [hts k x hx, hI]⟩
      unfold Ju
      rw [if_pos (by simp; omega), ZM hx, Option.bind_some, p3, Option.bind_some]
      cases hrr : Zco (hv x) with
      | none => rw [hrr] at p4; cases p4
      | some z =>
        rw [hrr, Option.bind_some] at p4
        rw [Option.bind_some, p4, Option.bind_some, QV (by rw [hI]; omega), Option.bind_some, QG hk (by omega)])
      (fun o hI => ⟨o, by unfold Ju; rw [if_neg (by simp)], by rw [hI, List.take_length]⟩) (s0 := []) (by simp)
    rw [e1, e2]
  · obtain ⟨p, hp, hr⟩ := List.mem_flatMap.1 hr
    exact ((hP p hp).2.2.2.2.2 r hr).1
  · obtain ⟨p, hp, hr⟩ := List.mem_flatMap.1 hr
    exact ((hP p hp).2.2.2.2.2 r hr).2
end Go.Vx

namespace Go.Vx
open Go Go.RowKit
noncomputable def md (r : api_Rest) : api_Rest := (XB r).getD r
theorem Zo3 {r : api_Rest} (h : ZmR r) : XB r = some (md r) ∧ ZcB r = some (md r) := by
  obtain ⟨o, h1, h2⟩ := Zml h.1 h.2
  have : md r = o := by unfold md; rw [h1]; rfl
  rw [this]
  exact ⟨h1, h2⟩
noncomputable def tlS (y4 : List api_Rest) : Option (List api_Rest × Int) :=
  (gd ((decide (0 < (y4.length : Int))) == true) (api_Rest.mk 0 (Vector.replicate 64 0) (Vector.replicate 64 0) false 0 false) (idx y4 (i64 ((y4.length : Int) - 1)))).bind fun x3 =>
  (gd ((decide (0 < (y4.length : Int))) == true) (api_Rest.mk 0 (Vector.replicate 64 0) (Vector.replicate 64 0) false 0 false) (idx y4 0)).bind fun x4 =>
  if ((decide (0 < (y4.length : Int))) && (decide (100000 < (i64 (x3.Number - x4.Number))))) = true then
  some ([], 3)
  else
  some (y4.map md, 0)
theorem Zmi {y : List api_Rest} (hy : ∀ r ∈ y, ZmR r) (hl : y.length ≤ 1000000000) : loop (t2 (Q9 y)) (y, 0) = some (y.map md) ∧ loop (t2 (Jx y)) (y, 0) = some (y.map md) := by
  constructor
  · refine Zi9 (body := Q9 y) md (fun k x acc hx hal hax => ⟨_, ?_, rfl⟩) (fun acc => by unfold Q9; rw [if_neg (by simp)])
    have hk := (List.getElem?_eq_some_iff.1 hx).1
    unfold Q9
    rw [if_pos (by simp; omega), ZM hax, Option.bind_some, (Zo3 (hy x (List.mem_of_getElem? hx))).1, Option.bind_some, Option.bind_some, QG hk (by omega), Int.toNat_natCast]
  · refine Zi9 (body := Jx y) md (fun k x acc hx hal hax => ⟨_, ?_, rfl⟩) (fun acc => by unfold Jx; rw [if_neg (by simp)])
    have hk := (List.getElem?_eq_some_iff.1 hx).1
    unfold Jx
    rw [if_pos (by simp; omega), ZM hax, Option.bind_some, (Zo3 (hy x (List.mem_of_getElem? hx))).2, Option.bind_some, Option.bind_some, QG hk (by omega), Int.toNat_natCast]
theorem Zo9 {y : List api_Rest} (hl : y.length ≤ 1000000000) : ∃ o, tlS y = some o ∧ o.1.length ≤ 1000000000 := by
  have key : ∀ a b : api_Rest, ∃ o : List api_Rest × Int, (if ((decide (0 < (y.length : Int))) && (decide (100000 < (i64 (a.Number - b.Number))))) = true then some ([], 3) else some (y.map md, 0)) = some o ∧ o.1.length ≤ 1000000000 := fun a b => by
    split
    · exact ⟨_, rfl, by simp⟩
    · exact ⟨_, rfl, by simpa using hl⟩
  unfold tlS
  by_cases h : 0 < y.length
  · obtain ⟨a, ha⟩ := ZG (xs := y) (k := y.length - 1) (by omega)
    obtain ⟨b, hb⟩ := ZG (xs := y) (k := 0) (by omega)
    have e : i64 ((y.length : Int) - 1) = ((y.length - 1 : Nat) : Int) := by rw [ZO (by omega) (by omega)]; omega
    have hb' : idx y 0 = some b := ZM (k := 0) hb
    have hd : decide (0 < (y.length : Int)) = true := decide_eq_true (by omega)
    obtain ⟨o, h1, h2⟩ := key a b
    rw [hd] at h1 ⊢
    refine ⟨o, ?_, h2⟩
    rw [e, ZM ha, Zbg, Option.bind_some, hb', Zbg, Option.bind_some]
    exact h1
  · have hd : decide (0 < (y.length : Int)) = false := decide_eq_false (by omega)
    obtain ⟨o, h1, h2⟩ := key ⟨0, Vector.replicate 64 0, Vector.replicate 64 0, false, 0, false⟩ ⟨0, Vector.replicate 64 0, Vector.replicate 64 0, false, 0, false⟩
    rw [hd] at h1 ⊢
    exact ⟨o, h1, h2⟩
theorem Zk3 {l : List api_Piece} (hw : wfL Jq l) (hl : l.length ≤ 200) (hc : ∀ p ∈ l, JG p = 0) :
    ∃ out, GR (l.flatMap Zcz) out ∧ Js l = tlS out ∧ ZeN l = tlS out ∧ out.length ≤ 1000000000 := by
  obtain ⟨p1, p2, p3⟩ := ZkP hw hl hc
  obtain ⟨out, g1, g2, g3⟩ := Zfh p3 (List.Perm.refl _)
  have hlen : out.length ≤ 1000000000 := Nat.le_trans (ZnV g3) p3.len
  obtain ⟨m1, m2⟩ := Zmi (fun r hr => g3.nice p3 hr) hlen
  have hf : ZdO Zh9 l = none := by
    cases h : ZdO Zh9 l with
    | none => rfl
    | some e =>
      obtain ⟨x, hx, he⟩ := Zhi h
      unfold Zh9 at he
      rw [if_pos (hc x hx)] at he
      cases he
  obtain ⟨c1, c2⟩ := ZnU hw hl
  rw [hf] at c1 c2
  refine ⟨out, g3, ?_, ?_, hlen⟩
  · unfold Js tlS
    rw [if_neg (by simp; omega), c1, Option.bind_some]
    simp only [Zga, Sum.elim_inr, t0]
    rw [p1, Option.bind_some, Qa, g1, Option.bind_some, m1]; rfl
  · unfold ZeN Zc9 tlS
    rw [if_neg (by simp; omega), c2, Option.bind_some]
    simp only [Zga, Sum.elim_inr, t0, Option.bind_some]
    rw [if_neg (by simp), p2, Option.bind_some, Qa, g2, Option.bind_some, m2]; rfl
end Go.Vx

namespace Go.Vx
open Go Go.RowKit
theorem ZlR {H : List Int} {n k : Nat} (hk : k < n) (h1 : ZdH (wAt H k) = true) (h2 : Zci (frW H (k : Int)).1 = true) : api_Found.mk (k : Int) (frW H (k : Int)).1 ∈ scL H n := by
  unfold scL
  refine List.mem_flatMap.2 ⟨k, List.mem_range.2 hk, ?_⟩
  unfold scF
  rw [h1, h2]; simp
theorem Zmk {H H' : List Int} {k k' : Nat} (hk : k + 192 ≤ H.length) (hk' : k' + 192 ≤ H'.length) (h : ∀ j, j < 192 → H'.getD (k' + j) 0 = H.getD (k + j) 0) :
    (frW H' (k' : Int)).1 = (frW H (k : Int)).1 ∧ wAt H' k' = wAt H k := by
  have hw : ∀ i, i < 64 → wAt H' (k' + 3 * i) = wAt H (k + 3 * i) := fun i hi => by
    unfold wAt
    rw [show k' + 3 * i + 1 = k' + (3 * i + 1) by omega, show k' + 3 * i + 2 = k' + (3 * i + 2) by omega, h _ (by omega), h _ (by omega), h _ (by omega)]
    rfl
  refine ⟨Zbz fun i hi => ?_, by have := hw 0 (by omega); simpa using this⟩
  rw [Zih _ _ _ hi, Zih _ _ _ hi]
  unfold inH
  rw [if_pos (by simp; omega), if_pos (by simp; omega), show ((k' : Int) + 3 * (i : Int)).toNat = k' + 3 * i by omega, show ((k : Int) + 3 * (i : Int)).toNat = k + 3 * i by omega, hw i hi]
theorem Zne {A B : List Int} {f : Vector Int 64} (hn : ∀ i, 0 ≤ wd f i ∧ wd f i ≤ 4095) : (frW (A ++ (hfL f ++ B)) (A.length : Int)).1 = f ∧ wAt (A ++ (hfL f ++ B)) A.length = wd f 0 := by
  have hg : ∀ j, j < 192 → (A ++ (hfL f ++ B)).getD (A.length + j) 0 = hf f j := fun j hj => by
    rw [ZmK, ZkN (by rw [Zdk]; exact hj), Zh7 f hj]
  have hw : ∀ i, i < 64 → wAt (A ++ (hfL f ++ B)) (A.length + 3 * i) = wd f i := fun i hi => by
    unfold wAt
    rw [show A.length + 3 * i + 1 = A.length + (3 * i + 1) by omega, show A.length + 3 * i + 2 = A.length + (3 * i + 2) by omega, hg _ (by omega), hg _ (by omega), hg _ (by omega), Zpx (hn i)]
  refine ⟨Zbz fun i hi => ?_, by have := hw 0 (by omega); simpa using this⟩
  rw [Zih _ _ _ hi]
  unfold inH
  rw [if_pos (by simp [Zdk]; omega), show ((A.length : Int) + 3 * (i : Int)).toNat = A.length + 3 * i by omega, hw i hi]
theorem ZiT {f : Vector Int 64} (h : Zci f = true) : ZdH (wd f 0) = true ∧ ∀ i, i < 64 → wd f i ≤ 4095 := by
  unfold Zci at h
  simp only [Bool.and_eq_true, decide_eq_true_eq] at h
  refine ⟨by rw [h.2.1]; exact ZlO _ (Zfm f).1, fun i hi => Zfy h.1 i hi⟩
theorem Zkm (a b : List Int) : hvB (a ++ b) = hvB a ++ hvB b := by unfold hvB; rw [List.flatMap_append]
theorem Znt (f : Vector Int 64) : hvB (pk (hfL f)) = hfL f := by
  rw [Zms (ZmC f), Zdk]; simp
def Zla (l : List (Vector Int 64)) (k : Nat) (acc : List Int) : Prop :=
  u8L acc ∧ ∃ P : List api_Found, P.length = k ∧ P.Pairwise (fun a b => a.At < b.At) ∧ ∀ x ∈ P, x.At + 192 ≤ ((hvB acc).length : Int) ∧ x.Frame ∈ l ∧ ∀ B, x ∈ scL (hvB acc ++ B) ((hvB acc ++ B).length - 191)
theorem Zoh (l : List (Vector Int 64)) : Zla l 0 [] := ⟨(fun x h => by cases h), [], rfl, List.Pairwise.nil, fun x h => by cases h⟩
theorem ZnT {l : List (Vector Int 64)} {k : Nat} {acc noise : List Int} {f : Vector Int 64} (h : Zla l k acc) (hf : f ∈ l) (hU : fU f) (hs : Zci f = true) (hn : u8L noise) : Zla l (k + 1) (acc ++ noise ++ pk (hfL f)) := by
  obtain ⟨h1, P, h2, h3, h4⟩ := h
  have hfn : ∀ i, 0 ≤ wd f i ∧ wd f i ≤ 4095 := fun i => by
    refine ⟨(hU i).1, ?_⟩
    by_cases hi : i < 64
    · exact (ZiT hs).2 i hi
    · rw [Zic _ (by omega)]; omega
  have he : hvB (acc ++ noise ++ pk (hfL f)) = (hvB acc ++ hvB noise) ++ hfL f := by rw [Zkm, Zkm, Znt]
  have hpk : u8L (pk (hfL f)) := fun x hx => by
    obtain ⟨j, _, rfl⟩ := List.mem_map.1 hx
    have b1 := Zby (ZmC f) (2 * j)
    have b2 := Zby (ZmC f) (2 * j + 1)
    omega
  refine ⟨fun x hx => ?_, P ++ [api_Found.mk ((hvB acc ++ hvB noise).length : Int) f], by simp [h2], ?_, fun x hx => ?_⟩
  · rcases List.mem_append.1 hx with hx | hx
    · rcases List.mem_append.1 hx with hx | hx
      · exact h1 x hx
      · exact hn x hx
    · exact hpk x hx
  · rw [List.pairwise_append]
    refine ⟨h3, List.pairwise_singleton _ _, fun x hx y hy => ?_⟩
    rw [List.mem_singleton.1 hy]
    have := (h4 x hx).1
    simp only [List.length_append]
    omega
  · rw [he]
    rcases List.mem_append.1 hx with hx | hx
    · obtain ⟨g1, g2, g3⟩ := h4 x hx
      refine ⟨by simp only [List.length_append]; omega, g2, fun B => ?_⟩
      have := g3 (hvB noise ++ hfL f ++ B)
      simpa [List.append_assoc] using this
    · rw [List.mem_singleton.1 hx]
      refine ⟨by simp [Zdk]; omega, hf, fun B => ?_⟩
      obtain ⟨m1, m2⟩ := Zne (A := hvB acc ++ hvB noise) (B := B) hfn
      rw [List.append_assoc]
      have := ZlR (H := (hvB acc ++ hvB noise) ++ (hfL f ++ B)) (n := ((hvB acc ++ hvB noise) ++ (hfL f ++ B)).length - 191) (k := (hvB acc ++ hvB noise).length) (by simp [Zdk]; omega) (by rw [m2]; exact (ZiT hs).1) (by rw [m1]; exact hs)
      rw [m1] at this
      exact this
theorem Zl9 {l : List (Vector Int 64)} {acc : List Int} (h : Zla l l.length acc) (hl : (scL (hvB acc) ((hvB acc).length - 191)).length = l.length) {y : api_Found} (hy : y ∈ scL (hvB acc) ((hvB acc).length - 191)) : y.Frame ∈ l := by
  obtain ⟨_, P, h2, h3, h4⟩ := h
  apply Classical.byContradiction
  intro hno
  have hyP : y ∉ P := fun hp => hno (h4 y hp).2.1
  have hnd : (y :: P).Nodup := List.nodup_cons.2 ⟨hyP, h3.imp fun {a b} h e => by rw [e] at h; omega⟩
  have := hnd.length_le_of_subset (l₂ := scL (hvB acc) ((hvB acc).length - 191)) fun x hx => by
    rcases List.mem_cons.1 hx with e | hx
    · rw [e]; exact hy
    · have := (h4 x hx).2.2 []
      simpa using this
  rw [List.length_cons] at this
  omega
theorem Znh {H G : List Int} {t : Nat} (hlen : t + G.length ≤ H.length) (hg : ∀ j, j < G.length → G.getD j 0 = H.getD (t + j) 0) {x : api_Found} (hx : x ∈ scL G (G.length - 191)) : ∃ y ∈ scL H (H.length - 191), y.Frame = x.Frame := by
  obtain ⟨k, hk, rfl, h1, h2⟩ := Zgr hx
  obtain ⟨e1, e2⟩ := Zmk (H := H) (H' := G) (k := t + k) (k' := k) (by omega) (by omega) (fun j hj => by rw [hg _ (by omega), Nat.add_assoc])
  refine ⟨_, ZlR (H := H) (n := H.length - 191) (k := t + k) (by omega) (by rw [← e2]; exact h1) (by rw [← e1]; exact h2), ?_⟩
  exact e1.symm
theorem Znf {l : List api_Found} {x : api_Found} (h : x ∈ ZcA l) : x ∈ l := by
  have := (ZgR l l.length (Nat.le_refl _)).subset h
  rwa [List.take_length] at this
end Go.Vx

namespace Go.Vx
open Go Go.RowKit
theorem Zpg {y : List api_Rest} {o : List api_Rest × Int} (h : tlS y = some o) : o.2 = 0 ∨ o.2 = 3 := by
  unfold tlS at h
  obtain ⟨a, _, h⟩ := Option.bind_eq_some_iff.1 h
  obtain ⟨b, _, h⟩ := Option.bind_eq_some_iff.1 h
  split at h
  · cases h; exact .inr rfl
  · cases h; exact .inl rfl
theorem ZaS (acc : List Int) : hv ⟨acc, false⟩ = hvB acc := by unfold hv; rw [if_neg (by simp)]
theorem Zf7 {acc : List Int} (hu : u8L acc) (h : JG ⟨acc, false⟩ = 0) {f t : Nat} (hft : f ≤ t) (ht : t ≤ (hvB acc).length) (hev : t % 2 = 0) {y : api_Found}
    (hy : y ∈ ZcA (scL (hv (Zge ⟨acc, false⟩ f t)) ((hv (Zge ⟨acc, false⟩ f t)).length - 191))) : ∃ z ∈ scL (hvB acc) ((hvB acc).length - 191), z.Frame = y.Frame := by
  obtain ⟨_, _, h3⟩ := ZfK (p := ⟨acc, false⟩) hu h hft (by rw [ZaS]; exact ht)
  rw [ZaS, if_neg (by unfold ahN; simp; omega), List.append_nil] at h3
  have hy := Znf hy
  rw [h3] at hy
  refine Znh (G := ((hvB acc).take t).drop f) (t := f) (by simp; omega) (fun j hj => ?_) hy
  have hj' : f + j < t := by simp at hj; omega
  rw [List.getD_eq_getElem?_getD, List.getElem?_drop, List.getElem?_take_of_lt hj', List.getD_eq_getElem?_getD]
end Go.Vx

namespace Go.Vx
open Go Go.RowKit
theorem Znl : Zb0 = some true := Zif _ (by decide +kernel)
theorem Zii {p : api_Piece} (hu : u8L p.Bytes) : Zbr p = some (if JG p = 0 then (scL (hv p) ((hv p).length - 191), 0) else ([], JG p)) := by
  unfold Zbr
  rw [ZcU p hu, Option.bind_some]
  by_cases h : JG p = 0
  · have hl := ZhT h
    rw [if_neg (by simp [h]), if_pos h, ZfQ hu (ZcP h).1, Option.bind_some, (ZjY (ZmB hu) (H := hv p) (by omega)).2, Option.bind_some]
  · rw [if_pos (by simpa using h), if_neg h]
theorem ZjX {p : api_Piece} (hu : u8L p.Bytes) (h : JG p = 0) : Za8 p = some (ZcA (scL (hv p) ((hv p).length - 191)), 0) := by
  unfold Za8
  have hl := ZhT h
  rw [Zii hu, if_pos h, Option.bind_some, (Zft (ZmB hu) (H := hv p) (by omega)).2, Option.bind_some]
theorem Znq {b : List Int} (hu : u8L b) : ∃ q, ZaF b = some q := by
  unfold ZaF
  rw [Zii (p := ⟨b, false⟩) hu, Option.bind_some]
  exact ⟨_, rfl⟩
theorem ZmL {l : List (Vector Int 64)} {noise : List (List Int)} (hl : wfL (wfV (wfI .u16)) l) (hn : wfL (wfL (wfI .u8)) noise) (hz : l.length ≤ 1048576) :
    ∃ r, loop (t2 (Qi l noise)) ([], 0) = some r ∧ (r = .inl true ∨ ∃ acc, r = .inr acc ∧ Zla l l.length acc) :=
  Q1 (body := Qi l noise) (N := l.length) (fun k acc => Zla l k acc ∧ acc.length ≤ 2096 * k) _ (fun k acc hk hI => by
    obtain ⟨hP, hlen⟩ := hI
    obtain ⟨x, hx⟩ := ZG hk
    have hmem := List.mem_of_getElem? hx
    have hU := Zpj (hl.2 x hmem)
    unfold Qi
    rw [if_pos (by simp; omega), ZM hx, Option.bind_some, ZeO hU, Option.bind_some]
    cases hs : Zci x
    · exact .inr ⟨_, rfl, .inl rfl⟩
    by_cases hkn : k < noise.length
    rotate_left
    · right
      rw [decide_eq_true (show (noise.length : Int) ≤ (k : Int) by omega)]
      exact ⟨_, rfl, .inl rfl⟩
    obtain ⟨b, hb⟩ := ZG hkn
    have hbu : u8L b := fun y hy => ZnH ((hn.2 b (List.mem_of_getElem? hb)).2 y hy)
    rw [decide_eq_false (show ¬ (noise.length : Int) ≤ (k : Int) by omega), ZM hb]
    by_cases h2 : 2000 < (b.length : Int)
    · right
      refine ⟨.inl true, ?_, .inl rfl⟩
      rw [show gd (((!true) || false) == false) ([] : List Int) (some b) = some b from rfl, Option.bind_some, decide_eq_true h2]
      rfl
    obtain ⟨q, hq⟩ := Znq hbu
    have e2 : decide (2000 < (b.length : Int)) = false := decide_eq_false h2
    have hg : (gd (((!true) || false) == false) ([] : List Int) (some b)) = some b := rfl
    have hT : Zbe x = some (pk (hfL x), 0) := by
      unfold Zbe
      have hnb : Jn x = true := by
        unfold Zci at hs
        rw [Bool.and_eq_true] at hs
        exact hs.1
      rw [Zob, hnb, Option.bind_some, if_neg (by decide), Znx hU, Option.bind_some]
    rw [hg, Option.bind_some, e2, show gd ((((!true) || false) || false) == false) ([] : List Int) (some b) = some b from rfl, Option.bind_some, show gd ((((!true) || false) || false) == false) false (ZaF b) = ZaF b from rfl, hq, Option.bind_some]
    cases q
    · exact .inr ⟨_, rfl, .inl rfl⟩
    · left
      have hpl := (Zlj x).1
      refine ⟨acc ++ b ++ pk (hfL x), ?_, ZnT hP hmem hU hs hbu, by simp only [List.length_append]; omega⟩
      rw [if_neg (by decide), hT, Option.bind_some, Option.bind_some, QV (by omega), Option.bind_some]
      simp only
      rw [QV (by simp only [List.length_append]; omega), Option.bind_some, QG hk (by omega)])
    (fun acc hI => ⟨_, by unfold Qi; rw [if_neg (by simp)], .inr ⟨acc, rfl, hI.1⟩⟩) ⟨Zoh l, by simp⟩
theorem Zj0 {l : List (Vector Int 64)} (hl : l.length ≤ 1048576) {f : Vector Int 64} (hf : f ∈ l) : Z3 l f = some true := by
  obtain ⟨r, e1, j, rfl⟩ := Zb9 (body := t1 (Qg l f)) (fun s => ∃ k : Nat, s = k ∧ k ≤ l.length ∧ ∀ j, j < k → l[j]? ≠ some f) (fun s => l.length - s.toNat)
    (fun r => ∃ j : Nat, r = (.inl (j : Int) : Int ⊕ Unit)) (by
      rintro s ⟨k, rfl, hk, hI⟩
      rw [Qa]
      unfold Qg
      by_cases hlt : k < l.length
      · obtain ⟨x, hx⟩ := ZG hlt
        rw [if_pos (by simp; omega), ZM hx, Option.bind_some]
        by_cases he : f = x
        · right
          exact ⟨_, by rw [if_pos (by simpa using he)], k, rfl⟩
        · left
          refine ⟨_, by rw [if_neg (by simpa using he)], ⟨k + 1, by rw [QG hlt (by omega)]; push_cast; rfl, by omega, fun j hj => ?_⟩, by rw [QG hlt (by omega)]; omega⟩
          by_cases e : j = k
          · subst e; rw [hx]; exact fun h => he (Option.some.inj h).symm
          · exact hI j (by omega)
      · obtain ⟨j, hj⟩ := List.getElem?_of_mem hf
        exact (hI j (by have := (List.getElem?_eq_some_iff.1 hj).1; omega) hj).elim) 0 ⟨0, rfl, by omega, fun j hj => by omega⟩
  unfold Z3 Qr
  rw [e1]
  simp
theorem ZoP {n : Int} (h : 0 ≤ n ∧ n ≤ 255) : wfI .u8 n := by
  show (decide (IntKind.u8.min ≤ n) && decide (n ≤ IntKind.u8.max)) = true
  have e1 : IntKind.u8.min = 0 := by decide
  have e2 : IntKind.u8.max = 255 := by decide
  rw [e1, e2]
  simpa using h
theorem ZiD (l : List (Vector Int 64)) (noise : List (List Int)) (cut : Int) (hl : wfL (wfV (wfI .u16)) l) (hn : wfL (wfL (wfI .u8)) noise) (hz : l.length ≤ 1048576) : Xt l noise cut = some true := by
  unfold Xt
  rw [Znl, Option.bind_some, if_neg (by decide)]
  obtain ⟨r, e1, rfl | ⟨acc, rfl, hP⟩⟩ := ZmL hl hn hz
  · rw [e1]; rfl
  rw [e1, Option.bind_some, Sum.elim_inr, Qa]
  have hu := hP.1
  have hp : ∀ x : api_Piece, x = ⟨acc, false⟩ → u8L x.Bytes := fun x e => by rw [e]; exact hu
  rw [Zii (p := ⟨acc, false⟩) hu, Option.bind_some]
  by_cases h : JG ⟨acc, false⟩ = 0
  rotate_left
  · rw [if_neg h, if_pos (by simp [h])]
  rw [if_pos h]
  simp only [ZaS]
  by_cases hcnt : (scL (hvB acc) ((hvB acc).length - 191)).length = l.length
  rotate_left
  · rw [if_pos (by simp; omega)]
  rw [if_neg (by simp [hcnt]), ZkR (p := ⟨acc, false⟩) hu, if_pos h, Option.bind_some, ZaS]
  simp only
  by_cases hc : cut < 0 ∨ ((hvB acc).length : Int) < cut
  · rw [if_pos (by simpa using hc)]
  have hHl : (hvB acc).length ≤ 400000 := by have := ZhT h; rwa [ZaS] at this
  have hev : (hvB acc).length % 2 = 0 := by rw [ZcF]; omega
  rw [if_neg (by simpa using hc), Zcu (by omega) 2 (by decide), Option.bind_some, ZO (by omega) (by omega)]
  obtain ⟨c, hce⟩ : ∃ c : Nat, cut - cut % 2 = c := ⟨(cut - cut % 2).toNat, by omega⟩
  have hc2 : c % 2 = 0 ∧ c ≤ (hvB acc).length := by omega
  rw [hce, ZnQ (p := ⟨acc, false⟩) hu, ZnQ (p := ⟨acc, false⟩) hu]
  have o1 : ZfU ⟨acc, false⟩ 0 (c : Int) = (Zge ⟨acc, false⟩ 0 c, 0) := by
    unfold ZfU
    rw [if_pos h, ZaS, if_neg (by omega)]; rfl
  have o2 : ZfU ⟨acc, false⟩ (c : Int) ((hvB acc).length : Int) = (Zge ⟨acc, false⟩ c (hvB acc).length, 0) := by
    unfold ZfU
    rw [if_pos h, ZaS, if_neg (by omega)]; rfl
  rw [o1, o2, Option.bind_some, Option.bind_some, if_neg (by simp)]
  simp only
  have f1 := ZfK (p := ⟨acc, false⟩) hu h (f := 0) (t := c) (by omega) (by rw [ZaS]; omega)
  have f2 := ZfK (p := ⟨acc, false⟩) hu h (f := c) (t := (hvB acc).length) (by omega) (by rw [ZaS]; omega)
  have g1 := fun y hy => Zf7 hu h (f := 0) (t := c) (by omega) (by omega) hc2.1 (y := y) hy
  have g2 := fun y hy => Zf7 hu h (f := c) (t := (hvB acc).length) (by omega) (by omega) hev (y := y) hy
  generalize Zge ⟨acc, false⟩ 0 c = a at f1 g1
  generalize Zge ⟨acc, false⟩ c (hvB acc).length = b at f2 g2
  have hwf : ∀ x : api_Piece, u8L x.Bytes → JG x = 0 → Jq x := fun x hx hcx => ⟨⟨by have := (ZcP hcx).1; omega, fun y hy => ZoP (hx y hy)⟩, trivial, trivial⟩
  have hwl : wfL Jq [a, b] := ⟨by simp, fun x hx => by
    rcases List.mem_cons.1 hx with e | hx
    · rw [e]; exact hwf a f1.1 f1.2.1
    · rw [List.mem_singleton.1 hx]; exact hwf b f2.1 f2.2.1⟩
  obtain ⟨out, _, s2, _, s4⟩ := Zk3 hwl (by simp) (fun x hx => by
    rcases List.mem_cons.1 hx with e | hx
    · rw [e]; exact f1.2.1
    · rw [List.mem_singleton.1 hx]; exact f2.2.1)
  obtain ⟨o, t1', t2'⟩ := Zo9 s4
  rw [s2, t1', Option.bind_some]
  rcases Zpg t1' with h0 | h3
  rotate_left
  · rw [h3]; rfl
  rw [if_neg (by simp [h0])]
  have hfind : ∀ q y, (q = a ∨ q = b) → y ∈ ZcA (scL (hv q) ((hv q).length - 191)) → y.Frame ∈ l := fun q y hq hy => by
    have : ∃ z ∈ scL (hvB acc) ((hvB acc).length - 191), z.Frame = y.Frame := by
      rcases hq with e | e
      · rw [e] at hy; exact g1 y hy
      · rw [e] at hy; exact g2 y hy
    obtain ⟨z, hz1, hz2⟩ := this
    rw [← hz2]
    exact Zl9 hP hcnt hz1
  have hL4 : ∀ (x5 : api_Rest) q, (q = a ∨ q = b) → JG q = 0 → ∀ fp : Bool, (fp = true → x5.Frame ∈ l) → ∃ fp' : Bool, loop (t2 (Qh x5 (ZcA (scL (hv q) ((hv q).length - 191)), 0))) (fp, 0) = some fp' ∧ (fp' = true → x5.Frame ∈ l) := fun x5 q hq hcq fp hfp => by
    have hql := ZhT hcq
    have hcl : (ZcA (scL (hv q) ((hv q).length - 191))).length ≤ 1000000 := by
      have h1 := Zfa (scL (hv q) ((hv q).length - 191)) (scL (hv q) ((hv q).length - 191)).length
      have h2 := Zd7 (hv q) ((hv q).length - 191)
      unfold ZcA
      omega
    have hfy := fun y => hfind q y hq
    generalize ZcA (scL (hv q) ((hv q).length - 191)) = ys at hcl hfy
    exact Q1 (body := Qh x5 (ys, 0)) (N := ys.length) (fun _ fp => fp = true → x5.Frame ∈ l) _ (fun k fp hk hI => by
      left
      obtain ⟨y, hy⟩ := ZG hk
      refine ⟨fp || decide (y.Frame = x5.Frame), ?_, fun ht => ?_⟩
      · unfold Qh
        rw [if_pos (by simp; omega), ZM hy, Option.bind_some, QG hk (by omega)]
      · rw [Bool.or_eq_true, decide_eq_true_eq] at ht
        rcases ht with ht | ht
        · exact hI ht
        · rw [← ht]; exact hfy y (List.mem_of_getElem? hy))
      (fun fp hI => ⟨fp, by unfold Qh; rw [if_neg (by simp)], hI⟩) hfp
  have hL3 : ∀ x5 : api_Rest, ∃ r, loop (t2 (Qj (a, 0) (b, 0) x5)) (false, 0) = some r ∧ ∃ fp : Bool, r = (.inr fp : Bool ⊕ Bool) ∧ (fp = true → x5.Frame ∈ l) := fun x5 =>
    Q1 (body := Qj (a, 0) (b, 0) x5) (N := 2) (fun _ fp => fp = true → x5.Frame ∈ l) _ (fun k fp hk hI => by
      left
      obtain ⟨q, hq, hqq, hqu, hqc⟩ : ∃ q, idx ([a, b] : List api_Piece) (k : Int) = some q ∧ (q = a ∨ q = b) ∧ u8L q.Bytes ∧ JG q = 0 := by
        by_cases k0 : k = 0
        · subst k0; exact ⟨a, rfl, .inl rfl, f1.1, f1.2.1⟩
        · have : k = 1 := by omega
          subst this; exact ⟨b, rfl, .inr rfl, f2.1, f2.2.1⟩
      obtain ⟨fp', e2, e3⟩ := hL4 x5 q hqq hqc fp hI
      refine ⟨fp', ?_, e3⟩
      unfold Qj
      simp only
      rw [if_pos (by simp; omega), hq, Option.bind_some, ZjX hqu hqc, Option.bind_some, if_neg (by simp), e2, Option.bind_some, Option.bind_some, Sum.elim_inr, Qa, QG hk (by omega)])
      (fun fp hI => ⟨_, by unfold Qj; rw [if_neg (by simp)], fp, rfl, hI⟩) (fun h => by cases h)
  have hL2 := ZiS (xs := o.1) (body := Qy l (a, 0) (b, 0) o) (fun _ => (Sum.inr () : Bool ⊕ Unit)) (fun k x hx => by
    have hk := (List.getElem?_eq_some_iff.1 hx).1
    left
    refine ⟨?_, rfl⟩
    unfold Qy
    rw [if_pos (by simp; omega), ZM hx, Option.bind_some, QG hk (by omega)]
    cases hcc : (!x.Sound || decide (x.Copies = 0))
    · rw [if_neg (by decide)]
      obtain ⟨_, e2, fp, rfl, e3⟩ := hL3 x
      rw [e2, Option.bind_some, Sum.elim_inr, Qa]
      cases fp
      · rfl
      · rw [Zbg, Zj0 hz (e3 rfl), Option.bind_some, if_neg (by decide)]
    · rw [if_pos rfl]) (by
    unfold Qy
    rw [if_neg (by simp)])
  rw [hL2]
  rfl
end Go.Vx
