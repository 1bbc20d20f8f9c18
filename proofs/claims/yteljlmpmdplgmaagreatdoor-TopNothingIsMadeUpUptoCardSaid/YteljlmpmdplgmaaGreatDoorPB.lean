/- A text of the proof: a verified executor of the program form, or the contracts of the functions that the law reaches. -/
import Derived.Test.YteljlmpmdplgmaaGreatDoorPA
set_option linter.all false
namespace Go.Vx
open Go Go.RowKit
theorem Zdn {n : Int} (h : 0 ≤ n ∧ n ≤ 65535) : u16 n = n := by
  unfold u16 IntKind.wrap
  simp only [IntKind.signed, IntKind.bits]
  have e : (2 : Int) ^ 16 = 65536 := by decide
  simp [e]
  omega
def wAt (H : List Int) (k : Nat) : Int := w3 (H.getD k 0) (H.getD (k + 1) 0) (H.getD (k + 2) 0)
theorem Zn8 {H : List Int} (h : hL H) (k : Nat) : 0 ≤ wAt H k ∧ wAt H k ≤ 4095 := by
  have h1 := Zby h k
  have h2 := Zby h (k + 1)
  have h3 := Zby h (k + 2)
  unfold wAt w3
  omega
theorem Xl (f : Vector Int 64) {k : Nat} (hk : k < 64) (x : Int) (i : Nat) : wd (Qb f (k : Int) x) i = if k = i then x else wd f i := by
  unfold wd
  rw [ZhI, Int.toNat_natCast, List.getD_eq_getElem?_getD, List.getElem?_set, List.getD_eq_getElem?_getD]
  split
  · rw [if_pos (by simp; omega)]; rfl
  · rfl
def inH (H : List Int) (at_ : Int) (i : Nat) : Bool := decide (0 ≤ at_ + 3 * i ∧ at_ + 3 * i + 3 ≤ (H.length : Int))
def ZiC (H : List Int) (at_ : Int) (k : Nat) : Vector Int 64 × Vector Bool 64 := (List.range k).foldl (Zfj H at_) (Vector.replicate 64 0, Vector.replicate 64 false)
theorem Zkp (H : List Int) (at_ : Int) : ∀ (k : Nat), k ≤ 64 → ∀ i, wd (ZiC H at_ k).1 i = if (decide (i < k) && inH H at_ i) = true then wAt H (at_ + 3 * i).toNat else 0
  | 0, _, i => by
    rw [if_neg (by simp)]
    show (Vector.replicate 64 (0 : Int)).toList.getD i 0 = 0
    rw [Vector.toList_replicate, List.getD_eq_getElem?_getD, List.getElem?_replicate]; split <;> rfl
  | k + 1, hk, i => by
    have ih := Zkp H at_ k (by omega) i
    have e : ZiC H at_ (k + 1) = Zfj H at_ (ZiC H at_ k) k := Zaw _ _ _
    rw [e]
    unfold Zfj
    by_cases hc : 0 ≤ at_ + 3 * k ∧ at_ + 3 * k + 3 ≤ (H.length : Int)
    · rw [if_pos hc, Xl _ (by omega), ih]
      by_cases hik : k = i
      · subst hik
        rw [if_pos rfl, if_pos (by simp [inH]; omega)]; rfl
      · rw [if_neg hik]
        have : decide (i < k + 1) = decide (i < k) := by rw [decide_eq_decide]; omega
        rw [this]
    · rw [if_neg hc, ih]
      by_cases hik : k = i
      · subst hik
        rw [if_neg (by simp), if_neg (by simp [inH]; omega)]
      · have : decide (i < k + 1) = decide (i < k) := by rw [decide_eq_decide]; omega
        rw [this]
theorem Zih (H : List Int) (at_ : Int) (i : Nat) (hi : i < 64) : wd (frW H at_).1 i = if inH H at_ i = true then wAt H (at_ + 3 * i).toNat else 0 := by
  have := Zkp H at_ 64 (Nat.le_refl _) i
  rw [decide_eq_true hi, Bool.true_and] at this
  exact this
theorem Zic (f : Vector Int 64) {i : Nat} (hi : 64 ≤ i) : wd f i = 0 := by
  unfold wd
  rw [List.getD_eq_getElem?_getD, List.getElem?_eq_none (by simp; omega)]; rfl
theorem Zcr {H : List Int} (h : hL H) (at_ : Int) (i : Nat) : 0 ≤ wd (frW H at_).1 i ∧ wd (frW H at_).1 i ≤ 4095 := by
  rcases Nat.lt_or_ge i 64 with hi | hi
  · rw [Zih H at_ i hi]
    split
    · exact Zn8 h _
    · exact ⟨by decide, by decide⟩
  · rw [Zic _ hi]; exact ⟨by decide, by decide⟩
theorem ZiW {H : List Int} (h : hL H) (at_ : Int) : fU (frW H at_).1 := fun i => ⟨(Zcr h at_ i).1, by have := (Zcr h at_ i).2; omega⟩
theorem ZnK {H : List Int} (h : hL H) {k : Nat} (hk : k + 3 ≤ H.length) : ∃ l, slc H (k : Int) ((k : Int) + 3) = some l ∧ Xh l = some (wAt H k) := by
  obtain ⟨a, ha⟩ := ZG (xs := H) (k := k) (by omega)
  obtain ⟨b, hb⟩ := ZG (xs := H) (k := k + 1) (by omega)
  obtain ⟨c, hc⟩ := ZG (xs := H) (k := k + 2) (by omega)
  refine ⟨_, ZnB ha hb hc, ?_⟩
  unfold wAt
  rw [Zfl (h a (List.mem_of_getElem? ha)) (h b (List.mem_of_getElem? hb)) (h c (List.mem_of_getElem? hc)), Q0 ha, Q0 hb, Q0 hc]
theorem ZkT {H : List Int} (h : hL H) {at_ : Nat} (hat : at_ + 192 ≤ H.length) {v : Vector Int 192} (hv : v.toList = (H.drop at_).take 192) : Jr v = some (frW H (at_ : Int)).1 := by
  have hvl : v.toList.length = 192 := by simp
  have hvh : hL v.toList := fun x hx => by rw [hv] at hx; exact h x (List.mem_of_mem_drop (List.mem_of_mem_take hx))
  have := ZbA (body := XC v) (fun k => (ZiC H (at_ : Int) k).1) (frW H (at_ : Int)).1 (a := 0) (b := 64) (by decide) (fun k _ hk => by
    unfold XC
    obtain ⟨l, hl1, hl2⟩ := ZnK hvh (k := 3 * k) (by omega)
    have e1 : i64 (3 * (k : Int)) = ((3 * k : Nat) : Int) := by rw [ZO (by omega) (by omega)]; push_cast; rfl
    rw [if_pos (by simp; omega), e1, ZO (z := ((3 * k : Nat) : Int) + 3) (by omega) (by omega), hl1, Option.bind_some, hl2, Option.bind_some, ZW _ hk, Option.bind_some, ZO (z := (k : Int) + 1) (by omega) (by omega)]
    have eg : ∀ j, j < 192 → v.toList.getD j 0 = H.getD (at_ + j) 0 := fun j hj => by
      rw [hv, List.getD_eq_getElem?_getD, List.getElem?_take, if_pos hj, List.getElem?_drop, List.getD_eq_getElem?_getD]
    have ew : wAt v.toList (3 * k) = wAt H (at_ + 3 * k) := by
      unfold wAt
      rw [eg _ (by omega), eg _ (by omega), eg _ (by omega)]; rfl
    have es : (ZiC H (at_ : Int) (k + 1)).1 = Qb (ZiC H (at_ : Int) k).1 (k : Int) (wAt H (at_ + 3 * k)) := by
      have e : ZiC H (at_ : Int) (k + 1) = Zfj H (at_ : Int) (ZiC H (at_ : Int) k) k := Zaw _ _ _
      rw [e]
      unfold Zfj
      rw [if_pos (by omega)]
      have : ((at_ : Int) + 3 * (k : Int)).toNat = at_ + 3 * k := by omega
      rw [this]; rfl
    rw [es, ew]) (by unfold XC; rw [if_neg (by decide)]; rfl)
  unfold Jr
  have e0 : (Vector.replicate 64 (0 : Int), (0 : Int)) = ((ZiC H (at_ : Int) 0).1, ((0 : Nat) : Int)) := rfl
  rw [e0, this]
  rfl
def ZdH (w : Int) : Bool := decide (w = 583) || (decide (w = 1464) || (decide (w = 2631) || decide (w = 3512)))
theorem ZlA (w : Int) : JU w = some (ZdH w) := by
  have := Zd9 (body := XW w) (fun k => !decide (Qx (k : Int) = w)) (.inl true : Bool ⊕ Unit) (.inr ()) (a := 0) (b := 4) (by decide) (fun k _ hk => by
    unfold XW JR
    have hb : 0 ≤ Qx (k : Int) ∧ Qx (k : Int) ≤ 65535 := by
      have : k = 0 ∨ k = 1 ∨ k = 2 ∨ k = 3 := by omega
      rcases this with rfl | rfl | rfl | rfl <;> exact ⟨by decide, by decide⟩
    obtain ⟨s1, s2⟩ := Zdc (n := (k : Int)) (by omega)
    rw [if_pos (by simp; omega), if_neg (by simp; omega), s1, Option.bind_some, s2, Option.bind_some, Option.bind_some, ZO (z := Qx (k : Int)) (by omega) (by omega), Zdn hb, ZO (z := (k : Int) + 1) (by omega) (by omega)]
    by_cases hw : Qx (k : Int) = w
    · rw [if_pos (by simpa using hw), if_neg (by simpa using hw)]
    · rw [if_neg (by simpa using hw), if_pos (by simpa using hw)]) (by unfold XW; rw [if_neg (by decide)])
  unfold JU
  rw [show (0 : Int) = ((0 : Nat) : Int) from rfl, this, Option.bind_some]
  have e : (List.range' 0 (4 - 0)).all (fun k => !decide (Qx (k : Int) = w)) = !ZdH w := by
    have s0 : Qx ((0 : Nat) : Int) = 583 := by decide
    have s1 : Qx ((1 : Nat) : Int) = 1464 := by decide
    have s2 : Qx ((2 : Nat) : Int) = 2631 := by decide
    have s3 : Qx ((3 : Nat) : Int) = 3512 := by decide
    show (!decide (Qx ((0 : Nat) : Int) = w) && (!decide (Qx ((1 : Nat) : Int) = w) && (!decide (Qx ((2 : Nat) : Int) = w) && (!decide (Qx ((3 : Nat) : Int) = w) && true)))) = !ZdH w
    rw [s0, s1, s2, s3]
    unfold ZdH
    simp only [Bool.not_or, Bool.and_true, eq_comm]
  rw [e]
  cases ZdH w <;> rfl
noncomputable def scF (H : List Int) (k : Nat) : List api_Found := if (ZdH (wAt H k) && Zci (frW H (k : Int)).1) = true then [api_Found.mk (k : Int) (frW H (k : Int)).1] else []
noncomputable def scL (H : List Int) (n : Nat) : List api_Found := (List.range n).flatMap (scF H)
theorem ZeL (H : List Int) (n : Nat) : scL H (n + 1) = scL H n ++ scF H n := by
  unfold scL
  rw [List.range_succ, List.flatMap_append]; simp
theorem Zna (H : List Int) (k : Nat) : (scF H k).length ≤ 1 := by unfold scF; split <;> simp
theorem Zd7 (H : List Int) : ∀ n, (scL H n).length ≤ n
  | 0 => by simp [scL]
  | n + 1 => by
    have := Zd7 H n
    have := Zna H n
    rw [ZeL, List.length_append]; omega
theorem ZjY {H : List Int} (h : hL H) (hl : H.length ≤ 900000) : ZaZ H = some (scL H (H.length - 191)) ∧ Zb6 H = some (scL H (H.length - 191)) := by
  constructor
  · have := ZbA (body := XE H) (scL H) (scL H (H.length - 191)) (a := 0) (b := H.length - 191) (by omega) (fun k _ hk => by
      have hlen := Zd7 H k
      unfold XE
      obtain ⟨l, hl1, hl2⟩ := ZnK h (k := k) (by omega)
      rw [ZO (z := (k : Int) + 192) (by omega) (by omega), if_pos (by simp; omega), ZO (z := (k : Int) + 3) (by omega) (by omega), hl1, Option.bind_some, hl2, Option.bind_some, ZlA, Option.bind_some, ZeL, ZO (z := (k : Int) + 1) (by omega) (by omega)]
      unfold scF
      cases hs : ZdH (wAt H k)
      · rw [if_pos (by decide), Option.bind_some, Bool.false_and, if_neg (by decide), List.append_nil]; rfl
      · rw [if_neg (by decide)]
        have hsl : slc H (k : Int) ((k : Int) + 192) = some ((H.drop k).take 192) := by
          have := Zom (l := H) (a := k) (b := k + 192) (by omega) (by omega)
          rw [show ((k + 192 : Nat) : Int) = (k : Int) + 192 by omega] at this
          rw [this, List.drop_take]
          congr 2
          omega
        have hlen2 : ((H.drop k).take 192).length = 192 := by rw [List.length_take, List.length_drop]; omega
        rw [hsl, Option.bind_some]
        obtain ⟨v, hv⟩ : ∃ v, tov 192 ((H.drop k).take 192) = some v := by unfold tov; rw [dif_pos (by omega)]; exact ⟨_, rfl⟩
        have hv2 := (Zjt hv).2
        rw [List.take_of_length_le (by omega)] at hv2
        rw [hv, Option.bind_some, ZkT h (by omega) hv2, Option.bind_some, Zkg (ZiW h _), Option.bind_some, Bool.true_and]
        cases hsn : Zci (frW H (k : Int)).1
        · rw [if_neg (by decide), if_neg (by decide), if_neg (by decide), Option.bind_some, List.append_nil]; rfl
        · rw [if_pos (by decide), if_pos (by decide), QV (by simp; omega), Option.bind_some]; rfl) (by
      unfold XE
      rw [ZO (by omega) (by omega), if_neg (by simp; omega)])
    unfold ZaZ Zap
    have e0 : (([] : List api_Found), (0 : Int)) = (scL H 0, ((0 : Nat) : Int)) := rfl
    rw [e0, this]
  · have := ZbA (body := Zbh H) (scL H) (scL H (H.length - 191)) (a := 0) (b := H.length - 191) (by omega) (fun k _ hk => by
      have hlen := Zd7 H k
      obtain ⟨a, ha⟩ := ZG (xs := H) (k := k) (by omega)
      obtain ⟨b, hb⟩ := ZG (xs := H) (k := k + 1) (by omega)
      obtain ⟨c, hc⟩ := ZG (xs := H) (k := k + 2) (by omega)
      have ba := h a (List.mem_of_getElem? ha)
      have bb := h b (List.mem_of_getElem? hb)
      have bc := h c (List.mem_of_getElem? hc)
      have ew : wAt H k = w3 a b c := by unfold wAt; rw [Q0 ha, Q0 hb, Q0 hc]
      have e1 : i64 ((k : Int) + 1) = ((k + 1 : Nat) : Int) := by rw [ZO (by omega) (by omega)]; push_cast; rfl
      have e2 : i64 ((k : Int) + 2) = ((k + 2 : Nat) : Int) := by rw [ZO (by omega) (by omega)]; push_cast; rfl
      have e3 : i64 (i64 (i64 (i64 a * 256) + i64 (i64 b * 16)) + i64 c) = w3 a b c := by
        rw [ZO (z := a) (by omega) (by omega), ZO (z := b) (by omega) (by omega), ZO (z := c) (by omega) (by omega), ZO (z := a * 256) (by omega) (by omega), ZO (z := b * 16) (by omega) (by omega), ZO (z := a * 256 + b * 16) (by omega) (by omega), ZO (by omega) (by omega)]
        unfold w3; omega
      unfold Zbh
      rw [ZO (z := (k : Int) + 192) (by omega) (by omega), if_pos (by simp; omega), ZM ha, Option.bind_some, e1, ZM hb, Option.bind_some, e2, ZM hc, Option.bind_some, e3, ZeL, ← ew]
      have hsy : (((!decide (wAt H k = 583) && !decide (wAt H k = 1464)) && !decide (wAt H k = 2631)) && !decide (wAt H k = 3512)) = !ZdH (wAt H k) := by
        unfold ZdH
        simp only [Bool.not_or, Bool.and_assoc]
      rw [hsy]
      unfold scF
      cases hs : ZdH (wAt H k)
      · rw [if_pos (by decide), Option.bind_some, Bool.false_and, if_neg (by decide), List.append_nil]; rfl
      · rw [if_neg (by decide), ZgS h (by omega) (by omega), Option.bind_some, ZeO (ZiW h _), Option.bind_some, Bool.true_and]
        cases hsn : Zci (frW H (k : Int)).1
        · rw [if_neg (by decide), if_neg (by decide), Option.bind_some, List.append_nil]; rfl
        · rw [if_pos (by decide), if_pos (by decide), QV (by simp; omega), Option.bind_some]; rfl) (by
      unfold Zbh
      rw [ZO (by omega) (by omega), if_neg (by simp; omega)])
    unfold Zb6
    have e0 : (([] : List api_Found), (0 : Int)) = (scL H 0, ((0 : Nat) : Int)) := rfl
    rw [e0, this]
    rfl
theorem Zko {H : List Int} {k : Nat} {x : api_Found} (h : x ∈ scF H k) : x = api_Found.mk (k : Int) (frW H (k : Int)).1 ∧ ZdH (wAt H k) = true ∧ Zci (frW H (k : Int)).1 = true := by
  unfold scF at h
  split at h
  · rename_i hc
    rw [Bool.and_eq_true] at hc
    exact ⟨by simpa using h, hc⟩
  · cases h
theorem Zgr {H : List Int} {n : Nat} {x : api_Found} (h : x ∈ scL H n) : ∃ k, k < n ∧ x = api_Found.mk (k : Int) (frW H (k : Int)).1 ∧ ZdH (wAt H k) = true ∧ Zci (frW H (k : Int)).1 = true := by
  unfold scL at h
  obtain ⟨k, hk, hx⟩ := List.mem_flatMap.1 h
  exact ⟨k, List.mem_range.1 hk, Zko hx⟩
theorem ZeD (H : List Int) : ∀ n, (scL H n).Pairwise fun a b => a.At < b.At
  | 0 => by simp [scL]
  | n + 1 => by
    rw [ZeL, List.pairwise_append]
    refine ⟨ZeD H n, ?_, fun a ha b hb => ?_⟩
    · unfold scF; split <;> simp
    · obtain ⟨k, hk, rfl, _⟩ := Zgr ha
      obtain ⟨rfl, _⟩ := Zko hb
      show (k : Int) < (n : Int)
      omega
def fz : api_Found := api_Found.mk 0 (Vector.replicate 64 0)
def Ord (l : List api_Found) : Prop := (l.Pairwise fun a b => a.At < b.At) ∧ ∀ x ∈ l, 0 ≤ x.At ∧ x.At ≤ 1000000
theorem ZmN (H : List Int) (n : Nat) (hn : n ≤ 1000000) : Ord (scL H n) := ⟨ZeD H n, fun x hx => by
  obtain ⟨k, hk, rfl, _⟩ := Zgr hx
  exact ⟨by show (0 : Int) ≤ (k : Int); omega, by show (k : Int) ≤ 1000000; omega⟩⟩
theorem Zja {l : List api_Found} (h : Ord l) {k : Nat} {x y : api_Found} (hx : l[k]? = some x) (hy : l[k + 1]? = some y) : x.At < y.At := by
  obtain ⟨h1, rfl⟩ := List.getElem?_eq_some_iff.1 hx
  obtain ⟨h2, rfl⟩ := List.getElem?_eq_some_iff.1 hy
  exact List.pairwise_iff_getElem.1 h.1 k (k + 1) h1 h2 (by omega)
def ZlC (l : List api_Found) (k : Nat) : Bool :=
  (decide (k = 0) || decide (192 ≤ (l.getD k fz).At - (l.getD (k - 1) fz).At)) && (decide (k + 1 = l.length) || decide (192 ≤ (l.getD (k + 1) fz).At - (l.getD k fz).At))
def ZjV (l : List api_Found) (k : Nat) : List api_Found := if ZlC l k = true then [l.getD k fz] else []
def Zhb (l : List api_Found) (n : Nat) : List api_Found := (List.range n).flatMap (ZjV l)
def ZcA (l : List api_Found) : List api_Found := Zhb l l.length
theorem Zeh (l : List api_Found) (n : Nat) : Zhb l (n + 1) = Zhb l n ++ ZjV l n := by
  unfold Zhb
  rw [List.range_succ, List.flatMap_append]; simp
theorem Zfa (l : List api_Found) : ∀ n, (Zhb l n).length ≤ n
  | 0 => by simp [Zhb]
  | n + 1 => by
    have := Zfa l n
    have : (ZjV l n).length ≤ 1 := by unfold ZjV; split <;> simp
    rw [Zeh, List.length_append]; omega
theorem ZfH {l : List api_Found} {k : Nat} {x : api_Found} (h : l[k]? = some x) : l.getD k fz = x := by rw [List.getD_eq_getElem?_getD, h]; rfl
theorem ZiH {l : List api_Found} (h : Ord l) (hl : l.length ≤ 1000000) : loop (t2 (Q3 l)) ([], 0) = some (ZcA l) ∧ loop (t2 (XO l)) ([], 0) = some (ZcA l) := by
  have e0 : (([] : List api_Found), (0 : Int)) = (Zhb l 0, ((0 : Nat) : Int)) := rfl
  have facts : ∀ k, k < l.length → ∃ x p n : api_Found, l[k]? = some x ∧ (k ≠ 0 → l[k - 1]? = some p ∧ p.At < x.At ∧ 0 ≤ p.At) ∧ (k + 1 ≠ l.length → l[k + 1]? = some n ∧ x.At < n.At ∧ n.At ≤ 1000000) ∧ 0 ≤ x.At ∧ x.At ≤ 1000000 := by
    intro k hk
    obtain ⟨x, hx⟩ := ZG hk
    have bx := h.2 x (List.mem_of_getElem? hx)
    refine ⟨x, l.getD (k - 1) fz, l.getD (k + 1) fz, hx, fun h0 => ?_, fun h1 => ?_, bx⟩
    · obtain ⟨p, hp⟩ := ZG (xs := l) (k := k - 1) (by omega)
      rw [ZfH hp]
      have := Zja h (k := k - 1) hp (by rw [show k - 1 + 1 = k by omega]; exact hx)
      exact ⟨hp, this, (h.2 p (List.mem_of_getElem? hp)).1⟩
    · obtain ⟨n, hn⟩ := ZG (xs := l) (k := k + 1) (by omega)
      rw [ZfH hn]
      exact ⟨hn, Zja h hx hn, (h.2 n (List.mem_of_getElem? hn)).2⟩
  constructor
  · have := ZbA (body := Q3 l) (Zhb l) (ZcA l) (a := 0) (b := l.length) (by omega) (fun k _ hk => by
      obtain ⟨x, p, n, hx, hp, hn, bx⟩ := facts k hk
      have hlen := Zfa l k
      unfold Q3
      have e1 : i64 ((k : Int) + 1) = ((k + 1 : Nat) : Int) := by rw [ZO (by omega) (by omega)]; push_cast; rfl
      have e2 : i64 ((l.length : Int) - 1) = (l.length : Int) - 1 := ZO (by omega) (by omega)
      have d2 : decide ((k : Int) = (l.length : Int) - 1) = decide (k + 1 = l.length) := by rw [decide_eq_decide]; omega
      have d0 : decide ((k : Int) = 0) = decide (k = 0) := by rw [decide_eq_decide]; omega
      rw [if_pos (by simp; omega), ZM hx, Option.bind_some, e1, e2, d2, d0, Zeh]
      have en : ((k + 1 : Nat) : Int) = (k : Int) + 1 := by push_cast; rfl
      unfold ZjV ZlC
      rw [ZfH hx]
      have A : ∃ b1 : Bool, ∃ x2, (gd ((decide (k = 0)) == false) (api_Found.mk 0 (Vector.replicate 64 0)) (idx l (i64 ((k : Int) - 1)))) = some x2 ∧ (decide (k = 0) || decide (192 ≤ i64 (x.At - x2.At))) = b1 ∧ (decide (k = 0) || decide (192 ≤ x.At - (l.getD (k - 1) fz).At)) = b1 := by
        by_cases h0 : k = 0
        · exact ⟨true, _, by rw [decide_eq_true h0]; rfl, by rw [decide_eq_true h0]; rfl, by rw [decide_eq_true h0]; rfl⟩
        · obtain ⟨q1, q2, q3⟩ := hp h0
          have ei : i64 ((k : Int) - 1) = ((k - 1 : Nat) : Int) := by rw [ZO (by omega) (by omega)]; omega
          refine ⟨_, p, by rw [decide_eq_false h0, ei, ZM q1]; rfl, rfl, ?_⟩
          rw [ZfH q1, ZO (by omega) (by omega)]
      obtain ⟨b1, x2, a1, a2, a3⟩ := A
      rw [a1, Option.bind_some, a2, a3]
      have B : ∃ b2 : Bool, ∃ x3, (gd ((b1 == true) && ((decide (k + 1 = l.length)) == false)) (api_Found.mk 0 (Vector.replicate 64 0)) (idx l ((k + 1 : Nat) : Int))) = some x3 ∧ (b1 && (decide (k + 1 = l.length) || decide (192 ≤ i64 (x3.At - x.At)))) = b2 ∧ (b1 && (decide (k + 1 = l.length) || decide (192 ≤ (l.getD (k + 1) fz).At - x.At))) = b2 := by
        by_cases h0 : k + 1 = l.length
        · refine ⟨b1, api_Found.mk 0 (Vector.replicate 64 0), by rw [decide_eq_true h0, show (true == false) = false from rfl, Bool.and_false]; rfl, by rw [decide_eq_true h0, Bool.true_or, Bool.and_true], by rw [decide_eq_true h0, Bool.true_or, Bool.and_true]⟩
        · obtain ⟨q1, q2, q3⟩ := hn h0
          cases b1
          · exact ⟨false, _, rfl, rfl, rfl⟩
          · refine ⟨_, n, by rw [decide_eq_false h0, ZM q1]; rfl, rfl, ?_⟩
            rw [ZfH q1, ZO (by omega) (by omega)]
      obtain ⟨b2, x3, c1, c2, c3⟩ := B
      rw [c1, Option.bind_some, c2, c3]
      cases b2
      · rw [if_neg (by decide), if_neg (by decide), List.append_nil, en]
      · rw [if_pos rfl, if_pos rfl, QV (by simp; omega), Option.bind_some, en]) (by
      unfold Q3
      rw [if_neg (by simp)]; rfl)
    rw [e0, this]
  · have := ZbA (body := XO l) (Zhb l) (ZcA l) (a := 0) (b := l.length) (by omega) (fun k _ hk => by
      obtain ⟨x, p, n, hx, hp, hn, bx⟩ := facts k hk
      have hlen := Zfa l k
      unfold XO
      have e1 : i64 ((k : Int) + 1) = ((k + 1 : Nat) : Int) := by rw [ZO (by omega) (by omega)]; push_cast; rfl
      have d2 : decide (((k + 1 : Nat) : Int) = (l.length : Int)) = decide (k + 1 = l.length) := by rw [decide_eq_decide]; omega
      have d0 : decide ((k : Int) = 0) = decide (k = 0) := by rw [decide_eq_decide]; omega
      rw [if_pos (by simp; omega), ZM hx, Option.bind_some, e1, d2, d0, Zeh]
      have en : ((k + 1 : Nat) : Int) = (k : Int) + 1 := by push_cast; rfl
      unfold ZjV ZlC
      rw [ZfH hx]
      have A : ∃ b1 : Bool, ∃ x2 y, (gd ((decide (k = 0)) == false) (api_Found.mk 0 (Vector.replicate 64 0)) (idx l (i64 ((k : Int) - 1)))) = some x2 ∧ (gd ((decide (k = 0)) == false) 0 (Qu x2.At x.At)) = some y ∧ (decide (k = 0) || decide (192 ≤ y)) = b1 ∧ (decide (k = 0) || decide (192 ≤ x.At - (l.getD (k - 1) fz).At)) = b1 := by
        by_cases h0 : k = 0
        · exact ⟨true, _, _, by rw [decide_eq_true h0]; rfl, by rw [decide_eq_true h0]; rfl, by rw [decide_eq_true h0]; rfl, by rw [decide_eq_true h0]; rfl⟩
        · obtain ⟨q1, q2, q3⟩ := hp h0
          have ei : i64 ((k : Int) - 1) = ((k - 1 : Nat) : Int) := by rw [ZO (by omega) (by omega)]; omega
          have ea : Qu p.At x.At = some (x.At - p.At) := by unfold Qu; rw [if_pos (by simpa using q2), ZO (by omega) (by omega)]
          refine ⟨_, p, _, by rw [decide_eq_false h0, ei, ZM q1]; rfl, by rw [decide_eq_false h0, ea]; rfl, rfl, ?_⟩
          rw [ZfH q1]
      obtain ⟨b1, x2, y, a1, a1', a2, a3⟩ := A
      rw [a1, Option.bind_some, a1', Option.bind_some, a2, a3]
      have B : ∃ b2 : Bool, ∃ x3 y2, (gd ((b1 == true) && ((decide (k + 1 = l.length)) == false)) (api_Found.mk 0 (Vector.replicate 64 0)) (idx l ((k + 1 : Nat) : Int))) = some x3 ∧ (gd ((b1 == true) && ((decide (k + 1 = l.length)) == false)) 0 (Qu x3.At x.At)) = some y2 ∧ (b1 && (decide (k + 1 = l.length) || decide (192 ≤ y2))) = b2 ∧ (b1 && (decide (k + 1 = l.length) || decide (192 ≤ (l.getD (k + 1) fz).At - x.At))) = b2 := by
        by_cases h0 : k + 1 = l.length
        · refine ⟨b1, api_Found.mk 0 (Vector.replicate 64 0), 0, by rw [decide_eq_true h0, show (true == false) = false from rfl, Bool.and_false]; rfl, by rw [decide_eq_true h0, show (true == false) = false from rfl, Bool.and_false]; rfl, by rw [decide_eq_true h0, Bool.true_or, Bool.and_true], by rw [decide_eq_true h0, Bool.true_or, Bool.and_true]⟩
        · obtain ⟨q1, q2, q3⟩ := hn h0
          cases b1
          · exact ⟨false, _, _, rfl, rfl, rfl, rfl⟩
          · have ea : Qu n.At x.At = some (n.At - x.At) := by unfold Qu; rw [if_neg (by simp; omega), ZO (by omega) (by omega)]
            refine ⟨_, n, _, by rw [decide_eq_false h0, ZM q1]; rfl, by rw [decide_eq_false h0, ea]; rfl, rfl, ?_⟩
            rw [ZfH q1]
      obtain ⟨b2, x3, y2, c1, c1', c2, c3⟩ := B
      rw [c1, Option.bind_some, c1', Option.bind_some, c2, c3]
      cases b2
      · rw [if_neg (by decide), if_neg (by decide), List.append_nil, en]
      · rw [if_pos rfl, if_pos rfl, QV (by simp; omega), Option.bind_some, en]) (by
      unfold XO
      rw [if_neg (by simp)]; rfl)
    rw [e0, this]
theorem ZkS (H : List Int) (hl : H.length ≤ 900000) : (scL H (H.length - 191)).length ≤ 1000000 ∧ Ord (scL H (H.length - 191)) := ⟨by have := Zd7 H (H.length - 191); omega, ZmN H _ (by omega)⟩
theorem Zft {H : List Int} (h : hL H) (hl : H.length ≤ 900000) : Jw H = some (ZcA (scL H (H.length - 191))) ∧ J9 (scL H (H.length - 191)) = some (ZcA (scL H (H.length - 191))) := by
  obtain ⟨b1, b2⟩ := ZkS H hl
  obtain ⟨c1, c2⟩ := ZiH b2 b1
  unfold Jw J9
  rw [(ZjY h hl).1, Option.bind_some, c1, c2]
  exact ⟨rfl, rfl⟩
end Go.Vx

namespace Go.Vx
open Go Go.RowKit
theorem ZkR {p : api_Piece} (hu : u8L p.Bytes) : ZbF p = some (if JG p = 0 then ((hv p).length : Int) else 0, JG p) := by
  unfold ZbF
  rw [ZcU p hu, Option.bind_some]
  by_cases h : JG p = 0
  · rw [if_neg (by simp [h]), if_pos h, ZfQ hu (ZcP h).1, Option.bind_some, h]
  · rw [if_pos (by simp [h]), if_neg h]
theorem Zms {Z : List Int} (h : hL Z) : hvB (pk Z) = Z ++ (if Z.length % 2 = 1 then [0] else []) := by
  refine List.ext_getElem? fun j => ?_
  have hlen : (pk Z).length = (Z.length + 1) / 2 := by unfold pk; simp
  have hg : ∀ k, k < (Z.length + 1) / 2 → (pk Z)[k]? = some (16 * Z.getD (2 * k) 0 + Z.getD (2 * k + 1) 0) := fun k hk => by
    unfold pk; rw [List.getElem?_map, List.getElem?_range hk]; rfl
  have hR : ∀ j, j < Z.length → (Z ++ (if Z.length % 2 = 1 then [0] else []))[j]? = some (Z.getD j 0) := fun j hj => by
    rw [List.getElem?_append_left hj]
    obtain ⟨x, hx⟩ := ZG hj
    rw [hx, Q0 hx]
  have hlast : ∀ j, Z.length ≤ j → Z.getD j 0 = 0 := fun j hj => by rw [List.getD_eq_getElem?_getD, List.getElem?_eq_none hj]; rfl
  by_cases hj : j < 2 * ((Z.length + 1) / 2)
  · have hk := hg (j / 2) (by omega)
    obtain ⟨g1, g2⟩ := ZiI hk
    have b1 := Zby h (2 * (j / 2))
    have b2 := Zby h (2 * (j / 2) + 1)
    have e1 : (16 * Z.getD (2 * (j / 2)) 0 + Z.getD (2 * (j / 2) + 1) 0) / 16 = Z.getD (2 * (j / 2)) 0 := by omega
    have e2 : (16 * Z.getD (2 * (j / 2)) 0 + Z.getD (2 * (j / 2) + 1) 0) % 16 = Z.getD (2 * (j / 2) + 1) 0 := by omega
    rw [e1] at g1
    rw [e2] at g2
    have hL' : (hvB (pk Z))[j]? = some (Z.getD j 0) := by
      rcases Nat.mod_two_eq_zero_or_one j with hm | hm
      · have : 2 * (j / 2) = j := by omega
        rw [this] at g1; exact g1
      · have : 2 * (j / 2) + 1 = j := by omega
        rw [this] at g2; exact g2
    rw [hL']
    by_cases hjl : j < Z.length
    · rw [hR j hjl]
    · have hjz : j = Z.length := by omega
      rw [hlast j (by omega), List.getElem?_append_right (by omega), if_pos (by omega)]
      subst hjz; simp
  · rw [List.getElem?_eq_none (by rw [ZcF, hlen]; omega), List.getElem?_eq_none]
    rw [List.length_append]
    split <;> simp <;> omega
theorem Znk {H : List Int} (h : hL H) (f t : Nat) : hL (Zcv H f t) := by
  intro x hx
  unfold Zcv at hx
  rcases List.mem_append.1 hx with hx | hx
  · split at hx
    · simp at hx; subst hx; exact ⟨by decide, by decide⟩
    · cases hx
  · exact h x (List.mem_of_mem_take (List.mem_of_mem_drop hx))
theorem ZfK {p : api_Piece} (hu : u8L p.Bytes) (h : JG p = 0) {f t : Nat} (hft : f ≤ t) (ht : t ≤ (hv p).length) :
    u8L (Zge p f t).Bytes ∧ JG (Zge p f t) = 0 ∧ hv (Zge p f t) = ((hv p).take t).drop f ++ (if f < t ∧ (t + ahN p) % 2 = 1 then [0] else []) := by
  have hbl := (ZcP h).1
  have hlen := Zg9 p
  have ha := Zkj h
  unfold Zge
  by_cases hab : f = t
  · subst hab
    rw [if_pos rfl]
    refine ⟨(fun x hx => by cases hx), (by unfold JG; simp), ?_⟩
    simp [hv, hvB]
  · rw [if_neg hab]
    have hH := Znk (ZjI hu) (f + ahN p) (t + ahN p)
    have hpl : (Zcv (hvB p.Bytes) (f + ahN p) (t + ahN p)).length = (f + ahN p) % 2 + (t - f) := by rw [ZgY (by omega) (by rw [ZcF]; omega)]; omega
    have hpk := Zms hH
    have hpkl : (pk (Zcv (hvB p.Bytes) (f + ahN p) (t + ahN p))).length = ((f + ahN p) % 2 + (t - f) + 1) / 2 := by unfold pk; rw [List.length_map, List.length_range, hpl]
    refine ⟨?_, ?_, ?_⟩
    · intro x hx
      obtain ⟨k, _, rfl⟩ := List.mem_map.1 hx
      have b1 := Zby hH (2 * k)
      have b2 := Zby hH (2 * k + 1)
      omega
    · unfold JG
      rw [if_neg (by simp only [hpkl]; omega)]
      by_cases ho : (f + ahN p) % 2 = 1
      · have hlow : Zh4 (pk (Zcv (hvB p.Bytes) (f + ahN p) (t + ahN p))) = true := by
          obtain ⟨x, hx⟩ := ZG (xs := pk (Zcv (hvB p.Bytes) (f + ahN p) (t + ahN p))) (k := 0) (by rw [hpkl]; omega)
          have hg : (pk (Zcv (hvB p.Bytes) (f + ahN p) (t + ahN p)))[0]? = some (16 * (Zcv (hvB p.Bytes) (f + ahN p) (t + ahN p)).getD (2 * 0) 0 + (Zcv (hvB p.Bytes) (f + ahN p) (t + ahN p)).getD (2 * 0 + 1) 0) := by
            unfold pk; rw [List.getElem?_map, List.getElem?_range (by rw [hpl]; omega)]; rfl
          have e0 : (Zcv (hvB p.Bytes) (f + ahN p) (t + ahN p)).getD (2 * 0) 0 = 0 := by rw [Zg4, if_pos ⟨ho, rfl⟩]
          have b2 := Zby hH (2 * 0 + 1)
          rw [e0] at hg
          generalize (Zcv (hvB p.Bytes) (f + ahN p) (t + ahN p)).getD (2 * 0 + 1) 0 = z at hg b2
          cases hq : pk (Zcv (hvB p.Bytes) (f + ahN p) (t + ahN p)) with
          | nil => rw [hq] at hg; cases hg
          | cons y tl => rw [hq] at hg; simp at hg; simp only [Zh4]; subst hg; simp; omega
        rw [hlow]; simp
      · simp [ho]
    · unfold hv
      simp only
      have eT : ((hvB p.Bytes).take (t + ahN p)).drop (f + ahN p) = ((hv p).take t).drop f := by
        rw [Zkb, List.take_drop, List.drop_drop, show ahN p + t = t + ahN p by omega, show ahN p + f = f + ahN p by omega]
      have hodd : ((Zcv (hvB p.Bytes) (f + ahN p) (t + ahN p)).length % 2 = 1) ↔ (f < t ∧ (t + ahN p) % 2 = 1) := by rw [hpl]; omega
      by_cases ho : (f + ahN p) % 2 = 1
      · rw [if_pos (by simpa using ho), hpk]
        simp only [hodd]
        unfold Zcv
        rw [if_pos ho]
        simp only [List.singleton_append, List.cons_append, List.drop_succ_cons, List.drop_zero]
        rw [eT]; rfl
      · rw [if_neg (by simpa using ho), hpk]
        simp only [hodd]
        unfold Zcv
        rw [if_neg ho]
        simp only [List.nil_append]
        rw [eT]; rfl
end Go.Vx

namespace Go.Vx
open Go Go.RowKit
def hf (f : Vector Int 64) (n : Nat) : Int := wd f (n / 3) / (2 : Int) ^ (8 - 4 * (n % 3)) % 16
theorem ZlB (f : Vector Int 64) (n : Nat) : 0 ≤ hf f n ∧ hf f n ≤ 15 := by unfold hf; omega
def hfL (f : Vector Int 64) : List Int := (List.range 192).map (hf f)
theorem ZmC (f : Vector Int 64) : hL (hfL f) := fun x hx => by
  obtain ⟨n, _, rfl⟩ := List.mem_map.1 hx
  exact ZlB f n
theorem Zdk (f : Vector Int 64) : (hfL f).length = 192 := by unfold hfL; rw [List.length_map, List.length_range]
theorem Zh7 (f : Vector Int 64) {n : Nat} (hn : n < 192) : (hfL f).getD n 0 = hf f n := by
  unfold hfL
  rw [List.getD_eq_getElem?_getD, List.getElem?_map, List.getElem?_range hn]; rfl
theorem Zpx {f : Vector Int 64} {i : Nat} (h : 0 ≤ wd f i ∧ wd f i ≤ 4095) : w3 (hf f (3 * i)) (hf f (3 * i + 1)) (hf f (3 * i + 2)) = wd f i := by
  unfold hf w3
  rw [show 3 * i / 3 = i by omega, show (3 * i + 1) / 3 = i by omega, show (3 * i + 2) / 3 = i by omega, show 8 - 4 * (3 * i % 3) = 8 by omega, show 8 - 4 * ((3 * i + 1) % 3) = 4 by omega, show 8 - 4 * ((3 * i + 2) % 3) = 0 by omega]
  rw [show (2 : Int) ^ 8 = 256 by decide, show (2 : Int) ^ 4 = 16 by decide, show (2 : Int) ^ 0 = 1 by decide]
  omega
theorem ZiY (x : Int) : Xe .i64 x 15 = x % 16 := ZcY (v := x) (n := 4) (by decide)
theorem Zl0 {f : Vector Int 64} (h : fU f) {n : Nat} (hn : n < 192) : Zb7 f (n : Int) = some (hf f n) := by
  have hw := h (n / 3)
  unfold Zb7
  have e1 : quo .i64 (n : Int) 3 = some ((n / 3 : Nat) : Int) := by
    unfold quo
    rw [if_neg (by decide), Int.tdiv_eq_ediv_of_nonneg (by omega), w64 (by omega) (by omega)]
    rfl
  have e2 : i64 (8 - i64 ((n : Int) % 3 * 4)) = ((8 - 4 * (n % 3) : Nat) : Int) := by
    rw [ZO (z := (n : Int) % 3 * 4) (by omega) (by omega), ZO (by omega) (by omega)]; omega
  rw [e1, Option.bind_some, ZW f (by omega), Option.bind_some, Zcu (by omega) _ (by decide), Option.bind_some, ZO (z := wd f (n / 3)) (by omega) (by omega), e2, Zgx _ (by omega), Option.bind_some, ZiY]
  rfl
theorem Zlj (f : Vector Int 64) : (pk (hfL f)).length = 96 ∧ ∀ k, k < 96 → (pk (hfL f))[k]? = some (16 * hf f (2 * k) + hf f (2 * k + 1)) := by
  have h0 : (pk (hfL f)).length = 96 := by unfold pk; rw [List.length_map, List.length_range, Zdk]
  refine ⟨h0, fun k hk => ?_⟩
  unfold pk
  rw [Zdk, List.getElem?_map, List.getElem?_range (by omega)]
  simp only [Option.map_some]
  rw [Zh7 f (by omega), Zh7 f (by omega)]
theorem Znx {f : Vector Int 64} (h : fU f) : Zca f = some (pk (hfL f)) := by
  obtain ⟨hl, hg⟩ := Zlj f
  unfold Zca
  have e0 : mks 96 (0 : Int) = some (List.replicate 96 0) := by unfold mks; rw [if_pos (by decide)]; rfl
  rw [e0, Option.bind_some]
  have hrl : (List.replicate 96 (0 : Int)).length = 96 := List.length_replicate
  have := ZhP (body := Zag f (List.replicate 96 0)) (pk (hfL f)) (fun k acc x ha hx => by
    have hk := (List.getElem?_eq_some_iff.1 hx).1
    rw [hl] at hk
    rw [hg k hk] at hx
    have hx := Option.some.inj hx
    have b1 := ZlB f (2 * k)
    have b2 := ZlB f (2 * k + 1)
    unfold Zag
    have e1 : i64 (2 * (k : Int)) = ((2 * k : Nat) : Int) := by rw [ZO (by omega) (by omega)]; push_cast; rfl
    have e2 : i64 (((2 * k : Nat) : Int) + 1) = ((2 * k + 1 : Nat) : Int) := by rw [ZO (by omega) (by omega)]; push_cast; rfl
    obtain ⟨y, hy⟩ := ZG (xs := acc) (k := k) (by omega)
    rw [if_pos (by rw [hrl]; simp; omega), e1, Zl0 h (by omega), Option.bind_some, e2, Zl0 h (by omega), Option.bind_some, ZM hy, Option.bind_some, Int.toNat_natCast, ZO (z := 16 * hf f (2 * k)) (by omega) (by omega), ZO (by omega) (by omega), u8w (by omega) (by omega), hx, ZO (by omega) (by omega)]) (fun acc => by
    unfold Zag
    rw [if_neg (by rw [hrl, hl]; decide)]) (l0 := List.replicate 96 0) (by rw [hl, hrl])
  rw [this]
  rfl
theorem Zob (f : Vector Int 64) : ZcZ f = some (!Jn f) := by
  have := Zd9 (body := ZaT f) (XS f) (.inl true : Bool ⊕ Unit) (.inr ()) (a := 0) (b := 64) (by decide) (fun k _ hk => by
    unfold ZaT XS
    rw [if_pos (by simp; omega), ZW f hk, Option.bind_some, ZO (by omega) (by omega)]
    by_cases hw : 4095 < wd f k
    · rw [if_pos (by simpa using hw), if_neg (by simpa using hw)]
    · rw [if_neg (by simpa using hw), if_pos (by simpa using hw)]) (by unfold ZaT; rw [if_neg (by decide)])
  unfold ZcZ
  have e0 : (0 : Int) = ((0 : Nat) : Int) := rfl
  rw [e0, this]
  unfold Jn
  rw [Nat.sub_zero]
  cases (List.range' 0 64).all (XS f) <;> rfl
theorem Zbz {f g : Vector Int 64} (h : ∀ i, i < 64 → wd f i = wd g i) : f = g := by
  refine Vector.toList_inj.1 (List.ext_getElem? fun i => ?_)
  rcases Nat.lt_or_ge i 64 with hi | hi
  · obtain ⟨x, hx⟩ := ZG (xs := f.toList) (k := i) (by simp; omega)
    obtain ⟨y, hy⟩ := ZG (xs := g.toList) (k := i) (by simp; omega)
    have := h i hi
    unfold wd at this
    rw [Q0 hx, Q0 hy] at this
    rw [hx, hy, this]
  · rw [List.getElem?_eq_none (by simp; omega), List.getElem?_eq_none (by simp; omega)]
theorem ZlO (n : Int) (h : 0 ≤ n) : ZdH (Qx n) = true := by
  have e : ∀ m, m < 4 → ZdH (gv_frame_syncs.toList.getD m 0) = true := by decide
  exact e _ (by omega)
theorem ZmK {A B : List Int} {j : Nat} : (A ++ B).getD (A.length + j) 0 = B.getD j 0 := by
  rw [List.getD_eq_getElem?_getD, List.getElem?_append_right (by omega), List.getD_eq_getElem?_getD, show A.length + j - A.length = j by omega]
theorem ZkN {A B : List Int} {j : Nat} (h : j < A.length) : (A ++ B).getD j 0 = A.getD j 0 := by
  rw [List.getD_eq_getElem?_getD, List.getElem?_append_left h, List.getD_eq_getElem?_getD]
end Go.Vx

namespace Go.Vx
open Go Go.RowKit
theorem Q1 {σ ρ : Type} {body : σ → Int → Option ((σ × Int) ⊕ ρ)} {N : Nat} (I : Nat → σ → Prop) (Q : ρ → Prop)
    (hstep : ∀ (k : Nat) s, k < N → I k s → (∃ s', body s (k : Int) = some (.inl (s', (k : Int) + 1)) ∧ I (k + 1) s') ∨ ∃ r, body s (k : Int) = some (.inr r) ∧ Q r)
    (hend : ∀ s, I N s → ∃ r, body s (N : Int) = some (.inr r) ∧ Q r) {s0 : σ} (h0 : I 0 s0) : ∃ r, loop (t2 body) (s0, 0) = some r ∧ Q r := by
  refine Zb9 (body := t2 body) (fun p => ∃ k : Nat, p.2 = k ∧ k ≤ N ∧ I k p.1) (fun p => N - p.2.toNat) Q ?_ (s0, 0) ⟨0, rfl, Nat.zero_le _, h0⟩
  rintro ⟨s, i⟩ ⟨k, hi, hk, hI⟩
  simp only at hi hI
  subst hi
  simp only [Int.toNat_natCast, Zbj]
  rcases Nat.lt_or_ge k N with h | h
  · rcases hstep k s h hI with ⟨s', h1, h2⟩ | ⟨r, h1, h2⟩
    · exact .inl ⟨_, h1, ⟨k + 1, by push_cast; rfl, h, h2⟩, by simp only; omega⟩
    · exact .inr ⟨r, h1, h2⟩
  · have : k = N := by omega
    subst this
    exact .inr (hend s hI)
theorem ZbC {α β ρ : Type} {body : α → β → Int → Option ((α × β × Int) ⊕ ρ)} {N : Nat} (I : Nat → α → β → Prop) (Q : ρ → Prop)
    (hstep : ∀ (k : Nat) a b, k < N → I k a b → (∃ a' b', body a b (k : Int) = some (.inl (a', b', (k : Int) + 1)) ∧ I (k + 1) a' b') ∨ ∃ r, body a b (k : Int) = some (.inr r) ∧ Q r)
    (hend : ∀ a b, I N a b → ∃ r, body a b (N : Int) = some (.inr r) ∧ Q r) {a0 : α} {b0 : β} (h0 : I 0 a0 b0) : ∃ r, loop (t3 body) (a0, b0, 0) = some r ∧ Q r := by
  refine Zb9 (body := t3 body) (fun p => ∃ k : Nat, p.2.2 = k ∧ k ≤ N ∧ I k p.1 p.2.1) (fun p => N - p.2.2.toNat) Q ?_ (a0, b0, 0) ⟨0, rfl, Nat.zero_le _, h0⟩
  rintro ⟨a, b, i⟩ ⟨k, hi, hk, hI⟩
  simp only at hi hI
  subst hi
  simp only [Int.toNat_natCast, Zpl]
  rcases Nat.lt_or_ge k N with h | h
  · rcases hstep k a b h hI with ⟨a', b', h1, h2⟩ | ⟨r, h1, h2⟩
    · exact .inl ⟨_, h1, ⟨k + 1, by push_cast; rfl, h, h2⟩, by simp only; omega⟩
    · exact .inr ⟨r, h1, h2⟩
  · have : k = N := by omega
    subst this
    exact .inr (hend a b hI)
theorem QG {k N : Nat} (h : k < N) (hN : N ≤ 4000000000) : i64 ((k : Int) + 1) = (k : Int) + 1 := ZO (by omega) (by omega)
theorem Zj6 (c : Int) {i : Nat} (hi : i < 64) : wd (Vector.replicate 64 c) i = c := by
  show (Vector.replicate 64 c).toList.getD i 0 = c
  rw [Vector.toList_replicate, List.getD_eq_getElem?_getD, List.getElem?_replicate, if_pos hi]; rfl
theorem JY (i : Nat) : wd (Vector.replicate 64 (0 : Int)) i = 0 := by
  by_cases h : i < 64
  · exact Zj6 0 h
  · exact Zic _ (by omega)
theorem Zkc {body : Vector Int 64 → Int → Option ((Vector Int 64 × Int) ⊕ Vector Int 64)} (c : Int) (h1 : ∀ (v : Vector Int 64) (k : Nat), k < 64 → body v k = some (.inl (Qb v k c, (k : Int) + 1)))
    (h2 : ∀ v, body v 64 = some (.inr v)) (v0 : Vector Int 64) : loop (t2 body) (v0, 0) = some (Vector.replicate 64 c) := by
  obtain ⟨r, e1, e2⟩ := Q1 (body := body) (N := 64) (fun k v => ∀ i, i < k → wd v i = c) (fun r => r = Vector.replicate 64 c) (fun k v hk hI => .inl ⟨_, h1 v k hk, fun i hi => by
    rw [Xl v hk]
    split
    · rfl
    · exact hI i (by omega)⟩) (fun v hI => ⟨v, h2 v, Zbz fun i hi => by rw [hI i hi, Zj6 c hi]⟩) (fun i hi => by omega)
  rw [e1, e2]
theorem Zg1 (c : Int) : XI c = some (Vector.replicate 64 c) := by
  unfold XI
  rw [Zkc (body := XX c) c (fun v k hk => by
    unfold XX
    rw [if_pos (by simp; omega), ZW v hk, Option.bind_some, QG hk (by omega)]) (fun v => by unfold XX; rw [if_neg (by simp)])]
  rfl
structure MOK (n : Int) (l : List api_Rest) : Prop where
  ne : l ≠ []
  len : l.length ≤ 1000000000
  num : ∀ r ∈ l, r.Number = n
  nar : ∀ r ∈ l, ∀ i, 0 ≤ wd r.Frame i ∧ wd r.Frame i ≤ 4095
  cop : ∀ r ∈ l, 0 ≤ r.Copies ∧ r.Copies ≤ 1000000000
def sumC (l : List api_Rest) : Int := (l.map (·.Copies)).sum
theorem Zfi : ∀ {l : List api_Rest}, (∀ r ∈ l, 0 ≤ r.Copies ∧ r.Copies ≤ 1000000000) → 0 ≤ sumC l ∧ sumC l ≤ 1000000000 * l.length
  | [], _ => ⟨Int.le_refl 0, Int.le_refl 0⟩
  | r :: l, h => by
    have h1 := h r (by simp)
    have h2 := Zfi (l := l) fun x hx => h x (by simp [hx])
    simp only [sumC, List.map_cons, List.sum_cons, List.length_cons] at *
    omega
theorem Zee {l : List api_Rest} {k : Nat} {x : api_Rest} (hx : l[k]? = some x) : sumC (l.take (k + 1)) = sumC (l.take k) + x.Copies := by
  rw [List.take_succ, hx]
  simp [sumC]
def Snd (l : List api_Rest) (s : api_Rest) : Prop := s ∈ l ∧ s.Sound = true
def Clash (l : List api_Rest) : Prop := (∃ r ∈ l, r.Conflict = true) ∨ ∃ r s, Snd l r ∧ Snd l s ∧ r.Frame ≠ s.Frame
def Top (l : List api_Rest) (V : Vector Int 64) : Prop := ∀ i, i < 64 → (∀ r, Snd l r → wd r.States i ≤ wd V i) ∧ 0 ≤ wd V i ∧ (wd V i = 0 ∨ ∃ r, Snd l r ∧ wd r.States i = wd V i)
def Agr (l : List api_Rest) (i : Nat) (w : Int) : Prop := (∃ r ∈ l, wd r.States i ≠ 0 ∧ wd r.Frame i = w) ∧ ∀ r ∈ l, wd r.States i ≠ 0 → wd r.Frame i = w
def Parts4 (l : List api_Rest) (F S : Vector Int 64) : Prop := ∀ i, i < 64 → (Agr l i (wd F i) ∧ wd S i = 1) ∨ ((∀ w, ¬ Agr l i w) ∧ wd F i = 0 ∧ wd S i = 0)
open Classical in
noncomputable def sndOut (n C : Int) (F V : Vector Int 64) : api_Rest := ⟨n, F, V, true, if (∀ i, i < 64 → wd V i = 3) then max C 1 else C, false⟩
open Classical in
noncomputable def prtOut (n C : Int) (F S : Vector Int 64) : api_Rest := if (∀ i, i < 64 → wd S i = 1) ∧ Zj8 F n = true then ⟨n, F, Vector.replicate 64 3, true, 1, false⟩ else ⟨n, F, S, false, C, false⟩
inductive MG (n : Int) (l : List api_Rest) : api_Rest → Prop
  | clash : Clash l → MG n l ⟨n, Vector.replicate 64 0, Vector.replicate 64 0, false, sumC l, true⟩
  | sound {s : api_Rest} {V : Vector Int 64} : ¬ Clash l → Snd l s → Top l V → MG n l (sndOut n (sumC l) s.Frame V)
  | parts {F S : Vector Int 64} : ¬ Clash l → (∀ s, ¬ Snd l s) → Parts4 l F S → MG n l (prtOut n (sumC l) F S)
theorem Snd.congr {l l' : List api_Rest} (h : ∀ r, r ∈ l ↔ r ∈ l') (s : api_Rest) : Snd l s ↔ Snd l' s := by unfold Snd; rw [h]
theorem Clash.congr {l l' : List api_Rest} (h : ∀ r, r ∈ l ↔ r ∈ l') : Clash l ↔ Clash l' := by
  unfold Clash
  simp only [Snd.congr h, h]
theorem Zlr {l l' : List api_Rest} (h : ∀ r, r ∈ l ↔ r ∈ l') {V V' : Vector Int 64} (h1 : Top l V) (h2 : Top l' V') : V = V' := Zbz fun i hi => by
  obtain ⟨a1, a2, a3⟩ := h1 i hi
  obtain ⟨b1, b2, b3⟩ := h2 i hi
  have le1 : wd V i ≤ wd V' i := by
    rcases a3 with e | ⟨r, hr, e⟩
    · omega
    · rw [← e]; exact b1 r ((Snd.congr h r).1 hr)
  have le2 : wd V' i ≤ wd V i := by
    rcases b3 with e | ⟨r, hr, e⟩
    · omega
    · rw [← e]; exact a1 r ((Snd.congr h r).2 hr)
  omega
theorem Zmu {l l' : List api_Rest} (h : ∀ r, r ∈ l ↔ r ∈ l') {i : Nat} {w w' : Int} (h1 : Agr l i w) (h2 : Agr l' i w') : w = w' := by
  obtain ⟨⟨r, hr, h3, h4⟩, _⟩ := h1
  rw [← h4]; exact h2.2 r ((h r).1 hr) h3
theorem ZhL {l l' : List api_Rest} (h : ∀ r, r ∈ l ↔ r ∈ l') {i : Nat} {w : Int} : Agr l i w ↔ Agr l' i w := by unfold Agr; simp only [h]
theorem Zj1 {l l' : List api_Rest} (h : ∀ r, r ∈ l ↔ r ∈ l') {F F' S S' : Vector Int 64} (h1 : Parts4 l F S) (h2 : Parts4 l' F' S') : F = F' ∧ S = S' := by
  have key : ∀ i, i < 64 → wd F i = wd F' i ∧ wd S i = wd S' i := fun i hi => by
    rcases h1 i hi with ⟨a1, a2⟩ | ⟨a1, a2, a3⟩ <;> rcases h2 i hi with ⟨b1, b2⟩ | ⟨b1, b2, b3⟩
    · exact ⟨Zmu h a1 b1, by omega⟩
    · exact (b1 _ ((ZhL h).1 a1)).elim
    · exact (a1 _ ((ZhL h).2 b1)).elim
    · exact ⟨by omega, by omega⟩
  exact ⟨Zbz fun i hi => (key i hi).1, Zbz fun i hi => (key i hi).2⟩
theorem MG.uniq {n : Int} {l l' : List api_Rest} (h : ∀ r, r ∈ l ↔ r ∈ l') (hs : sumC l = sumC l') {o o' : api_Rest} (h1 : MG n l o) (h2 : MG n l' o') : o = o' := by
  cases h1 with
  | clash c1 =>
    cases h2 with
    | clash c2 => rw [hs]
    | sound c2 => exact (c2 ((Clash.congr h).1 c1)).elim
    | parts c2 => exact (c2 ((Clash.congr h).1 c1)).elim
  | @sound s V c1 s1 t1 =>
    cases h2 with
    | clash c2 => exact (c1 ((Clash.congr h).2 c2)).elim
    | @sound s' V' c2 s2 t2 =>
      have : s.Frame = s'.Frame := Classical.byContradiction fun e => c1 (.inr ⟨s, s', s1, (Snd.congr h s').2 s2, e⟩)
      rw [hs, this, Zlr h t1 t2]
    | parts c2 s2 => exact (s2 s ((Snd.congr h s).1 s1)).elim
  | @parts F S c1 s1 p1 =>
    cases h2 with
    | clash c2 => exact (c1 ((Clash.congr h).2 c2)).elim
    | @sound s' V' c2 s2 t2 => exact (s1 s' ((Snd.congr h s').2 s2)).elim
    | parts c2 s2 p2 =>
      obtain ⟨e1, e2⟩ := Zj1 h p1 p2
      rw [hs, e1, e2]
end Go.Vx

namespace Go.Vx
open Go Go.RowKit
theorem Zk9 (s : List api_Rest) (hs : s.length ≤ 1000000000) (g : api_Rest → Bool) : Z1 s (fun z0 => some (g z0)) = some (s.any g) := by
  have z : api_Rest := ⟨0, Vector.replicate 64 0, Vector.replicate 64 0, false, 0, false⟩
  have := ZfE (body := t1 (ZU s (fun z0 => some (g z0)))) (fun k => (k : Int)) (fun k => if g (s.getD k z) = true then some (k : Int) else none) (fun e => (.inl e : Int ⊕ Unit)) (.inr ()) (b := s.length) (fun k hk => by
    obtain ⟨x, hx⟩ := ZG hk
    have ex : s.getD k z = x := by rw [List.getD_eq_getElem?_getD, hx]; rfl
    have eb : ZU s (fun z0 => some (g z0)) (k : Int) = if g x = true then some (.inr (.inl (k : Int))) else some (.inl ((k : Int) + 1)) := by
      unfold ZU
      rw [if_pos (by simp; omega), ZM hx, Option.bind_some, Option.bind_some, ZO (by omega) (by omega)]
    rw [Qa, eb, ex]
    by_cases hg : g x = true
    · exact .inl ⟨_, by rw [if_pos hg], by rw [if_pos hg]⟩
    · exact .inr ⟨by rw [if_neg hg], by rw [if_neg hg]; push_cast; rfl⟩) (by
    rw [Qa]
    unfold ZU
    rw [if_neg (by simp)])
  have e0 : (0 : Int) = ((0 : Nat) : Int) := rfl
  unfold Z1 Qk
  rw [e0, this, Option.bind_some]
  cases hf : (List.range' 0 s.length).findSome? (fun k => if g (s.getD k z) = true then some (k : Int) else none) with
  | none =>
    show (some (-1 : Int)).bind _ = _
    rw [Option.bind_some]
    have : s.any g = false := by
      rw [List.any_eq_false]
      intro x hx hg
      obtain ⟨i, hi⟩ := List.getElem?_of_mem hx
      have := ZeH hf i (List.getElem?_eq_some_iff.1 hi).1
      rw [show s.getD i z = x by rw [List.getD_eq_getElem?_getD, hi]; rfl, if_pos hg] at this
      cases this
    rw [this]; rfl
  | some e =>
    show (some (e : Int)).bind _ = _
    rw [Option.bind_some]
    obtain ⟨k, hk, he⟩ := List.exists_of_findSome?_eq_some hf
    simp only [List.mem_range'_1] at hk
    split at he
    · rename_i hg
      cases he
      obtain ⟨x, hx⟩ := ZG (xs := s) (k := k) (by omega)
      rw [show s.getD k z = x by rw [List.getD_eq_getElem?_getD, hx]; rfl] at hg
      have : s.any g = true := List.any_eq_true.2 ⟨x, List.mem_of_getElem? hx, hg⟩
      rw [this, show decide ((((0 : Nat)) : Int) ≤ (k : Int)) = true by simp]
    · cases he
theorem Zx {l : List api_Rest} {k : Nat} {x r : api_Rest} (hx : l[k]? = some x) : r ∈ l.take (k + 1) ↔ r ∈ l.take k ∨ r = x := by
  rw [List.take_succ, hx]; simp
theorem Zme {l : List api_Rest} (hl : l.length ≤ 1000000000) (hc : ∀ r ∈ l, 0 ≤ r.Copies ∧ r.Copies ≤ 1000000000) : loop (t2 (Xy l)) (0, 0) = some (sumC l) := by
  obtain ⟨r, e1, e2⟩ := Q1 (body := Xy l) (N := l.length) (fun k c => c = sumC (l.take k)) (fun r => r = sumC l) (fun k c hk hI => by
    obtain ⟨x, hx⟩ := ZG hk
    have b1 := Zfi (l := l.take (k + 1)) fun r hr => hc r (List.mem_of_mem_take hr)
    rw [List.length_take, Zee hx] at b1
    refine .inl ⟨_, ?_, (Zee hx).symm⟩
    unfold Xy
    rw [if_pos (by simp; omega), ZM hx, Option.bind_some, QG hk (by omega), hI, ZO (by omega) (by omega)]) (fun c hI => ⟨c, by unfold Xy; rw [if_neg (by simp)], by rw [hI, List.take_length]⟩) (s0 := (0 : Int)) (by simp [sumC])
  rw [e1, e2]
theorem ZoZ {body : Vector Int 64 → Int → Option ((Vector Int 64 × Int) ⊕ api_Rest)} (x : Vector Int 64) (mk : Vector Int 64 → api_Rest)
    (h1 : ∀ (v : Vector Int 64) (k : Nat), k < 64 → body v k = some (.inl (Qb v k (max (wd v k) (wd x k)), (k : Int) + 1))) (h2 : ∀ v, body v 64 = some (.inr (mk v))) (v0 : Vector Int 64) :
    ∃ V, loop (t2 body) (v0, 0) = some (mk V) ∧ ∀ i, i < 64 → wd V i = max (wd v0 i) (wd x i) := by
  obtain ⟨r, e1, V, e2, e3⟩ := Q1 (body := body) (N := 64) (fun k v => ∀ i, i < 64 → wd v i = if i < k then max (wd v0 i) (wd x i) else wd v0 i) (fun r => ∃ V, r = mk V ∧ ∀ i, i < 64 → wd V i = max (wd v0 i) (wd x i)) (fun k v hk hI => .inl ⟨_, h1 v k hk, fun i hi => by
    rw [Xl v hk]
    by_cases hki : k = i
    · subst hki; rw [if_pos rfl, if_pos (by omega), hI k hk, if_neg (by omega)]
    · rw [if_neg hki, hI i hi]
      by_cases hik : i < k
      · rw [if_pos hik, if_pos (by omega)]
      · rw [if_neg hik, if_neg (by omega)]⟩) (fun v hI => ⟨_, h2 v, v, rfl, fun i hi => by rw [hI i hi, if_pos hi]⟩) (s0 := v0) (fun i hi => by rw [if_neg (by omega)])
  exact ⟨V, by rw [e1, e2], e3⟩
theorem ZgO {l : List api_Rest} {k : Nat} {x : api_Rest} (hx : l[k]? = some x) (hs : x.Sound = true) {V0 V : Vector Int 64} (h0 : Top (l.take k) V0) (hV : ∀ i, i < 64 → wd V i = max (wd V0 i) (wd x.States i)) : Top (l.take (k + 1)) V := fun i hi => by
  obtain ⟨a1, a2, a3⟩ := h0 i hi
  rw [hV i hi]
  refine ⟨fun r hr => ?_, by omega, ?_⟩
  · rcases (Zx hx).1 hr.1 with h | rfl
    · have := a1 r ⟨h, hr.2⟩; omega
    · omega
  · by_cases hle : wd x.States i ≤ wd V0 i
    · rw [show max (wd V0 i) (wd x.States i) = wd V0 i by omega]
      rcases a3 with e | ⟨r, hr, e⟩
      · exact .inl e
      · exact .inr ⟨r, ⟨(Zx hx).2 (.inl hr.1), hr.2⟩, e⟩
    · rw [show max (wd V0 i) (wd x.States i) = wd x.States i by omega]
      exact .inr ⟨x, ⟨(Zx hx).2 (.inr rfl), hs⟩, rfl⟩
theorem Zke : Top [] (Vector.replicate 64 0) := fun i _ => ⟨fun r hr => (List.not_mem_nil hr.1).elim, by rw [JY]; exact Int.le_refl 0, Or.inl (JY i)⟩
theorem Zjk {l : List api_Rest} {k : Nat} {x : api_Rest} (hx : l[k]? = some x) (hs : x.Sound = false) {V : Vector Int 64} (h0 : Top (l.take k) V) : Top (l.take (k + 1)) V := fun i hi => by
  obtain ⟨a1, a2, a3⟩ := h0 i hi
  refine ⟨fun r hr => ?_, a2, ?_⟩
  · rcases (Zx hx).1 hr.1 with h | rfl
    · exact a1 r ⟨h, hr.2⟩
    · have := hr.2; rw [hs] at this; cases this
  · rcases a3 with e | ⟨r, hr, e⟩
    · exact .inl e
    · exact .inr ⟨r, ⟨(Zx hx).2 (.inl hr.1), hr.2⟩, e⟩
theorem Ze2 {l : List api_Rest} {k : Nat} {s : api_Rest} (h : Snd (l.take k) s) : Snd l s := ⟨List.mem_of_mem_take h.1, h.2⟩
def Zn6 (n C : Int) (l : List api_Rest) (k : Nat) (o : api_Rest) : Prop :=
  ∃ F V, Top (l.take k) V ∧ (((∀ s, ¬ Snd (l.take k) s) ∧ o = ⟨n, Vector.replicate 64 0, Vector.replicate 64 0, false, C, false⟩) ∨
    ((∃ s, Snd (l.take k) s ∧ s.Frame = F) ∧ (∀ s, Snd (l.take k) s → s.Frame = F) ∧ o = ⟨n, F, V, true, C, false⟩))
def SQ (n C : Int) (l : List api_Rest) : (Bool × api_Rest) ⊕ api_Rest → Prop
  | .inl p => p.1 = false ∧ p.2.Number = n ∧ p.2.Copies = C ∧ ∃ r s, Snd l r ∧ Snd l s ∧ r.Frame ≠ s.Frame
  | .inr o => Zn6 n C l l.length o
theorem ZkK {l : List api_Rest} (hl : l.length ≤ 1000000000) (n C : Int) : ∃ b o, Jv ⟨n, Vector.replicate 64 0, Vector.replicate 64 0, false, C, false⟩ l = some (b, o) ∧ o.Number = n ∧ o.Copies = C ∧
    (b = false → ∃ r s, Snd l r ∧ Snd l s ∧ r.Frame ≠ s.Frame) ∧ (b = true → Zn6 n C l l.length o) := by
  obtain ⟨r, e1, e2⟩ := Q1 (body := XH l) (N := l.length) (Zn6 n C l)
    (SQ n C l) (fun k o hk hI => by
    obtain ⟨x, hx⟩ := ZG hk
    obtain ⟨F, V, ht, hI⟩ := hI
    unfold XH
    rw [if_pos (by simp; omega), ZM hx, Option.bind_some, QG hk (by omega)]
    cases hs : x.Sound with
    | false =>
      left
      refine ⟨o, by simp, F, V, Zjk hx hs ht, ?_⟩
      have hsn : ∀ s, Snd (l.take (k + 1)) s ↔ Snd (l.take k) s := fun s => ⟨fun h => ⟨(Zx hx).1 h.1 |>.elim id fun e => (by have := h.2; rw [e, hs] at this; cases this), h.2⟩, fun h => ⟨(Zx hx).2 (.inl h.1), h.2⟩⟩
      simp only [hsn]
      exact hI
    | true =>
      have hxs : Snd (l.take (k + 1)) x := ⟨(Zx hx).2 (.inr rfl), hs⟩
      have hmax : ∀ o : api_Rest, ∃ W, loop (t2 (Qt o x)) (o.States, 0) = some (api_Rest.mk o.Number x.Frame W true o.Copies o.Conflict) ∧ ∀ i, i < 64 → wd W i = max (wd o.States i) (wd x.States i) := fun o =>
        ZoZ (body := Qt o x) x.States (fun W => api_Rest.mk o.Number x.Frame W true o.Copies o.Conflict) (fun v k hk => by
          unfold Qt
          rw [if_pos (by simp; omega), ZW _ hk, Option.bind_some, ZW _ hk, Option.bind_some, Option.bind_some, QG hk (by omega)]) (fun v => by unfold Qt; rw [if_neg (by simp)]) _
      obtain ⟨W, w1, w2⟩ := hmax o
      rcases hI with ⟨h1, rfl⟩ | ⟨⟨s0, h0, h0'⟩, h1, rfl⟩
      · left
        refine ⟨_, by simp [w1], x.Frame, W, ZgO hx hs ht (fun i hi => ?_), .inr ⟨⟨x, hxs, rfl⟩, fun s hs' => ?_, rfl⟩⟩
        · rw [w2 i hi]
          have := ht i hi
          rcases this.2.2 with e | ⟨r, hr, _⟩
          · rw [e, JY]
          · exact (h1 r hr).elim
        · rcases (Zx hx).1 hs'.1 with h | rfl
          · exact (h1 s ⟨h, hs'.2⟩).elim
          · rfl
      · by_cases hf : F = x.Frame
        · left
          subst hf
          refine ⟨_, by simp [w1], x.Frame, W, ZgO hx hs ht w2, .inr ⟨⟨x, hxs, rfl⟩, fun s hs' => ?_, rfl⟩⟩
          rcases (Zx hx).1 hs'.1 with h | rfl
          · exact h1 s ⟨h, hs'.2⟩
          · rfl
        · right
          exact ⟨.inl (false, ⟨n, F, V, true, C, false⟩), by simp [hf], rfl, rfl, rfl, s0, x, Ze2 h0, Ze2 hxs, by rw [h0']; exact hf⟩)
    (fun o hI => ⟨.inr o, by unfold XH; rw [if_neg (by simp)], hI⟩) (s0 := ⟨n, Vector.replicate 64 0, Vector.replicate 64 0, false, C, false⟩)
    ⟨Vector.replicate 64 0, Vector.replicate 64 0, by rw [List.take_zero]; exact Zke, .inl ⟨fun s h => (List.not_mem_nil (by rw [List.take_zero] at h; exact h.1)).elim, rfl⟩⟩
  unfold Jv
  rw [e1, Option.bind_some]
  cases r with
  | inl p =>
    obtain ⟨b, o⟩ := p
    obtain ⟨rfl, h2, h3, h4⟩ := e2
    exact ⟨false, o, rfl, h2, h3, fun _ => h4, fun h => by cases h⟩
  | inr o =>
    refine ⟨true, o, rfl, ?_, ?_, (fun h => by cases h), fun _ => e2⟩
    · obtain ⟨F, V, _, ⟨_, rfl⟩ | ⟨_, _, rfl⟩⟩ := e2 <;> rfl
    · obtain ⟨F, V, _, ⟨_, rfl⟩ | ⟨_, _, rfl⟩⟩ := e2 <;> rfl
end Go.Vx

namespace Go.Vx
open Go Go.RowKit
def ZiK (l : List api_Rest) (i k : Nat) (f s : Int) (d : Bool) : Prop :=
  ((∀ r ∈ l.take k, wd r.States i = 0) ∧ f = 0 ∧ s = 0 ∧ d = false) ∨
  ((∃ r ∈ l.take k, wd r.States i ≠ 0 ∧ wd r.Frame i = f) ∧ s = 1 ∧ (d = false ↔ ∀ r ∈ l.take k, wd r.States i ≠ 0 → wd r.Frame i = f))
theorem Zk0 {l : List api_Rest} {i k : Nat} {f s : Int} {d : Bool} {x : api_Rest} (hx : l[k]? = some x) (h0 : wd x.States i = 0) (h : ZiK l i k f s d) : ZiK l i (k + 1) f s d := by
  rcases h with ⟨h1, h2⟩ | ⟨⟨r, hr, h1⟩, h2, h3⟩
  · exact .inl ⟨fun r hr => ((Zx hx).1 hr).elim (h1 r) fun e => by rw [e]; exact h0, h2⟩
  · refine .inr ⟨⟨r, (Zx hx).2 (.inl hr), h1⟩, h2, h3.trans ⟨fun h r hr hn => ?_, fun h r hr hn => h r ((Zx hx).2 (.inl hr)) hn⟩⟩
    rcases (Zx hx).1 hr with h' | rfl
    · exact h r h' hn
    · exact (hn h0).elim
theorem Zk2 {l : List api_Rest} {i k : Nat} {f s : Int} {d : Bool} {x : api_Rest} (hx : l[k]? = some x) (h0 : wd x.States i ≠ 0) (h : ZiK l i k f s d) :
    ZiK l i (k + 1) (wd x.Frame i) 1 (d || ((!decide (s = 0)) && (!decide (f = wd x.Frame i)))) := by
  right
  refine ⟨⟨x, (Zx hx).2 (.inr rfl), h0, rfl⟩, rfl, ?_⟩
  rcases h with ⟨h1, rfl, rfl, rfl⟩ | ⟨⟨r0, hr0, hn0, e0⟩, rfl, h3⟩
  · simp only [Bool.false_or, decide_true, Bool.not_true, Bool.false_and, true_iff]
    intro r hr hn
    rcases (Zx hx).1 hr with h' | rfl
    · exact (hn (h1 r h')).elim
    · rfl
  · simp only [show decide ((1 : Int) = 0) = false from rfl, Bool.not_false, Bool.true_and, Bool.or_eq_false_iff, Bool.not_eq_false', decide_eq_true_eq]
    constructor
    · rintro ⟨hd, e⟩ r hr hn
      rcases (Zx hx).1 hr with h' | rfl
      · rw [h3.1 hd r h' hn, e]
      · rfl
    · intro h
      have e1 := h r0 ((Zx hx).2 (.inl hr0)) hn0
      refine ⟨h3.2 fun r hr hn => ?_, by rw [← e0, e1]⟩
      rw [h r ((Zx hx).2 (.inl hr)) hn, ← e0, e1]
theorem ZmE {l : List api_Rest} {i : Nat} {f s : Int} {d : Bool} (h : ZiK l i l.length f s d) : (Agr l i f ∧ s = 1 ∧ d = false) ∨ ((∀ w, ¬ Agr l i w) ∧ (d = true ∨ (f = 0 ∧ s = 0 ∧ d = false))) := by
  unfold ZiK at h
  rw [List.take_length] at h
  rcases h with ⟨h1, h2⟩ | ⟨⟨r, hr, h1, h1'⟩, h2, h3⟩
  · exact .inr ⟨fun w ⟨⟨r, hr, hn, _⟩, _⟩ => hn (h1 r hr), .inr h2⟩
  · cases d with
    | false => exact .inl ⟨⟨⟨r, hr, h1, h1'⟩, h3.1 rfl⟩, h2, rfl⟩
    | true =>
      refine .inr ⟨fun w ⟨_, hw⟩ => ?_, .inl rfl⟩
      have : (true : Bool) = false := h3.2 fun r' hr' hn => by rw [hw r' hr' hn, ← h1', hw r hr h1]
      cases this
theorem ZjH {l : List api_Rest} (hl : l.length ≤ 1000000000) {n C : Int} {F S : Vector Int 64} {i : Nat} (hi : i < 64) (hF : wd F i = 0) (hS : wd S i = 0) :
    ∃ F' S' d, loop (t3 (Q8 l (i : Int))) (⟨n, F, S, false, C, false⟩, false, 0) = some (⟨n, F', S', false, C, false⟩, d) ∧ (∀ j, j ≠ i → wd F' j = wd F j ∧ wd S' j = wd S j) ∧ ZiK l i l.length (wd F' i) (wd S' i) d := by
  obtain ⟨r, e1, F', S', d, rfl, e2, e3⟩ := ZbC (body := Q8 l (i : Int)) (N := l.length)
    (fun k o d => ∃ F' S', o = ⟨n, F', S', false, C, false⟩ ∧ (∀ j, j ≠ i → wd F' j = wd F j ∧ wd S' j = wd S j) ∧ ZiK l i k (wd F' i) (wd S' i) d)
    (fun r => ∃ F' S' d, r = (⟨n, F', S', false, C, false⟩, d) ∧ (∀ j, j ≠ i → wd F' j = wd F j ∧ wd S' j = wd S j) ∧ ZiK l i l.length (wd F' i) (wd S' i) d)
    (by
      rintro k o d hk ⟨F', S', rfl, h1, h2⟩
      obtain ⟨x, hx⟩ := ZG hk
      left
      unfold Q8
      rw [if_pos (by simp; omega), ZM hx, Option.bind_some, ZW _ hi, Option.bind_some, QG hk (by omega)]
      by_cases h0 : wd x.States i = 0
      · rw [if_pos (by simpa using h0)]
        exact ⟨_, _, rfl, F', S', rfl, h1, Zk0 hx h0 h2⟩
      · rw [if_neg (by simpa using h0)]
        have g : ∀ (b : Bool) (v : Vector Int 64), gd b 0 (ZA v (i : Int)) = some (if b = true then wd v i else 0) := fun b v => by
          cases b
          · rfl
          · rw [ZbE, ZW _ hi]; rfl
        rw [g, Option.bind_some, g, Option.bind_some, g, Option.bind_some, ZW _ hi, Option.bind_some, ZW _ hi, Option.bind_some, ZW _ hi, Option.bind_some]
        refine ⟨_, _, rfl, _, _, rfl, fun j hj => ?_, ?_⟩
        · rw [Xl _ hi, Xl _ hi, if_neg (Ne.symm hj), if_neg (Ne.symm hj)]; exact h1 j hj
        · rw [Xl _ hi, Xl _ hi, if_pos rfl, if_pos rfl]
          have := Zk2 hx h0 h2
          cases d with
          | true => simpa using this
          | false =>
            by_cases hs : wd S' i = 0
            · simpa [hs] using this
            · simpa [hs] using this)
    (by
      rintro o d ⟨F', S', rfl, h1, h2⟩
      exact ⟨_, by unfold Q8; rw [if_neg (by simp)], F', S', d, rfl, h1, h2⟩)
    (a0 := ⟨n, F, S, false, C, false⟩) (b0 := false) ⟨F, S, rfl, fun j _ => ⟨rfl, rfl⟩, .inl ⟨fun r hr => by rw [List.take_zero] at hr; exact (List.not_mem_nil hr).elim, hF, hS, rfl⟩⟩
  exact ⟨F', S', d, e1, e2, e3⟩
theorem ZkI {l : List api_Rest} (hl : l.length ≤ 1000000000) (n C : Int) : ∃ F S, Zas ⟨n, Vector.replicate 64 0, Vector.replicate 64 0, false, C, false⟩ l = some ⟨n, F, S, false, C, false⟩ ∧ Parts4 l F S := by
  obtain ⟨r, e1, F, S, rfl, e2⟩ := Q1 (body := XD l) (N := 64)
    (fun k o => ∃ F S, o = ⟨n, F, S, false, C, false⟩ ∧ (∀ j, j < k → (Agr l j (wd F j) ∧ wd S j = 1) ∨ ((∀ w, ¬ Agr l j w) ∧ wd F j = 0 ∧ wd S j = 0)) ∧ ∀ j, k ≤ j → wd F j = 0 ∧ wd S j = 0)
    (fun r => ∃ F S, r = ⟨n, F, S, false, C, false⟩ ∧ Parts4 l F S)
    (by
      rintro k o hk ⟨F, S, rfl, h1, h2⟩
      left
      obtain ⟨F', S', d, g1, g2, g3⟩ := ZjH hl (n := n) (C := C) hk (h2 k (Nat.le_refl _)).1 (h2 k (Nat.le_refl _)).2
      unfold XD
      rw [if_pos (by simp; omega), g1, Option.bind_some, Zbj, QG hk (by omega)]
      have hag := ZmE g3
      cases d with
      | true =>
        rw [if_pos rfl, ZW _ hk, Option.bind_some, ZW _ hk, Option.bind_some]
        refine ⟨_, rfl, _, _, rfl, fun j hj => ?_, fun j hj => ?_⟩
        · rw [Xl _ hk, Xl _ hk]
          by_cases hjk : k = j
          · subst hjk
            rw [if_pos rfl, if_pos rfl]
            rcases hag with ⟨_, _, h⟩ | ⟨h, _⟩
            · cases h
            · exact .inr ⟨h, rfl, rfl⟩
          · rw [if_neg hjk, if_neg hjk, (g2 j (Ne.symm hjk)).1, (g2 j (Ne.symm hjk)).2]; exact h1 j (by omega)
        · rw [Xl _ hk, Xl _ hk, if_neg (by omega), if_neg (by omega), (g2 j (by omega)).1, (g2 j (by omega)).2]; exact h2 j (by omega)
      | false =>
        rw [if_neg (by simp)]
        refine ⟨_, rfl, _, _, rfl, fun j hj => ?_, fun j hj => ?_⟩
        · by_cases hjk : k = j
          · subst hjk
            rcases hag with ⟨h, h', _⟩ | ⟨h, h' | ⟨h', h'', _⟩⟩
            · exact .inl ⟨h, h'⟩
            · cases h'
            · exact .inr ⟨h, h', h''⟩
          · rw [(g2 j (Ne.symm hjk)).1, (g2 j (Ne.symm hjk)).2]; exact h1 j (by omega)
        · rw [(g2 j (by omega)).1, (g2 j (by omega)).2]; exact h2 j (by omega))
    (by
      rintro o ⟨F, S, rfl, h1, _⟩
      exact ⟨_, by unfold XD; rw [if_neg (by simp)], F, S, rfl, h1⟩)
    (s0 := ⟨n, Vector.replicate 64 0, Vector.replicate 64 0, false, C, false⟩) ⟨_, _, rfl, fun j hj => by omega, fun j _ => ⟨JY j, JY j⟩⟩
  exact ⟨F, S, e1, e2⟩
theorem Zd6 {n : Int} {l : List api_Rest} (h : MOK n l) {F S : Vector Int 64} (hp : Parts4 l F S) (i : Nat) : 0 ≤ wd F i ∧ wd F i ≤ 4095 := by
  by_cases hi : i < 64
  · rcases hp i hi with ⟨⟨⟨r, hr, _, e⟩, _⟩, _⟩ | ⟨_, e, _⟩
    · rw [← e]; exact h.nar r hr i
    · omega
  · rw [Zic _ (by omega)]; omega
theorem Zok (v : Vector Int 64) (c : Int) : (v.toList.any fun s => decide (s = c) || decide (s = c)) = true ↔ ∃ i, i < 64 ∧ wd v i = c := by
  rw [ZjC v (fun s => decide (s = c) || decide (s = c))]; simp
theorem Zig (v : Vector Int 64) (c : Int) : (!v.toList.any fun s => !decide (s = c)) = true ↔ ∀ i, i < 64 → wd v i = c := by
  have := ZjC v (fun s => !decide (s = c))
  cases hb : v.toList.any fun s => !decide (s = c) with
  | true =>
    obtain ⟨i, hi, h⟩ := this.1 hb
    simp at h
    simp
    exact ⟨i, hi, h⟩
  | false =>
    simp only [Bool.not_false, true_iff]
    intro i hi
    exact Classical.byContradiction fun hc => by
      have := this.2 ⟨i, hi, by simpa using hc⟩
      rw [hb] at this; cases this
theorem Zm9 {n : Int} {l : List api_Rest} (h : MOK n l) : ∃ o, X2 l = some o ∧ MG n l o := by
  obtain ⟨x, hx⟩ := ZG (xs := l) (k := 0) (List.length_pos_iff.2 h.ne)
  have hxn : x.Number = n := h.num x (List.mem_of_getElem? hx)
  have hb := Zfi h.cop
  have hlen := h.len
  have hx0 : idx l 0 = some x := ZM (k := 0) hx
  unfold X2 Zar
  rw [hx0, Option.bind_some, Zme h.len h.cop, Option.bind_some, Qa, Zk9 l h.len (fun z => z.Conflict), Option.bind_some, hxn]
  obtain ⟨b, o, e1, e2, e3, e4, e5⟩ := ZkK h.len n (sumC l)
  rw [e1, Option.bind_some]
  simp only
  cases hc : (l.any fun z => z.Conflict) with
  | true =>
    rw [if_pos (by simp)]
    obtain ⟨r, hr, hrc⟩ := List.any_eq_true.1 hc
    exact ⟨_, rfl, by rw [e2, e3]; exact .clash (.inl ⟨r, hr, hrc⟩)⟩
  | false =>
    cases b with
    | false =>
      rw [if_pos (by simp)]
      exact ⟨_, rfl, by rw [e2, e3]; exact .clash (.inr (e4 rfl))⟩
    | true =>
      rw [if_neg (by simp)]
      obtain ⟨F, V, ht, hI⟩ := e5 rfl
      rw [List.take_length] at ht hI
      have hnc : ¬ ∃ r ∈ l, r.Conflict = true := fun ⟨r, hr, hrc⟩ => by
        have := List.any_eq_true.2 ⟨r, hr, hrc⟩
        rw [hc] at this; cases this
      rcases hI with ⟨h1, rfl⟩ | ⟨⟨s, hs, hsF⟩, h1, rfl⟩
      · have hcl : ¬ Clash l := fun hcl => hcl.elim hnc fun ⟨r, s, hr, _⟩ => h1 r hr
        rw [if_pos (by simp)]
        obtain ⟨F, S, p1, p2⟩ := ZkI h.len n (sumC l)
        have hN := Zd6 h p2
        rw [p1, Option.bind_some, ZnW, Option.bind_some]
        have hso : Xn F n = some (Zj8 F n) := ZhM (fun i => ⟨(hN i).1, by have := (hN i).2; omega⟩) (hN 1).2 (hN 2).2 n
        simp only
        have hpo : MG n l (prtOut n (sumC l) F S) := .parts hcl h1 p2
        have hany := Zok S 0
        cases ha : (S.toList.any fun s => decide (s = 0) || decide (s = 0)) with
        | true =>
          obtain ⟨i, hi, h0⟩ := hany.1 ha
          have hne : ¬ ((∀ i, i < 64 → wd S i = 1) ∧ Zj8 F n = true) := fun hh => by have := hh.1 i hi; omega
          unfold prtOut at hpo
          rw [if_neg hne] at hpo
          refine ⟨_, ?_, hpo⟩
          simp
        | false =>
          have hall : ∀ i, i < 64 → wd S i = 1 := fun i hi => by
            rcases p2 i hi with ⟨_, e⟩ | ⟨_, _, e⟩
            · exact e
            · have := hany.2 ⟨i, hi, e⟩; rw [ha] at this; cases this
          simp only [Bool.not_false, show ((true : Bool) == true) = true from rfl, ZbE]
          rw [hso, Option.bind_some]
          cases hsb : Zj8 F n with
          | true =>
            rw [if_pos (by simp), Zg1, Option.bind_some, Option.bind_some, Qa]
            simp only [show ((true : Bool) == true) = true from rfl, ZbE]
            rw [Zln, Option.bind_some]
            have : (!((Vector.replicate 64 (3 : Int)).toList.any fun s => !decide (s = 3))) = true := (Zig _ 3).2 fun i hi => Zj6 3 hi
            simp only at this ⊢
            rw [this, if_pos (by simp)]
            unfold prtOut at hpo
            rw [if_pos ⟨hall, hsb⟩] at hpo
            exact ⟨_, rfl, hpo⟩
          | false =>
            rw [if_neg (by simp), Option.bind_some, Qa]
            unfold prtOut at hpo
            rw [if_neg (fun hh => by rw [hsb] at hh; cases hh.2)] at hpo
            exact ⟨_, by simp, hpo⟩
      · have hcl : ¬ Clash l := fun hcl => hcl.elim hnc fun ⟨r, s, hr, hs, hne⟩ => hne (by rw [h1 r hr, h1 s hs])
        rw [if_neg (by simp), Option.bind_some, Qa]
        have hmo : MG n l (sndOut n (sumC l) s.Frame V) := .sound hcl hs ht
        rw [hsF] at hmo
        simp only [show ((true : Bool) == true) = true from rfl, ZbE]
        rw [Zln, Option.bind_some]
        have hall := Zig V 3
        unfold sndOut at hmo
        cases ha : (!V.toList.any fun s => !decide (s = 3)) with
        | true =>
          rw [if_pos (hall.1 ha)] at hmo
          exact ⟨_, by simp, hmo⟩
        | false =>
          rw [if_neg (fun hh => by rw [hall.2 hh] at ha; cases ha)] at hmo
          exact ⟨_, by simp, hmo⟩
end Go.Vx

namespace Go.Vx
open Go Go.RowKit
theorem Zlo {l : List api_Rest} (hl : l.length ≤ 1000000000) {i : Nat} (hi : i < 64) : ∃ w b, ZdD l (i : Int) = some (w, b) ∧ ((b = true ∧ Agr l i w) ∨ (b = false ∧ ∀ w, ¬ Agr l i w)) := by
  obtain ⟨r, e1, e2⟩ := ZbC (body := ZaW l (i : Int)) (N := l.length)
    (fun k w b => ((∀ r ∈ l.take k, wd r.States i = 0) ∧ b = false) ∨ (b = true ∧ (∃ r ∈ l.take k, wd r.States i ≠ 0 ∧ wd r.Frame i = w) ∧ ∀ r ∈ l.take k, wd r.States i ≠ 0 → wd r.Frame i = w))
    (fun r => match r with | .inl p => p.2 = false ∧ ∀ w, ¬ Agr l i w | .inr p => (p.2 = true ∧ Agr l i p.1) ∨ (p.2 = false ∧ ∀ w, ¬ Agr l i w))
    (by
      intro k w b hk hI
      obtain ⟨x, hx⟩ := ZG hk
      unfold ZaW
      rw [if_pos (by simp; omega), ZM hx, Option.bind_some, ZW _ hi, Option.bind_some, QG hk (by omega)]
      by_cases h0 : wd x.States i = 0
      · rw [if_pos (by simpa using h0)]
        left
        refine ⟨_, _, rfl, ?_⟩
        rcases hI with ⟨h1, h2⟩ | ⟨h1, ⟨r, hr, h2⟩, h3⟩
        · exact .inl ⟨fun r hr => ((Zx hx).1 hr).elim (h1 r) fun e => by rw [e]; exact h0, h2⟩
        · refine .inr ⟨h1, ⟨r, (Zx hx).2 (.inl hr), h2⟩, fun r hr hn => ?_⟩
          rcases (Zx hx).1 hr with h | rfl
          · exact h3 r h hn
          · exact (hn h0).elim
      · rw [if_neg (by simpa using h0)]
        have hxm : x ∈ l.take (k + 1) := (Zx hx).2 (.inr rfl)
        rcases hI with ⟨h1, rfl⟩ | ⟨rfl, ⟨r, hr, hn, h2⟩, h3⟩
        · left
          rw [show ((false : Bool) == true) = false from rfl, Zm5, Option.bind_some, if_neg (by simp), ZW _ hi, Option.bind_some]
          refine ⟨_, _, rfl, .inr ⟨rfl, ⟨x, hxm, h0, rfl⟩, fun r hr hn => ?_⟩⟩
          rcases (Zx hx).1 hr with h | rfl
          · exact (hn (h1 r h)).elim
          · rfl
        · rw [Zbg, ZW _ hi, Option.bind_some]
          by_cases he : w = wd x.Frame i
          · left
            rw [if_neg (by simp [he]), Option.bind_some]
            refine ⟨_, _, rfl, .inr ⟨rfl, ⟨x, hxm, h0, rfl⟩, fun r' hr' hn' => ?_⟩⟩
            rcases (Zx hx).1 hr' with h | rfl
            · rw [h3 r' h hn', he]
            · rfl
          · right
            rw [if_pos (by simp [he])]
            refine ⟨_, rfl, rfl, fun v ⟨_, hv⟩ => he ?_⟩
            rw [← h2, hv r (List.mem_of_mem_take hr) hn, hv x (List.mem_of_mem_take hxm) h0])
    (by
      intro w b hI
      rw [List.take_length] at hI
      unfold ZaW
      rw [if_neg (by simp)]
      refine ⟨_, rfl, ?_⟩
      rcases hI with ⟨h1, rfl⟩ | ⟨rfl, h2⟩
      · exact .inr ⟨rfl, fun w ⟨⟨r, hr, hn, _⟩, _⟩ => hn (h1 r hr)⟩
      · exact .inl ⟨rfl, h2⟩)
    (a0 := (0 : Int)) (b0 := false) (.inl ⟨fun r hr => by rw [List.take_zero] at hr; exact (List.not_mem_nil hr).elim, rfl⟩)
  unfold ZdD
  rw [e1, Option.bind_some]
  cases r with
  | inl p => exact ⟨p.1, p.2, rfl, .inr e2⟩
  | inr p => exact ⟨p.1, p.2, rfl, e2⟩
def ZnC (n : Int) (l : List api_Rest) (k : Nat) (o : api_Rest) : Prop :=
  ∃ F V b, Top (l.take k) V ∧ o.Number = n ∧ o.Copies = sumC (l.take k) ∧ o.Conflict = b ∧ (b = true → Clash l) ∧
    (((∀ s, ¬ Snd (l.take k) s) ∧ o.Sound = false ∧ o.Frame = Vector.replicate 64 0 ∧ o.States = Vector.replicate 64 0 ∧ (b = false → ∀ r ∈ l.take k, r.Conflict = false)) ∨
     (o.Sound = true ∧ o.Frame = F ∧ o.States = V ∧ (∃ s, Snd (l.take k) s ∧ s.Frame = F) ∧ (b = false → (∀ s, Snd (l.take k) s → s.Frame = F) ∧ ∀ r ∈ l.take k, r.Conflict = false)))
theorem Zjq {n : Int} {l : List api_Rest} (h : MOK n l) : ∃ o, loop (t2 (Zah l)) (⟨n, Vector.replicate 64 0, Vector.replicate 64 0, false, 0, false⟩, 0) = some o ∧ ZnC n l l.length o := by
  have hlen := h.len
  refine Q1 (body := Zah l) (N := l.length) (ZnC n l) (ZnC n l l.length) (fun k o hk hI => ?_) (fun o hI => ⟨o, by unfold Zah; rw [if_neg (by simp)], hI⟩) ?_
  · obtain ⟨x, hx⟩ := ZG hk
    have hxl : x ∈ l := List.mem_of_getElem? hx
    have b1 := Zfi (l := l.take (k + 1)) fun r hr => h.cop r (List.mem_of_mem_take hr)
    rw [List.length_take, Zee hx] at b1
    obtain ⟨F, V, b, ht, hn, hC, hb, hcl, hI⟩ := hI
    obtain ⟨oN, oF, oS, oD, oC, oX⟩ := o
    simp only at hn hC hb hI
    subst hn hb
    have hCx : i64 (oC + x.Copies) = sumC (l.take (k + 1)) := by rw [hC, Zee hx, ZO (by omega) (by omega)]
    left
    unfold Zah
    rw [if_pos (by simp; omega), ZM hx, Option.bind_some, QG hk (by omega)]
    simp only [hCx]
    cases hs : x.Sound with
    | false =>
      refine ⟨_, by simp; rfl, F, V, oX || x.Conflict, Zjk hx hs ht, rfl, rfl, rfl, fun hh => ?_, ?_⟩
      · rcases Bool.or_eq_true_iff.1 hh with h1 | h1
        · exact hcl h1
        · exact .inl ⟨x, hxl, h1⟩
      · have hsn : ∀ s, Snd (l.take (k + 1)) s ↔ Snd (l.take k) s := fun s => ⟨fun h => ⟨(Zx hx).1 h.1 |>.elim id fun e => (by have := h.2; rw [e, hs] at this; cases this), h.2⟩, fun h => ⟨(Zx hx).2 (.inl h.1), h.2⟩⟩
        have hcf : (oX || x.Conflict) = false → (oX = false → ∀ r ∈ l.take k, r.Conflict = false) → ∀ r ∈ l.take (k + 1), r.Conflict = false := fun h1 h2 r hr => by
          simp only [Bool.or_eq_false_iff] at h1
          rcases (Zx hx).1 hr with h' | rfl
          · exact h2 h1.1 r h'
          · exact h1.2
        simp only [hsn]
        rcases hI with ⟨h1, h2, h3, h4, h5⟩ | ⟨h1, h2, h3, h4, h5⟩
        · exact .inl ⟨h1, h2, h3, h4, fun hh => hcf hh h5⟩
        · exact .inr ⟨h1, h2, h3, h4, fun hh => ⟨(h5 (by simp only [Bool.or_eq_false_iff] at hh; exact hh.1)).1, hcf hh fun h6 => (h5 h6).2⟩⟩
    | true =>
      have hxs : Snd (l.take (k + 1)) x := ⟨(Zx hx).2 (.inr rfl), hs⟩
      have hmax : ∀ cf : Bool, ∃ W, loop (t2 (Jy ⟨oN, oF, oS, oD, oC, oX⟩ x cf)) (oS, 0) = some (api_Rest.mk oN x.Frame W true (sumC (l.take (k + 1))) cf) ∧ ∀ i, i < 64 → wd W i = max (wd oS i) (wd x.States i) := fun cf =>
        ZoZ (body := Jy ⟨oN, oF, oS, oD, oC, oX⟩ x cf) x.States (fun W => api_Rest.mk oN x.Frame W true (sumC (l.take (k + 1))) cf) (fun v k hk => by
          unfold Jy
          rw [if_pos (by simp; omega), ZW _ hk, Option.bind_some, ZW _ hk, Option.bind_some, Option.bind_some, QG hk (by omega)]) (fun v => by unfold Jy; rw [if_neg (by simp)]; simp only [hCx]) _
      have fin : ∀ cf : Bool, (cf = true → Clash l) → (cf = false → oX = false ∧ x.Conflict = false ∧ (oD = true → oF = x.Frame)) → ∃ W, loop (t2 (Jy ⟨oN, oF, oS, oD, oC, oX⟩ x cf)) (oS, 0) = some (api_Rest.mk oN x.Frame W true (sumC (l.take (k + 1))) cf) ∧ ZnC oN l (k + 1) (api_Rest.mk oN x.Frame W true (sumC (l.take (k + 1))) cf) := fun cf hc1 hc2 => by
        obtain ⟨W, w1, w2⟩ := hmax cf
        refine ⟨W, w1, x.Frame, W, cf, ZgO hx hs ht (fun i hi => ?_), rfl, rfl, rfl, hc1, .inr ⟨rfl, rfl, rfl, ⟨x, hxs, rfl⟩, fun hcf => ?_⟩⟩
        · rw [w2 i hi]
          rcases hI with ⟨h1, h2, h3, h4, h5⟩ | ⟨h1, h2, h3, h4, h5⟩
          · have := ht i hi
            rcases this.2.2 with e | ⟨r, hr, _⟩
            · rw [e, h4, JY]
            · exact (h1 r hr).elim
          · rw [h3]
        · obtain ⟨g1, g2, g3⟩ := hc2 hcf
          rcases hI with ⟨h1, h2, h3, h4, h5⟩ | ⟨h1, h2, h3, h4, h5⟩
          · refine ⟨fun s hs' => ?_, fun r hr => ?_⟩
            · rcases (Zx hx).1 hs'.1 with h | rfl
              · exact (h1 s ⟨h, hs'.2⟩).elim
              · rfl
            · rcases (Zx hx).1 hr with h' | rfl
              · exact h5 g1 r h'
              · exact g2
          · refine ⟨fun s hs' => ?_, fun r hr => ?_⟩
            · rcases (Zx hx).1 hs'.1 with h | rfl
              · rw [(h5 g1).1 s ⟨h, hs'.2⟩, ← h2, g3 h1]
              · rfl
            · rcases (Zx hx).1 hr with h' | rfl
              · exact (h5 g1).2 r h'
              · exact g2
      by_cases hne : (oD && !decide (oF = x.Frame)) = true
      · simp only [Bool.and_eq_true, Bool.not_eq_true', decide_eq_false_iff_not] at hne
        have hcl' : Clash l := by
          rcases hI with ⟨h1, h2, _⟩ | ⟨h1, h2, h3, ⟨s, hs1, hs2⟩, h5⟩
          · rw [h2] at hne; cases hne.1
          · exact .inr ⟨s, x, Ze2 hs1, Ze2 hxs, by rw [hs2, ← h2]; exact hne.2⟩
        obtain ⟨W, w1, w2⟩ := fin true (fun _ => hcl') (fun hh => by cases hh)
        obtain ⟨hd, hf⟩ := hne
        subst hd
        refine ⟨_, ?_, w2⟩
        simp only [Bool.not_true, Bool.false_eq_true, if_false]
        rw [if_pos (by simp [hf]), Option.bind_some, Qa, w1, Option.bind_some]
        rfl
      · obtain ⟨W, w1, w2⟩ := fin (oX || x.Conflict) (fun hh => by
          rcases Bool.or_eq_true_iff.1 hh with h1 | h1
          · exact hcl h1
          · exact .inl ⟨x, hxl, h1⟩) (fun hh => by
          simp only [Bool.or_eq_false_iff] at hh
          refine ⟨hh.1, hh.2, fun hd => ?_⟩
          subst hd
          simpa using hne)
        refine ⟨_, ?_, w2⟩
        simp only [Bool.not_true, Bool.false_eq_true, if_false]
        rw [if_neg hne, Option.bind_some, Qa, w1, Option.bind_some]
        rfl
  · exact ⟨Vector.replicate 64 0, Vector.replicate 64 0, false, by rw [List.take_zero]; exact Zke, rfl, by rw [List.take_zero]; rfl, rfl, (fun hh => by cases hh), .inl ⟨fun s hs => (List.not_mem_nil (by rw [List.take_zero] at hs; exact hs.1)).elim, rfl, rfl, rfl, fun _ r hr => by rw [List.take_zero] at hr; exact (List.not_mem_nil hr).elim⟩⟩
end Go.Vx

namespace Go.Vx
open Go Go.RowKit
theorem ZkV (r : api_Rest) : Zdb r = some (!r.States.toList.any fun s => !decide (s = 3)) := by
  have h := ZfE (body := t1 (Jt r)) (fun k => (k : Int)) (fun k => if wd r.States k = 3 then none else some false) (fun e => (.inl e : Bool ⊕ Unit)) (.inr ()) (b := 64) (fun k hk => by
    have eb : Jt r (k : Int) = if wd r.States k = 3 then some (.inl ((k : Int) + 1)) else some (.inr (.inl false)) := by
      unfold Jt
      rw [if_pos (by simp; omega), ZW _ hk, Option.bind_some, QG hk (by omega)]
      by_cases h3 : wd r.States k = 3
      · rw [if_neg (by simp [h3]), if_pos h3]
      · rw [if_pos (by simp [h3]), if_neg h3]
    rw [Qa, eb]
    by_cases h3 : wd r.States k = 3
    · exact .inr ⟨by rw [if_pos h3], by rw [if_pos h3]; push_cast; rfl⟩
    · exact .inl ⟨false, by rw [if_neg h3], by rw [if_neg h3]⟩) (by
    rw [Qa]
    unfold Jt
    rw [if_neg (by simp)])
  have hall := Zig r.States 3
  unfold Zdb
  have e0 : (0 : Int) = ((0 : Nat) : Int) := rfl
  rw [e0, h, Option.bind_some]
  cases hf : (List.range' 0 64).findSome? (fun k => if wd r.States k = 3 then none else some false) with
  | none =>
    have : (!r.States.toList.any fun s => !decide (s = 3)) = true := hall.2 fun i hi => by
      have := ZeH hf i hi
      by_cases h3 : wd r.States i = 3
      · exact h3
      · rw [if_neg h3] at this; cases this
    rw [this]; rfl
  | some e =>
    obtain ⟨k, hk, he⟩ := List.exists_of_findSome?_eq_some hf
    simp only [List.mem_range'_1] at hk
    have : (!r.States.toList.any fun s => !decide (s = 3)) = false := by
      cases hb : (!r.States.toList.any fun s => !decide (s = 3)) with
      | false => rfl
      | true => have := hall.1 hb k (by omega); rw [if_pos this] at he; cases he
    rw [this]
    split at he
    · cases he
    · cases he; rfl
theorem Zls {l : List api_Rest} (hl : l.length ≤ 1000000000) (n C : Int) : ∃ F S b, loop (t3 (Zad l)) (⟨n, Vector.replicate 64 0, Vector.replicate 64 0, false, C, false⟩, true, 0) = some (⟨n, F, S, false, C, false⟩, b) ∧ Parts4 l F S ∧ (b = true ↔ ∀ i, i < 64 → wd S i = 1) := by
  obtain ⟨r, e1, F, S, b, rfl, e2, e3⟩ := ZbC (body := Zad l) (N := 64)
    (fun k o b => ∃ F S, o = ⟨n, F, S, false, C, false⟩ ∧ (∀ j, j < k → (Agr l j (wd F j) ∧ wd S j = 1) ∨ ((∀ w, ¬ Agr l j w) ∧ wd F j = 0 ∧ wd S j = 0)) ∧ (∀ j, k ≤ j → wd F j = 0 ∧ wd S j = 0) ∧ (b = true ↔ ∀ i, i < k → wd S i = 1))
    (fun r => ∃ F S b, r = (⟨n, F, S, false, C, false⟩, b) ∧ Parts4 l F S ∧ (b = true ↔ ∀ i, i < 64 → wd S i = 1))
    (by
      rintro k o b hk ⟨F, S, rfl, h1, h2, h3⟩
      left
      obtain ⟨w, c, g1, g2⟩ := Zlo hl hk
      unfold Zad
      rw [if_pos (by simp; omega), g1, Option.bind_some, QG hk (by omega)]
      rcases g2 with ⟨rfl, g2⟩ | ⟨rfl, g2⟩
      · rw [if_pos rfl, ZW _ hk, Option.bind_some, ZW _ hk, Option.bind_some]
        refine ⟨_, _, rfl, _, _, rfl, fun j hj => ?_, fun j hj => ?_, ?_⟩
        · rw [Xl _ hk, Xl _ hk]
          by_cases hjk : k = j
          · subst hjk; rw [if_pos rfl, if_pos rfl]; exact .inl ⟨g2, rfl⟩
          · rw [if_neg hjk, if_neg hjk]; exact h1 j (by omega)
        · rw [Xl _ hk, Xl _ hk, if_neg (by omega), if_neg (by omega)]; exact h2 j (by omega)
        · rw [Bool.and_true, h3]
          constructor
          · intro hh i hi
            rw [Xl _ hk]
            split
            · rfl
            · exact hh i (by omega)
          · intro hh i hi
            have := hh i (by omega)
            rw [Xl _ hk, if_neg (by omega)] at this
            exact this
      · rw [if_neg (by simp)]
        refine ⟨_, _, rfl, _, _, rfl, fun j hj => ?_, fun j hj => h2 j (by omega), ?_⟩
        · by_cases hjk : k = j
          · subst hjk; exact .inr ⟨g2, h2 k (Nat.le_refl _)⟩
          · exact h1 j (by omega)
        · rw [Bool.and_false]
          refine ⟨(fun hh => by cases hh), fun hh => ?_⟩
          have h4 := hh k (by omega)
          have h5 := (h2 k (Nat.le_refl _)).2
          omega)
    (by
      rintro o b ⟨F, S, rfl, h1, _, h3⟩
      exact ⟨_, by unfold Zad; rw [if_neg (by simp)], F, S, b, rfl, h1, h3⟩)
    (a0 := ⟨n, Vector.replicate 64 0, Vector.replicate 64 0, false, C, false⟩) (b0 := true) ⟨_, _, rfl, fun j hj => by omega, fun j _ => ⟨JY j, JY j⟩, ⟨fun _ i hi => by omega, fun _ => rfl⟩⟩
  exact ⟨F, S, b, e1, e2, e3⟩
theorem Zmc {n : Int} {l : List api_Rest} (h : MOK n l) : ∃ o, Zcg l = some o ∧ MG n l o := by
  obtain ⟨x, hx⟩ := ZG (xs := l) (k := 0) (List.length_pos_iff.2 h.ne)
  have hxn : x.Number = n := h.num x (List.mem_of_getElem? hx)
  have hb := Zfi h.cop
  have hlen := h.len
  have hx0 : idx l 0 = some x := ZM (k := 0) hx
  obtain ⟨⟨oN, oF, oS, oD, oC, oX⟩, e1, F, V, b, ht, hn, hC, hbb, hcl, hI⟩ := Zjq h
  rw [List.take_length] at ht hC hI
  simp only at hn hC hbb hI
  subst hn hC hbb
  unfold Zcg
  rw [hx0, Option.bind_some, hxn, e1, Option.bind_some, Qa]
  simp only
  cases oX with
  | true => rw [if_pos rfl]; exact ⟨_, rfl, .clash (hcl rfl)⟩
  | false =>
    rw [if_neg (by simp)]
    have hnc : ∀ hc : (∀ r ∈ l, r.Conflict = false), ¬ ∃ r ∈ l, r.Conflict = true := fun hc ⟨r, hr, hrc⟩ => by rw [hc r hr] at hrc; cases hrc
    rcases hI with ⟨h1, h2, h3, h4, h5⟩ | ⟨h1, h2, h3, ⟨s, hs, hsF⟩, h5⟩
    · have hcl' : ¬ Clash l := fun hc => hc.elim (hnc (h5 rfl)) fun ⟨r, s, hr, _⟩ => h1 r hr
      subst h2 h3 h4
      rw [if_neg (by simp)]
      obtain ⟨F, S, c, p1, p2, p3⟩ := Zls h.len oN (sumC l)
      have hN := Zd6 h p2
      have hU : fU F := fun i => ⟨(hN i).1, by have := (hN i).2; omega⟩
      rw [p1, Option.bind_some, Zbj]
      have hpo : MG oN l (prtOut oN (sumC l) F S) := .parts hcl' h1 p2
      unfold prtOut at hpo
      simp only
      cases c with
      | false =>
        rw [show ((false : Bool) == true) = false from rfl, Zm5, Option.bind_some]
        rw [if_neg (fun hh => by have := p3.2 hh.1; cases this)] at hpo
        refine ⟨_, ?_, hpo⟩
        simp
      | true =>
        rw [Zbg, ZeO hU, Option.bind_some, Bool.true_and]
        have hsas : Zj8 F oN = (Zci F && decide ((Zc8 F).1 = oN)) := rfl
        cases hs : Zci F with
        | false =>
          rw [show ((false : Bool) == true) = false from rfl, Zm5, Option.bind_some]
          rw [if_neg (fun hh => by rw [hsas, hs] at hh; cases hh.2)] at hpo
          exact ⟨_, by simp, hpo⟩
        | true =>
          rw [Zbg, ZeU hU (hN 1).2 (hN 2).2, Option.bind_some]
          by_cases hnum : (Zc8 F).1 = oN
          · rw [if_pos (by simp [hnum]), Zkc (body := Zbs) 3 (fun v k hk => by
              unfold Zbs
              rw [if_pos (by simp; omega), ZW v hk, Option.bind_some, QG hk (by omega)]) (fun v => by unfold Zbs; rw [if_neg (by simp)]), Option.bind_some, Qa]
            rw [if_pos ⟨p3.1 rfl, by rw [hsas, hs, hnum]; simp⟩] at hpo
            exact ⟨_, rfl, hpo⟩
          · rw [if_neg (by simp [hnum])]
            rw [if_neg (fun hh => by rw [hsas, hs] at hh; simp [hnum] at hh)] at hpo
            exact ⟨_, rfl, hpo⟩
    · obtain ⟨h6, h7⟩ := h5 rfl
      subst h1 h2 h3
      have hcl' : ¬ Clash l := fun hc => hc.elim (hnc h7) fun ⟨r, s, hr, hs, hne⟩ => hne (by rw [h6 r hr, h6 s hs])
      have hmo : MG oN l (sndOut oN (sumC l) s.Frame oS) := .sound hcl' hs ht
      rw [hsF] at hmo
      rw [if_pos rfl]
      have hall := Zig oS 3
      unfold sndOut at hmo
      have hg := ZkV ⟨oN, oF, oS, true, sumC l, false⟩
      by_cases hz : sumC l = 0
      · rw [show decide (sumC l = 0) = true by simp [hz], Zbg, hg, Option.bind_some]
        cases ha : (!oS.toList.any fun s => !decide (s = 3)) with
        | true =>
          rw [if_pos (hall.1 ha), show max (sumC l) 1 = 1 by omega] at hmo
          exact ⟨_, by simp [ha], hmo⟩
        | false =>
          rw [if_neg (fun hh => by rw [hall.2 hh] at ha; cases ha)] at hmo
          exact ⟨_, by simp [ha], hmo⟩
      · rw [show decide (sumC l = 0) = false by simp [hz]]
        simp only [show ((false : Bool) == true) = false from rfl, Zm5, Option.bind_some, Bool.false_and, Bool.false_eq_true, if_false]
        have : max (sumC l) 1 = sumC l := by omega
        rw [this] at hmo
        simp only [ite_self] at hmo
        exact ⟨_, rfl, hmo⟩
end Go.Vx

namespace Go.Vx
open Go Go.RowKit
theorem ZgG {V : Type} {k x : Int} {a : V} : ∀ {m : List (Int × V)}, ZaP kqI (ZV kqI m k a) x = if x = k then some a else ZaP kqI m x
  | [] => by rw [Zd8, X0]
  | (c, v) :: m => by
    rw [Jp]
    by_cases h : k = c
    · subst h
      rw [if_pos rfl, X0, X0]
      by_cases hx : x = k
      · rw [if_pos hx, if_pos hx]
      · rw [if_neg hx, if_neg hx, if_neg hx]
    · rw [if_neg h, X0, X0, ZgG]
      by_cases hx : x = c
      · rw [if_pos hx, if_pos hx, if_neg (fun e => h (by rw [← e, hx]))]
      · rw [if_neg hx, if_neg hx]
def grp (l : List api_Rest) (n : Int) : List api_Rest := l.filter fun r => decide (r.Number = n)
theorem ZmA {l : List api_Rest} {k : Nat} {x : api_Rest} (hx : l[k]? = some x) (n : Int) : grp (l.take (k + 1)) n = grp (l.take k) n ++ (if x.Number = n then [x] else []) := by
  unfold grp
  rw [List.take_succ, hx, List.filter_append]
  congr 1
  by_cases h : x.Number = n <;> simp [h]
theorem ZcE {l : List api_Rest} {n : Int} {r : api_Rest} : r ∈ grp l n ↔ r ∈ l ∧ r.Number = n := by unfold grp; simp
structure LOK (l : List api_Rest) : Prop where
  len : l.length ≤ 1000000000
  nar : ∀ r ∈ l, ∀ i, 0 ≤ wd r.Frame i ∧ wd r.Frame i ≤ 4095
  cop : ∀ r ∈ l, 0 ≤ r.Copies ∧ r.Copies ≤ 1000000000
theorem LOK.grp {l : List api_Rest} (h : LOK l) {n : Int} (hn : Go.Vx.grp l n ≠ []) : MOK n (Go.Vx.grp l n) :=
  ⟨hn, Nat.le_trans (List.length_filter_le _ _) h.len, fun _ hr => (ZcE.1 hr).2, fun r hr => h.nar r (ZcE.1 hr).1, fun r hr => h.cop r (ZcE.1 hr).1⟩
def ZjP (l : List api_Rest) (k : Nat) (g : List (Int × List api_Rest)) : Prop := ∀ n, ZaP kqI g n = if grp (l.take k) n = [] then none else some (grp (l.take k) n)
def Zi3 (l : List api_Rest) (k : Nat) (y : List Int) : Prop := ∀ n, n ∈ y ↔ ∃ r ∈ l.take k, r.Number = n
theorem Zgv {l : List api_Rest} {n : Int} : grp l n = [] ↔ ¬ ∃ r ∈ l, r.Number = n := by
  constructor
  · rintro h ⟨r, hr, hn⟩
    have := ZcE.2 ⟨hr, hn⟩
    rw [h] at this; exact List.not_mem_nil this
  · intro h
    exact List.eq_nil_iff_forall_not_mem.2 fun r hr => h ⟨r, ZcE.1 hr⟩
theorem Zff {l : List api_Rest} {k : Nat} {x : api_Rest} (hx : l[k]? = some x) {g : List (Int × List api_Rest)} (h : ZjP l k g) : ZjP l (k + 1) (ZV kqI g x.Number (grp (l.take k) x.Number ++ [x])) := by
  intro n
  rw [ZgG, ZmA hx]
  by_cases hn : n = x.Number
  · subst hn; rw [if_pos rfl, if_pos rfl, if_neg (by simp)]
  · rw [if_neg hn, if_neg (Ne.symm hn), List.append_nil]; exact h n
theorem Zec {l : List api_Rest} {k : Nat} {x : api_Rest} (hx : l[k]? = some x) {y y' : List Int} (h : Zi3 l k y) (hy : ∀ n, n ∈ y' ↔ n ∈ y ∨ n = x.Number) : Zi3 l (k + 1) y' := by
  intro n
  rw [hy, h n]
  constructor
  · rintro (⟨r, hr, e⟩ | rfl)
    · exact ⟨r, (Zx hx).2 (.inl hr), e⟩
    · exact ⟨x, (Zx hx).2 (.inr rfl), rfl⟩
  · rintro ⟨r, hr, e⟩
    rcases (Zx hx).1 hr with h' | rfl
    · exact .inl ⟨r, h', e⟩
    · exact .inr e.symm
theorem Zly (l : List api_Rest) : ZjP l 0 [] := fun n => by rw [List.take_zero]; rfl
theorem Zmf (l : List api_Rest) : Zi3 l 0 [] := fun n => by rw [List.take_zero]; simp
def GR (l : List api_Rest) (out : List api_Rest) : Prop :=
  ∃ y : List Int, y.Pairwise (· < ·) ∧ (∀ n, n ∈ y ↔ ∃ r ∈ l, r.Number = n) ∧ out.length = y.length ∧ ∀ (i : Nat) n o, y[i]? = some n → out[i]? = some o → MG n (grp l n) o
theorem Zf2 : ∀ {a b : List Int}, a.Pairwise (· < ·) → b.Pairwise (· < ·) → (∀ n, n ∈ a ↔ n ∈ b) → a = b
  | [], [], _, _, _ => rfl
  | [], b :: _, _, _, h => by have := (h b).2 (by simp); cases this
  | a :: _, [], _, _, h => by have := (h a).1 (by simp); cases this
  | a :: ta, b :: tb, ha, hb, h => by
    rw [List.pairwise_cons] at ha hb
    have e : a = b := by
      rcases List.mem_cons.1 ((h a).1 (by simp)) with e | h1
      · exact e
      · rcases List.mem_cons.1 ((h b).2 (by simp)) with e | h2
        · exact e.symm
        · have := ha.1 b h2; have := hb.1 a h1; omega
    subst e
    rw [Zf2 ha.2 hb.2 fun n => ?_]
    constructor
    · intro hn
      rcases List.mem_cons.1 ((h n).1 (List.mem_cons_of_mem _ hn)) with e | h'
      · have := ha.1 n hn; omega
      · exact h'
    · intro hn
      rcases List.mem_cons.1 ((h n).2 (List.mem_cons_of_mem _ hn)) with e | h'
      · have := hb.1 n hn; omega
      · exact h'
theorem Zlb {l l' : List api_Rest} (h : l.Perm l') : sumC l = sumC l' := by
  unfold sumC
  induction h with
  | nil => rfl
  | cons x _ ih => simp [ih]
  | swap x y l => simp only [List.map_cons, List.sum_cons]; omega
  | trans _ _ ih1 ih2 => exact ih1.trans ih2
theorem GR.uniq {l l' : List api_Rest} (hp : l.Perm l') {o o' : List api_Rest} (h : GR l o) (h' : GR l' o') : o = o' := by
  obtain ⟨y, h1, h2, h3, h4⟩ := h
  obtain ⟨y', g1, g2, g3, g4⟩ := h'
  have hy : y = y' := Zf2 h1 g1 fun n => by rw [h2, g2]; simp only [hp.mem_iff]
  subst hy
  refine List.ext_getElem? fun i => ?_
  by_cases hi : i < y.length
  · obtain ⟨n, hn⟩ := ZG hi
    obtain ⟨a, ha⟩ := ZG (xs := o) (k := i) (by omega)
    obtain ⟨b, hb⟩ := ZG (xs := o') (k := i) (by omega)
    rw [ha, hb]
    have hpg : (grp l n).Perm (grp l' n) := hp.filter _
    rw [(h4 i n a hn ha).uniq (fun r => hpg.mem_iff) (Zlb hpg) (g4 i n b hn hb)]
  · rw [List.getElem?_eq_none (by omega), List.getElem?_eq_none (by omega)]
theorem ZhV {α : Type} {o : Option α} (h : o = none) : Zht o = .inl () := by rw [h]; rfl
theorem Zeg {α : Type} {o : Option α} {x : α} (h : o = some x) : Zht o = .inr x := by rw [h]; rfl
theorem ZhH {l : List api_Rest} (hl : LOK l) {y : List Int} (hy : y.Pairwise (· < ·)) (hm : Zi3 l l.length y) (hlen : y.length ≤ 1000000000) {body : List api_Rest → Int → Option ((List api_Rest × Int) ⊕ List api_Rest)} {mrg : List api_Rest → Option api_Rest}
    (hmrg : ∀ n m, MOK n m → ∃ o, mrg m = some o ∧ MG n m o)
    (hstep : ∀ (out : List api_Rest) (k : Nat) n, y[k]? = some n → grp l n ≠ [] → body out (k : Int) = (mrg (grp l n)).bind fun o => (app out [o]).bind fun l5 => some (.inl (l5, (k : Int) + 1)))
    (hend : ∀ out, body out (y.length : Int) = some (.inr out)) : ∃ out, loop (t2 body) ([], 0) = some out ∧ GR l out := by
  have hmem : ∀ n, n ∈ y ↔ ∃ r ∈ l, r.Number = n := fun n => by have := hm n; rwa [List.take_length] at this
  obtain ⟨out, e1, e2, e3⟩ := Q1 (body := body) (N := y.length) (fun k out => out.length = k ∧ ∀ (i : Nat) n o, y[i]? = some n → out[i]? = some o → MG n (grp l n) o) (fun out => out.length = y.length ∧ ∀ (i : Nat) n o, y[i]? = some n → out[i]? = some o → MG n (grp l n) o)
    (by
      rintro k out hk ⟨h1, h2⟩
      obtain ⟨n, hn⟩ := ZG hk
      have hne : grp l n ≠ [] := fun e => Zgv.1 e ((hmem n).1 (List.mem_of_getElem? hn))
      obtain ⟨o, g1, g2⟩ := hmrg n _ (hl.grp hne)
      left
      rw [hstep out k n hn hne, g1, Option.bind_some, QV (by simp; omega), Option.bind_some]
      refine ⟨_, rfl, by simp [h1], fun i n' o' hi ho => ?_⟩
      by_cases hik : i < out.length
      · rw [List.getElem?_append_left hik] at ho; exact h2 i n' o' hi ho
      · rw [List.getElem?_append_right (by omega)] at ho
        have : i - out.length = 0 := by
          have := (List.getElem?_eq_some_iff.1 ho).1
          simp at this; omega
        rw [this] at ho
        have hio : i = k := by omega
        subst hio
        cases ho
        rw [hn] at hi; cases hi
        exact g2) (fun out h => ⟨out, hend out, h⟩) (s0 := []) ⟨rfl, fun i n o _ ho => by simp at ho⟩
  exact ⟨out, e1, y, hy, hmem, e2, e3⟩
theorem ZkB {l : List api_Rest} (hl : LOK l) : ∃ out, QH l = some out ∧ GR l out := by
  have hlen := hl.len
  obtain ⟨r, e1, g, y, rfl, h1, h2, h3, h4⟩ := ZbC (body := Q7 l) (N := l.length) (fun k g y => ZjP l k g ∧ Zi3 l k y ∧ y.Nodup ∧ y.length ≤ k)
    (fun r => ∃ g y, r = (g, y) ∧ ZjP l l.length g ∧ Zi3 l l.length y ∧ y.Nodup ∧ y.length ≤ l.length)
    (by
      rintro k g y hk ⟨h1, h2, h3, h4⟩
      obtain ⟨x, hx⟩ := ZG hk
      left
      unfold Q7
      rw [if_pos (by simp; omega), ZM hx, Option.bind_some, QG hk (by omega)]
      have hg := h1 x.Number
      by_cases hn : grp (l.take k) x.Number = []
      · rw [if_pos hn] at hg
        rw [ZhV hg, Option.bind_some, Sum.elim_inl, if_pos rfl, QV (by simp; omega), Option.bind_some, Option.bind_some, Qa, Option.bind_some, Sum.elim_inl, QV (by simp), Option.bind_some, Option.bind_some, Zbj]
        have hnm : x.Number ∉ y := fun hm => Zgv.1 hn ((h2 _).1 hm)
        refine ⟨_, _, rfl, ?_, Zec hx h2 (fun n => by simp), ?_, by simp; omega⟩
        · have := Zff hx h1
          rw [hn] at this; exact this
        · exact List.nodup_append.2 ⟨h3, by simp, fun a ha b hb e => hnm (by rw [List.mem_singleton] at hb; rw [← hb, ← e]; exact ha)⟩
      · rw [if_neg hn] at hg
        have hpos : 0 < (grp (l.take k) x.Number).length := List.length_pos_iff.2 hn
        have hgl : (grp (l.take k) x.Number).length ≤ l.length := Nat.le_trans (List.length_filter_le _ _) (by rw [List.length_take]; omega)
        have hxm : x.Number ∈ y := by
          obtain ⟨r, hr⟩ := List.exists_mem_of_ne_nil _ hn
          exact (h2 _).2 ⟨r, ZcE.1 hr⟩
        rw [Zeg hg, Option.bind_some, Sum.elim_inr]
        have hck : ck (decide (0 < (grp (l.take k) x.Number).length)) = some () := by unfold ck; rw [if_pos (by simpa using hpos)]
        rw [hck, Option.bind_some, if_neg (by simp), Option.bind_some, Qa, Option.bind_some, Sum.elim_inr, QV (by simp; omega), Option.bind_some, Option.bind_some, Zbj]
        exact ⟨_, _, rfl, Zff hx h1, Zec hx h2 (fun n => ⟨.inl, fun h => h.elim id fun e => by rw [e]; exact hxm⟩), h3, by omega⟩)
    (by
      rintro g y ⟨h1, h2, h3, h4⟩
      exact ⟨_, by unfold Q7; rw [if_neg (by simp)], g, y, rfl, h1, h2, h3, h4⟩) (a0 := []) (b0 := []) ⟨Zly l, Zmf l, List.nodup_nil, Nat.le_refl _⟩
  unfold QH
  rw [e1, Option.bind_some, Zbj]
  have hp := List.mergeSort_perm y (fun x z => decide (x ≤ z))
  have hs := List.pairwise_mergeSort (le := fun x z => decide ((x : Int) ≤ z)) (fun a b c h1 h2 => by simp only [decide_eq_true_iff] at *; omega) (fun a b => by simp only [Bool.or_eq_true, decide_eq_true_iff]; omega) y
  have hj : Zf1 y = some (y.mergeSort fun x z => decide (x ≤ z)) := by unfold Zf1; rw [if_pos (by omega)]
  rw [hj, Option.bind_some]
  generalize y.mergeSort (fun x z => decide (x ≤ z)) = z at hp hs
  have hnd : z.Nodup := hp.symm.nodup h3
  have hst : z.Pairwise (· < ·) := by
    have := List.Pairwise.and hs hnd
    exact this.imp fun ⟨a, b⟩ => by simp only [decide_eq_true_iff] at a; omega
  have hzl : z.length = y.length := hp.length_eq
  obtain ⟨out, o1, o2⟩ := ZhH hl hst (y := z) (fun n => by rw [hp.mem_iff]; exact h2 n) (by omega) (body := Q5 g z) (mrg := X2) (fun n m hm => Zm9 hm)
    (fun out k n hn hne => by
      unfold Q5
      have hkl := (List.getElem?_eq_some_iff.1 hn).1
      have hg := h1 n
      rw [List.take_length, if_neg hne] at hg
      rw [if_pos (by simp; omega), ZM hn, Option.bind_some, Zeg hg, Option.bind_some, Sum.elim_inr, QG hkl (by omega)])
    (fun out => by unfold Q5; rw [if_neg (by simp)])
  rw [o1, Option.bind_some, Qa]
  exact ⟨out, rfl, o2⟩
end Go.Vx

namespace Go.Vx
open Go Go.RowKit
theorem ZnY {o : List Int} {at_ : Nat} (h : at_ ≤ o.length) (n : Int) :
    (cpy (o ++ [0]) (at_ + 1) ((o.length + 1) - (at_ + 1)) at_ ((o.length + 1) - at_)).set at_ n = o.take at_ ++ n :: o.drop at_ := by
  have hl : (o ++ [(0 : Int)]).length = o.length + 1 := by simp
  have h1 : (at_ + 1) + ((o.length + 1) - (at_ + 1)) ≤ (o ++ [(0 : Int)]).length := by omega
  have h2 : at_ + ((o.length + 1) - at_) ≤ (o ++ [(0 : Int)]).length := by omega
  refine List.ext_getElem? fun i => ?_
  by_cases hi : i < o.length + 1
  · by_cases hia : i = at_
    · subst hia
      rw [List.getElem?_set_self (by rw [Ziw h1 h2]; omega), List.getElem?_append_right (by simp; omega)]
      simp [Nat.min_eq_left h]
    · rw [List.getElem?_set_ne (Ne.symm hia), Znj h1 h2 (by omega)]
      by_cases hlt : i < at_
      · rw [if_neg (by omega), List.getElem?_append_left (by omega), List.getElem?_append_left (by simp; omega), List.getElem?_take_of_lt hlt]
      · rw [if_pos (by omega), List.getElem?_append_left (by omega), List.getElem?_append_right (by simp; omega)]
        have e : i - (o.take at_).length = (i - at_ - 1) + 1 := by simp; omega
        rw [e, List.getElem?_cons_succ, List.getElem?_drop]
        congr 1
  · rw [List.getElem?_eq_none (by rw [List.length_set, Ziw h1 h2]; omega), List.getElem?_eq_none (by simp; omega)]
theorem Zou {o : List Int} (ho : o.Pairwise (· < ·)) (hl : o.length ≤ 1000000000) {n : Int} (hn : n ∉ o) {body : Int → Option (Int ⊕ Int)}
    (hb : ∀ k : Nat, k ≤ o.length → body (k : Int) = (gd ((decide ((0 : Int) < (k : Int))) == true) 0 (idx o (i64 ((k : Int) - 1)))).bind fun x2 => if ((decide ((0 : Int) < (k : Int))) && (decide (n < x2))) = true then some (.inl (i64 ((k : Int) - 1))) else some (.inr (k : Int))) :
    ∃ at_ : Nat, loop (t1 body) (o.length : Int) = some (at_ : Int) ∧ at_ ≤ o.length ∧ (∀ i x, i < at_ → o[i]? = some x → x < n) ∧ ∀ i x, at_ ≤ i → o[i]? = some x → n < x := by
  obtain ⟨r, e1, at_, rfl, e2⟩ := Zb9 (body := t1 body) (fun s => ∃ k : Nat, s = k ∧ k ≤ o.length ∧ ∀ i x, k ≤ i → o[i]? = some x → n < x) (fun s => s.toNat)
    (fun r => ∃ at_ : Nat, r = (at_ : Int) ∧ at_ ≤ o.length ∧ (∀ i x, i < at_ → o[i]? = some x → x < n) ∧ ∀ i x, at_ ≤ i → o[i]? = some x → n < x)
    (by
      rintro s ⟨k, rfl, hk, h1⟩
      rw [Qa, hb k hk]
      by_cases h0 : 0 < k
      · obtain ⟨x, hx⟩ := ZG (xs := o) (k := k - 1) (by omega)
        have e : i64 ((k : Int) - 1) = ((k - 1 : Nat) : Int) := by rw [ZO (by omega) (by omega)]; omega
        rw [show decide ((0 : Int) < (k : Int)) = true by simp; omega, Zbg, e, ZM hx, Option.bind_some]
        by_cases hlt : n < x
        · left
          refine ⟨_, by rw [if_pos (by simp [hlt])], ⟨k - 1, rfl, by omega, fun i y hi hy => ?_⟩, by simp only [Int.toNat_natCast]; omega⟩
          by_cases hik : i = k - 1
          · subst hik; rw [hx] at hy; cases hy; exact hlt
          · exact h1 i y (by omega) hy
        · right
          refine ⟨_, by rw [if_neg (by simp; omega)], k, rfl, hk, fun i y hi hy => ?_, h1⟩
          have hxn : x < n := by
            have : x ≠ n := fun e => hn (by rw [← e]; exact List.mem_of_getElem? hx)
            omega
          by_cases hik : i = k - 1
          · subst hik; rw [hx] at hy; cases hy; exact hxn
          · obtain ⟨hil, hy'⟩ := List.getElem?_eq_some_iff.1 hy
            obtain ⟨hxl, hx'⟩ := List.getElem?_eq_some_iff.1 hx
            have := List.pairwise_iff_getElem.1 ho i (k - 1) hil hxl (by omega)
            rw [hy', hx'] at this
            omega
      · right
        refine ⟨_, by rw [show decide ((0 : Int) < (k : Int)) = false by simp; omega]; rfl, k, rfl, hk, fun i y hi => by omega, h1⟩) _ ⟨o.length, rfl, Nat.le_refl _, fun i x hi hx => by have := (List.getElem?_eq_some_iff.1 hx).1; omega⟩
  exact ⟨at_, e1, e2⟩
theorem Zj7 {o : List Int} (ho : o.Pairwise (· < ·)) {n : Int} {at_ : Nat} (h1 : ∀ i x, i < at_ → o[i]? = some x → x < n) (h2 : ∀ i x, at_ ≤ i → o[i]? = some x → n < x) : (o.take at_ ++ n :: o.drop at_).Pairwise (· < ·) := by
  have ha : ∀ x ∈ o.take at_, x < n := fun x hx => by
    obtain ⟨i, hi⟩ := List.getElem?_of_mem hx
    have hil : i < at_ := by have := (List.getElem?_eq_some_iff.1 hi).1; simp at this; omega
    rw [List.getElem?_take_of_lt hil] at hi
    exact h1 i x hil hi
  have hb : ∀ x ∈ o.drop at_, n < x := fun x hx => by
    obtain ⟨i, hi⟩ := List.getElem?_of_mem hx
    rw [List.getElem?_drop] at hi
    exact h2 _ x (by omega) hi
  refine List.pairwise_append.2 ⟨ho.sublist (List.take_sublist _ _), List.pairwise_cons.2 ⟨hb, ho.sublist (List.drop_sublist _ _)⟩, fun x hx y hy => ?_⟩
  rcases List.mem_cons.1 hy with rfl | hy
  · exact ha x hx
  · have := ha x hx; have := hb y hy; omega
theorem ZjE {l : List api_Rest} (hl : LOK l) : ∃ out, J2 l = some out ∧ GR l out := by
  have hlen := hl.len
  obtain ⟨r, e1, y, g, rfl, h1, h2, h3, h4⟩ := ZbC (body := Zau l) (N := l.length) (fun k y g => ZjP l k g ∧ Zi3 l k y ∧ y.Pairwise (· < ·) ∧ y.length ≤ k)
    (fun r => ∃ y g, r = (y, g) ∧ ZjP l l.length g ∧ Zi3 l l.length y ∧ y.Pairwise (· < ·) ∧ y.length ≤ l.length)
    (by
      rintro k y g hk ⟨h1, h2, h3, h4⟩
      obtain ⟨x, hx⟩ := ZG hk
      left
      unfold Zau
      rw [if_pos (by simp; omega), ZM hx, Option.bind_some, QG hk (by omega)]
      have hg := h1 x.Number
      by_cases hn : grp (l.take k) x.Number = []
      · rw [if_pos hn] at hg
        have hnm : x.Number ∉ y := fun hm => Zgv.1 hn ((h2 _).1 hm)
        obtain ⟨at_, f1, f2, f3, f4⟩ := Zou h3 (by omega) hnm (body := ZbO y x) (fun k _ => by unfold ZbO; rfl)
        rw [ZhV hg, Option.bind_some, Sum.elim_inl, if_pos (by simp), f1, Option.bind_some, Qa, QV (by simp; omega), Option.bind_some]
        have hl2 : (y ++ [(0 : Int)]).length = y.length + 1 := by simp
        have ea : i64 ((at_ : Int) + 1) = ((at_ + 1 : Nat) : Int) := by rw [ZO (by omega) (by omega)]; omega
        have hs1 : slq (y ++ [(0 : Int)]) ((at_ + 1 : Nat) : Int) ((y ++ [(0 : Int)]).length : Int) = some () := by
          unfold slq ck; rw [if_pos (by simp; omega)]
        have hs2 : slq (y ++ [(0 : Int)]) (at_ : Int) ((y ++ [(0 : Int)]).length : Int) = some () := by
          unfold slq ck; rw [if_pos (by simp; omega)]
        rw [ea, hs1, Option.bind_some, hs2, Option.bind_some]
        have t1' : Int.toNat (((y ++ [(0 : Int)]).length : Int) - ((at_ + 1 : Nat) : Int)) = (y.length + 1) - (at_ + 1) := by rw [hl2]; omega
        have t2' : Int.toNat (((y ++ [(0 : Int)]).length : Int) - (at_ : Int)) = (y.length + 1) - at_ := by rw [hl2]; omega
        rw [t1', t2', Int.toNat_natCast, Int.toNat_natCast]
        obtain ⟨z, hz⟩ := ZG (xs := cpy (y ++ [(0 : Int)]) (at_ + 1) ((y.length + 1) - (at_ + 1)) at_ ((y.length + 1) - at_)) (k := at_) (by rw [Ziw (by omega) (by omega)]; omega)
        rw [ZM hz, Option.bind_some, Option.bind_some, Qa, Option.bind_some, Sum.elim_inl, QV (by simp), Option.bind_some, Option.bind_some, Zbj, ZnY f2]
        refine ⟨_, _, rfl, ?_, Zec hx h2 (fun n => ?_), Zj7 h3 f3 f4, by simp; omega⟩
        · have := Zff hx h1
          rw [hn] at this; exact this
        · rw [List.mem_append, List.mem_cons]
          have : n ∈ y ↔ n ∈ y.take at_ ∨ n ∈ y.drop at_ := by rw [← List.mem_append, List.take_append_drop]
          rw [this]
          constructor
          · rintro (h | h | h)
            · exact .inl (.inl h)
            · exact .inr h
            · exact .inl (.inr h)
          · rintro ((h | h) | h)
            · exact .inl h
            · exact .inr (.inr h)
            · exact .inr (.inl h)
      · rw [if_neg hn] at hg
        have hpos : 0 < (grp (l.take k) x.Number).length := List.length_pos_iff.2 hn
        have hgl : (grp (l.take k) x.Number).length ≤ l.length := Nat.le_trans (List.length_filter_le _ _) (by rw [List.length_take]; omega)
        have hxm : x.Number ∈ y := by
          obtain ⟨r, hr⟩ := List.exists_mem_of_ne_nil _ hn
          exact (h2 _).2 ⟨r, ZcE.1 hr⟩
        rw [Zeg hg, Option.bind_some, Sum.elim_inr, if_neg (by simp; omega), Option.bind_some, Qa, Option.bind_some, Sum.elim_inr, QV (by simp; omega), Option.bind_some, Option.bind_some, Zbj]
        exact ⟨_, _, rfl, Zff hx h1, Zec hx h2 (fun n => ⟨.inl, fun h => h.elim id fun e => by rw [e]; exact hxm⟩), h3, by omega⟩)
    (by
      rintro y g ⟨h1, h2, h3, h4⟩
      exact ⟨_, by unfold Zau; rw [if_neg (by simp)], y, g, rfl, h1, h2, h3, h4⟩) (a0 := []) (b0 := []) ⟨Zly l, Zmf l, List.Pairwise.nil, Nat.le_refl _⟩
  unfold J2
  rw [e1, Option.bind_some, Zbj]
  obtain ⟨out, o1, o2⟩ := ZhH hl h3 h2 (by omega) (body := Zao y g) (mrg := Zcg) (fun n m hm => Zmc hm)
    (fun out k n hn hne => by
      unfold Zao
      have hkl := (List.getElem?_eq_some_iff.1 hn).1
      have hg := h1 n
      rw [List.take_length, if_neg hne] at hg
      rw [if_pos (by simp; omega), ZM hn, Option.bind_some, Zeg hg, Option.bind_some, Sum.elim_inr, QG hkl (by omega)])
    (fun out => by unfold Zao; rw [if_neg (by simp)])
  rw [o1, Option.bind_some, Qa]
  exact ⟨out, rfl, o2⟩
theorem Zfh {l l' : List api_Rest} (hl : LOK l) (hp : l.Perm l') : ∃ out, QH l = some out ∧ J2 l' = some out ∧ GR l out := by
  have hl' : LOK l' := ⟨by rw [← hp.length_eq]; exact hl.len, fun r hr => hl.nar r (hp.mem_iff.2 hr), fun r hr => hl.cop r (hp.mem_iff.2 hr)⟩
  obtain ⟨o, h1, h2⟩ := ZkB hl
  obtain ⟨o', h3, h4⟩ := ZjE hl'
  exact ⟨o, h1, by rw [h3, GR.uniq hp h2 h4], h2⟩
end Go.Vx

namespace Go.Vx
open Go Go.RowKit
structure COK (H : List Int) (C : List api_Found) : Prop where
  ord : C.Pairwise fun a b => a.At < b.At
  mem : ∀ x ∈ C, ∃ k : Nat, (k : Int) < H.length ∧ x = api_Found.mk (k : Int) (frW H (k : Int)).1
  len : C.length ≤ 400000
  hl : H.length ≤ 400000
  hh : hL H
theorem ZgR (l : List api_Found) : ∀ n, n ≤ l.length → (Zhb l n).Sublist (l.take n)
  | 0, _ => by simp [Zhb]
  | n + 1, h => by
    obtain ⟨x, hx⟩ := ZG (xs := l) (k := n) (by omega)
    rw [Zeh, List.take_succ, hx]
    refine List.Sublist.append (ZgR l n (by omega)) ?_
    unfold ZjV
    split
    · rw [ZfH hx]; exact List.Sublist.refl _
    · exact List.nil_sublist _
theorem cok {H : List Int} (h : hL H) (hl : H.length ≤ 400000) : COK H (ZcA (scL H (H.length - 191))) := by
  have hs : (ZcA (scL H (H.length - 191))).Sublist (scL H (H.length - 191)) := by
    have := ZgR (scL H (H.length - 191)) _ (Nat.le_refl _)
    rwa [List.take_length] at this
  refine ⟨(ZeD H _).sublist hs, fun x hx => ?_, ?_, hl, h⟩
  · obtain ⟨k, hk, e, _⟩ := Zgr (hs.subset hx)
    exact ⟨k, by omega, e⟩
  · have := hs.length_le
    have := Zd7 H (H.length - 191)
    omega
theorem COK.at_ {H : List Int} {C : List api_Found} (h : COK H C) {k : Nat} {x : api_Found} (hx : C[k]? = some x) : 0 ≤ x.At ∧ x.At < H.length ∧ x.At ≤ 400000 := by
  obtain ⟨j, hj, rfl⟩ := h.mem x (List.mem_of_getElem? hx)
  have := h.hl
  simp only
  omega
theorem COK.lt {H : List Int} {C : List api_Found} (h : COK H C) {i j : Nat} {x y : api_Found} (hij : i < j) (hx : C[i]? = some x) (hy : C[j]? = some y) : x.At < y.At := by
  obtain ⟨hi, rfl⟩ := List.getElem?_eq_some_iff.1 hx
  obtain ⟨hj, rfl⟩ := List.getElem?_eq_some_iff.1 hy
  exact List.pairwise_iff_getElem.1 h.ord i j hi hj hij
theorem COK.fU {H : List Int} {C : List api_Found} (h : COK H C) {k : Nat} {x : api_Found} (hx : C[k]? = some x) : Go.Vx.fU x.Frame ∧ ∀ i, 0 ≤ wd x.Frame i ∧ wd x.Frame i ≤ 4095 := by
  obtain ⟨j, hj, rfl⟩ := h.mem x (List.mem_of_getElem? hx)
  exact ⟨ZiW h.hh _, Zcr h.hh _⟩
def dst (a p : Int) : Int := if a < p then p - a else a - p
theorem Ze8 {a p : Int} (h1 : -1000000 ≤ a ∧ a ≤ 1000000) (h2 : -1000000 ≤ p ∧ p ≤ 1000000) : Qu a p = some (dst a p) := by
  unfold Qu dst
  by_cases h : a < p
  · rw [if_pos (by simp [h]), if_pos h, ZO (by omega) (by omega)]
  · rw [if_neg (by simp; omega), if_neg h, ZO (by omega) (by omega)]
theorem Zlz {a p : Int} (h1 : -1000000 ≤ a ∧ a ≤ 1000000) (h2 : -1000000 ≤ p ∧ p ≤ 1000000) : J3 (i64 (a - p)) = some (dst a p) := by
  unfold J3 dst
  rw [ZO (z := a - p) (by omega) (by omega), ZO (by omega) (by omega)]
  congr 1
  split <;> omega
def Jg (C : List api_Found) (q : Nat → Prop) (p : Int) (n : Nat) (best : Int) : Prop :=
  (best = -1 ∧ ∀ j, j < n → ¬ q j) ∨ ∃ (b : Nat) (x : api_Found), best = b ∧ b < n ∧ q b ∧ C[b]? = some x ∧ ∀ j y, j < n → q j → C[j]? = some y → (j < b → dst x.At p < dst y.At p) ∧ (b < j → dst x.At p ≤ dst y.At p)
theorem Zj5 (C : List api_Found) (q : Nat → Prop) (p : Int) : Jg C q p 0 (-1) := .inl ⟨rfl, fun j h => by omega⟩
theorem Zed {C : List api_Found} {q : Nat → Prop} {p : Int} {n : Nat} {best : Int} (hq : ¬ q n) (h : Jg C q p n best) : Jg C q p (n + 1) best := by
  rcases h with ⟨h1, h2⟩ | ⟨b, x, h1, h2, h3, h4, h5⟩
  · refine .inl ⟨h1, fun j hj hqj => ?_⟩
    by_cases e : j = n
    · subst e; exact hq hqj
    · exact h2 j (by omega) hqj
  · refine .inr ⟨b, x, h1, by omega, h3, h4, fun j y hj hqj hy => ?_⟩
    by_cases e : j = n
    · subst e; exact (hq hqj).elim
    · exact h5 j y (by omega) hqj hy
theorem ZeC {C : List api_Found} {q : Nat → Prop} {p : Int} {n : Nat} {y : api_Found} (hq : q n) (hy : C[n]? = some y) (h : Jg C q p n (-1)) : Jg C q p (n + 1) n := by
  rcases h with ⟨_, h2⟩ | ⟨b, x, h1, _⟩
  · refine .inr ⟨n, y, rfl, by omega, hq, hy, fun j z hj hqj hz => ?_⟩
    by_cases e : j = n
    · omega
    · exact (h2 j (by omega) hqj).elim
  · omega
theorem ZfJ {C : List api_Found} {q : Nat → Prop} {p : Int} {n b : Nat} {x y : api_Found} (hq : q n) (hy : C[n]? = some y) (hx : C[b]? = some x) (h : Jg C q p n b) : Jg C q p (n + 1) (if dst y.At p < dst x.At p then (n : Int) else b) := by
  rcases h with ⟨h1, _⟩ | ⟨b', x', h1, h2, h3, h4, h5⟩
  · omega
  · have : b' = b := by omega
    subst this
    rw [hx] at h4
    cases h4
    split
    · rename_i hlt
      refine .inr ⟨n, y, rfl, by omega, hq, hy, fun j z hj hqj hz => ?_⟩
      refine ⟨fun hjn => ?_, fun hjn => by omega⟩
      have := h5 j z hjn hqj hz
      by_cases e : j = b'
      · subst e; rw [hx] at hz; cases hz; exact hlt
      · rcases Nat.lt_or_ge j b' with hl | hl
        · have := this.1 hl; omega
        · have := this.2 (by omega); omega
    · rename_i hge
      refine .inr ⟨b', x, rfl, by omega, h3, hx, fun j z hj hqj hz => ?_⟩
      by_cases e : j = n
      · subst e; rw [hy] at hz; cases hz; exact ⟨fun hh => by omega, fun _ => by omega⟩
      · exact h5 j z (by omega) hqj hz
theorem ZfD {C : List api_Found} {q : Nat → Prop} {p : Int} {n : Nat} {b b' : Int} (h : Jg C q p n b) (h' : Jg C q p n b') : b = b' := by
  rcases h with ⟨h1, h2⟩ | ⟨k, x, h1, h2, h3, h4, h5⟩ <;> rcases h' with ⟨g1, g2⟩ | ⟨k', x', g1, g2, g3, g4, g5⟩
  · omega
  · exact (h2 k' g2 g3).elim
  · exact (g2 k h2 h3).elim
  · rcases Nat.lt_trichotomy k k' with h | h | h
    · have := (h5 k' x' g2 g3 g4).2 h
      have := (g5 k x h2 h3 h4).1 h
      omega
    · omega
    · have := (h5 k' x' g2 g3 g4).1 h
      have := (g5 k x h2 h3 h4).2 h
      omega
abbrev Zgo : Nat → Prop := fun _ => True
theorem Zm4 {H : List Int} {C : List api_Found} (hC : COK H C) {p : Int} (hp : -1000000 ≤ p ∧ p ≤ 1000000) : ∃ b, ZbY C p = some b ∧ Jg C Zgo p C.length b := by
  have hlen := hC.len
  obtain ⟨r, e1, e2⟩ := Q1 (body := Zat C p) (N := C.length) (fun k best => Jg C Zgo p k best) (fun r => Jg C Zgo p C.length r)
    (fun k best hk hI => by
      obtain ⟨y, hy⟩ := ZG hk
      have hya := hC.at_ hy
      left
      unfold Zat
      rw [if_pos (by simp; omega), ZM hy, Option.bind_some, QG hk (by omega)]
      rcases hI with ⟨rfl, h2⟩ | ⟨b, x, rfl, h2, h3, h4, h5⟩
      · exact ⟨k, by simp [gd], ZeC trivial hy (.inl ⟨rfl, h2⟩)⟩
      · have hxa := hC.at_ h4
        refine ⟨_, ?_, ZfJ trivial hy h4 (.inr ⟨b, x, rfl, h2, h3, h4, h5⟩)⟩
        rw [show decide ((b : Int) < 0) = false by simp, Ze8 (by omega) hp, ZM h4]
        simp only [show (false == false) = true from rfl, Zbg, Option.bind_some, Bool.false_or]
        simp only [ZbE, Option.bind_some]
        rw [Ze8 (by omega) hp, Option.bind_some]
        by_cases hd : dst y.At p < dst x.At p
        · rw [if_pos (by simp [hd]), if_pos hd]
        · rw [if_neg (by simp; omega), if_neg hd])
    (fun best hI => ⟨best, by unfold Zat; rw [if_neg (by simp)], hI⟩) (Zj5 C Zgo p)
  exact ⟨r, by unfold ZbY; rw [e1]; rfl, e2⟩
theorem ZiV {H : List Int} {C : List api_Found} (hC : COK H C) (p : Int) : ∀ n, n ≤ C.length → ∃ c, c ≤ n ∧ (∀ k x, k < c → C[k]? = some x → x.At < p) ∧ ∀ k x, c ≤ k → k < n → C[k]? = some x → p ≤ x.At
  | 0, _ => ⟨0, Nat.le_refl _, fun k x h => by omega, fun k x h h' => by omega⟩
  | n + 1, h => by
    obtain ⟨c, h1, h2, h3⟩ := ZiV hC p n (by omega)
    obtain ⟨y, hy⟩ := ZG (xs := C) (k := n) (by omega)
    by_cases hlt : y.At < p
    · refine ⟨n + 1, Nat.le_refl _, fun k x hk hx => ?_, fun k x h h' => by omega⟩
      by_cases e : k = n
      · subst e; rw [hy] at hx; cases hx; exact hlt
      · have := hC.lt (by omega : k < n) hx hy; omega
    · refine ⟨c, by omega, h2, fun k x hk hk' hx => ?_⟩
      by_cases e : k = n
      · subst e; rw [hy] at hx; cases hx; omega
      · exact h3 k x hk (by omega) hx
theorem ZoW {i j : Nat} (h : i + j < 4611686018427387904) : shr .u64 (u64 (i64 ((i : Int) + j))) 1 = some (((i + j) / 2 : Nat) : Int) := by
  rw [ZO (by omega) (by omega)]
  unfold u64
  rw [Zoq (by omega) (by omega), shr, if_neg (by decide)]
  have : min (1 : Int).toNat IntKind.u64.bits = 1 := by decide
  rw [this]
  congr 1
  rw [Int.fdiv_eq_ediv_of_nonneg _ (by decide)]
  omega
theorem Zhq {ρ : Type} {body : Int → Int → Option ((Int × Int) ⊕ ρ)} (n c : Nat) (F : Nat → ρ) (hc : c ≤ n) (hn : n ≤ 4611686018427387904)
    (hstep : ∀ (i j m : Nat), i < j → j ≤ n → m = (i + j) / 2 → (m < c → body i j = some (.inl ((m : Int) + 1, j))) ∧ (c ≤ m → body i j = some (.inl (i, (m : Int)))))
    (hend : ∀ i : Nat, body i i = some (.inr (F i))) : loop (t2 body) (0, (n : Int)) = some (F c) := by
  refine Zbt (body := t2 body) (fun p => ∃ i j : Nat, p = ((i : Int), (j : Int)) ∧ i ≤ c ∧ c ≤ j ∧ j ≤ n) (fun p => (p.2 - p.1).toNat) (fun _ => F c) ?_ _ ⟨0, n, rfl, Nat.zero_le _, hc, Nat.le_refl _⟩
  rintro _ ⟨i, j, rfl, h1, h2, h3⟩
  simp only [Zbj]
  rcases Nat.lt_or_ge i j with h | h
  · obtain ⟨g1, g2⟩ := hstep i j ((i + j) / 2) h h3 rfl
    rcases Nat.lt_or_ge ((i + j) / 2) c with h4 | h4
    · exact .inl ⟨_, g1 h4, ⟨(i + j) / 2 + 1, j, by push_cast; rfl, h4, h2, h3⟩, by simp only; omega, by trivial⟩
    · exact .inl ⟨_, g2 h4, ⟨i, (i + j) / 2, rfl, h1, h4, by omega⟩, by simp only; omega, by trivial⟩
  · have e1 : i = c := by omega
    have e2 : j = c := by omega
    subst e1; subst e2
    exact .inr (hend _)
theorem ZkE {H : List Int} {C : List api_Found} (hC : COK H C) {p : Int} (hp : -1000000 ≤ p ∧ p ≤ 1000000) :
    ∃ (c : Nat) (b : Bool), ZN C p (fun z0 z1 => Qc z0 z1) = some ((c : Int), b) ∧ c ≤ C.length ∧ (∀ k x, k < c → C[k]? = some x → x.At < p) ∧ ∀ k x, c ≤ k → C[k]? = some x → p ≤ x.At := by
  have hlen := hC.len
  obtain ⟨c, hcl, hc1, hc2⟩ := ZiV hC p C.length (Nat.le_refl _)
  have hc2 : ∀ k x, c ≤ k → C[k]? = some x → p ≤ x.At := fun k x h hx => hc2 k x h (List.getElem?_eq_some_iff.1 hx).1 hx
  have hcmp : ∀ (k : Nat) x, C[k]? = some x → Qc x p = some (x.At - p) := fun k x hx => by
    have := hC.at_ hx
    unfold Qc
    rw [ZO (by omega) (by omega)]
  have hl : loop (t2 (ZJ C p (fun z0 z1 => Qc z0 z1))) (0, (C.length : Int)) = some ((c : Nat) : Int) := by
    refine Zhq C.length c (fun k => (k : Int)) hcl (by omega) (fun i j m hij hj hm => ?_) (fun i => ?_)
    · obtain ⟨x, hx⟩ := ZG (xs := C) (k := m) (by omega)
      have h2 : (i : Int) < j := by omega
      have hm' : shr .u64 (u64 (i64 ((i : Int) + j))) 1 = some (m : Int) := by rw [ZoW (by omega), hm]
      have hmi : i64 (m : Int) = m := ZO (by omega) (by omega)
      simp only [ZJ, h2, decide_true, if_true, hm', Option.bind_some, hmi, ZM hx, hcmp m x hx]
      refine ⟨fun h => ?_, fun h => ?_⟩
      · have := hc1 m x h hx
        simp [show x.At - p < 0 by omega, ZO (show -9223372036854775808 ≤ (m : Int) + 1 by omega) (by omega)]
      · have := hc2 m x h hx
        simp [show ¬ x.At - p < 0 by omega]
    · simp [ZJ]
  simp only [ZN, hl, Option.bind_some, t1]
  rcases Nat.lt_or_ge c C.length with h | h
  · obtain ⟨x, hx⟩ := ZG h
    have h' : ((c : Nat) : Int) < C.length := by omega
    refine ⟨c, _, by rw [decide_eq_true h', ZM hx, Zbg, Option.bind_some, hcmp _ x hx, Zbg, Option.bind_some], hcl, hc1, hc2⟩
  · have h' : ¬ ((c : Nat) : Int) < C.length := by omega
    exact ⟨c, false, by rw [decide_eq_false h']; simp [gd], hcl, hc1, hc2⟩
theorem ZoB {H : List Int} {C : List api_Found} (hC : COK H C) (hne : C ≠ []) {N : List Int} {p : Int} (hp : -1000000 ≤ p ∧ p ≤ 1000000) : ∃ b, Qv ⟨H, C, N, ()⟩ p = some b ∧ Jg C Zgo p C.length b := by
  have hlen := hC.len
  have hpos : 0 < C.length := List.length_pos_iff.2 hne
  obtain ⟨c, b, e1, hcl, hc1, hc2⟩ := ZkE hC hp
  unfold Qv
  rw [show (⟨H, C, N, ()⟩ : salvage_finder).certain = C from rfl, e1, Option.bind_some]
  simp only
  by_cases hce : c = C.length
  · subst hce
    refine ⟨i64 ((C.length : Int) - 1), by simp [gd], .inr ?_⟩
    obtain ⟨x, hx⟩ := ZG (xs := C) (k := C.length - 1) (by omega)
    refine ⟨C.length - 1, x, by rw [ZO (by omega) (by omega)]; omega, by omega, trivial, hx, fun j y hj _ hy => ⟨fun hlt => ?_, fun hlt => by omega⟩⟩
    have := hc1 _ x (by omega) hx
    have := hC.lt hlt hy hx
    unfold dst
    omega
  · obtain ⟨y, hy⟩ := ZG (xs := C) (k := c) (by omega)
    have hya := hC.at_ hy
    have hyp := hc2 c y (Nat.le_refl _) hy
    rw [decide_eq_false (show ¬ ((c : Int) = (C.length : Int)) by omega), ZM hy]
    by_cases h0 : 0 < c
    · obtain ⟨x, hx⟩ := ZG (xs := C) (k := c - 1) (by omega)
      have hxa := hC.at_ hx
      have hxp := hc1 (c - 1) x (by omega) hx
      have hxy := hC.lt (by omega : c - 1 < c) hx hy
      have e : i64 ((c : Int) - 1) = ((c - 1 : Nat) : Int) := by rw [ZO (by omega) (by omega)]; omega
      rw [decide_eq_true (show (0 : Int) < (c : Int) by omega), e, ZM hx]
      simp only [show (false == false) = true from rfl, show (true == true) = true from rfl, Bool.true_and, Bool.false_or, ZbE, Option.bind_some]
      rw [ZO (z := p - x.At) (by omega) (by omega), ZO (z := y.At - p) (by omega) (by omega)]
      by_cases hd : p - x.At ≤ y.At - p
      · refine ⟨_, by rw [if_pos (by simpa using hd)], .inr ⟨c - 1, x, rfl, by omega, trivial, hx, fun j z hj _ hz => ?_⟩⟩
        refine ⟨fun hlt => ?_, fun hlt => ?_⟩
        · have := hC.lt hlt hz hx; unfold dst; omega
        · have := hc2 j z (by omega) hz
          have : y.At ≤ z.At := by
            by_cases e : j = c
            · subst e; rw [hy] at hz; cases hz; omega
            · have := hC.lt (by omega : c < j) hy hz; omega
          unfold dst
          omega
      · refine ⟨_, by rw [if_neg (by simpa using hd)], .inr ⟨c, y, rfl, by omega, trivial, hy, fun j z hj _ hz => ?_⟩⟩
        refine ⟨fun hlt => ?_, fun hlt => ?_⟩
        · have : z.At ≤ x.At := by
            by_cases e : j = c - 1
            · subst e; rw [hx] at hz; cases hz; omega
            · have := hC.lt (by omega : j < c - 1) hz hx; omega
          unfold dst
          omega
        · have := hC.lt hlt hy hz; unfold dst; omega
    · have h0' : c = 0 := by omega
      subst h0'
      refine ⟨_, by simp [gd], .inr ⟨0, y, rfl, by omega, trivial, hy, fun j z hj _ hz => ⟨fun h => by omega, fun hlt => ?_⟩⟩⟩
      have := hC.lt hlt hy hz
      unfold dst
      omega
end Go.Vx
