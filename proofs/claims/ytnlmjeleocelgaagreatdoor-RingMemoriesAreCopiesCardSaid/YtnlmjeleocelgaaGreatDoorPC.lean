/- A text of the proof: a verified executor of the program form, or the contracts of the functions that the law reaches. -/
import Derived.Test.YtnlmjeleocelgaaGreatDoorPB
import Derived.Test.YtnlmjeleocelgaaGreatDoorPA
import Derived.Test.YtnlmjeleocelgaaGreatDoorVR
import Derived.Test.YtnlmjeleocelgaaGreatDoorShT
import Derived.Test.YtnlmjeleocelgaaGreatDoorVH
import Derived.Test.YtnlmjeleocelgaaGreatDoorVP
set_option linter.all false
namespace Go.Vx
open Go Go.RowKit
set_option maxHeartbeats 1000000
section
variable {key : Int → Int} {D : Int → Prop} {cmp : Int → Int → Option Int}
theorem Zqo (hc : ∀ x y, D x → D y → ∃ c, cmp x y = some c ∧ (c < 0 ↔ key x < key y)) :
    ∀ (n : Nat) (L X Y R : List Int), X ≠ [] → Y ≠ [] → X.length + Y.length ≤ n → L.length + X.length + Y.length + R.length ≤ 1000000 → Srt key X → Srt key Y → (∀ x ∈ X, ∀ y ∈ Y, x < y) → (∀ x ∈ X ++ Y, D x) →
      ∃ Z, ZI n (L ++ X ++ Y ++ R) (L.length : Int) ((L.length + X.length : Nat) : Int) ((L.length + X.length + Y.length : Nat) : Int) cmp = some (L ++ Z ++ R) ∧ Z.Perm (X ++ Y) ∧ Srt key Z := by
  intro n
  induction n with
  | zero =>
    intro L X Y R hX hY hn
    have := List.length_pos_iff.2 hX
    omega
  | succ n ih =>
    intro L X Y R hX hY hn hN sX sY hlt hD
    have pX := List.length_pos_iff.2 hX
    have pY := List.length_pos_iff.2 hY
    show ∃ Z, Z7 (ZI n) _ _ _ _ _ = _ ∧ _
    unfold Z7
    have e1 : i64 (((L.length + X.length : Nat) : Int) - (L.length : Int)) = (X.length : Int) := (Zo (by omega) (by omega)).trans (by omega)
    have e2 : i64 (((L.length + X.length + Y.length : Nat) : Int) - ((L.length + X.length : Nat) : Int)) = (Y.length : Int) := (Zo (by omega) (by omega)).trans (by omega)
    rw [e1, e2]
    by_cases c1 : X.length = 1
    · rw [if_pos (by simp; omega)]
      obtain ⟨x, rfl⟩ := List.length_eq_one_iff.1 c1
      have := ZoR (key := key) (D := D) hc (L := L) (Y := Y) (R := R) (x := x) (by simp at hN; omega) sY (fun y hy => hlt x (by simp) y hy) (fun z hz => hD z (by simpa using hz))
      simpa using this
    · rw [if_neg (by simpa using fun q => c1 (by omega))]
      by_cases c2 : Y.length = 1
      · rw [if_pos (by simp; omega)]
        obtain ⟨y, rfl⟩ := List.length_eq_one_iff.1 c2
        have := ZnV (key := key) (D := D) hc (L := L) (X := X) (R := R) (y := y) (by simp at hN; omega) sX (fun x hx => hlt x hx y (by simp)) (fun z hz => hD z (by
          rcases List.mem_cons.1 hz with rfl | q <;> simp_all))
        exact this
      · rw [if_neg (by simpa using fun q => c2 (by omega))]
        generalize ha : L.length = a at *
        generalize hm : a + X.length = m at *
        generalize hb : m + Y.length = b at *
        obtain ⟨mid, hmid⟩ : ∃ mid, mid = (a + b) / 2 := ⟨_, rfl⟩
        rw [show i64 ((a : Int) + (b : Int)) = i64 ((a + b : Nat) : Int) by push_cast; rfl, Zkx (by omega), Option.bind_some, ← hmid]
        have f1 : i64 (mid : Int) = (mid : Int) := Zo (by omega) (by omega)
        have f2 : i64 ((mid : Int) + (m : Int)) = ((mid + m : Nat) : Int) := (Zo (by omega) (by omega)).trans (by omega)
        rw [f1, f2]
        obtain ⟨lo, hlo⟩ : ∃ lo, lo = if mid < m then mid + m - b else a := ⟨_, rfl⟩
        obtain ⟨hi, hhi⟩ : ∃ hi, hi = if mid < m then mid else m := ⟨_, rfl⟩
        have f3 : (if decide ((mid : Int) < (m : Int)) = true then some (i64 (((mid + m : Nat) : Int) - (b : Int)), (mid : Int)) else some ((a : Int), (m : Int))) = some ((lo : Int), (hi : Int)) := by
          by_cases q : mid < m
          · rw [if_pos (by simpa using q), show i64 (((mid + m : Nat) : Int) - (b : Int)) = ((mid + m - b : Nat) : Int) from (Zo (by omega) (by omega)).trans (by omega), hlo, hhi, if_pos q, if_pos q]
          · rw [if_neg (by simpa using q), hlo, hhi, if_neg q, if_neg q]
        rw [f3]
        simp only [Option.bind_some, Q2]
        have blo : a ≤ lo ∧ lo ≤ hi ∧ hi ≤ m ∧ hi ≤ mid ∧ mid + m - b ≤ lo := by
          split at hlo <;> split at hhi <;> omega
        obtain ⟨s, h1, h2, h3, h4, h5⟩ := Zkg (body := Qx (L ++ X ++ Y ++ R) (m : Int) cmp (mid : Int)) (fun c => !decide (key (Y.getD (mid - 1 - c) 0) < key (X.getD (c - a) 0))) (lo := lo) (hi := hi) (by omega) (fun i j a1 a2 a3 => by
          have g1 : i64 ((i : Int) + (j : Int)) = i64 ((i + j : Nat) : Int) := by push_cast; rfl
          have g2 : i64 (((i + j) / 2 : Nat) : Int) = (((i + j) / 2 : Nat) : Int) := Zo (by omega) (by omega)
          have g3 : i64 ((((i + j) / 2 : Nat) : Int) + 1) = (((i + j) / 2 + 1 : Nat) : Int) := (Zo (by omega) (by omega)).trans (by omega)
          have g4 : i64 (i64 (((mid + m : Nat) : Int) - 1) - (((i + j) / 2 : Nat) : Int)) = ((m + (mid - 1 - (i + j) / 2) : Nat) : Int) := by
            rw [show i64 (((mid + m : Nat) : Int) - 1) = ((mid + m - 1 : Nat) : Int) from (Zo (by omega) (by omega)).trans (by omega)]
            exact (Zo (by omega) (by omega)).trans (by omega)
          have k1 : (L ++ X ++ Y ++ R)[m + (mid - 1 - (i + j) / 2)]? = some (Y.getD (mid - 1 - (i + j) / 2) 0) := by
            have := Zkh (L := L ++ X) (X := Y) (R := R) (c := m + (mid - 1 - (i + j) / 2)) (by simp; omega) (by simp; omega)
            rw [this]; congr 2; simp; omega
          have k2 : (L ++ X ++ Y ++ R)[(i + j) / 2]? = some (X.getD ((i + j) / 2 - a) 0) := by
            have := Zkh (L := L) (X := X) (R := Y ++ R) (c := (i + j) / 2) (by omega) (by omega)
            rw [← ha, ← this]; simp
          unfold Qx
          rw [if_pos (by simpa using a2), g1, Zkx (by omega), Option.bind_some, g2, f1, f2, g4, ZG k1, Option.bind_some, ZG k2, Option.bind_some]
          obtain ⟨c, d1, d2⟩ := hc (Y.getD (mid - 1 - (i + j) / 2) 0) (X.getD ((i + j) / 2 - a) 0) (hD _ (List.mem_append_right _ (ZbN (by omega)))) (hD _ (List.mem_append_left _ (ZbN (by omega))))
          rw [d1, Option.bind_some, g3]
          by_cases q : key (Y.getD (mid - 1 - (i + j) / 2) 0) < key (X.getD ((i + j) / 2 - a) 0)
          · rw [if_neg (by simpa using d2.2 q), if_neg (by simpa using q)]
          · rw [if_pos (by simpa using fun w => q (d2.1 w)), if_pos (by simpa using q)]) (fun i a1 a2 => by
          unfold Qx
          rw [if_neg (by simp)])
        rw [h3]
        simp only [Option.bind_some, XL]
        have cut := ZpH (key := key) (X := X) (Y := Y) (a := a) (m := m) (b := b) (s := s) hm hb sX sY mid hmid lo hi hlo hhi h1 h2 (fun hl x y hx hy => by
          have q := h4 hl
          rw [show mid - 1 - (s - 1) = mid - s by omega, List.getD_eq_getElem?_getD, List.getD_eq_getElem?_getD, hx, hy] at q
          simp only [Option.getD_some, Bool.not_eq_true', decide_eq_false_iff_not] at q
          have := hlt x (List.mem_of_getElem? hx) y (List.mem_of_getElem? hy)
          unfold LtK; omega) (fun hl x y hx hy => by
          have q := h5 hl
          rw [show mid - 1 - s = mid - s - 1 by omega, List.getD_eq_getElem?_getD, List.getD_eq_getElem?_getD, hx, hy] at q
          simp only [Option.getD_some, Bool.not_eq_false', decide_eq_true_eq] at q
          exact .inl q)
        have le1 : (X.take (s - a)).length = s - a := by rw [List.length_take]; omega
        have le2 : (X.drop (s - a)).length = m - s := by rw [List.length_drop]; omega
        have le3 : (Y.take (mid - s)).length = mid - s := by rw [List.length_take]; omega
        have le4 : (Y.drop (mid - s)).length = b - (mid + m - s) := by rw [List.length_drop]; omega
        have sX1 : Srt key (X.take (s - a)) := sX.sublist (List.take_sublist ..)
        have sX2 : Srt key (X.drop (s - a)) := sX.sublist (List.drop_sublist ..)
        have sY1 : Srt key (Y.take (mid - s)) := sY.sublist (List.take_sublist ..)
        have sY2 : Srt key (Y.drop (mid - s)) := sY.sublist (List.drop_sublist ..)
        have mXX : ∀ x ∈ X.take (s - a), ∀ y ∈ X.drop (s - a), LtK key x y := by
          have := sX
          rw [← List.take_append_drop (s - a) X] at this
          exact this.mid
        have mYY : ∀ x ∈ Y.take (mid - s), ∀ y ∈ Y.drop (mid - s), LtK key x y := by
          have := sY
          rw [← List.take_append_drop (mid - s) Y] at this
          exact this.mid
        have hXe : X = X.take (s - a) ++ X.drop (s - a) := (List.take_append_drop ..).symm
        have hYe : Y = Y.take (mid - s) ++ Y.drop (mid - s) := (List.take_append_drop ..).symm
        have iX1 : ∀ x ∈ X.take (s - a), x ∈ X := fun x hx => List.mem_of_mem_take hx
        have iX2 : ∀ x ∈ X.drop (s - a), x ∈ X := fun x hx => List.mem_of_mem_drop hx
        have iY1 : ∀ x ∈ Y.take (mid - s), x ∈ Y := fun x hx => List.mem_of_mem_take hx
        have iY2 : ∀ x ∈ Y.drop (mid - s), x ∈ Y := fun x hx => List.mem_of_mem_drop hx
        generalize X.take (s - a) = X1 at *
        generalize X.drop (s - a) = X2 at *
        generalize Y.take (mid - s) = Y1 at *
        generalize Y.drop (mid - s) = Y2 at *
        subst hXe hYe
        have g5 : i64 (((mid + m : Nat) : Int) - (s : Int)) = ((mid + m - s : Nat) : Int) := (Zo (by omega) (by omega)).trans (by omega)
        rw [g5]
        have rot : (if ((decide ((s : Int) < (m : Int))) && (decide ((m : Int) < ((mid + m - s : Nat) : Int)))) = true then (Qd (L ++ (X1 ++ X2) ++ (Y1 ++ Y2) ++ R) (s : Int) (m : Int) ((mid + m - s : Nat) : Int) cmp).bind fun y4 => some y4 else some (L ++ (X1 ++ X2) ++ (Y1 ++ Y2) ++ R)) = some (L ++ X1 ++ Y1 ++ (X2 ++ Y2 ++ R)) := by
          by_cases q : s < m ∧ m < mid + m - s
          · rw [if_pos (by simp; omega)]
            have := ZnN (cmp := cmp) (L := L ++ X1) (X := X2) (Y := Y1) (R := Y2 ++ R) (by intro w; subst w; simp at le2; omega) (by intro w; subst w; simp at le3; omega) (by simp only [List.length_append] at hn hN pX pY ⊢; omega)
            rw [show (L ++ X1).length = s by rw [List.length_append]; omega, show s + X2.length = m by omega, show m + Y1.length = mid + m - s by omega] at this
            rw [show L ++ (X1 ++ X2) ++ (Y1 ++ Y2) ++ R = L ++ X1 ++ X2 ++ Y1 ++ (Y2 ++ R) by simp, this]
            simp
          · rw [if_neg (by simp; omega)]
            by_cases w : s < m
            · have : Y1 = [] := List.length_eq_zero_iff.1 (by omega)
              subst this; simp
            · have : X2 = [] := List.length_eq_zero_iff.1 (by omega)
              subst this; simp
        rw [rot]
        simp only [Option.bind_some, XL]
        have first : ∃ Z1, (if ((decide ((a : Int) < (s : Int))) && (decide ((s : Int) < (mid : Int)))) = true then (ZI n (L ++ X1 ++ Y1 ++ (X2 ++ Y2 ++ R)) (a : Int) (s : Int) (mid : Int) cmp).bind fun y5 => some y5 else some (L ++ X1 ++ Y1 ++ (X2 ++ Y2 ++ R))) = some (L ++ Z1 ++ (X2 ++ Y2 ++ R)) ∧ Z1.Perm (X1 ++ Y1) ∧ Srt key Z1 := by
          by_cases q : a < s ∧ s < mid
          · rw [if_pos (by simp; omega)]
            obtain ⟨Z, z1, z2, z3⟩ := ih L X1 Y1 (X2 ++ Y2 ++ R) (by intro w; subst w; simp at le1; omega) (by intro w; subst w; simp at le3; omega) (by simp only [List.length_append] at hn hN pX pY c1 c2 ⊢; omega) (by simp only [List.length_append] at hn hN ⊢; omega) sX1 sY1 (fun x hx y hy => hlt x (iX1 x hx) y (iY1 y hy)) (fun x hx => hD x (by
              rcases List.mem_append.1 hx with w | w
              · exact List.mem_append_left _ (iX1 x w)
              · exact List.mem_append_right _ (iY1 x w)))
            rw [ha, show a + X1.length = s by omega, show s + Y1.length = mid by omega] at z1
            exact ⟨Z, by rw [z1]; rfl, z2, z3⟩
          · rw [if_neg (by simp; omega)]
            refine ⟨X1 ++ Y1, by simp, .refl _, ?_⟩
            by_cases w : a < s
            · have : Y1 = [] := List.length_eq_zero_iff.1 (by omega)
              subst this; simpa using sX1
            · have : X1 = [] := List.length_eq_zero_iff.1 (by omega)
              subst this; simpa using sY1
        obtain ⟨Z1, z1, z2, z3⟩ := first
        rw [z1]
        simp only [Option.bind_some, XL]
        have hZ1 : Z1.length = mid - a := by rw [z2.length_eq, List.length_append]; omega
        have second : ∃ Z2, (if ((decide ((mid : Int) < ((mid + m - s : Nat) : Int))) && (decide (((mid + m - s : Nat) : Int) < (b : Int)))) = true then (ZI n (L ++ Z1 ++ (X2 ++ Y2 ++ R)) (mid : Int) ((mid + m - s : Nat) : Int) (b : Int) cmp).bind fun y6 => some y6 else some (L ++ Z1 ++ (X2 ++ Y2 ++ R))) = some (L ++ Z1 ++ Z2 ++ R) ∧ Z2.Perm (X2 ++ Y2) ∧ Srt key Z2 := by
          by_cases q : mid < mid + m - s ∧ mid + m - s < b
          · rw [if_pos (by simp; omega)]
            obtain ⟨Z, y1, y2, y3⟩ := ih (L ++ Z1) X2 Y2 R (by intro w; subst w; simp at le2; omega) (by intro w; subst w; simp at le4; omega) (by simp only [List.length_append] at hn hN pX pY c1 c2 ⊢; omega) (by simp only [List.length_append] at hn hN ⊢; omega) sX2 sY2 (fun x hx y hy => hlt x (iX2 x hx) y (iY2 y hy)) (fun x hx => hD x (by
              rcases List.mem_append.1 hx with w | w
              · exact List.mem_append_left _ (iX2 x w)
              · exact List.mem_append_right _ (iY2 x w)))
            rw [show (L ++ Z1).length = mid by rw [List.length_append]; omega, show mid + X2.length = mid + m - s by omega, show mid + m - s + Y2.length = b by omega] at y1
            refine ⟨Z, ?_, y2, y3⟩
            rw [show L ++ Z1 ++ (X2 ++ Y2 ++ R) = L ++ Z1 ++ X2 ++ Y2 ++ R by simp, y1]; rfl
          · rw [if_neg (by simp; omega)]
            refine ⟨X2 ++ Y2, by simp, .refl _, ?_⟩
            by_cases w : s < m
            · have : Y2 = [] := List.length_eq_zero_iff.1 (by omega)
              subst this; simpa using sX2
            · have : X2 = [] := List.length_eq_zero_iff.1 (by omega)
              subst this; simpa using sY2
        obtain ⟨Z2, y1, y2, y3⟩ := second
        refine ⟨Z1 ++ Z2, by rw [y1]; simp, ?_, ?_⟩
        · refine (z2.append y2).trans ?_
          simp only [List.append_assoc]
          refine List.Perm.append_left _ ?_
          rw [← List.append_assoc, ← List.append_assoc]
          exact List.Perm.append_right _ List.perm_append_comm
        · refine z3.app y3 fun x hx y hy => ?_
          rcases List.mem_append.1 (z2.mem_iff.1 hx) with p | p <;> rcases List.mem_append.1 (y2.mem_iff.1 hy) with q | q
          · exact mXX x p y q
          · exact cut.1 x p y q
          · exact cut.2 x p y q
          · exact mYY x p y q
end
end Go.Vx

namespace Go.Vx
open Go Go.RowKit
section
variable {key : Int → Int} {D : Int → Prop} {cmp : Int → Int → Option Int}
theorem Zqv (hc : ∀ x y, D x → D y → ∃ c, cmp x y = some c ∧ (c < 0 ↔ key x < key y)) {L X R : List Int} (hN : L.length + X.length + R.length ≤ 1000000) (hX : X.Pairwise (· < ·)) (hD : ∀ x ∈ X, D x) :
    ∃ Z, Zy (L ++ X ++ R) (L.length : Int) ((L.length + X.length : Nat) : Int) cmp = some (L ++ Z ++ R) ∧ Z.Perm X ∧ Srt key Z := by
  unfold Zy
  have e0 : i64 ((L.length : Int) + 1) = ((L.length + 1 : Nat) : Int) := (Zo (by omega) (by omega)).trans (by omega)
  rw [e0]
  have hend1 : ∀ o (i : Nat), L.length + X.length ≤ i → Zs (L.length : Int) ((L.length + X.length : Nat) : Int) cmp o (i : Int) = some (.inr o) := fun o i hi => by
    unfold Zs
    rw [if_neg (by simp; omega)]
  cases X with
  | nil => exact ⟨[], ZbQ (by simp only [Q2]; rw [hend1 _ _ (by simp)]), .refl _, .nil⟩
  | cons x T =>
    have hT := List.pairwise_cons.1 hX
    obtain ⟨Z, z1, z2, z3⟩ := Zrh (key := key) (D := D) (body1 := Zs (L.length : Int) ((L.length + (x :: T).length : Nat) : Int) cmp) (body2 := Zx (L.length : Int) cmp) (a := L.length) (b := L.length + (x :: T).length)
      (fun P Q x y hx hy hP hP2 => by
        unfold Zx
        have e1 : i64 ((P.length : Int) + 1 - 1) = ((P.length : Nat) : Int) := (Zo (by omega) (by omega)).trans (by omega)
        have e2 : (P.length : Int) + 1 = ((P.length + 1 : Nat) : Int) := by omega
        have g1 : (P ++ y :: x :: Q)[P.length + 1]? = some x := by rw [List.getElem?_append_right (by omega)]; simp
        have g2 : (P ++ y :: x :: Q)[P.length]? = some y := by simp
        have g3 : ((P ++ y :: x :: Q).set (P.length + 1) y)[P.length]? = some y := by rw [List.getElem?_set_ne (by omega)]; exact g2
        have hg : decide ((L.length : Int) < ((P.length + 1 : Nat) : Int)) = true := by simp; omega
        obtain ⟨c, d1, d2⟩ := hc x y hx hy
        rw [e1, e2, hg]
        simp only [gd, beq_self_eq_true, if_true, Bool.true_and]
        rw [ZG g1, Option.bind_some, ZG g2, Option.bind_some, d1, Option.bind_some]
        by_cases q : key x < key y
        · rw [if_pos (by simpa using d2.2 q), if_pos q]
          simp only [Option.bind_some, Int.toNat_natCast]
          rw [ZG g3, Option.bind_some]
          have := ZiN (L := P) (M := []) (R := Q) (x := y) (y := x)
          simp only [List.length_nil, Nat.add_zero, List.append_nil] at this
          rw [show P ++ y :: x :: Q = P ++ [y] ++ x :: Q by simp, List.set_comm _ _ (by omega), this]
          simp
        · rw [if_neg (by simpa using fun w => q (d2.1 w)), if_neg q]) (fun d => by
        unfold Zx
        simp [gd]) (fun o i hi => by
        unfold Zs
        rw [if_pos (by simp only [List.length_cons] at hi ⊢; simp; omega), show i64 ((i : Int) + 1) = (i : Int) + 1 from Zo (by simp only [List.length_cons] at hi; omega) (by simp only [List.length_cons] at hi hN; omega)]
        rfl) hend1 rfl R T [x] (by simp; omega) (List.pairwise_singleton ..) hD (fun p hp y hy => by rw [List.mem_singleton.1 hp]; exact hT.1 y hy) hT.2
    refine ⟨Z, ?_, z2, z3⟩
    rw [← z1]; congr 2; simp
theorem ZmU (hc : ∀ x y, D x → D y → ∃ c, cmp x y = some c ∧ (c < 0 ↔ key x < key y)) {l : List Int} (hl : l.length ≤ 100) (hp : l.Pairwise (· < ·)) (hD : ∀ x ∈ l, D x) :
    ∃ l', ZO l cmp = some l' ∧ l'.Perm l ∧ Srt key l' := by
  unfold ZO Qe
  obtain ⟨o, a, l1, b1, b2, b3, b4⟩ := Zrf (key := key) (D := D) (ins := fun o a b => Zy o a b cmp) (s := 20) (n := l.length) (by omega) (fun L X R hn hX hDX => Zqv hc (by omega) hX hDX)
    (body := ZK (l.length : Int) cmp) (fun o a ha => by
      unfold ZK
      by_cases q : a + 20 ≤ l.length
      · rw [if_pos (by simp; omega), if_pos q, show i64 (((a + 20 : Nat) : Int) + 20) = ((a + 20 + 20 : Nat) : Int) from (Zo (by omega) (by omega)).trans (by omega)]
      · rw [if_neg (by simp; omega), if_neg q]) l.length [] l rfl (by simp) hp hD
  simp only [List.nil_append, List.length_nil, Nat.zero_add] at b1 b2
  rw [show loop (t3 (ZK (l.length : Int) cmp)) (l, 0, 20) = some (o, (a : Int)) from b1]
  simp only [Option.bind_some, Q2]
  rw [b2]
  simp only [Option.bind_some]
  have hln : l1.length = l.length := b3.length_eq
  obtain ⟨o', k1, k2, k3⟩ := Zq4 (key := key) (D := D) (n := l.length) (body := ZD (l.length : Int) cmp) (fun o s h0 h2 hn hB hDo => by
    split
    · rename_i hs
      obtain ⟨p, a, l', p1, pa, p2, p3, p4⟩ := ZqA (key := key) (D := D) (sm := fun o a m b => ZI 100 o a m b cmp) (s := s) (n := l.length) h0
        (fun L X Y R hX hY hN sX sY hlt hDX => Zqo hc 100 L X Y R hX hY (by omega) (by omega) sX sY hlt hDX) (body := ZE (l.length : Int) cmp (s : Int)) (fun o a ha => by
          unfold ZE
          by_cases q : a + 2 * s ≤ l.length
          · rw [if_pos (by simp; omega), if_pos q, show i64 ((a : Int) + (s : Int)) = ((a + s : Nat) : Int) from (Zo (by omega) (by omega)).trans (by omega), show i64 (2 * (s : Int)) = ((2 * s : Nat) : Int) from (Zo (by omega) (by omega)).trans (by omega),
              show i64 (((a + 2 * s : Nat) : Int) + ((2 * s : Nat) : Int)) = ((a + 2 * s + 2 * s : Nat) : Int) from (Zo (by omega) (by omega)).trans (by omega)]
          · rw [if_neg (by simp; omega), if_neg q]) l.length [] o hn (by simpa using hn) hB hDo
      simp only [List.nil_append, List.length_nil, Nat.zero_add] at p1 p2
      refine ⟨l', ?_, p3, p4⟩
      unfold ZD
      rw [if_pos (by simpa using hs), show i64 (2 * (s : Int)) = ((2 * s : Nat) : Int) from (Zo (by omega) (by omega)).trans (by omega),
        show loop (t3 (ZE (l.length : Int) cmp (s : Int))) (o, 0, ((2 * s : Nat) : Int)) = some (p, (a : Int)) from p1]
      simp only [Option.bind_some, Q2]
      rw [show i64 ((s : Int) * 2) = ((2 * s : Nat) : Int) from (Zo (by omega) (by omega)).trans (by omega)]
      rw [show i64 ((a : Int) + (s : Int)) = ((a + s : Nat) : Int) from (Zo (by omega) (by omega)).trans (by omega)]
      by_cases q : a + s < l.length
      · rw [if_pos q] at p2
        rw [if_pos (by simp; omega), p2]; rfl
      · rw [if_neg q] at p2
        cases p2
        rw [if_neg (by simp; omega)]
    · rename_i hs
      unfold ZD
      rw [if_neg (by simpa using hs)]) _ l1 20 rfl (by omega) (by omega) hln b4 (fun x hx => hD x (b3.mem_iff.1 hx))
  refine ⟨o', ?_, k2.trans b3, k3⟩
  rw [show loop (t2 (ZD (l.length : Int) cmp)) (l1, 20) = some o' from k1]; rfl
end
end Go.Vx

namespace Go.Vx
open Go Go.RowKit
theorem ZcV {σ ρ : Type} {body : σ → Int → Option ((σ × Int) ⊕ ρ)} {N : Nat} (I : Nat → σ → Prop) (Q : ρ → Prop)
    (hstep : ∀ (k : Nat) s, k < N → I k s → (∃ s', body s (k : Int) = some (.inl (s', (k : Int) + 1)) ∧ I (k + 1) s') ∨ ∃ r, body s (k : Int) = some (.inr r) ∧ Q r)
    (hend : ∀ s, I N s → ∃ r, body s (N : Int) = some (.inr r) ∧ Q r) {s0 : σ} (h0 : I 0 s0) : ∃ r, loop (t2 body) (s0, 0) = some r ∧ Q r := by
  refine ZeP (body := t2 body) (fun p => ∃ k : Nat, p.2 = k ∧ k ≤ N ∧ I k p.1) (fun p => N - p.2.toNat) Q ?_ (s0, 0) ⟨0, rfl, Nat.zero_le _, h0⟩
  rintro ⟨s, i⟩ ⟨k, hi, hk, hI⟩
  simp only at hi hI
  subst hi
  simp only [Int.toNat_natCast, Q2]
  rcases Nat.lt_or_ge k N with h | h
  · rcases hstep k s h hI with ⟨s', h1, h2⟩ | ⟨r, h1, h2⟩
    · exact .inl ⟨_, h1, ⟨k + 1, by push_cast; rfl, h, h2⟩, by simp only; omega⟩
    · exact .inr ⟨r, h1, h2⟩
  · have : k = N := by omega
    subst this
    exact .inr (hend s hI)
theorem ZnR {α β ρ : Type} {body : α → β → Int → Option ((α × β × Int) ⊕ ρ)} {N : Nat} (I : Nat → α → β → Prop) (Q : ρ → Prop)
    (hstep : ∀ (k : Nat) a b, k < N → I k a b → (∃ a' b', body a b (k : Int) = some (.inl (a', b', (k : Int) + 1)) ∧ I (k + 1) a' b') ∨ ∃ r, body a b (k : Int) = some (.inr r) ∧ Q r)
    (hend : ∀ a b, I N a b → ∃ r, body a b (N : Int) = some (.inr r) ∧ Q r) {a0 : α} {b0 : β} (h0 : I 0 a0 b0) : ∃ r, loop (t3 body) (a0, b0, 0) = some r ∧ Q r := by
  refine ZeP (body := t3 body) (fun p => ∃ k : Nat, p.2.2 = k ∧ k ≤ N ∧ I k p.1 p.2.1) (fun p => N - p.2.2.toNat) Q ?_ (a0, b0, 0) ⟨0, rfl, Nat.zero_le _, h0⟩
  rintro ⟨a, b, i⟩ ⟨k, hi, hk, hI⟩
  simp only at hi hI
  subst hi
  simp only [Int.toNat_natCast, Zdd]
  rcases Nat.lt_or_ge k N with h | h
  · rcases hstep k a b h hI with ⟨a', b', h1, h2⟩ | ⟨r, h1, h2⟩
    · exact .inl ⟨_, h1, ⟨k + 1, by push_cast; rfl, h, h2⟩, by simp only; omega⟩
    · exact .inr ⟨r, h1, h2⟩
  · have : k = N := by omega
    subst this
    exact .inr (hend a b hI)
theorem Zf4 {ρ : Type} {body : Int → Option (Int ⊕ ρ)} {N : Nat} (I : Nat → Prop) (Q : ρ → Prop)
    (hstep : ∀ k : Nat, k < N → I k → (body (k : Int) = some (.inl ((k : Int) + 1)) ∧ I (k + 1)) ∨ ∃ r, body (k : Int) = some (.inr r) ∧ Q r)
    (hend : I N → ∃ r, body (N : Int) = some (.inr r) ∧ Q r) (h0 : I 0) : ∃ r, loop (t1 body) 0 = some r ∧ Q r := by
  refine ZeP (body := t1 body) (fun p => ∃ k : Nat, p = k ∧ k ≤ N ∧ I k) (fun p => N - p.toNat) Q ?_ 0 ⟨0, rfl, Nat.zero_le _, h0⟩
  rintro i ⟨k, hi, hk, hI⟩
  subst hi
  simp only [Int.toNat_natCast, XL]
  rcases Nat.lt_or_ge k N with h | h
  · rcases hstep k h hI with ⟨h1, h2⟩ | ⟨r, h1, h2⟩
    · exact .inl ⟨_, h1, ⟨k + 1, by push_cast; rfl, h, h2⟩, by omega⟩
    · exact .inr ⟨r, h1, h2⟩
  · have : k = N := by omega
    subst this
    exact .inr (hend hI)
theorem ZoW {α : Type} {o : List α} {at_ : Nat} (z : α) (h : at_ ≤ o.length) (n : α) :
    (cpy (o ++ [z]) (at_ + 1) ((o.length + 1) - (at_ + 1)) at_ ((o.length + 1) - at_)).set at_ n = o.take at_ ++ n :: o.drop at_ := by
  have hl : (o ++ [z]).length = o.length + 1 := by simp
  have h1 : (at_ + 1) + ((o.length + 1) - (at_ + 1)) ≤ (o ++ [z]).length := by omega
  have h2 : at_ + ((o.length + 1) - at_) ≤ (o ++ [z]).length := by omega
  refine List.ext_getElem? fun i => ?_
  by_cases hi : i < o.length + 1
  · by_cases hia : i = at_
    · subst hia
      rw [List.getElem?_set_self (by rw [Zfa h1 h2]; omega), List.getElem?_append_right (by simp; omega)]
      simp [Nat.min_eq_left h]
    · rw [List.getElem?_set_ne (Ne.symm hia), Zl8 h1 h2 (by omega)]
      by_cases hlt : i < at_
      · rw [if_neg (by omega), List.getElem?_append_left (by omega), List.getElem?_append_left (by simp; omega), List.getElem?_take_of_lt hlt]
      · rw [if_pos (by omega), List.getElem?_append_left (by omega), List.getElem?_append_right (by simp; omega)]
        have e : i - (o.take at_).length = (i - at_ - 1) + 1 := by simp; omega
        rw [e, List.getElem?_cons_succ, List.getElem?_drop]
        congr 1
  · rw [List.getElem?_eq_none (by rw [List.length_set, Zfa h1 h2]; omega), List.getElem?_eq_none (by simp; omega)]
theorem Zqb {o : List Int} {at_ : Nat} (h : at_ ≤ o.length) (n : Int) :
    (cpy (o ++ [0]) (at_ + 1) ((o.length + 1) - (at_ + 1)) at_ ((o.length + 1) - at_)).set at_ n = o.take at_ ++ n :: o.drop at_ := ZoW 0 h n
end Go.Vx

namespace Go.Vx
open Go Go.RowKit
def slotL (s : List Int) (i : Nat) : List Int := (s.take (16 + i * 97 + 97)).drop (16 + i * 97)
theorem ZeH {s : List Int} {i : Nat} (h : 16 + i * 97 + 97 ≤ s.length) : (slotL s i).length = 97 := by unfold slotL; simp; omega
theorem Zm7 {s : List Int} {i : Nat} (hl : s.length ≤ 140737488355328) (h : 16 + i * 97 + 97 ≤ s.length) : ∃ v, Zad s (i : Int) = some v ∧ v.toList = slotL s i := by
  unfold Zad
  have e1 : i64 ((i : Int) * 97) = (i : Int) * 97 := Zo (by omega) (by omega)
  have e2 : i64 (16 + (i : Int) * 97) = ((16 + i * 97 : Nat) : Int) := (Zo (by omega) (by omega)).trans (by omega)
  have e3 : i64 (((16 + i * 97 : Nat) : Int) + 97) = ((16 + i * 97 + 97 : Nat) : Int) := (Zo (by omega) (by omega)).trans (by omega)
  rw [e1, e2, e3, ZgR (by omega) h, Option.bind_some]
  obtain ⟨v, hv, hvl⟩ := ZnT (m := 97) (xs := (s.take (16 + i * 97 + 97)).drop (16 + i * 97)) (by simp; omega)
  rw [hv]
  refine ⟨v, rfl, ?_⟩
  rw [hvl, List.take_of_length_le (by rw [List.length_drop, List.length_take]; omega)]; unfold slotL; rfl
def stV (l : List Int) : Int := if l.getD 96 0 = 0 then 1 else if l.any (fun x => !decide (x = 255)) then 2 else 0
theorem Znv {l : List Int} (hl : l.length ≤ 9223372036854775806) : Z0 l (fun z0 => XN z0) = some (l.any fun x => !decide (x = 255)) := by
  have key : loop (t1 (Z3 l (fun z0 => XN z0))) 0 = some (match l.findIdx? (fun x => !decide (x = 255)) with | some k => .inl (k : Int) | none => .inr ()) := by
    refine (Zlf (xs := l) (fun k => (match (l.drop k).findIdx? (fun x => !decide (x = 255)) with | some j => (.inl ((j + k : Nat) : Int) : Int ⊕ Unit) | none => .inr ())) (fun k x hx => ?_) ?_).trans (by simp)
    · have hk := (List.getElem?_eq_some_iff.1 hx).1
      unfold Z3 XN
      rw [if_pos (by simpa using hk), ZG hx]
      simp only [Option.bind_some]
      rw [show i64 ((k : Int) + 1) = (k : Int) + 1 from Zo (by omega) (by omega), ZdG hx, List.findIdx?_cons]
      by_cases e : x = 255
      · left
        subst e
        refine ⟨by simp, ?_⟩
        simp only [decide_true, Bool.not_true, Bool.false_eq_true, if_false]
        cases (l.drop (k + 1)).findIdx? (fun x => !decide (x = 255)) with
        | none => rfl
        | some j => simp only [Option.map_some]; congr 2; omega
      · right
        simp [e]
    · unfold Z3
      rw [if_neg (by simp)]
      simp
  unfold Z0 Qs
  rw [key]
  cases hf : l.findIdx? (fun x => !decide (x = 255)) with
  | none =>
    rw [List.findIdx?_eq_none_iff] at hf
    simp only [Option.bind_some, Sum.elim_inr, ZoY]
    congr 1
    symm
    rw [show decide ((0 : Int) ≤ -1) = false from rfl]
    rw [List.any_eq_false]
    intro x hx
    simpa using hf x hx
  | some k =>
    simp only [Option.bind_some, Sum.elim_inl]
    congr 1
    rw [decide_eq_true (by omega)]
    symm
    rw [List.any_eq_true]
    obtain ⟨hk, h1, _⟩ := List.findIdx?_eq_some_iff_getElem.1 hf
    exact ⟨l[k], List.getElem_mem hk, h1⟩
theorem Zmt {v : Vector Int 97} {l : List Int} (hv : v.toList = l) (hl : l.length = 97) : JD v = some (stV l) := by
  unfold JD
  rw [show ZP v 96 = some (l.getD 96 0) from Zkq (k := 96) (by rw [hv]; exact JR (by omega) 0), Option.bind_some]
  unfold stV
  by_cases h : l.getD 96 0 = 0
  · rw [if_pos (by simpa using h), if_pos h]
  · rw [if_neg (by simpa using h), if_neg h]
    rw [hv, show slc l 0 (97 : Int) = some l from (ZgR (a := 0) (b := 97) (by omega) (by omega)).trans (by rw [List.take_of_length_le (by omega)]; rfl), Option.bind_some, Znv (by omega), Option.bind_some]
    cases l.any (fun x => !decide (x = 255)) <;> simp
end Go.Vx

namespace Go.Vx
open Go Go.RowKit
def rd (f : Vector Int 64) (i : Nat) : Int := f.toList.getD i 0
theorem ZnS {f g : Vector Int 64} (h : ∀ i, i < 64 → rd f i = rd g i) : f = g := by
  apply Vector.toList_inj.1
  apply List.ext_getElem (by simp)
  intro i h1 h2
  have := h i (by simpa using h1)
  unfold rd at this
  rw [List.getD_eq_getElem?_getD, List.getD_eq_getElem?_getD, List.getElem?_eq_getElem h1, List.getElem?_eq_getElem h2] at this
  exact this
def Zli (g : Nat → Int) : Vector Int 64 := Vector.ofFn fun j : Fin 64 => g j.val
theorem Zky (g : Nat → Int) {i : Nat} (hi : i < 64) : rd (Zli g) i = g i := by
  unfold rd Zli
  rw [List.getD_eq_getElem?_getD, List.getElem?_eq_getElem (by simpa using hi)]
  simp
def Zgv (l : List Int) (i : Nat) : Int := if i % 2 = 0 then l.getD (3 * (i / 2)) 0 * 16 + l.getD (3 * (i / 2) + 1) 0 / 16 else (l.getD (3 * (i / 2) + 1) 0 % 16) * 256 + l.getD (3 * (i / 2) + 2) 0
theorem Zqh {k : Nat} (h : k ≤ 9223372036854775807) : quo .i64 (k : Int) 2 = some ((k / 2 : Nat) : Int) := by
  unfold quo
  rw [if_neg (by decide)]
  have e3 : Int.tdiv (k : Int) 2 = ((k / 2 : Nat) : Int) := rfl
  rw [e3, Zo (by omega) (by omega)]
theorem Zq1 (k : Nat) : rem (k : Int) 2 = some ((k % 2 : Nat) : Int) := by
  unfold rem
  rw [if_neg (by decide)]; rfl
end Go.Vx

namespace Go.Vx
open Go Go.RowKit
def Ze5 (x : law3_Deed) : Prop := wfT x.Freeze ∧ (wfV (wfI .u16)) x.Frame ∧ (wfI .i64) x.Power ∧ True
def ZcU (x : api_Memory) : Prop := (wfI .i64) x.Slots ∧ (wfI .i64) x.Limit ∧ (wfL (wfL (wfI .u8))) x.Sectors ∧ (wfL (wfI .i64)) x.Wear ∧ (wfL wfT) x.Bad ∧ True
end Go.Vx

namespace Go.Vx
open Go Go.RowKit
def ZdR (m : api_Memory) (i : Int) : Int := (XU (m.Sectors.getD i.toNat [])).1
def okM (m : api_Memory) (k : Nat) : Bool := (XU (m.Sectors.getD k [])).2.2 && !(m.Bad.getD k false)
def hdM (m : api_Memory) : Nat → List Int
  | 0 => []
  | k + 1 => hdM m k ++ if okM m k = true then [(k : Int)] else []
theorem Zj6 (m : api_Memory) (k : Nat) : hdM m (k + 1) = hdM m k ++ if okM m k = true then [(k : Int)] else [] := rfl
theorem Zjy (m : api_Memory) : ∀ (k : Nat) x, x ∈ hdM m k → 0 ≤ x ∧ x < k
  | 0, x, h => by cases h
  | k + 1, x, h => by
    unfold hdM at h
    rcases List.mem_append.1 h with q | q
    · have := Zjy m k x q; omega
    · split at q
      · rw [List.mem_singleton.1 q]; omega
      · cases q
theorem Zmd (m : api_Memory) : ∀ k : Nat, (hdM m k).Pairwise (· < ·)
  | 0 => .nil
  | k + 1 => by
    unfold hdM
    refine List.pairwise_append.2 ⟨Zmd m k, by split <;> simp, fun x hx y hy => ?_⟩
    have := Zjy m k x hx
    split at hy
    · rw [List.mem_singleton.1 hy]; omega
    · cases hy
theorem Zhw (m : api_Memory) : ∀ k : Nat, (hdM m k).length ≤ k
  | 0 => Nat.le_refl _
  | k + 1 => by
    unfold hdM
    have := Zhw m k
    rw [List.length_append]
    split <;> simp <;> omega
def memR (m : api_Memory) : Prop := ∀ s ∈ m.Sectors, u8R s
theorem Zjh (s : List Int) : 0 ≤ (XU s).1 ∧ (XU s).1 ≤ 1073741824 := by
  unfold XU
  split
  · simp
  · simp only
    split
    · rename_i h; exact ⟨by simp only; omega, h.2.1⟩
    · simp
theorem ZfW {m : api_Memory} (h : memR m) (k : Nat) : u8R (m.Sectors.getD k []) := by
  rw [List.getD_eq_getElem?_getD]
  cases e : m.Sectors[k]? with
  | none => intro x hx; cases hx
  | some s => exact h s (List.mem_of_getElem? e)
theorem Zq2 {m : api_Memory} (hm : memR m) (x y : Int) (hx : 0 ≤ x ∧ x < m.Sectors.length) (hy : 0 ≤ y ∧ y < m.Sectors.length) : ∃ c, XJ x y m = some c ∧ (c < 0 ↔ ZdR m x < ZdR m y) := by
  have one : ∀ z : Int, 0 ≤ z ∧ z < m.Sectors.length → XP z m = some (ZdR m z) := fun z hz => by
    obtain ⟨k, rfl⟩ := Int.eq_ofNat_of_zero_le hz.1
    unfold XP ZdR
    rw [ZG (JR (by omega) []), Option.bind_some, Zko (ZfW hm k), Option.bind_some]; rfl
  unfold XJ
  rw [one x hx, one y hy]
  have bx := Zjh (m.Sectors.getD x.toNat [])
  have by_ := Zjh (m.Sectors.getD y.toNat [])
  refine ⟨_, rfl, ?_⟩
  unfold ZdR
  rw [show i64 ((XU (m.Sectors.getD x.toNat [])).1 - (XU (m.Sectors.getD y.toNat [])).1) = _ from Zo (by omega) (by omega)]
  omega
theorem ZmQ {m : api_Memory} (hm : memR m) (hl : m.Sectors.length ≤ 64) (hb : m.Bad.length = m.Sectors.length) :
    ∃ l, Xr m = some l ∧ l.Perm (hdM m m.Sectors.length) ∧ Srt (ZdR m) l := by
  unfold Xr
  obtain ⟨o, h1, h2⟩ := ZcV (body := XX m) (s0 := []) (N := m.Sectors.length) (fun k acc => acc = hdM m k) (fun r => r = hdM m m.Sectors.length) (fun k acc hk hI => .inl (by
      subst hI
      unfold XX
      have hlen := Zhw m k
      rw [if_pos (by simpa using hk), ZG (JR hk []), Option.bind_some, Zko (ZfW hm k), Option.bind_some, show i64 ((k : Int) + 1) = (k : Int) + 1 from Zo (by omega) (by omega), ZG (JR (by omega) false)]
      have ok : okM m k = ((XU (m.Sectors.getD k [])).2.2 && !(m.Bad.getD k false)) := rfl
      cases hh : (XU (m.Sectors.getD k [])).2.2 with
      | false =>
        rw [hh] at ok
        refine ⟨hdM m k, by simp [gd], ?_⟩
        rw [Zj6, ok]; simp
      | true =>
        rw [hh] at ok
        cases hB : m.Bad.getD k false with
        | true =>
          rw [hB] at ok
          refine ⟨hdM m k, by simp [gd], ?_⟩
          rw [Zj6, ok]; simp
        | false =>
          rw [hB] at ok
          refine ⟨hdM m k ++ [(k : Int)], ?_, ?_⟩
          · simp only [gd, beq_self_eq_true, if_true, Option.bind_some, Bool.not_false, Bool.and_self]
            first | rw [Zbb (by simp; omega)] | rw [ZdV (by simp; omega)]
            rfl
          · show _ = hdM m k ++ _
            rw [ok]; simp)) (fun acc hI => ⟨acc, by unfold XX; rw [if_neg (by simp)], hI⟩) rfl
  subst h2
  rw [h1]
  simp only [Option.bind_some, XL]
  have hlen := Zhw m m.Sectors.length
  obtain ⟨l, k1, k2, k3⟩ := ZmU (key := ZdR m) (D := fun x => 0 ≤ x ∧ x < m.Sectors.length) (cmp := fun z0 z1 => XJ z0 z1 m) (Zq2 hm) (l := hdM m m.Sectors.length) (by omega) (Zmd m _) (fun x hx => Zjy m _ x hx)
  rw [k1]
  exact ⟨l, rfl, k2, k3⟩
theorem Zod {body : Int → Option (Int ⊕ Int)} (P : Nat → Bool) {n : Nat} (h1 : ∀ k : Nat, 0 < k → k ≤ n → body k = if P (k - 1) = true then some (.inr (k : Int)) else some (.inl ((k - 1 : Nat) : Int))) (h0 : body 0 = some (.inr 0)) :
    ∃ r : Nat, loop (t1 body) (n : Int) = some (r : Int) ∧ r ≤ n ∧ (0 < r → P (r - 1) = true) ∧ (r < n → P r = false) := by
  suffices H : ∀ k : Nat, k ≤ n → (k < n → P k = false) → ∃ r : Nat, loop (t1 body) (k : Int) = some (r : Int) ∧ r ≤ n ∧ (0 < r → P (r - 1) = true) ∧ (r < n → P r = false) from H n (Nat.le_refl _) (fun h => absurd h (Nat.lt_irrefl _))
  intro k
  induction k with
  | zero => intro _ hk; exact ⟨0, ZbQ (by simpa using h0), by omega, fun h => by omega, hk⟩
  | succ k ih =>
    intro hkn hk
    have e := h1 (k + 1) (by omega) hkn
    by_cases hp : P k = true
    · rw [Nat.add_sub_cancel, if_pos hp] at e
      exact ⟨k + 1, ZbQ (by simpa using e), hkn, fun _ => hp, hk⟩
    · rw [Nat.add_sub_cancel, if_neg hp] at e
      obtain ⟨r, k1, k2⟩ := ih (by omega) (fun _ => by simpa using hp)
      exact ⟨r, ZeG (by simpa using e) k1, k2⟩
theorem Zm8 {m : api_Memory} (hm : memR m) (hl : m.Sectors.length ≤ 64) (hb : m.Bad.length = m.Sectors.length) :
    ∃ l, Zed m = some l ∧ l.Perm (hdM m m.Sectors.length) ∧ Srt (ZdR m) l := by
  unfold Zed
  obtain ⟨o, h1, h2⟩ := ZcV (body := Zcb m) (s0 := []) (N := m.Sectors.length) (fun k acc => acc.Perm (hdM m k) ∧ Srt (ZdR m) acc) (fun r => r.Perm (hdM m m.Sectors.length) ∧ Srt (ZdR m) r) (fun k acc hk hI => .inl (by
      obtain ⟨i1, i2⟩ := hI
      have hlen := Zhw m k
      have hal : acc.length ≤ k := by rw [i1.length_eq]; exact hlen
      unfold Zcb
      rw [if_pos (by simpa using hk), ZG (JR hk []), Option.bind_some, Znq (ZfW hm k), Option.bind_some, show i64 ((k : Int) + 1) = (k : Int) + 1 from Zo (by omega) (by omega), ZG (JR (by omega) false)]
      have ok : okM m k = ((XU (m.Sectors.getD k [])).2.2 && !(m.Bad.getD k false)) := rfl
      cases hh : (XU (m.Sectors.getD k [])).2.2 with
      | false =>
        rw [hh] at ok
        refine ⟨acc, by simp [gd], ?_, i2⟩
        rw [Zj6, ok]; simpa using i1
      | true =>
        rw [hh] at ok
        cases hB : m.Bad.getD k false with
        | true =>
          rw [hB] at ok
          refine ⟨acc, by simp [gd], ?_, i2⟩
          rw [Zj6, ok]; simpa using i1
        | false =>
          rw [hB] at ok
          have mem : ∀ z ∈ acc, 0 ≤ z ∧ z < (k : Int) := fun z hz => Zjy m k z (i1.mem_iff.1 hz)
          obtain ⟨r, q1, q2, q3, q4⟩ := Zod (body := Zb2 m acc (XU (m.Sectors.getD k []))) (fun j => decide (ZdR m (acc.getD j 0) ≤ (XU (m.Sectors.getD k [])).1)) (n := acc.length) (fun j j0 jn => by
            unfold Zb2
            have hj := mem (acc.getD (j - 1) 0) (ZbN (by omega))
            obtain ⟨z, hz⟩ := Int.eq_ofNat_of_zero_le hj.1
            rw [if_pos (by simpa using j0), show i64 ((j : Int) - 1) = ((j - 1 : Nat) : Int) from (Zo (by omega) (by omega)).trans (by omega), ZG (JR (by omega) 0), Option.bind_some, hz,
              ZG (JR (by omega) []), Option.bind_some, Znq (ZfW hm z), Option.bind_some]
            by_cases q : ZdR m (z : Int) ≤ (XU (m.Sectors.getD k [])).1
            · rw [if_pos (by simpa [ZdR] using q), if_pos (by simpa using q)]
            · rw [if_neg (by simpa [ZdR] using q), if_neg (by simpa using q)]) (by unfold Zb2; rw [if_neg (by simp)])
          refine ⟨acc.take r ++ (k : Int) :: acc.drop r, ?_, ?_, ?_⟩
          · simp only [gd, beq_self_eq_true, if_true, Option.bind_some, Bool.not_true, Bool.or_self, Bool.false_eq_true, if_false]
            rw [q1]
            simp only [Option.bind_some, XL]
            rw [show apz 8 acc [0] = some (acc ++ [0]) from Zbb (by simp; omega), Option.bind_some]
            rw [show i64 ((r : Int) + 1) = ((r + 1 : Nat) : Int) from (Zo (by omega) (by omega)).trans (by omega)]
            have hL : (acc ++ [(0 : Int)]).length = acc.length + 1 := by simp
            have sq : ∀ j : Nat, j ≤ acc.length + 1 → slq (acc ++ [(0 : Int)]) (j : Int) ((acc ++ [(0 : Int)]).length : Int) = some () := fun j hj => by
              unfold slq; rw [hL]
              have a1 : (j : Int) ≤ ((acc.length + 1 : Nat) : Int) := by omega
              simp only [decide_eq_true (show (0 : Int) ≤ (j : Int) by omega), decide_eq_true a1, decide_eq_true (Nat.succ_pos _), decide_eq_true (Nat.le_refl _), Bool.and_self]
              simp [ck]
            rw [sq (r + 1) (by omega), Option.bind_some, sq r (by omega), Option.bind_some]
            have t1 : Int.toNat (((acc ++ [(0 : Int)]).length : Int) - ((r + 1 : Nat) : Int)) = (acc.length + 1) - (r + 1) := by rw [hL]; omega
            have t2' : Int.toNat (((acc ++ [(0 : Int)]).length : Int) - (r : Int)) = (acc.length + 1) - r := by rw [hL]; omega
            rw [t1, t2']
            simp only [Int.toNat_natCast]
            obtain ⟨z, hz⟩ := Za6 (xs := cpy (acc ++ [(0 : Int)]) (r + 1) ((acc.length + 1) - (r + 1)) r ((acc.length + 1) - r)) (k := r) (by rw [Zfa (by rw [hL]; omega) (by rw [hL]; omega), hL]; omega)
            rw [ZG hz, Option.bind_some, Zqb q2]
          · refine List.perm_middle.trans ?_
            rw [List.take_append_drop]
            refine (List.Perm.cons _ i1).trans ?_
            rw [Zj6, ok]
            simpa using (List.perm_append_comm (l₁ := [(k : Int)]) (l₂ := hdM m k))
          · have hk' : ZdR m (k : Int) = (XU (m.Sectors.getD k [])).1 := rfl
            have hA : Srt (ZdR m) (acc.take r) := i2.sublist (List.take_sublist ..)
            have hB' : Srt (ZdR m) (acc.drop r) := i2.sublist (List.drop_sublist ..)
            have hAy : ∀ a ∈ acc.take r, LtK (ZdR m) a k := by
              have := Zf2 (key := ZdR m) (m := [(k : Int)]) hA (List.pairwise_singleton ..) (fun a b ha hb => by
                simp only [List.head?_cons, Option.some.injEq] at hb
                subst hb
                rw [List.getLast?_eq_getElem?, List.length_take, Nat.min_eq_left q2] at ha
                have l2 := (List.getElem?_eq_some_iff.1 ha).1
                rw [List.length_take] at l2
                rw [List.getElem?_take_of_lt (by omega)] at ha
                have q := q3 (by omega)
                rw [List.getD_eq_getElem?_getD, ha] at q
                have q := of_decide_eq_true q
                simp only [Option.getD_some] at q
                have := (mem a (List.mem_of_getElem? ha)).2
                unfold LtK; omega)
              exact fun a ha => this a ha k (List.mem_singleton.2 rfl)
            have hyB : ∀ b ∈ acc.drop r, LtK (ZdR m) k b := by
              have := Zf2 (key := ZdR m) (l := [(k : Int)]) (List.pairwise_singleton ..) hB' (fun a b ha hb => by
                simp only [List.getLast?_singleton, Option.some.injEq] at ha
                subst ha
                rw [List.head?_drop] at hb
                have l1 := (List.getElem?_eq_some_iff.1 hb).1
                have q := q4 (by omega)
                rw [List.getD_eq_getElem?_getD, hb] at q
                have q := of_decide_eq_false q
                simp only [Option.getD_some] at q
                exact .inl (by omega))
              exact fun b hb => this k (List.mem_singleton.2 rfl) b hb
            refine hA.app (List.pairwise_cons.2 ⟨hyB, hB'⟩) fun a ha b hb => ?_
            rcases List.mem_cons.1 hb with rfl | hb
            · exact hAy a ha
            · exact (hAy a ha).trans (hyB b hb))) (fun acc hI => ⟨acc, by unfold Zcb; rw [if_neg (by simp)], hI⟩) ⟨.refl _, .nil⟩
  rw [h1]
  exact ⟨o, rfl, h2⟩
theorem Zou {m : api_Memory} (hm : memR m) (hl : m.Sectors.length ≤ 64) (hb : m.Bad.length = m.Sectors.length) :
    ∃ l, Xr m = some l ∧ Zed m = some l ∧ l.Perm (hdM m m.Sectors.length) ∧ Srt (ZdR m) l := by
  obtain ⟨l, a1, a2, a3⟩ := ZmQ hm hl hb
  obtain ⟨l', b1, b2, b3⟩ := Zm8 hm hl hb
  have : l' = l := Zjg (b2.trans a2.symm) b3 a3
  subst this
  exact ⟨l', a1, b1, a2, a3⟩
end Go.Vx

namespace Go.Vx
open Go Go.RowKit
structure MemOK (m : api_Memory) : Prop where
  slots : 1 ≤ m.Slots ∧ m.Slots ≤ 64
  limit : 1 ≤ m.Limit ∧ m.Limit ≤ 1000000
  n : 2 ≤ m.Sectors.length ∧ m.Sectors.length ≤ 64
  wear : m.Wear.length = m.Sectors.length
  bad : m.Bad.length = m.Sectors.length
  row : ∀ s ∈ m.Sectors, (s.length : Int) = 16 + m.Slots * 97
  wr : ∀ x ∈ m.Wear, 0 ≤ x ∧ x ≤ m.Limit
theorem Zp1 (x a b : Int) : (decide (x < a) || decide (b < x)) = !(decide (a ≤ x) && decide (x ≤ b)) := by
  by_cases h1 : a ≤ x <;> by_cases h2 : x ≤ b <;> simp [h1, h2] <;> omega
theorem ZdN (x a b : Int) : Qo x a b = some (decide (a ≤ x) && decide (x ≤ b)) := by
  unfold Qo
  by_cases h1 : a ≤ x <;> simp [h1, gd]
theorem Zj2 (x a b : Int) : JB x a b = some (!(decide (a ≤ x) && decide (x ≤ b))) := by
  rw [← Zp1]
  unfold JB
  by_cases h1 : x < a <;> simp [h1, gd]
theorem ZpZ (m : api_Memory) : ZcL m = QX m := by
  have hb : Zbc m = Qp m := by
    funext i
    unfold Zbc Qp Xh
    simp only [Option.bind_some, ZdN, Zj2]
  unfold ZcL QX
  rw [hb]
  simp only [ZdN, Zj2]
  generalize (decide (1 ≤ m.Slots) && decide (m.Slots ≤ 64)) = A
  generalize (decide (1 ≤ m.Limit) && decide (m.Limit ≤ 1000000)) = B
  generalize (decide ((2 : Int) ≤ (m.Sectors.length : Int)) && decide ((m.Sectors.length : Int) ≤ 64)) = C
  cases A <;> cases B <;> cases C <;> simp [gd]
theorem ZqW (m : api_Memory) : ∃ c, QX m = some c ∧ (c = 0 → MemOK m) ∧ (MemOK m → c = 0) := by
  unfold QX
  simp only [ZdN, Option.bind_some]
  by_cases hA : 1 ≤ m.Slots ∧ m.Slots ≤ 64
  · by_cases hB : 1 ≤ m.Limit ∧ m.Limit ≤ 1000000
    · by_cases hC : 2 ≤ m.Sectors.length ∧ m.Sectors.length ≤ 64
      · by_cases hD : m.Wear.length = m.Sectors.length ∧ m.Bad.length = m.Sectors.length
        · obtain ⟨r, h1, h2⟩ := Zf4 (body := Qp m) (N := m.Sectors.length) (fun k => ∀ j, j < k → ((m.Sectors.getD j []).length : Int) = 16 + m.Slots * 97 ∧ 0 ≤ m.Wear.getD j 0 ∧ m.Wear.getD j 0 ≤ m.Limit)
            (fun r => (∃ e, r = .inl e ∧ e ≠ 0 ∧ ¬ MemOK m) ∨ (r = .inr () ∧ ∀ j, j < m.Sectors.length → ((m.Sectors.getD j []).length : Int) = 16 + m.Slots * 97 ∧ 0 ≤ m.Wear.getD j 0 ∧ m.Wear.getD j 0 ≤ m.Limit)) (fun k hk hI => by
              unfold Qp Xh
              have gS := JR (s := m.Sectors) hk []
              have gW := JR (s := m.Wear) (k := k) (by omega) 0
              rw [if_pos (by simpa using hk), ZG gS, Option.bind_some, show i64 (m.Slots * 97) = m.Slots * 97 from Zo (by omega) (by omega), show i64 (16 + m.Slots * 97) = 16 + m.Slots * 97 from Zo (by omega) (by omega), Option.bind_some,
                ZG gW, Option.bind_some, ZdN, Option.bind_some, show i64 ((k : Int) + 1) = (k : Int) + 1 from Zo (by omega) (by omega)]
              by_cases q : ((m.Sectors.getD k []).length : Int) = 16 + m.Slots * 97
              · rw [if_neg (by simpa using q)]
                by_cases q2 : 0 ≤ m.Wear.getD k 0 ∧ m.Wear.getD k 0 ≤ m.Limit
                · left
                  rw [if_neg (by simpa using q2)]
                  refine ⟨rfl, fun j hj => ?_⟩
                  by_cases e : j = k
                  · subst e; exact ⟨q, q2⟩
                  · exact hI j (by omega)
                · right
                  exact ⟨_, by rw [if_pos (by rw [Bool.not_eq_true', Bool.and_eq_false_iff, decide_eq_false_iff_not, decide_eq_false_iff_not]; omega)], .inl ⟨9, rfl, by decide, fun w => q2 (w.wr _ (ZbN (by omega)))⟩⟩
              · right
                exact ⟨_, by rw [if_pos (by simpa using q)], .inl ⟨3, rfl, by decide, fun w => q (w.row _ (List.mem_of_getElem? gS))⟩⟩)
            (fun hI => ⟨.inr (), by unfold Qp; rw [if_neg (by simp)], .inr ⟨rfl, hI⟩⟩) (fun j hj => absurd hj (Nat.not_lt_zero _))
          have hw1 : ((m.Wear.length : Int) = (m.Sectors.length : Int)) := by omega
          have hw2 : ((m.Bad.length : Int) = (m.Sectors.length : Int)) := by omega
          have hc1 : (2 : Int) ≤ (m.Sectors.length : Int) := by omega
          have hc2 : (m.Sectors.length : Int) ≤ 64 := by omega
          simp only [decide_eq_true hA.1, decide_eq_true hA.2, decide_eq_true hB.1, decide_eq_true hB.2, decide_eq_true hc1, decide_eq_true hc2, decide_eq_true hw1, decide_eq_true hw2, Bool.and_self, Bool.not_true, Bool.or_self, gd, beq_self_eq_true, if_true, Option.bind_some, Bool.false_eq_true, if_false]
          rw [h1]
          rcases h2 with ⟨e, rfl, he, hno⟩ | ⟨rfl, hall⟩
          · exact ⟨e, rfl, fun q => absurd q he, fun w => absurd w hno⟩
          · refine ⟨0, rfl, fun _ => ⟨hA, hB, hC, hD.1, hD.2, fun s hs => ?_, fun x hx => ?_⟩, fun _ => rfl⟩
            · obtain ⟨j, hj, rfl⟩ := List.getElem_of_mem hs
              have := (hall j hj).1
              rwa [List.getD_eq_getElem?_getD, List.getElem?_eq_getElem hj] at this
            · obtain ⟨j, hj, rfl⟩ := List.getElem_of_mem hx
              have := (hall j (by omega)).2
              rwa [List.getD_eq_getElem?_getD, List.getElem?_eq_getElem hj] at this
        · refine ⟨2, ?_, fun q => by simp at q, fun w => absurd ⟨w.wear, w.bad⟩ hD⟩
          have hc1 : (2 : Int) ≤ (m.Sectors.length : Int) := by omega
          have hc2 : (m.Sectors.length : Int) ≤ 64 := by omega
          simp only [decide_eq_true hA.1, decide_eq_true hA.2, decide_eq_true hB.1, decide_eq_true hB.2, decide_eq_true hc1, decide_eq_true hc2, Bool.and_self, Bool.not_true, Bool.or_self, gd, beq_self_eq_true, if_true, Option.bind_some, Bool.false_eq_true, if_false]
          rw [if_pos]
          simp; omega
      · refine ⟨9, ?_, fun q => by simp at q, fun w => absurd w.n hC⟩
        have hc : (decide ((2 : Int) ≤ (m.Sectors.length : Int)) && decide ((m.Sectors.length : Int) ≤ 64)) = false := by simp; omega
        simp only [decide_eq_true hA.1, decide_eq_true hA.2, decide_eq_true hB.1, decide_eq_true hB.2, hc, Bool.and_self, Bool.not_true, Bool.or_self, gd, beq_self_eq_true, if_true, Option.bind_some]
        simp
    · refine ⟨9, ?_, fun q => by simp at q, fun w => absurd w.limit hB⟩
      have hc : (decide (1 ≤ m.Limit) && decide (m.Limit ≤ 1000000)) = false := by simpa using hB
      simp [decide_eq_true hA.1, decide_eq_true hA.2, hc, gd]
  · refine ⟨9, ?_, fun q => by simp at q, fun w => absurd w.slots hA⟩
    have hc : (decide (1 ≤ m.Slots) && decide (m.Slots ≤ 64)) = false := by simpa using hA
    simp [hc, gd]
theorem Zkk {α : Type} {s : Nat} {l : List α} (h : l.length ≤ 140737488355328 / s) : Zen s l = some l := (Zbb (by simpa using h)).trans (by simp)
theorem Zqd {m : api_Memory} (h : MemOK m) : X0 m = some m := by
  have hs := h.slots
  have hr : ∀ s ∈ m.Sectors, s.length ≤ 7000 := fun s hs => by have := h.row s hs; omega
  have hn := h.n
  unfold X0
  obtain ⟨r, h1, h2⟩ := ZcV (body := Q8 m) (s0 := []) (N := m.Sectors.length) (fun k acc => acc = m.Sectors.take k) (fun r => r = m.Sectors) (fun k acc hk hI => .inl (by
      subst hI
      have hd := JR (s := m.Sectors) hk []
      have hl := hr _ (List.mem_of_getElem? hd)
      refine ⟨m.Sectors.take k ++ [m.Sectors.getD k []], ?_, ?_⟩
      · unfold Q8
        rw [if_pos (by simpa using hk), ZG hd, Option.bind_some, Zkk (by omega), Option.bind_some]
        rw [show apz 24 (m.Sectors.take k) [m.Sectors.getD k []] = some (m.Sectors.take k ++ [m.Sectors.getD k []]) from Zbb (by simp; omega), Option.bind_some, show i64 ((k : Int) + 1) = (k : Int) + 1 from Zo (by omega) (by omega)]
      · rw [List.take_succ, hd]; rfl)) (fun acc hI => ⟨acc, by unfold Q8; rw [if_neg (by simp)], by rw [hI, List.take_length]⟩) rfl
  subst h2
  rw [h1]
  simp only [Option.bind_some, XL]
  rw [Zkk (by have := h.wear; omega), Option.bind_some, Zkk (by have := h.bad; omega), Option.bind_some]
end Go.Vx

namespace Go.Vx
open Go Go.RowKit
theorem ZnG {z : Int} (h1 : -9223372036854775808 ≤ z) (h2 : z ≤ 9223372036854775807) : i64 z = z := Zo h1 h2
theorem ZpE {n : Nat} (h : n ≤ 61) : (1 : Int) ≤ 2 ^ n ∧ (2 : Int) ^ n ≤ 2305843009213693952 := by
  have e : ((2 ^ n : Nat) : Int) = (2 : Int) ^ n := by push_cast; rfl
  have h1 : 1 ≤ 2 ^ n := Nat.one_le_two_pow
  have h2 : 2 ^ n ≤ 2 ^ 61 := Nat.pow_le_pow_right (by decide) h
  rw [show (2 : Nat) ^ 61 = 2305843009213693952 by decide] at h2
  omega
theorem Zk1 {v : Int} {n : Nat} (hn : n ≤ 61) : QD .i64 v ((2 : Int) ^ n - 1) = v % (2 : Int) ^ n := by
  have hb := ZpE hn
  have e : ((2 : Int) ^ n - 1) = ((2 ^ n - 1 : Nat) : Int) := by
    have h1 : 1 ≤ 2 ^ n := Nat.one_le_two_pow
    have h2 : ((2 ^ n : Nat) : Int) = (2 : Int) ^ n := by push_cast; rfl
    omega
  have h2 : 2 ^ n ≤ 2 ^ 61 := Nat.pow_le_pow_right (by decide) hn
  have h2p : 0 < 2 ^ n := Nat.two_pow_pos n
  have e2 : (BitVec.ofInt 64 ((2 : Int) ^ n - 1)).toNat = 2 ^ n - 1 := by
    rw [e, BitVec.ofInt_natCast, BitVec.toNat_ofNat]
    exact Nat.mod_eq_of_lt (by have : (2 : Nat) ^ 61 < 2 ^ 64 := by decide
                               omega)
  have e3 : ((BitVec.ofInt 64 v).toNat : Int) = v % (2 : Int) ^ 64 := by
    rw [BitVec.toNat_ofInt]
    have : (0 : Int) ≤ v % ((2 ^ 64 : Nat) : Int) := Int.emod_nonneg _ (by decide)
    rw [Int.toNat_of_nonneg this]; rfl
  have e4 : ((BitVec.ofInt 64 v &&& BitVec.ofInt 64 ((2 : Int) ^ n - 1)).toNat : Int) = v % (2 : Int) ^ n := by
    rw [BitVec.toNat_and, e2, Nat.and_two_pow_sub_one_eq_mod]
    push_cast
    rw [e3]
    have : ((2 : Int) ^ n) ∣ (2 : Int) ^ 64 := ⟨(2 : Int) ^ (64 - n), by rw [← Int.pow_add]; congr 1; omega⟩
    exact Int.emod_emod_of_dvd v this
  have hp : (0 : Int) < (2 : Int) ^ n := by omega
  have b1 := Int.emod_nonneg v (show (2 : Int) ^ n ≠ 0 by omega)
  have b2 := Int.emod_lt_of_pos v hp
  unfold QD
  have : IntKind.i64.bits = 64 := rfl
  rw [this, e4]
  exact ZnG (by omega) (by omega)
theorem ZqD {a b n : Nat} (ha : a < 2 ^ n) (hb : a + 2 ^ n * b < 2 ^ 62) : bor .i64 (a : Int) ((2 ^ n * b : Nat) : Int) = ((a + 2 ^ n * b : Nat) : Int) := by
  unfold bor
  have e0 : IntKind.i64.bits = 64 := rfl
  have h64 : (2 : Nat) ^ 62 < 2 ^ 64 := by decide
  have e1 : (BitVec.ofInt 64 (a : Int)).toNat = a := by
    rw [BitVec.ofInt_natCast, BitVec.toNat_ofNat]; exact Nat.mod_eq_of_lt (by omega)
  have e2 : (BitVec.ofInt 64 ((2 ^ n * b : Nat) : Int)).toNat = 2 ^ n * b := by
    rw [BitVec.ofInt_natCast, BitVec.toNat_ofNat]; exact Nat.mod_eq_of_lt (by omega)
  rw [e0, BitVec.toNat_or, e1, e2, Nat.or_comm, ← Nat.two_pow_add_eq_or_of_lt ha, Nat.add_comm]
  have h62 : (2 : Nat) ^ 62 = 4611686018427387904 := by decide
  exact ZnG (by omega) (by omega)
end Go.Vx

namespace Go.Vx
open Go Go.RowKit
theorem ZlT {a : Nat} (h : a < 9223372036854775808) : (BitVec.ofInt 64 (a : Int)).toNat = a := by
  rw [BitVec.ofInt_natCast, BitVec.toNat_ofNat]; exact Nat.mod_eq_of_lt (by omega)
theorem Zpr {a b : Nat} (ha : a < 9223372036854775808) (hb : b < 9223372036854775808) : QD .i64 (a : Int) (b : Int) = ((a &&& b : Nat) : Int) := by
  unfold QD
  have e0 : IntKind.i64.bits = 64 := rfl
  rw [e0, BitVec.toNat_and, ZlT ha, ZlT hb]
  have := Nat.and_le_left (n := a) (m := b)
  exact ZnG (by omega) (by omega)
theorem Zn5 {a b : Nat} (ha : a < 9223372036854775808) (hb : b < 9223372036854775808) : Zcd .i64 (a : Int) (b : Int) = ((a ^^^ b : Nat) : Int) := by
  unfold Zcd
  have e0 : IntKind.i64.bits = 64 := rfl
  rw [e0, BitVec.toNat_xor, ZlT ha, ZlT hb]
  have : a ^^^ b < 2 ^ 63 := Nat.xor_lt_two_pow (by omega) (by omega)
  exact ZnG (by omega) (by omega)
def restB : BitVec 22 := 2097167#22
def zS (v : BitVec 22) : BitVec 22 := (v <<< 1) ^^^ (if v.msb then restB else 0#22)
theorem Zp0 (a b : BitVec 22) : zS (a ^^^ b) = zS a ^^^ zS b := by
  have e1 : ∀ x y r : BitVec 22, (x ^^^ r) ^^^ (y ^^^ r) = x ^^^ y := fun x y r => by
    rw [BitVec.xor_assoc, BitVec.xor_comm y r, ← BitVec.xor_assoc r r y, BitVec.xor_self, BitVec.zero_xor]
  have e2 : ∀ x y r : BitVec 22, (x ^^^ r) ^^^ y = (x ^^^ y) ^^^ r := fun x y r => by
    rw [BitVec.xor_assoc, BitVec.xor_comm r y, ← BitVec.xor_assoc]
  unfold zS
  rw [BitVec.shiftLeft_xor_distrib, BitVec.msb_xor]
  cases a.msb <;> cases b.msb
  · simp
  · simp [BitVec.xor_assoc]
  · simp [e2]
  · simp [e1]
def pS (b : Nat → Bool) : Nat → BitVec 22
  | 0 => 0#22
  | k + 1 => zS (pS b k) ^^^ (if b k then restB else 0#22)
def rS (b : Nat → Bool) : Nat → BitVec 22
  | 0 => 0#22
  | k + 1 => zS (rS b k) ^^^ (if b k then 1#22 else 0#22)
def zI : Nat → BitVec 22 → BitVec 22
  | 0, v => v
  | k + 1, v => zS (zI k v)
theorem Zqc (k : Nat) (a b : BitVec 22) : zI k (a ^^^ b) = zI k a ^^^ zI k b := by
  induction k with
  | zero => rfl
  | succ k ih => simp only [zI, ih, Zp0]
theorem ZqU (k : Nat) (v : BitVec 22) : zI k (zS v) = zS (zI k v) := by
  induction k with
  | zero => rfl
  | succ k ih => simp only [zI, ih]
theorem zI_one : zI 22 1#22 = restB := by decide
theorem zI_zero : zI 22 0#22 = 0#22 := by decide
theorem Zpf (b : Nat → Bool) : ∀ k, pS b k = zI 22 (rS b k)
  | 0 => zI_zero.symm
  | k + 1 => by
    rw [pS, rS, Zqc, ZqU, Zpf b k]
    congr 1
    cases b k
    · exact zI_zero.symm
    · exact zI_one.symm
theorem Zl0 {b : Nat → Bool} {n : Nat} (h : ∀ k, n ≤ k → b k = false) : ∀ j, rS b (n + j) = zI j (rS b n)
  | 0 => rfl
  | j + 1 => by
    rw [← Nat.add_assoc, rS, Zl0 h j, h _ (by omega)]
    simp [zI]
theorem ZpO {b : Nat → Bool} {n : Nat} (h : ∀ k, n ≤ k → b k = false) : rS b (n + 22) = pS b n := by rw [Zl0 h, Zpf]
theorem ZqP (v : BitVec 22) : decide (QD .i64 (v.toNat : Int) 2097152 = 0) = !v.msb := by
  have := v.isLt
  rw [show (2097152 : Int) = ((2097152 : Nat) : Int) from rfl, Zpr (by omega) (by omega)]
  rw [show (2097152 : Nat) = 2 ^ 21 from rfl]
  have e : v.msb = v.toNat.testBit 21 := by rw [BitVec.msb_eq_getLsbD_last]; rfl
  rw [e]
  have e2 : (v.toNat &&& 2 ^ 21).testBit 21 = v.toNat.testBit 21 := by rw [Nat.testBit_and, Nat.testBit_two_pow_self, Bool.and_true]
  cases hb : v.toNat.testBit 21
  · have : v.toNat &&& 2 ^ 21 = 0 := by
      refine Nat.eq_of_testBit_eq fun i => ?_
      rw [Nat.testBit_and, Nat.testBit_two_pow]
      by_cases h : 21 = i
      · subst h; rw [hb]; simp
      · simp [h]
    rw [this]; rfl
  · have : v.toNat &&& 2 ^ 21 ≠ 0 := fun h => by rw [h, Nat.zero_testBit, hb] at e2; cases e2
    have : ((v.toNat &&& 2 ^ 21 : Nat) : Int) ≠ 0 := by omega
    simp only [this, decide_false, Bool.not_true]
theorem Zqt (v : BitVec 22) : shl .i64 (v.toNat : Int) 1 = some ((v.toNat : Int) * 2) := by
  have := v.isLt
  unfold shl
  rw [if_neg (by decide)]
  congr 1
  have e : (2 : Int) ^ min (Int.toNat 1) IntKind.i64.bits = 2 := rfl
  rw [e]
  exact ZnG (by omega) (by omega)
theorem ZqM (v : BitVec 22) : QD .i64 ((v.toNat : Int) * 2) 4194303 = ((v <<< 1).toNat : Int) := by
  have e : (4194303 : Int) = (2 : Int) ^ 22 - 1 := by decide
  rw [e, Zk1 (n := 22) (by decide), BitVec.toNat_shiftLeft, Nat.shiftLeft_eq]
  rw [Int.natCast_emod, Int.natCast_mul]
  rfl
theorem Zra (v : BitVec 22) : Zcd .i64 (v.toNat : Int) 2097167 = ((v ^^^ restB).toNat : Int) := by
  have := v.isLt
  rw [show (2097167 : Int) = ((2097167 : Nat) : Int) from rfl, Zn5 (by omega) (by omega), BitVec.toNat_xor]
  rfl
theorem Zos (v : BitVec 22) (b : Bool) : zS v ^^^ (if b then restB else 0#22) = if (!(v.msb == b)) = true then (v <<< 1) ^^^ restB else v <<< 1 := by
  unfold zS
  cases v.msb <;> cases b
  · simp
  · simp
  · simp
  · simp [BitVec.xor_assoc]
theorem ZnK (m : Nat) : (2 * m) ^^^ 1 = 2 * m + 1 := by
  have h1 : ((2 * m) ^^^ 1) % 2 ^ 1 = (2 * m) % 2 ^ 1 ^^^ 1 % 2 ^ 1 := Nat.xor_mod_two_pow
  have h2 : ((2 * m) ^^^ 1) / 2 ^ 1 = (2 * m) / 2 ^ 1 ^^^ 1 / 2 ^ 1 := Nat.xor_div_two_pow
  rw [show (2 * m) % 2 ^ 1 = 0 by omega, show 1 % 2 ^ 1 = 1 from rfl, Nat.zero_xor] at h1
  rw [show (2 * m) / 2 ^ 1 = m by omega, show 1 / 2 ^ 1 = 0 from rfl, Nat.xor_zero] at h2
  omega
theorem Zoc (v : BitVec 22) (b : Bool) : let R : Nat := 2 * v.toNat + b.toNat
    (if 4194304 ≤ R then R ^^^ 6291471 else R) = (zS v ^^^ (if b then 1#22 else 0#22)).toNat := by
  intro R
  have hv := v.isLt
  have hb : b.toNat ≤ 1 := by cases b <;> decide
  have hm : v.msb = decide (2097152 ≤ v.toNat) := by
    rw [BitVec.msb_eq_decide]
  have es : (v <<< 1).toNat = (2 * v.toNat) % 4194304 := by rw [BitVec.toNat_shiftLeft, Nat.shiftLeft_eq]; congr 1; omega
  obtain ⟨s, hs⟩ : ∃ s, (v <<< 1).toNat = 2 * s := ⟨(v <<< 1).toNat / 2, by omega⟩
  have e1 : ∀ u : BitVec 22, ((v <<< 1) ^^^ u ^^^ (if b then 1#22 else 0#22)).toNat = ((v <<< 1).toNat + b.toNat) ^^^ u.toNat := fun u => by
    rw [BitVec.toNat_xor, BitVec.toNat_xor, hs]
    cases b
    · simp
    · simp only [if_true, Bool.toNat_true]
      rw [← ZnK, Nat.xor_assoc, Nat.xor_comm u.toNat, ← Nat.xor_assoc]; rfl
  unfold zS
  by_cases h : 2097152 ≤ v.toNat
  · rw [if_pos (by omega), hm, decide_eq_true h, if_pos rfl, e1]
    have h1 : (R ^^^ 6291471) % 2 ^ 22 = R % 2 ^ 22 ^^^ 6291471 % 2 ^ 22 := Nat.xor_mod_two_pow
    have h2 : (R ^^^ 6291471) / 2 ^ 22 = R / 2 ^ 22 ^^^ 6291471 / 2 ^ 22 := Nat.xor_div_two_pow
    have h3 : R / 2 ^ 22 = 1 := by omega
    have h4 : R % 2 ^ 22 = (v <<< 1).toNat + b.toNat := by omega
    rw [h3, show 6291471 / 2 ^ 22 = 1 from rfl, Nat.xor_self] at h2
    rw [h4, show 6291471 % 2 ^ 22 = restB.toNat from rfl] at h1
    omega
  · rw [if_neg (by omega), hm, decide_eq_false h, if_neg (by decide), e1]
    simp only [BitVec.toNat_ofNat, Nat.zero_mod, Nat.xor_zero]
    omega
end Go.Vx


namespace Go.Vx
open Go Go.RowKit
end Go.Vx

namespace Go.Vx
open Go Go.RowKit
theorem ZoK {n : Int} (h : wfI .u16 n) : 0 ≤ n ∧ n ≤ 65535 := by
  have h' : (decide (IntKind.u16.min ≤ n) && decide (n ≤ IntKind.u16.max)) = true := h
  have e1 : IntKind.u16.min = 0 := by decide
  have e2 : IntKind.u16.max = 65535 := by decide
  rw [e1, e2] at h'
  simpa using h'
theorem Zcq {z : Int} (h1 : -9223372036854775808 ≤ z) (h2 : z ≤ 9223372036854775807) : i64 z = z := Zo h1 h2
end Go.Vx

namespace Go.Vx
open Go Go.RowKit
def w3 (a b c : Int) : Int := 256 * a + 16 * b + c
def hL (l : List Int) : Prop := ∀ x ∈ l, 0 ≤ x ∧ x ≤ 15
end Go.Vx

namespace Go.Vx
open Go Go.RowKit
theorem Zhz {σ ρ : Type} {body : σ → Int → Option ((σ × Int) ⊕ ρ)} (S : Nat → σ) (R : ρ) {a b : Nat} (hab : a ≤ b)
    (hstep : ∀ k : Nat, a ≤ k → k < b → body (S k) (k : Int) = some (.inl (S (k + 1), (k : Int) + 1))) (hend : body (S b) (b : Int) = some (.inr R)) :
    loop (t2 body) (S a, (a : Int)) = some R := by
  refine Zf8 (body := t2 body) (fun s => ∃ k : Nat, a ≤ k ∧ k ≤ b ∧ s = (S k, (k : Int))) (fun s => b - s.2.toNat) (fun _ => R) ?_ _ ⟨a, Nat.le_refl _, hab, rfl⟩
  rintro _ ⟨k, h1, h2, rfl⟩
  rcases Nat.lt_or_ge k b with h | h
  · exact .inl ⟨_, hstep k h1 h, ⟨k + 1, by omega, h, by push_cast; rfl⟩, by simp only; omega, rfl⟩
  · obtain rfl : k = b := by omega
    exact .inr hend
theorem Zoj {σ ρ : Type} {body : σ → Int → Option ((σ × Int) ⊕ ρ)} (S : Nat → σ) (R : ρ) {b : Nat}
    (hstep : ∀ k : Nat, k < b → body (S (b - 1 - k)) (k : Int) = some (.inl (S (b - k), (k : Int) - 1))) (hend : body (S b) (-1) = some (.inr R)) :
    loop (t2 body) (S 0, (b : Int) - 1) = some R := by
  refine Zf8 (body := t2 body) (fun s => ∃ k : Nat, k ≤ b ∧ s = (S (b - k), (k : Int) - 1)) (fun s => (s.2 + 1).toNat) (fun _ => R) ?_ _ ⟨b, Nat.le_refl _, by rw [Nat.sub_self]⟩
  rintro _ ⟨k, h2, rfl⟩
  rcases Nat.eq_zero_or_pos k with rfl | h
  · exact .inr hend
  · obtain ⟨j, rfl⟩ : ∃ j, k = j + 1 := ⟨k - 1, by omega⟩
    refine .inl ⟨_, ?_, ⟨j, by omega, rfl⟩, ?_, rfl⟩
    · have := hstep j h2
      rw [show ((j + 1 : Nat) : Int) - 1 = (j : Int) by omega, show b - (j + 1) = b - 1 - j by omega]
      exact this
    · simp only; omega
def wd (f : Vector Int 64) (i : Nat) : Int := f.toList.getD i 0
def fU (f : Vector Int 64) : Prop := ∀ i, 0 ≤ wd f i ∧ wd f i ≤ 65535
theorem ZqL {f : Vector Int 64} (h : wfV (wfI .u16) f) : fU f := by
  intro i
  unfold wd
  rcases Nat.lt_or_ge i f.toList.length with hi | hi
  · obtain ⟨x, hx⟩ := Za6 hi
    rw [List.getD_eq_getElem?_getD, hx]
    exact ZoK (h x (List.mem_of_getElem? hx))
  · rw [List.getD_eq_getElem?_getD, List.getElem?_eq_none hi]
    exact ⟨by decide, by decide⟩
theorem Js (f : Vector Int 64) {i : Nat} (hi : i < 64) : ZP f (i : Int) = some (wd f i) := by
  unfold ZP wd
  rw [if_pos (by omega), Int.toNat_natCast]
  obtain ⟨x, hx⟩ := Za6 (xs := f.toList) (k := i) (by simp; omega)
  rw [List.getD_eq_getElem?_getD, hx]; rfl
theorem ZhY {x : Int} (h : 0 ≤ x ∧ x ≤ 65535) : X6 x = some (x % 2048) := by
  obtain ⟨n, rfl⟩ : ∃ n : Nat, x = n := ⟨x.toNat, by omega⟩
  have e0 : IntKind.u16.bits = 16 := rfl
  have e1 : (BitVec.ofInt 16 (n : Int)).toNat = n := by
    rw [BitVec.ofInt_natCast, BitVec.toNat_ofNat]; exact Nat.mod_eq_of_lt (by omega)
  have e2 : (BitVec.ofInt 16 2047).toNat = 2 ^ 11 - 1 := rfl
  have e3 : QD .u16 (n : Int) 2047 = ((n % 2048 : Nat) : Int) := by
    unfold QD
    rw [e0, BitVec.toNat_and, e1, e2, Nat.and_two_pow_sub_one_eq_mod]
    have : n % 2 ^ 11 < 2048 := Nat.mod_lt _ (by decide)
    simp only [IntKind.wrap, IntKind.signed, IntKind.bits]
    have e : (2 : Int) ^ 16 = 65536 := by decide
    simp [e]
    omega
  unfold X6
  rw [e3, Zcq (by omega) (by omega)]; rfl
theorem Zim {x : Int} (h : 0 ≤ x) (n : Int) (hn : 0 < n) : rem x n = some (x % n) := by
  unfold rem
  rw [if_neg (by omega), Int.tmod_eq_emod_of_nonneg h]
def Jo (f : Vector Int 64) : Int := wd f 1 % 2048 + wd f 2 % 2048 * 2048
theorem Zkn (f : Vector Int 64) : 0 ≤ Jo f ∧ Jo f < 4194304 := by unfold Jo; omega
theorem Zo5 {a b : Int} (ha : 0 ≤ a ∧ a < 2048) (hb : 0 ≤ b ∧ b < 2048) : (shl .i64 b 11).bind (fun q => some (bor .i64 a q)) = some (a + b * 2048) ∧ (shl .i64 a 11).bind (fun q => some (bor .i64 q b)) = some (a * 2048 + b) := by
  have e : ∀ z : Int, 0 ≤ z ∧ z < 2048 → shl .i64 z 11 = some (z * 2048) := fun z hz => by
    unfold shl
    rw [if_neg (by decide)]
    have e : (2 : Int) ^ min (Int.toNat 11) IntKind.i64.bits = 2048 := rfl
    rw [e, w64 (by omega) (by omega)]
  have e2 : ∀ x y : Int, 0 ≤ x ∧ x < 2048 → 0 ≤ y ∧ y < 2048 → bor .i64 x (y * 2048) = x + y * 2048 := fun x y hx hy => by
    obtain ⟨m, rfl⟩ : ∃ m : Nat, x = m := ⟨x.toNat, by omega⟩
    obtain ⟨n, rfl⟩ : ∃ n : Nat, y = n := ⟨y.toNat, by omega⟩
    have := ZqD (a := m) (b := n) (n := 11) (by rw [show (2 : Nat) ^ 11 = 2048 by decide]; omega) (by rw [show (2 : Nat) ^ 11 = 2048 by decide, show (2 : Nat) ^ 62 = 4611686018427387904 by decide]; omega)
    rw [show (2 : Nat) ^ 11 = 2048 by decide] at this
    rw [show ((n : Int) * 2048) = ((2048 * n : Nat) : Int) by omega, this]; omega
  have e3 : ∀ x y : Int, bor .i64 x y = bor .i64 y x := fun x y => by unfold bor; rw [BitVec.or_comm]
  rw [e b hb, e a ha, Option.bind_some, Option.bind_some, e2 a b ha hb, e3, e2 b a hb ha]
  exact ⟨rfl, by rw [Int.add_comm]⟩
theorem Zri {a b : Int} (h1 : 0 ≤ a ∧ a ≤ 65535) (h2 : 0 ≤ b ∧ b ≤ 65535) : i64 (b % 2048 * 2048) = b % 2048 * 2048 ∧ i64 (a % 2048 + b % 2048 * 2048) = a % 2048 + b % 2048 * 2048 ∧ i64 a = a ∧ i64 b = b := ⟨Zcq (by omega) (by omega), Zcq (by omega) (by omega), Zcq (by omega) (by omega), Zcq (by omega) (by omega)⟩
theorem Zlw {f : Vector Int 64} (h : fU f) : XH f = some (Jo f) ∧ XG f = some (Jo f) := by
  have v1 : ZP f 1 = some (wd f 1) := Js f (i := 1) (by decide)
  have v2 : ZP f 2 = some (wd f 2) := Js f (i := 2) (by decide)
  obtain ⟨e1, e2, e3, e4⟩ := Zri (h 1) (h 2)
  refine ⟨?_, ?_⟩
  · unfold XH Jo
    rw [v1, Option.bind_some, ZhY (h 1), Option.bind_some, v2, Option.bind_some, ZhY (h 2), Option.bind_some, (Zo5 (by omega) (by omega)).1]
  · unfold XG Jo
    rw [v1, Option.bind_some, e3, Zim (h 1).1 _ (by decide), Option.bind_some, v2, Option.bind_some, e4, Zim (h 2).1 _ (by decide), Option.bind_some, e1, e2]
def Zd5 (f : Vector Int 64) : Nat → Int
  | 0 => 0
  | k + 1 => Zcd .i64 (Zd5 f k) (wd f (k + 1) % 2048)
theorem Zl9 {f : Vector Int 64} (h : fU f) : ZaL f = some (Zd5 f 60) ∧ Zdc f = some (Zd5 f 60) := by
  constructor
  · have := Zhz (body := Je f) (Zd5 f) (Zd5 f 60) (a := 0) (b := 60) (by decide) (fun k _ hk => by
      have hw := h (k + 1)
      unfold Je
      rw [if_pos (by simp; omega), Zcq (by omega) (by omega), show (k : Int) + 1 = ((k + 1 : Nat) : Int) by push_cast; rfl, Js f (by omega), Option.bind_some, ZhY hw, Option.bind_some]
      rfl) (by unfold Je; rw [if_neg (by decide)])
    unfold ZaL
    rw [show ((0 : Int), (0 : Int)) = (Zd5 f 0, ((0 : Nat) : Int)) from rfl, this]
    rfl
  · have := Zhz (body := ZaM f) (fun k => Zd5 f (k - 1)) (Zd5 f 60) (a := 1) (b := 61) (by decide) (fun k h1 hk => by
      have hw := h k
      obtain ⟨j, rfl⟩ : ∃ j, k = j + 1 := ⟨k - 1, by omega⟩
      unfold ZaM
      rw [if_pos (by simp; omega), Js f (by omega), Option.bind_some, Zcq (by omega) (by omega), Zim hw.1 _ (by decide), Option.bind_some, Zcq (by omega) (by omega)]
      rfl) (by unfold ZaM; rw [if_neg (by decide)])
    unfold Zdc
    rw [show ((0 : Int), (1 : Int)) = ((fun k => Zd5 f (k - 1)) 1, ((1 : Nat) : Int)) from rfl, this]
    rfl
def Zdi (f : Vector Int 64) (j : Nat) : Bool := decide (j < 744) && decide (wd f (j / 12) / (2 : Int) ^ (11 - j % 12) % 2 = 1)
theorem ZkB (x : Int) {k : Nat} (hk : k ≤ 11) : shr .u16 x (k : Int) = some (x / (2 : Int) ^ k) := by
  unfold shr
  have hm : min ((k : Int)).toNat IntKind.u16.bits = k := by
    have : IntKind.u16.bits = 16 := rfl
    rw [Int.toNat_natCast]; omega
  have hp : (0 : Int) < 2 ^ k := Int.pow_pos (by decide)
  rw [if_neg (by omega), hm, Int.fdiv_eq_ediv_of_nonneg _ (by omega)]
theorem Zox (x : Int) {k : Nat} (hk : k ≤ 11) : shr .i64 x (k : Int) = some (x / (2 : Int) ^ k) := by
  unfold shr
  have hm : min ((k : Int)).toNat IntKind.i64.bits = k := by
    have : IntKind.i64.bits = 64 := rfl
    rw [Int.toNat_natCast]; omega
  have hp : (0 : Int) < 2 ^ k := Int.pow_pos (by decide)
  rw [if_neg (by omega), hm, Int.fdiv_eq_ediv_of_nonneg _ (by omega)]
theorem Zpw {x : Int} (h : 0 ≤ x ∧ x ≤ 65535) (k : Nat) : 0 ≤ x / (2 : Int) ^ k ∧ x / (2 : Int) ^ k ≤ 65535 := by
  have hp : (0 : Int) < 2 ^ k := Int.pow_pos (by decide)
  have h1 := Int.ediv_nonneg h.1 (Int.le_of_lt hp)
  have h2 : x / (2 : Int) ^ k ≤ x := Int.ediv_le_self _ h.1
  omega
theorem ZlA {x : Int} (h : 0 ≤ x ∧ x ≤ 65535) : QD .u16 x 1 = x % 2 := by
  obtain ⟨n, rfl⟩ : ∃ n : Nat, x = n := ⟨x.toNat, by omega⟩
  have e0 : IntKind.u16.bits = 16 := rfl
  have e1 : (BitVec.ofInt 16 (n : Int)).toNat = n := by
    rw [BitVec.ofInt_natCast, BitVec.toNat_ofNat]; exact Nat.mod_eq_of_lt (by omega)
  have e2 : (BitVec.ofInt 16 1).toNat = 2 ^ 1 - 1 := rfl
  unfold QD
  rw [e0, BitVec.toNat_and, e1, e2, Nat.and_two_pow_sub_one_eq_mod]
  have : n % 2 ^ 1 < 2 := Nat.mod_lt _ (by decide)
  simp only [IntKind.wrap, IntKind.signed, IntKind.bits]
  have e : (2 : Int) ^ 16 = 65536 := by decide
  simp [e]
  omega
theorem Zlu (x : Int) : QD .i64 x 1 = x % 2 := Zk1 (v := x) (n := 1) (by decide)
def ckS (f : Vector Int 64) (k : Nat) : Int := ((pS (Zdi f) k).toNat : Int)
theorem Znb (f : Vector Int 64) (j : Nat) : ckS f (j + 1) = if (!((!decide (QD .i64 (ckS f j) 2097152 = 0)) == Zdi f j)) = true then Zcd .i64 (QD .i64 (ckS f j * 2) 4194303) 2097167 else QD .i64 (ckS f j * 2) 4194303 := by
  have := Zos (pS (Zdi f) j) (Zdi f j)
  unfold ckS
  rw [pS, this, ZqP, Bool.not_not, ZqM, Zra]
  split <;> rfl
theorem Zmv {f : Vector Int 64} (h : fU f) : JM f = some (ckS f 744) := by
  have inner : ∀ i : Nat, i < 62 → loop (t2 (Xe f (i : Int))) (ckS f (12 * i), 11) = some (ckS f (12 * (i + 1))) := fun i hi => by
    have hw := h i
    have := Zoj (body := Xe f (i : Int)) (fun j => ckS f (12 * i + j)) (ckS f (12 * (i + 1))) (b := 12) (fun k hk => by
      have hd := Zpw hw k
      have hv := (pS (Zdi f) (12 * i + (12 - 1 - k))).isLt
      unfold Xe
      have e1 : shl .i64 (ckS f (12 * i + (12 - 1 - k))) 1 = some (ckS f (12 * i + (12 - 1 - k)) * 2) := Zqt _
      rw [if_pos (by simp), e1, Option.bind_some, Js f (by omega), Option.bind_some, ZkB _ (by omega), Option.bind_some, ZlA hd, Zcq (by omega) (by omega)]
      have eb : Zdi f (12 * i + (12 - 1 - k)) = decide (wd f i / (2 : Int) ^ k % 2 = 1) := by
        unfold Zdi
        rw [decide_eq_true (show 12 * i + (12 - 1 - k) < 744 by omega), Bool.true_and, show (12 * i + (12 - 1 - k)) / 12 = i by omega, show 11 - (12 * i + (12 - 1 - k)) % 12 = k by omega]
      have := Znb f (12 * i + (12 - 1 - k))
      rw [eb] at this
      rw [show 12 * i + (12 - k) = 12 * i + (12 - 1 - k) + 1 by omega, this]
      split <;> rfl) (by unfold Xe; rw [if_neg (by decide)]; rw [show 12 * (i + 1) = 12 * i + 12 by omega])
    exact this
  have := Zhz (body := XC f) (fun i => ckS f (12 * i)) (ckS f 744) (a := 0) (b := 62) (by decide) (fun k _ hk => by
    unfold XC
    rw [if_pos (by simp; omega), inner k hk, Option.bind_some, XL, Zcq (by omega) (by omega)]) (by unfold XC; rw [if_neg (by decide)])
  unfold JM
  have e0 : ((0 : Int), (0 : Int)) = ((fun i => ckS f (12 * i)) 0, ((0 : Nat) : Int)) := rfl
  rw [e0, this]
  rfl
def rkS (f : Vector Int 64) (k : Nat) : Int := ((rS (Zdi f) k).toNat : Int)
theorem ZpD {f : Vector Int 64} (h : fU f) : ZaH f = some (ckS f 744) := by
  have hfin : rkS f 766 = ckS f 744 := by
    unfold rkS ckS
    rw [show 766 = 744 + 22 from rfl, ZpO (fun k hk => by unfold Zdi; rw [decide_eq_false (by omega), Bool.false_and])]
  have := Zhz (body := JO f) (rkS f) (ckS f 744) (a := 0) (b := 766) (by decide) (fun k _ hk => by
    have hv := (rS (Zdi f) k).isLt
    have hb : ((if (decide ((k : Int) < 744)) = true then (quo .i64 (k : Int) 12).bind fun q => (ZP f q).bind fun x => (rem (k : Int) 12).bind fun q2 => (shr .i64 (i64 x) (i64 (11 - q2))).bind fun q3 => some (QD .i64 q3 1) else some 0) : Option Int) = some ((Zdi f k).toNat : Int) := by
      by_cases hk2 : k < 744
      · have hw := h (k / 12)
        rw [if_pos (by simp; omega)]
        have e1 : quo .i64 (k : Int) 12 = some ((k / 12 : Nat) : Int) := by
          unfold quo
          rw [if_neg (by decide), Int.tdiv_eq_ediv_of_nonneg (by omega), w64 (by omega) (by omega)]
          rfl
        rw [e1, Option.bind_some, Js f (by omega), Option.bind_some, Zim (by omega) _ (by decide), Option.bind_some, Zcq (by omega) (by omega)]
        have e2 : i64 (11 - (k : Int) % 12) = ((11 - k % 12 : Nat) : Int) := by rw [Zcq (by omega) (by omega)]; omega
        rw [e2, Zox _ (by omega), Option.bind_some, Zlu]
        unfold Zdi
        rw [decide_eq_true hk2, Bool.true_and]
        generalize wd f (k / 12) / (2 : Int) ^ (11 - k % 12) = z
        by_cases hz : z % 2 = 1
        · rw [decide_eq_true hz, hz]; rfl
        · rw [decide_eq_false hz, show z % 2 = 0 by omega]; rfl
      · rw [if_neg (by simp; omega)]
        unfold Zdi
        rw [decide_eq_false hk2, Bool.false_and]; rfl
    unfold JO
    rw [if_pos (by simp; omega), hb, Option.bind_some, XL]
    have hbl : (Zdi f k).toNat ≤ 1 := by cases Zdi f k <;> decide
    have hs := Zoc (rS (Zdi f) k) (Zdi f k)
    simp only at hs
    have er : i64 (i64 (rkS f k * 2) + ((Zdi f k).toNat : Int)) = ((2 * (rS (Zdi f) k).toNat + (Zdi f k).toNat : Nat) : Int) := by
      unfold rkS
      rw [Zcq (z := ((rS (Zdi f) k).toNat : Int) * 2) (by omega) (by omega), Zcq (by omega) (by omega)]; push_cast; omega
    have en : rkS f (k + 1) = ((zS (rS (Zdi f) k) ^^^ (if Zdi f k then 1#22 else 0#22)).toNat : Int) := rfl
    rw [er, en, ← hs, Zcq (z := (k : Int) + 1) (by omega) (by omega)]
    by_cases hc : 4194304 ≤ 2 * (rS (Zdi f) k).toNat + (Zdi f k).toNat
    · rw [if_pos (by simp; omega), if_pos hc, show (6291471 : Int) = ((6291471 : Nat) : Int) from rfl, Zn5 (by omega) (by omega)]
    · rw [if_neg (by simp; omega), if_neg hc]) (by unfold JO; rw [if_neg (by decide), hfin])
  unfold ZaH
  rw [show ((0 : Int), (0 : Int)) = (rkS f 0, ((0 : Nat) : Int)) from rfl, this]
  rfl
end Go.Vx

namespace Go.Vx
open Go Go.RowKit
theorem ZmI {ρ : Type} {body : Int → Option (Int ⊕ ρ)} (P : Nat → Bool) (A Z : ρ) {a b : Nat} (hab : a ≤ b)
    (hstep : ∀ k : Nat, a ≤ k → k < b → body (k : Int) = if P k = true then some (.inl ((k : Int) + 1)) else some (.inr A)) (hend : body (b : Int) = some (.inr Z)) :
    loop (t1 body) (a : Int) = some (cond ((List.range' a (b - a)).all P) Z A) := by
  refine Zf8 (body := t1 body) (fun i => ∃ k : Nat, i = k ∧ a ≤ k ∧ k ≤ b) (fun i => b - i.toNat) (fun i => cond ((List.range' i.toNat (b - i.toNat)).all P) Z A) ?_ (a : Int) ⟨a, rfl, Nat.le_refl _, hab⟩
  rintro i ⟨k, rfl, h1, h2⟩
  simp only [Int.toNat_natCast, XL]
  rcases Nat.lt_or_ge k b with h | h
  · rw [hstep k h1 h]
    obtain ⟨n, hn⟩ : ∃ n, b - k = n + 1 := ⟨b - k - 1, by omega⟩
    rw [hn, List.range'_succ, List.all_cons]
    cases hp : P k
    · right; simp
    · left
      refine ⟨_, by rw [if_pos rfl], ⟨k + 1, by push_cast; rfl, by omega, h⟩, by omega, ?_⟩
      rw [show ((k : Int) + 1).toNat = k + 1 by omega, show b - (k + 1) = n by omega, Bool.true_and]
  · obtain rfl : k = b := by omega
    right
    rw [hend]; simp
def flL (P : Nat → Bool) (c : Int) (a n : Nat) : List api_Flaw := ((List.range' a n).filter fun k => !P k).map fun (k : Nat) => api_Flaw.mk (k : Int) c
theorem ZkV (P : Nat → Bool) (c : Int) (a n : Nat) : flL P c a (n + 1) = flL P c a n ++ (if P (a + n) = true then [] else [api_Flaw.mk ((a + n : Nat) : Int) c]) := by
  unfold flL
  rw [List.range'_1_concat, List.filter_append, List.map_append]
  congr 1
  cases h : P (a + n) <;> simp [h]
theorem ZiI (P : Nat → Bool) (c : Int) (a : Nat) : ∀ n, (flL P c a n).length ≤ n
  | 0 => by simp [flL]
  | n + 1 => by
    have := ZiI P c a n
    rw [ZkV, List.length_append]; split <;> simp <;> omega
theorem ZiQ (P : Nat → Bool) (c : Int) (a n : Nat) : (flL P c a n).length = 0 ↔ (List.range' a n).all P = true := by
  unfold flL
  rw [List.length_map, List.length_eq_zero_iff, List.filter_eq_nil_iff, List.all_eq_true]
  exact ⟨fun h x hx => by have := h x hx; simpa using this, fun h x hx => by rw [h x hx]; decide⟩
theorem ZiS {body : List api_Flaw → Int → Option ((List api_Flaw × Int) ⊕ List api_Flaw)} (P : Nat → Bool) (c : Int) {a b : Nat} (hab : a ≤ b) (l0 : List api_Flaw) (hl : l0.length ≤ 1000) (hb : b ≤ 1000)
    (hstep : ∀ (l : List api_Flaw) (k : Nat), l.length ≤ 2000 → a ≤ k → k < b → body l (k : Int) = if P k = true then some (.inl (l, (k : Int) + 1)) else some (.inl (l ++ [api_Flaw.mk (k : Int) c], (k : Int) + 1)))
    (hend : ∀ l, body l (b : Int) = some (.inr l)) : loop (t2 body) (l0, (a : Int)) = some (l0 ++ flL P c a (b - a)) := by
  have := Zhz (body := body) (fun k => l0 ++ flL P c a (k - a)) (l0 ++ flL P c a (b - a)) (a := a) (b := b) hab (fun k h1 h2 => by
    have hlen := ZiI P c a (k - a)
    rw [hstep _ k (by rw [List.length_append]; omega) h1 h2, show k + 1 - a = k - a + 1 by omega, ZkV, show a + (k - a) = k by omega]
    cases P k <;> simp) (hend _)
  have e : (fun k => l0 ++ flL P c a (k - a)) a = l0 := by simp [flL]
  simp only at e
  rw [e] at this
  exact this
noncomputable def Zqn (n : Nat) : Bool := decide (ZaR (n : Int) = ZcF (n : Int)) && (ZcF (n : Int)).isSome
theorem Zof : (List.range 4096).all Zqn = true := by decide +kernel
noncomputable def Ziy (x : Int) : Bool := (ZcF x).getD false
theorem Zmn {x : Int} (h : 0 ≤ x ∧ x ≤ 4095) : ZaR x = some (Ziy x) ∧ ZbS x = some (Ziy x) := by
  obtain ⟨n, rfl⟩ : ∃ n : Nat, x = n := ⟨x.toNat, by omega⟩
  have := List.all_eq_true.1 Zof n (List.mem_range.2 (by omega))
  simp only [Zqn, Bool.and_eq_true, decide_eq_true_eq] at this
  obtain ⟨h2, h3⟩ := this
  obtain ⟨b, hb⟩ := Option.isSome_iff_exists.1 h3
  unfold Ziy
  rw [hb]
  exact ⟨h2.trans hb, Zip _ b hb⟩
def XD (f : Vector Int 64) (k : Nat) : Bool := decide (wd f k ≤ 4095)
def Zbk (f : Vector Int 64) : Bool := (List.range' 0 64).all (XD f)
theorem ZhF {f : Vector Int 64} (h : Zbk f = true) (k : Nat) (hk : k < 64) : wd f k ≤ 4095 := by
  have := List.all_eq_true.1 h k (List.mem_range'.2 ⟨k, hk, by omega⟩)
  simpa [XD] using this
theorem ZpA (f : Vector Int 64) : Zbx f = some (!Zbk f) := by
  have := ZmI (body := JE f) (XD f) (.inl true : Bool ⊕ Unit) (.inr ()) (a := 0) (b := 64) (by decide) (fun k _ hk => by
    unfold JE XD
    rw [if_pos (by simp; omega), Js f hk, Option.bind_some, Zcq (by omega) (by omega)]
    by_cases hw : 4095 < wd f k
    · rw [if_pos (by simpa using hw), if_neg (by simpa using hw)]
    · rw [if_neg (by simpa using hw), if_pos (by simpa using hw)]) (by unfold JE; rw [if_neg (by decide)])
  unfold Zbx
  have e0 : (0 : Int) = ((0 : Nat) : Int) := rfl
  rw [e0, this]
  unfold Zbk
  rw [Nat.sub_zero]
  cases (List.range' 0 64).all (XD f) <;> rfl
def Zay (n : Int) : Int := gv_frame_syncs.toList.getD (n % 4).toNat 0
theorem ZkC {n : Int} (h : 0 ≤ n) : rem n 4 = some (n % 4) ∧ ZP gv_frame_syncs (n % 4) = some (Zay n) := by
  refine ⟨Zim h _ (by decide), ?_⟩
  unfold ZP Zay
  rw [if_pos (by omega)]
  obtain ⟨x, hx⟩ := Za6 (xs := gv_frame_syncs.toList) (k := (n % 4).toNat) (by simp; omega)
  rw [List.getD_eq_getElem?_getD, hx]; rfl
theorem ZnZ {n : Int} (h : 0 ≤ n) : Zaa n = some (Zay n) := by
  unfold Zaa
  have := (ZkC h).2
  unfold gv_frame_syncs at this
  rw [(ZkC h).1, Option.bind_some, this, Option.bind_some]
noncomputable def Zjc (f : Vector Int 64) (k : Nat) : Bool := Ziy (wd f k)
def ckW (f : Vector Int 64) : Int := wd f 62 % 2048 * 2048 + wd f 63 % 2048
noncomputable def ZhJ (f : Vector Int 64) : Bool := Zbk f && (decide (wd f 0 = Zay (Jo f)) && (decide (wd f 61 % 2048 = Zd5 f 60) && ((List.range' 1 63).all (Zjc f) && decide (ckW f = ckS f 744))))
def Zbd (b : Bool) (i c : Int) : List api_Flaw := if b = true then [] else [api_Flaw.mk i c]
noncomputable def ZmL (f : Vector Int 64) : List api_Flaw :=
  if Zbk f = true then ((Zbd (decide (wd f 0 = Zay (Jo f))) 0 1 ++ flL (Zjc f) 2 1 63) ++ Zbd (decide (wd f 61 % 2048 = Zd5 f 60)) 61 3) ++ Zbd (decide (ckW f = ckS f 744)) 62 4
  else flL (XD f) 5 0 64
theorem Zca (b : Bool) (i c : Int) : (Zbd b i c).length ≤ 1 ∧ ((Zbd b i c).length = 0 ↔ b = true) := by cases b <;> simp [Zbd]
theorem ZlS {f : Vector Int 64} (h : fU f) : ZgP f = some (ZmL f) := by
  have hl1 := ZiS (body := ZcO f) (XD f) 5 (a := 0) (b := 64) (by decide) [] (by decide) (by decide) (fun l k hl _ hk => by
    unfold ZcO XD
    rw [if_pos (by simp; omega), Js f hk, Option.bind_some, Zcq (by omega) (by omega)]
    by_cases hw : 4095 < wd f k
    · rw [if_pos (by simpa using hw), if_neg (by simpa using hw), ZdV (by simp; omega), Option.bind_some]
    · rw [if_neg (by simpa using hw), if_pos (by simpa using hw)]) (fun l => by unfold ZcO; rw [if_neg (by decide)])
  unfold ZgP
  have e0 : (([] : List api_Flaw), (0 : Int)) = ([], ((0 : Nat) : Int)) := rfl
  rw [e0, hl1, Option.bind_some, XL, List.nil_append, Nat.sub_zero]
  have hz := ZiQ (XD f) 5 0 64
  unfold ZmL
  cases hn : Zbk f
  · have : ¬ (flL (XD f) 5 0 64).length = 0 := fun hc => by rw [hz.1 hc |> fun e => (show Zbk f = true from e)] at hn; cases hn
    rw [if_pos (by simp only [decide_eq_true_eq]; omega), if_neg (by decide)]
  · have hz0 : (flL (XD f) 5 0 64).length = 0 := hz.2 hn
    have hnil : flL (XD f) 5 0 64 = [] := List.length_eq_zero_iff.1 hz0
    have hnb := Zkn f
    have v0 : ZP f 0 = some (wd f 0) := Js f (i := 0) (by decide)
    have v61 : ZP f 61 = some (wd f 61) := Js f (i := 61) (by decide)
    have v62 : ZP f 62 = some (wd f 62) := Js f (i := 62) (by decide)
    have v63 : ZP f 63 = some (wd f 63) := Js f (i := 63) (by decide)
    have w0 := h 0
    have w61 := h 61
    have w62 := h 62
    have w63 := h 63
    rw [hnil, if_neg (by decide), v0, Option.bind_some, (Zlw h).2, Option.bind_some, ZnZ hnb.1, Option.bind_some, Zcq (z := wd f 0) (by omega) (by omega)]
    have s1 : (if (!decide (wd f 0 = Zay (Jo f))) = true then (app ([] : List api_Flaw) ([(api_Flaw.mk 0 1)] : List api_Flaw)).bind fun l2 => some l2 else some []) = some (Zbd (decide (wd f 0 = Zay (Jo f))) 0 1) := by
      by_cases hs : wd f 0 = Zay (Jo f)
      · simp [hs, Zbd]
      · rw [ZdV (by simp)]; simp [hs, Zbd]
    rw [s1, Option.bind_some, XL]
    have hl2 := ZiS (body := ZcT f) (Zjc f) 2 (a := 1) (b := 64) (by decide) (Zbd (decide (wd f 0 = Zay (Jo f))) 0 1) (by have := (Zca (decide (wd f 0 = Zay (Jo f))) 0 1).1; omega) (by decide) (fun l k hl _ hk => by
      unfold ZcT Zjc
      have hw := h k
      rw [if_pos (by simp; omega), Js f hk, Option.bind_some, Zcq (z := wd f k) (by omega) (by omega), (Zmn ⟨hw.1, ZhF hn k hk⟩).2, Option.bind_some, Zcq (by omega) (by omega)]
      cases Ziy (wd f k)
      · rw [if_pos (by decide), ZdV (by simp; omega), Option.bind_some]; rfl
      · rfl) (fun l => by unfold ZcT; rw [if_neg (by decide)])
    have e1 : (1 : Int) = ((1 : Nat) : Int) := rfl
    have e2 : (Zbd (decide (wd f 0 = Zay (Jo f))) 0 1, (1 : Int)) = (Zbd (decide (wd f 0 = Zay (Jo f))) 0 1, ((1 : Nat) : Int)) := rfl
    rw [e2, hl2, Option.bind_some, XL, show 64 - 1 = 63 from rfl]
    have b1 := (Zca (decide (wd f 0 = Zay (Jo f))) 0 1).1
    have b2 := ZiI (Zjc f) 2 1 63
    have b3 := (Zca (decide (wd f 61 % 2048 = Zd5 f 60)) 61 3).1
    generalize hX : Zbd (decide (wd f 0 = Zay (Jo f))) 0 1 ++ flL (Zjc f) 2 1 63 = X
    have bX : X.length ≤ 64 := by rw [← hX, List.length_append]; omega
    rw [v61, Option.bind_some, Zcq (z := wd f 61) (by omega) (by omega), Zim w61.1 _ (by decide), Option.bind_some, (Zl9 h).2, Option.bind_some]
    have s2 : (if (!decide (wd f 61 % 2048 = Zd5 f 60)) = true then (app X ([(api_Flaw.mk 61 3)] : List api_Flaw)).bind fun l4 => some l4 else some X) = some (X ++ Zbd (decide (wd f 61 % 2048 = Zd5 f 60)) 61 3) := by
      by_cases hs : wd f 61 % 2048 = Zd5 f 60
      · simp [hs, Zbd]
      · rw [ZdV (by simp; omega)]; simp [hs, Zbd]
    rw [s2, Option.bind_some, XL]
    generalize hW : X ++ Zbd (decide (wd f 61 % 2048 = Zd5 f 60)) 61 3 = W
    have bW : W.length ≤ 65 := by rw [← hW, List.length_append]; omega
    rw [v62, Option.bind_some, Zcq (z := wd f 62) (by omega) (by omega), Zim w62.1 _ (by decide), Option.bind_some, v63, Option.bind_some, Zcq (z := wd f 63) (by omega) (by omega), Zim w63.1 _ (by decide), Option.bind_some, ZpD h, Option.bind_some]
    rw [Zcq (z := wd f 62 % 2048 * 2048) (by omega) (by omega), Zcq (z := wd f 62 % 2048 * 2048 + wd f 63 % 2048) (by omega) (by omega)]
    unfold ckW
    by_cases hs : wd f 62 % 2048 * 2048 + wd f 63 % 2048 = ckS f 744
    · simp [hs, Zbd]
    · rw [ZdV (by simp; omega)]; simp [hs, Zbd]
theorem ZnP {f : Vector Int 64} (h : fU f) : ZgS f = some (ZhJ f) := by
  unfold ZgS
  rw [ZlS h, Option.bind_some]
  congr 1
  unfold ZmL ZhJ
  cases hn : Zbk f
  · have hz := ZiQ (XD f) 5 0 64
    have : ¬ (flL (XD f) 5 0 64).length = 0 := fun hc => by rw [hz.1 hc |> fun e => (show Zbk f = true from e)] at hn; cases hn
    rw [if_neg (by decide), Bool.false_and, decide_eq_false_iff_not]; omega
  · rw [if_pos rfl, Bool.true_and, Bool.eq_iff_iff, decide_eq_true_eq]
    simp only [List.length_append, Bool.and_eq_true]
    have b1 := (Zca (decide (wd f 0 = Zay (Jo f))) 0 1).2
    have b2 := ZiQ (Zjc f) 2 1 63
    have b3 := (Zca (decide (wd f 61 % 2048 = Zd5 f 60)) 61 3).2
    have b4 := (Zca (decide (ckW f = ckS f 744)) 62 4).2
    rw [← b1, ← b2, ← b3, ← b4]
    omega
end Go.Vx

namespace Go.Vx
open Go Go.RowKit
noncomputable def ZkS (f : Vector Int 64) : Int × Bool := if (Ziy (wd f 1) && Ziy (wd f 2)) = true then (Jo f, true) else (0, false)
theorem Zm0 {f : Vector Int 64} (h : fU f) (h1 : wd f 1 ≤ 4095) (h2 : wd f 2 ≤ 4095) : X8 f = some (ZkS f) ∧ Zid f = some (ZkS f) := by
  have w1 := h 1
  have w2 := h 2
  have v1 : ZP f 1 = some (wd f 1) := Js f (i := 1) (by decide)
  have v2 : ZP f 2 = some (wd f 2) := Js f (i := 2) (by decide)
  obtain ⟨o1, o1'⟩ := Zmn (x := wd f 1) ⟨w1.1, h1⟩
  obtain ⟨o2, o2'⟩ := Zmn (x := wd f 2) ⟨w2.1, h2⟩
  obtain ⟨n1, n2⟩ := Zlw h
  have right : ∀ x : Int, 0 ≤ x → x ≤ 4095 → ZbS x = some (Ziy x) → ZeU x = some (Ziy x) := fun x a b e => by
    unfold ZeU
    rw [decide_eq_true b, Zqy, Zcq (by omega) (by omega), e, Option.bind_some, Bool.true_and]
  have r1 := right _ w1.1 h1 o1'
  have r2 := right _ w2.1 h2 o2'
  unfold X8 Zid ZkS
  rw [v1, v2, Option.bind_some, Option.bind_some, o1, r1, Option.bind_some, Option.bind_some, n1, n2]
  generalize Jo f = n
  cases Ziy (wd f 1)
  · exact ⟨rfl, rfl⟩
  · simp only [Bool.not_true, Zrl, show (false == false) = true from rfl, Option.bind_some, o2, r2]
    cases Ziy (wd f 2)
    · exact ⟨rfl, rfl⟩
    · exact ⟨rfl, rfl⟩
end Go.Vx

namespace Go.Vx
open Go Go.RowKit
theorem Zob {f : Vector Int 64} (h : fU f) : Zab f = some (ZmL f) := by
  have hl1 := ZiS (body := Ja f) (XD f) 5 (a := 0) (b := 64) (by decide) [] (by decide) (by decide) (fun l k hl _ hk => by
    unfold Ja XD
    rw [if_pos (by simp; omega), Js f hk, Option.bind_some, Zcq (by omega) (by omega)]
    by_cases hw : 4095 < wd f k
    · rw [if_pos (by simpa using hw), if_neg (by simpa using hw), ZdV (by simp; omega), Option.bind_some]
    · rw [if_neg (by simpa using hw), if_pos (by simpa using hw)]) (fun l => by unfold Ja; rw [if_neg (by decide)])
  unfold Zab
  have e0 : (([] : List api_Flaw), (0 : Int)) = ([], ((0 : Nat) : Int)) := rfl
  rw [e0, hl1, Option.bind_some, XL, List.nil_append, Nat.sub_zero]
  have hz := ZiQ (XD f) 5 0 64
  unfold ZmL
  cases hn : Zbk f
  · have : ¬ (flL (XD f) 5 0 64).length = 0 := fun hc => by rw [hz.1 hc |> fun e => (show Zbk f = true from e)] at hn; cases hn
    rw [if_pos (by simp only [decide_eq_true_eq]; omega), if_neg (by decide)]
  · have hz0 : (flL (XD f) 5 0 64).length = 0 := hz.2 hn
    have hnil : flL (XD f) 5 0 64 = [] := List.length_eq_zero_iff.1 hz0
    have hnb := Zkn f
    have v0 : ZP f 0 = some (wd f 0) := Js f (i := 0) (by decide)
    have v61 : ZP f 61 = some (wd f 61) := Js f (i := 61) (by decide)
    have v62 : ZP f 62 = some (wd f 62) := Js f (i := 62) (by decide)
    have v63 : ZP f 63 = some (wd f 63) := Js f (i := 63) (by decide)
    have w0 := h 0
    have w61 := h 61
    have w62 := h 62
    have w63 := h 63
    rw [hnil, if_neg (by decide), v0, Option.bind_some, (Zlw h).1, Option.bind_some, (ZkC hnb.1).1, Option.bind_some, (ZkC hnb.1).2, Option.bind_some]
    have s1 : (if (!decide (wd f 0 = Zay (Jo f))) = true then (app ([] : List api_Flaw) ([(api_Flaw.mk 0 1)] : List api_Flaw)).bind fun l2 => some l2 else some []) = some (Zbd (decide (wd f 0 = Zay (Jo f))) 0 1) := by
      by_cases hs : wd f 0 = Zay (Jo f)
      · simp [hs, Zbd]
      · rw [ZdV (by simp)]; simp [hs, Zbd]
    rw [s1, Option.bind_some, XL]
    have hl2 := ZiS (body := Jj f) (Zjc f) 2 (a := 1) (b := 64) (by decide) (Zbd (decide (wd f 0 = Zay (Jo f))) 0 1) (by have := (Zca (decide (wd f 0 = Zay (Jo f))) 0 1).1; omega) (by decide) (fun l k hl _ hk => by
      unfold Jj Zjc
      have hw := h k
      rw [if_pos (by simp; omega), Js f hk, Option.bind_some, (Zmn ⟨hw.1, ZhF hn k hk⟩).1, Option.bind_some, Zcq (by omega) (by omega)]
      cases Ziy (wd f k)
      · rw [if_pos (by decide), ZdV (by simp; omega), Option.bind_some]; rfl
      · rfl) (fun l => by unfold Jj; rw [if_neg (by decide)])
    have e1 : (1 : Int) = ((1 : Nat) : Int) := rfl
    have e2 : (Zbd (decide (wd f 0 = Zay (Jo f))) 0 1, (1 : Int)) = (Zbd (decide (wd f 0 = Zay (Jo f))) 0 1, ((1 : Nat) : Int)) := rfl
    rw [e2, hl2, Option.bind_some, XL, show 64 - 1 = 63 from rfl]
    have b1 := (Zca (decide (wd f 0 = Zay (Jo f))) 0 1).1
    have b2 := ZiI (Zjc f) 2 1 63
    have b3 := (Zca (decide (wd f 61 % 2048 = Zd5 f 60)) 61 3).1
    generalize hX : Zbd (decide (wd f 0 = Zay (Jo f))) 0 1 ++ flL (Zjc f) 2 1 63 = X
    have bX : X.length ≤ 64 := by rw [← hX, List.length_append]; omega
    rw [v61, Option.bind_some, ZhY (h 61), Option.bind_some, (Zl9 h).1, Option.bind_some]
    have s2 : (if (!decide (wd f 61 % 2048 = Zd5 f 60)) = true then (app X ([(api_Flaw.mk 61 3)] : List api_Flaw)).bind fun l4 => some l4 else some X) = some (X ++ Zbd (decide (wd f 61 % 2048 = Zd5 f 60)) 61 3) := by
      by_cases hs : wd f 61 % 2048 = Zd5 f 60
      · simp [hs, Zbd]
      · rw [ZdV (by simp; omega)]; simp [hs, Zbd]
    rw [s2, Option.bind_some, XL]
    generalize hW : X ++ Zbd (decide (wd f 61 % 2048 = Zd5 f 60)) 61 3 = W
    have bW : W.length ≤ 65 := by rw [← hW, List.length_append]; omega
    have ob : 0 ≤ wd f 62 % 2048 ∧ wd f 62 % 2048 < 2048 := by omega
    have oc : 0 ≤ wd f 63 % 2048 ∧ wd f 63 % 2048 < 2048 := by omega
    have eb := (Zo5 ob oc).2
    obtain ⟨q, hq, hq2⟩ : ∃ q, shl .i64 (wd f 62 % 2048) 11 = some q ∧ bor .i64 q (wd f 63 % 2048) = wd f 62 % 2048 * 2048 + wd f 63 % 2048 := by
      cases hh : shl .i64 (wd f 62 % 2048) 11 with
      | none => rw [hh] at eb; cases eb
      | some q => rw [hh, Option.bind_some] at eb; exact ⟨q, rfl, Option.some.inj eb⟩
    rw [v62, Option.bind_some, ZhY (h 62), Option.bind_some, hq, Option.bind_some, v63, Option.bind_some, ZhY (h 63), Option.bind_some, Zmv h, Option.bind_some, hq2]
    unfold ckW
    by_cases hs : wd f 62 % 2048 * 2048 + wd f 63 % 2048 = ckS f 744
    · simp [hs, Zbd]
    · rw [ZdV (by simp; omega)]; simp [hs, Zbd]
theorem ZmZ {f : Vector Int 64} (h : fU f) : (0 < (ZmL f).length) ↔ ZhJ f = false := by
  have := ZnP h
  unfold ZgS at this
  rw [ZlS h, Option.bind_some] at this
  have := Option.some.inj this
  rw [← this, decide_eq_false_iff_not]; omega
end Go.Vx

namespace Go.Vx
open Go Go.RowKit
theorem Zpk : Zev = ring_checkAll_L1 := by
  funext l i
  unfold Zev ring_checkAll_L1
  simp only [ZpZ]
theorem ZqB (l : List api_Memory) : ∃ c, XE l = some c ∧ Zi7 l = some c ∧ (c = 0 → (1 ≤ l.length ∧ l.length ≤ 8) ∧ ∀ m ∈ l, MemOK m) ∧ (((1 ≤ l.length ∧ l.length ≤ 8) ∧ ∀ m ∈ l, MemOK m) → c = 0) := by
  unfold XE Zi7
  rw [ZdN, Zpk]
  simp only [Option.bind_some]
  by_cases h : 1 ≤ l.length ∧ l.length ≤ 8
  · have a1 : ((1 : Int) ≤ (l.length : Int)) := by omega
    have a2 : ((l.length : Int) ≤ 8) := by omega
    have a3 : ¬ ((l.length : Int) = 0) := by omega
    have a4 : ¬ (8 < (l.length : Int)) := by omega
    simp only [decide_eq_true a1, decide_eq_true a2, decide_eq_false a3, decide_eq_false a4, Bool.and_self, Bool.not_true, Bool.or_self, Bool.false_eq_true, if_false]
    obtain ⟨r, h1, h2⟩ := Zf4 (body := ring_checkAll_L1 l) (N := l.length) (fun k => ∀ j, j < k → ∀ m, l[j]? = some m → MemOK m)
      (fun r => (∃ e, r = .inl e ∧ e ≠ 0 ∧ ¬ ∀ m ∈ l, MemOK m) ∨ (r = .inr () ∧ ∀ m ∈ l, MemOK m)) (fun k hk hI => by
        obtain ⟨m, hm⟩ := Za6 hk
        obtain ⟨c, c1, c2, c3⟩ := ZqW m
        unfold ring_checkAll_L1
        rw [if_pos (by simpa using hk), ZG hm, Option.bind_some, c1, Option.bind_some, show i64 ((k : Int) + 1) = (k : Int) + 1 from Zo (by omega) (by omega)]
        by_cases q : c = 0
        · left
          refine ⟨by rw [if_neg (by simp [q])], fun j hj m' hm' => ?_⟩
          by_cases e : j = k
          · subst e; rw [hm] at hm'; cases hm'; exact c2 q
          · exact hI j (by omega) m' hm'
        · right
          exact ⟨_, by rw [if_pos (by simp [q])], .inl ⟨c, rfl, q, fun w => q (c3 (w m (List.mem_of_getElem? hm)))⟩⟩) (fun hI => ⟨.inr (), by unfold ring_checkAll_L1; rw [if_neg (by simp)], .inr ⟨rfl, fun m hm => by
        obtain ⟨j, hj, e⟩ := List.getElem_of_mem hm
        exact hI j hj m (by rw [List.getElem?_eq_getElem hj, e])⟩⟩) (fun j hj => absurd hj (Nat.not_lt_zero _))
    rw [h1]
    rcases h2 with ⟨e, rfl, he, hno⟩ | ⟨rfl, hall⟩
    · exact ⟨e, rfl, rfl, fun q => absurd q he, fun w => absurd w.2 hno⟩
    · exact ⟨0, rfl, rfl, fun _ => ⟨h, hall⟩, fun _ => rfl⟩
  · have a1 : (decide ((1 : Int) ≤ (l.length : Int)) && decide ((l.length : Int) ≤ 8)) = false := by simp; omega
    have a2 : (decide ((l.length : Int) = 0) || decide (8 < (l.length : Int))) = true := by rw [Bool.or_eq_true, decide_eq_true_eq, decide_eq_true_eq]; omega
    rw [a1, a2]
    exact ⟨3, by simp, by simp, fun q => by simp at q, fun w => absurd w.1 h⟩
noncomputable def Zhd (m : api_Memory) : List Int := (Xr m).getD []
theorem ZnW {m : api_Memory} (hm : memR m) (ok : MemOK m) : Xr m = some (Zhd m) ∧ Zed m = some (Zhd m) ∧ (Zhd m).Perm (hdM m m.Sectors.length) ∧ Srt (ZdR m) (Zhd m) := by
  obtain ⟨l, a1, a2, a3, a4⟩ := Zou hm ok.n.2 ok.bad
  have : Zhd m = l := by unfold Zhd; rw [a1]; rfl
  rw [this]
  exact ⟨a1, a2, a3, a4⟩
theorem ZoJ {m : api_Memory} (hm : memR m) (ok : MemOK m) : (Zhd m).length ≤ 64 ∧ ∀ i ∈ Zhd m, 0 ≤ i ∧ i < m.Sectors.length := by
  obtain ⟨_, _, p, _⟩ := ZnW hm ok
  refine ⟨by rw [p.length_eq]; have := Zhw m m.Sectors.length; have := ok.n; omega, fun i hi => Zjy m _ i (p.mem_iff.1 hi)⟩
def frV (s : List Int) (j : Nat) : Vector Int 64 := Zli (Zgv (slotL s j))
def ZlW (m : api_Memory) (mi i : Int) : List api_Kept := (List.range m.Slots.toNat).flatMap fun j => if stV (slotL (m.Sectors.getD i.toNat []) j) = 1 then [api_Kept.mk mi i (XU (m.Sectors.getD i.toNat [])).1 (j : Int) (frV (m.Sectors.getD i.toNat []) j)] else []
def dfM : api_Memory := ⟨0, 0, [], [], []⟩
noncomputable def keptM (m : api_Memory) (mi : Int) : List api_Kept := (Zhd m).flatMap (ZlW m mi)
noncomputable def Zgg (l : List api_Memory) : List api_Kept := (List.range l.length).flatMap fun k => keptM (l.getD k dfM) (k : Int)
theorem row_bd {m : api_Memory} (ok : MemOK m) {i : Nat} (hi : i < m.Sectors.length) {j : Nat} (hj : (j : Int) < m.Slots) : (m.Sectors.getD i []).length ≤ 7000 ∧ 16 + j * 97 + 97 ≤ (m.Sectors.getD i []).length := by
  have h := ok.row _ (getD_memL hi)
  have := ok.slots
  omega
where
  getD_memL {α : Type} {l : List (List α)} {i : Nat} (h : i < l.length) : l.getD i [] ∈ l := by
    rw [List.getD_eq_getElem?_getD, List.getElem?_eq_getElem h]; exact List.getElem_mem h
theorem Zmk {l : List api_Memory} {k : Nat} (h : k < l.length) : l.getD k dfM ∈ l ∧ l[k]? = some (l.getD k dfM) := by
  rw [List.getD_eq_getElem?_getD, List.getElem?_eq_getElem h]
  exact ⟨List.getElem_mem h, rfl⟩
end Go.Vx

namespace Go.Vx
open Go Go.RowKit
def fN (f : Vector Int 64) : Prop := ∀ i, 0 ≤ wd f i ∧ wd f i ≤ 4095
theorem fN.u {f : Vector Int 64} (h : fN f) : fU f := fun i => ⟨(h i).1, by have := (h i).2; omega⟩
theorem Zmz {m : api_Memory} {mi i : Int} {x : api_Kept} (h : x ∈ ZlW m mi i) : ∃ j : Nat, (j : Int) < m.Slots ∧ stV (slotL (m.Sectors.getD i.toNat []) j) = 1 ∧ x = ⟨mi, i, (XU (m.Sectors.getD i.toNat [])).1, j, frV (m.Sectors.getD i.toNat []) j⟩ := by
  unfold ZlW at h
  obtain ⟨j, hj, hx⟩ := List.mem_flatMap.1 h
  split at hx
  · rename_i q
    exact ⟨j, by have := List.mem_range.1 hj; omega, q, List.mem_singleton.1 hx⟩
  · cases hx
noncomputable def nmK (x : api_Kept) : Int := (ZkS x.Frame).1
structure FrI (R : List api_Kept) (M : List (Int × api_Kept)) (N : List Int) : Prop where
  srt : R.Pairwise fun a b => nmK a < nmK b
  prm : N.Perm (R.map nmK)
  get : ∀ x ∈ R, mget kqI M (nmK x) = some x
  non : ∀ n, (∀ x ∈ R, nmK x ≠ n) → mget kqI M n = none
  num : ∀ x ∈ R, fN x.Frame
end Go.Vx

namespace Go.Vx
open Go Go.RowKit
theorem Zok {m : api_Memory} (hm : ZcU m) : memR m := fun s hs x hx => by
  have := (hm.2.2.1.2 s hs).2 x hx
  have := (by simpa [wfI, Lit.wf] using this : IntKind.u8.min ≤ x ∧ x ≤ IntKind.u8.max)
  exact ⟨this.1, this.2⟩
end Go.Vx

namespace Go.Vx
open Go Go.RowKit
theorem Zka {l : List api_Memory} (hl : l.length ≤ 8) (hO : ∀ m ∈ l, MemOK m) : XF l = some l := by
  unfold XF
  obtain ⟨r, h1, h2⟩ := ZcV (body := Xs l) (s0 := []) (N := l.length) (fun k acc => acc = l.take k) (fun r => r = l) (fun k acc hk hI => .inl (by
      obtain ⟨m, hm⟩ := Za6 hk
      subst hI
      refine ⟨l.take k ++ [m], ?_, by rw [List.take_succ, hm]; rfl⟩
      unfold Xs
      rw [if_pos (by simpa using hk), ZG hm, Option.bind_some, Zqd (hO m (List.mem_of_getElem? hm)), Option.bind_some, Zbb (by simp; omega), Option.bind_some, show i64 ((k : Int) + 1) = (k : Int) + 1 from Zo (by omega) (by omega)])) (fun acc hI => ⟨acc, by unfold Xs; rw [if_neg (by simp)], by rw [hI, List.take_length]⟩) rfl
  rw [h1, h2]; rfl
structure SpotOK (m : api_Memory) (s : ring_spot) : Prop where
  sec : (s.sector = -1 ∧ s.slot = 0) ∨ (0 ≤ s.sector ∧ s.sector < m.Sectors.length)
  slot : 0 ≤ s.slot ∧ s.slot ≤ m.Slots
  /-- the slots from there on are free -/
  free : 0 ≤ s.sector → ∀ j : Nat, s.slot ≤ j → (j : Int) < m.Slots → slotL (m.Sectors.getD s.sector.toNat []) j = List.replicate 97 255
def dfS : ring_spot := ⟨0, 0⟩
structure BankI (b : ring_bank) : Prop where
  n : 1 ≤ b.memories.length ∧ b.memories.length ≤ 8
  ok : ∀ m ∈ b.memories, MemOK m
  u8 : ∀ m ∈ b.memories, memR m
  len : b.spots.length = b.memories.length
  at_ : ∀ k, k < b.memories.length → SpotOK (b.memories.getD k dfM) (b.spots.getD k dfS)
structure RecI (r : ring_Recorder) : Prop where
  bank : BankI r.bank
  cp : 1 ≤ r.copies ∧ r.copies ≤ r.bank.memories.length
theorem ZmV {l : List Int} (hl : l.length = 97) : stV l = 0 ↔ l = List.replicate 97 255 := by
  constructor
  · intro h
    unfold stV at h
    split at h
    · cases h
    · split at h
      · cases h
      · rename_i q
        rw [List.eq_replicate_iff]
        refine ⟨hl, fun x hx => ?_⟩
        have : l.any (fun x => !decide (x = 255)) = false := by simpa using q
        rw [List.any_eq_false] at this
        simpa using this x hx
  · rintro rfl
    decide
theorem ZlB {m : api_Memory} (hm : memR m) (ok : MemOK m) : ∃ s, JJ m = some s ∧ SpotOK m s := by
  unfold JJ
  obtain ⟨h1, h2, h3, h4⟩ := ZnW hm ok
  obtain ⟨l1, l2⟩ := ZoJ hm ok
  rw [h1, Option.bind_some]
  by_cases h : (Zhd m).length = 0
  · rw [if_pos (by rw [decide_eq_true_eq]; omega)]
    exact ⟨_, rfl, .inl ⟨rfl, rfl⟩, ⟨Int.le_refl _, by have := ok.slots; simp only; omega⟩, fun q => by simp at q⟩
  · rw [if_neg (by rw [decide_eq_true_eq]; omega), show i64 (((Zhd m).length : Int) - 1) = (((Zhd m).length - 1 : Nat) : Int) from (Zo (by omega) (by omega)).trans (by omega), ZG (JR (by omega) 0), Option.bind_some]
    have hb := l2 _ (ZbN (X := Zhd m) (t := (Zhd m).length - 1) (by omega))
    obtain ⟨i, hi⟩ := Int.eq_ofNat_of_zero_le hb.1
    rw [hi] at hb ⊢
    have hil : i < m.Sectors.length := by omega
    have hs := ok.slots
    obtain ⟨z, z1, z2⟩ := ZcV (body := XB m (i : Int)) (s0 := (0 : Int)) (N := m.Slots.toNat) (fun k z => 0 ≤ z ∧ z ≤ (k : Int) ∧ ∀ j : Nat, z ≤ j → j < k → slotL (m.Sectors.getD i []) j = List.replicate 97 255)
      (fun z => 0 ≤ z ∧ z ≤ m.Slots ∧ ∀ j : Nat, z ≤ j → (j : Int) < m.Slots → slotL (m.Sectors.getD i []) j = List.replicate 97 255) (fun k z hk hI => .inl (by
        obtain ⟨b1, b2⟩ := row_bd ok hil (j := k) (by omega)
        obtain ⟨v, hv, hvl⟩ := Zm7 (by omega) b2
        have h97 := ZeH b2
        unfold XB
        rw [if_pos (by simp; omega), ZG (JR hil []), Option.bind_some, hv, Option.bind_some, Zmt hvl h97, Option.bind_some, show i64 ((k : Int) + 1) = (k : Int) + 1 from Zo (by omega) (by omega)]
        by_cases q : stV (slotL (m.Sectors.getD i []) k) = 0
        · refine ⟨z, by rw [if_neg (by rw [q]; decide)], hI.1, by omega, fun j hj hjk => ?_⟩
          by_cases e : j = k
          · subst e; exact (ZmV h97).1 q
          · exact hI.2.2 j hj (by omega)
        · refine ⟨(k : Int) + 1, by rw [if_pos (by rw [decide_eq_false q]; rfl)], by omega, by omega, fun j hj hjk => by omega⟩)) (fun z hI => ⟨z, by unfold XB; rw [if_neg (by simp; omega)], hI.1, by omega, fun j hj hjk => hI.2.2 j hj (by omega)⟩) ⟨Int.le_refl _, Int.le_refl _, fun j _ hj => by omega⟩
    rw [z1]
    exact ⟨_, rfl, .inr ⟨by simp only; omega, by simp only; omega⟩, ⟨z2.1, z2.2.1⟩, fun _ j hj hjs => z2.2.2 j hj hjs⟩
theorem ZoP {l : List api_Memory} (hR : ∀ m ∈ l, memR m) (copies : Int) : ∃ c, XE l = some c ∧ ((∃ e, e ≠ 0 ∧ Jm l copies = some (.inl e)) ∨
    (c = 0 ∧ ∃ spots frozen, Jm l copies = some (.inr (⟨⟨l, spots⟩, copies, frozen, false, 0, false⟩, 0)) ∧ RecI ⟨⟨l, spots⟩, copies, frozen, false, 0, false⟩)) := by
  obtain ⟨c, c1, c2, c3, c4⟩ := ZqB l
  refine ⟨c, c1, ?_⟩
  unfold Jm
  rw [c1, ZdN]
  simp only [Option.bind_some]
  by_cases q : c = 0
  · obtain ⟨hl, hO⟩ := c3 q
    rw [if_neg (show ¬ (!decide (c = 0)) = true by simp [q])]
    by_cases hc : 1 ≤ copies ∧ copies ≤ (l.length : Int)
    · right
      simp only [decide_eq_true hc.1, decide_eq_true hc.2, Bool.and_self, Bool.not_true, Bool.false_eq_true, if_false]
      rw [Zka hl.2 hO, Option.bind_some]
      obtain ⟨⟨sp, fr⟩, s1, s2, s3⟩ := ZnR (body := JG l) (a0 := ([] : List ring_spot)) (b0 := false) (N := l.length) (fun k sp fr => sp.length = k ∧ ∀ j, j < k → SpotOK (l.getD j dfM) (sp.getD j dfS)) (fun r => r.1.length = l.length ∧ ∀ j, j < l.length → SpotOK (l.getD j dfM) (r.1.getD j dfS)) (fun k sp fr hk hI => .inl (by
        obtain ⟨g1, g2⟩ := Zmk hk
        obtain ⟨s, s1, s2⟩ := ZlB (hR _ g1) (hO _ g1)
        have new : ∀ j, j < k + 1 → SpotOK (l.getD j dfM) ((sp ++ [s]).getD j dfS) := fun j hj => by
          by_cases e : j = k
          · subst e
            rw [List.getD_eq_getElem?_getD (l := sp ++ [s]), List.getElem?_append_right (by omega), hI.1]
            simpa using s2
          · have := hI.2 j (by omega)
            rwa [List.getD_eq_getElem?_getD (l := sp ++ [s]), List.getElem?_append_left (by omega), ← List.getD_eq_getElem?_getD]
        have ek : i64 ((k : Int) + 1) = (k : Int) + 1 := Zo (by omega) (by omega)
        unfold JG
        rw [if_pos (by simpa using hk), ZG g2, Option.bind_some, s1, Option.bind_some, Zbb (by simp; omega), Option.bind_some, ek]
        by_cases hs : 0 ≤ s.sector
        · rw [if_pos (by simpa using hs)]
          have hlt : s.sector < (l.getD k dfM).Sectors.length := by
            rcases s2.sec with w | w
            · omega
            · exact w.2
          obtain ⟨i, hi⟩ := Int.eq_ofNat_of_zero_le hs
          rw [hi, ZG (JR (s := (l.getD k dfM).Sectors) (k := i) (by omega) []), Option.bind_some, Zko (ZfW (hR _ g1) i), Option.bind_some]
          exact ⟨_, _, rfl, by simp [hI.1], new⟩
        · rw [if_neg (by simpa using hs)]
          exact ⟨_, _, rfl, by simp [hI.1], new⟩)) (fun sp fr hI => ⟨(sp, fr), by unfold JG; rw [if_neg (by simp)], hI.1, hI.2⟩) ⟨rfl, fun j hj => absurd hj (Nat.not_lt_zero _)⟩
      rw [s1]
      exact ⟨q, sp, fr, rfl, ⟨⟨hl, hO, hR, s2, s3⟩, hc⟩⟩
    · left
      have hf : (decide (1 ≤ copies) && decide (copies ≤ (l.length : Int))) = false := by simpa using hc
      exact ⟨9, by decide, by rw [hf]; rfl⟩
  · left
    rw [if_pos (show (!decide (c = 0)) = true by simp [q])]
    exact ⟨c, q, rfl⟩
end Go.Vx

namespace Go.Vx
open Go Go.RowKit
theorem Zmj (a b : Int) : 0 ≤ QD .u8 a b ∧ QD .u8 a b ≤ 255 := by
  rw [Zpd]
  have := (BitVec.ofInt 8 a &&& BitVec.ofInt 8 b).isLt
  omega
theorem ZkA : ∀ (d s : List Int) (a : Nat) (p : Int), u8R s → u8R (Zbi s a d p).2.2
  | [], s, a, p, h => h
  | b :: tl, s, a, p, h => by
    have hs : ∀ z : Int, 0 ≤ z ∧ z ≤ 255 → u8R (s.set a z) := fun z hz x hx => by
      rcases List.mem_or_eq_of_mem_set hx with q | rfl
      · exact h x q
      · exact hz
    unfold Zbi
    split
    · exact hs _ (Zmj ..)
    · exact ZkA tl _ _ _ (hs _ (Zmj ..))
theorem Zc9 {s : List Int} {a k : Nat} {z : Int} (h : a ≠ k) : (s.set a z).getD k 0 = s.getD k 0 := by
  rw [List.getD_eq_getElem?_getD, List.getElem?_set_ne h, List.getD_eq_getElem?_getD]
theorem Zie {s : List Int} {a : Nat} {z : Int} (h : a < s.length) : (s.set a z).getD a 0 = z := by
  rw [List.getD_eq_getElem?_getD, List.getElem?_set_self h]; rfl
theorem Zhk : ∀ (d s : List Int) (a : Nat) (p : Int) (k : Nat), k < a ∨ a + d.length ≤ k → (Zbi s a d p).2.2.getD k 0 = s.getD k 0
  | [], s, a, p, k, h => rfl
  | b :: tl, s, a, p, k, h => by
    rw [List.length_cons] at h
    unfold Zbi
    split
    · exact Zc9 (by omega)
    · rw [Zhk tl _ _ _ k (by omega), Zc9 (by omega)]
theorem Zl5 : ∀ (d s : List Int) (a : Nat) (p : Int), a + d.length ≤ s.length → (Zbi s a d p).2.1 = true → ∀ t, t < d.length → (Zbi s a d p).2.2.getD (a + t) 0 = QD .u8 (s.getD (a + t) 0) (d.getD t 0)
  | [], s, a, p, hl, h, t, ht => absurd ht (Nat.not_lt_zero _)
  | b :: tl, s, a, p, hl, h, t, ht => by
    rw [List.length_cons] at hl ht
    unfold Zbi at h ⊢
    split at h
    · cases h
    · rename_i q
      rw [if_neg q]
      cases t with
      | zero =>
        rw [Zhk tl _ _ _ _ (by omega), Nat.add_zero, Zie (by omega)]; rfl
      | succ t =>
        have := Zl5 tl (s.set a (QD .u8 (s.getD a 0) b)) (a + 1) (p - 1) (by rw [List.length_set]; omega) h t (by omega)
        rw [show a + (t + 1) = a + 1 + t by omega, this, Zc9 (by omega)]; rfl
theorem Zj3 : ∀ (d s : List Int) (z : Int) (a : Nat) (p : Int), a + d.length < s.length → (Zbi s a (d ++ [z]) p).2.1 = false →
    (Zbi s a (d ++ [z]) p).2.2.getD (a + d.length) 0 = s.getD (a + d.length) 0 ∨ (Zbi s a (d ++ [z]) p).2.2.getD (a + d.length) 0 = QD .u8 (s.getD (a + d.length) 0) (bor .u8 z 15)
  | [], s, z, a, p, hl, h => by
    rw [List.length_nil, Nat.add_zero] at hl
    rw [List.nil_append, List.length_nil, Nat.add_zero] at *
    unfold Zbi at h ⊢
    split at h
    · rename_i q
      rw [if_pos q]
      right
      exact Zie hl
    · unfold Zbi at h; cases h
  | b :: tl, s, z, a, p, hl, h => by
    rw [List.length_cons] at hl
    rw [List.cons_append] at h ⊢
    rw [List.length_cons]
    unfold Zbi at h ⊢
    split at h
    · rename_i q
      rw [if_pos q]
      left
      exact Zc9 (by omega)
    · rename_i q
      rw [if_neg q]
      have := Zj3 tl (s.set a (QD .u8 (s.getD a 0) b)) z (a + 1) (p - 1) (by rw [List.length_set]; omega) h
      rw [Zc9 (by omega)] at this
      rw [show a + (tl.length + 1) = a + 1 + tl.length by omega]
      exact this
theorem Zf7 {s t : List Int} (hl : s.length = t.length) (h : ∀ k, k < s.length → s.getD k 0 = t.getD k 0) : s = t := by
  apply List.ext_getElem hl
  intro i h1 h2
  have := h i h1
  rwa [List.getD_eq_getElem?_getD, List.getD_eq_getElem?_getD, List.getElem?_eq_getElem h1, List.getElem?_eq_getElem h2] at this
theorem Zg5 {s : List Int} {j t : Nat} (h : 16 + j * 97 + 97 ≤ s.length) (ht : t < 97) : (slotL s j).getD t 0 = s.getD (16 + j * 97 + t) 0 := by
  unfold slotL
  rw [List.getD_eq_getElem?_getD, List.getElem?_drop, List.getElem?_take_of_lt (by omega), List.getD_eq_getElem?_getD]
theorem ZiY {s t : List Int} {j : Nat} (hl : s.length = t.length) (h1 : 16 + j * 97 + 97 ≤ s.length) (h : ∀ k, 16 + j * 97 ≤ k → k < 16 + j * 97 + 97 → s.getD k 0 = t.getD k 0) : slotL s j = slotL t j := by
  have e1 := ZeH h1
  have e2 := ZeH (s := t) (i := j) (by omega)
  refine Zf7 (by omega) fun k hk => ?_
  rw [Zg5 h1 (by omega), Zg5 (by omega) (by omega)]
  exact h _ (by omega) (by omega)
theorem ZlE {s t : List Int} (hl : s.length = t.length) (h : ∀ k, k < 10 → s.getD k 0 = t.getD k 0) : (XU s).1 = (XU t).1 ∧ (XU s).2.2 = (XU t).2.2 := by
  unfold XU
  rw [hl]
  by_cases q : t.length < 16
  · rw [if_pos q, if_pos q]; exact ⟨rfl, rfl⟩
  · rw [if_neg q, if_neg q]
    have e : s.take 10 = t.take 10 := by
      refine Zf7 (by rw [List.length_take, List.length_take]; omega) fun k hk => ?_
      rw [List.length_take] at hk
      rw [List.getD_eq_getElem?_getD, List.getElem?_take_of_lt (by omega), ← List.getD_eq_getElem?_getD, h k (by omega), List.getD_eq_getElem?_getD (l := t.take 10), List.getElem?_take_of_lt (by omega), List.getD_eq_getElem?_getD]
    simp only
    rw [h 2 (by omega), h 3 (by omega), h 4 (by omega), h 5 (by omega), e]
    split <;> exact ⟨rfl, rfl⟩
theorem Zkr {m : api_Memory} {z : Int} : ∀ {k : Nat}, z ∈ hdM m k ↔ ∃ i : Nat, i < k ∧ okM m i = true ∧ z = i
  | 0 => ⟨fun h => (by cases h), fun ⟨i, h, _⟩ => absurd h (Nat.not_lt_zero _)⟩
  | k + 1 => by
    rw [Zj6, List.mem_append, Zkr]
    constructor
    · rintro (⟨i, a, b, c⟩ | h)
      · exact ⟨i, by omega, b, c⟩
      · split at h
        · rename_i q
          exact ⟨k, by omega, q, List.mem_singleton.1 h⟩
        · cases h
    · rintro ⟨i, a, b, c⟩
      by_cases e : i = k
      · subst e
        right
        rw [if_pos b, c]; exact List.mem_singleton.2 rfl
      · exact .inl ⟨i, by omega, b, c⟩
def InS (m : api_Memory) (mi : Int) (i : Nat) (x : api_Kept) : Prop := ∃ j : Nat, (j : Int) < m.Slots ∧ stV (slotL (m.Sectors.getD i []) j) = 1 ∧ x = ⟨mi, i, (XU (m.Sectors.getD i [])).1, j, frV (m.Sectors.getD i []) j⟩
theorem ZhV {m : api_Memory} (hm : memR m) (ok : MemOK m) {mi : Int} {x : api_Kept} : x ∈ keptM m mi ↔ ∃ i : Nat, i < m.Sectors.length ∧ okM m i = true ∧ InS m mi i x := by
  unfold keptM
  rw [List.mem_flatMap]
  obtain ⟨_, _, p, _⟩ := ZnW hm ok
  constructor
  · rintro ⟨z, hz, hx⟩
    obtain ⟨i, a, b, rfl⟩ := Zkr.1 (p.mem_iff.1 hz)
    obtain ⟨j, c, d, e⟩ := Zmz hx
    exact ⟨i, a, b, j, c, d, e⟩
  · rintro ⟨i, a, b, j, c, d, rfl⟩
    refine ⟨i, p.mem_iff.2 (Zkr.2 ⟨i, a, b, rfl⟩), ?_⟩
    unfold ZlW
    rw [List.mem_flatMap]
    refine ⟨j, List.mem_range.2 (by omega), ?_⟩
    simp only [Int.toNat_natCast]
    rw [if_pos d]
    exact List.mem_singleton.2 rfl
def ZaC (m : api_Memory) (i : Nat) (S : List Int) (W : List Int) : api_Memory := ⟨m.Slots, m.Limit, m.Sectors.set i S, W, m.Bad⟩
theorem Zh6 {l : List (List Int)} {i k : Nat} {S : List Int} (hi : i < l.length) : (l.set i S).getD k [] = if k = i then S else l.getD k [] := by
  rw [List.getD_eq_getElem?_getD, List.getElem?_set]
  by_cases e : i = k
  · subst e; rw [if_pos rfl, if_pos hi, if_pos rfl]; rfl
  · rw [if_neg e, if_neg (fun q => e q.symm), List.getD_eq_getElem?_getD]
theorem ZiO {m : api_Memory} (ok : MemOK m) (hm : memR m) {i : Nat} (hi : i < m.Sectors.length) {S W : List Int} (hS : S.length = (m.Sectors.getD i []).length) (hu : u8R S) (hW : W.length = m.Wear.length) (hw : ∀ x ∈ W, 0 ≤ x ∧ x ≤ m.Limit) :
    MemOK (ZaC m i S W) ∧ memR (ZaC m i S W) := by
  refine ⟨⟨ok.slots, ok.limit, by unfold ZaC; simpa using ok.n, by unfold ZaC; simp only [List.length_set]; rw [hW]; exact ok.wear, by unfold ZaC; simpa using ok.bad, fun s hs => ?_, hw⟩, fun s hs => ?_⟩
  · rcases List.mem_or_eq_of_mem_set hs with q | rfl
    · exact ok.row s q
    · rw [hS]; exact ok.row _ (row_bd.getD_memL hi)
  · rcases List.mem_or_eq_of_mem_set hs with q | rfl
    · exact hm s q
    · exact hu
theorem Zh0 {m : api_Memory} (ok : MemOK m) (hm : memR m) {i : Nat} (hi : i < m.Sectors.length) {S W : List Int} (hS : S.length = (m.Sectors.getD i []).length) (hu : u8R S) (hW : W.length = m.Wear.length) (hw : ∀ x ∈ W, 0 ≤ x ∧ x ≤ m.Limit)
    {mi : Int} {x : api_Kept} (hx : x ∈ keptM (ZaC m i S W) mi) :
    x ∈ keptM m mi ∨ ((XU S).2.2 = true ∧ m.Bad.getD i false = false ∧ ∃ j : Nat, (j : Int) < m.Slots ∧ stV (slotL S j) = 1 ∧ x = ⟨mi, i, (XU S).1, j, frV S j⟩) := by
  obtain ⟨o', r'⟩ := ZiO ok hm hi hS hu hW hw
  obtain ⟨k, k1, k2, j, j1, j2, rfl⟩ := (ZhV r' o').1 hx
  have hk : k < m.Sectors.length := by simpa [ZaC] using k1
  have e : (ZaC m i S W).Sectors.getD k [] = if k = i then S else m.Sectors.getD k [] := Zh6 hi
  unfold okM at k2
  rw [Bool.and_eq_true] at k2
  have hb : (ZaC m i S W).Bad = m.Bad := rfl
  by_cases q : k = i
  · subst q
    rw [if_pos rfl] at e
    rw [e, hb] at k2
    right
    refine ⟨k2.1, by simpa using k2.2, j, j1, by rwa [e] at j2, by rw [e]⟩
  · rw [if_neg q] at e
    left
    rw [e] at k2 j2
    exact (ZhV hm ok).2 ⟨k, hk, by unfold okM; rw [Bool.and_eq_true]; exact ⟨k2.1, by rw [hb] at k2; exact k2.2⟩, j, j1, j2, by rw [e]⟩
theorem Zoy {s : List Int} {p : Int} (hl : s.length ≤ 7000) (hl2 : 2 ≤ s.length) (hp : 0 ≤ p ∧ p ≤ 1000000000) : QW s p = some (if p = 0 then (0, false, List.replicate (s.length / 2) 255 ++ s.drop (s.length / 2)) else (p - 1, true, List.replicate s.length 255)) := by
  have setf : ∀ (n : Nat), n ≤ s.length → ∀ {body : List Int → Int → Option ((List Int × Int) ⊕ List Int)}, (∀ (k : Nat) (o : List Int), k < n → o.length = s.length → body o k = some (.inl (o.set k 255, (k : Int) + 1))) → (∀ o, body o n = some (.inr o)) →
      loop (t2 body) (s, 0) = some (List.replicate n 255 ++ s.drop n) := by
    intro n hn body h1 h2
    obtain ⟨r, r1, r2⟩ := ZcV (body := body) (s0 := s) (N := n) (fun k o => o = List.replicate k 255 ++ s.drop k) (fun r => r = List.replicate n 255 ++ s.drop n) (fun k o hk hI => .inl (by
      have hol : o.length = s.length := by rw [hI]; simp; omega
      refine ⟨o.set k 255, h1 k o hk hol, ?_⟩
      obtain ⟨x, hx⟩ := Za6 (xs := s) (k := k) (by omega)
      rw [hI, ZdG hx, List.set_append, if_neg (by simp), List.length_replicate, Nat.sub_self, List.set_cons_zero, List.replicate_succ']
      simp)) (fun o hI => ⟨o, h2 o, hI⟩) (by simp)
    rw [r1, r2]
  unfold QW
  by_cases q : p = 0
  · subst q
    have e3 : Int.tdiv (s.length : Int) 2 = ((s.length / 2 : Nat) : Int) := rfl
    rw [if_pos (by decide), Zqh (by omega), Option.bind_some]
    have sl : slp s 0 ((s.length / 2 : Nat) : Int) = some () := by
      unfold slp
      have a1 : (((s.length / 2 : Nat) : Int)) ≤ (s.length : Int) := by omega
      simp [ck]
      omega
    rw [sl, Option.bind_some]
    have en : ((Int.toNat (((s.length / 2 : Nat) : Int) - 0) : Nat) : Int) = ((s.length / 2 : Nat) : Int) := by omega
    rw [setf (s.length / 2) (by omega) (fun k o hk hol => by
      unfold Qq
      rw [en]
      have a0 : decide ((0 : Int) ≤ (k : Int)) = true := by simp
      have a1 : decide ((k : Int) < ((s.length / 2 : Nat) : Int)) = true := decide_eq_true (by omega)
      rw [if_pos a1, a0, a1]
      obtain ⟨x, hx⟩ := Za6 (xs := o) (k := k) (by omega)
      simp only [Bool.and_self, ck, if_true, Option.bind_some, Int.zero_add, Int.toNat_natCast]
      rw [ZG hx, Option.bind_some, show i64 ((k : Int) + 1) = (k : Int) + 1 from Zo (by omega) (by omega)]) (fun o => by
      unfold Qq
      rw [en, if_neg (by simp)])]
    simp only [Option.bind_some, XL, if_true]
    rfl
  · rw [if_neg (by simpa using q), if_neg q]
    rw [setf s.length (Nat.le_refl _) (fun k o hk hol => by
      unfold Qr
      obtain ⟨x, hx⟩ := Za6 (xs := o) (k := k) (by omega)
      rw [if_pos (by simpa using hk), ZG hx, Option.bind_some, Int.toNat_natCast, show i64 ((k : Int) + 1) = (k : Int) + 1 from Zo (by omega) (by omega)]) (fun o => by
      unfold Qr
      rw [if_neg (by simp)])]
    simp only [Option.bind_some, XL]
    rw [show i64 (p - 1) = p - 1 from Zo (by omega) (by omega), decide_eq_true (show 0 < p by omega), List.drop_length, List.append_nil, show max (p - 1) 0 = p - 1 by omega]
end Go.Vx
