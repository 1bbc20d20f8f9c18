/- A text of the proof: a verified executor of the program form, or the contracts of the functions that the law reaches. -/
import Derived.Test.YtnlmjeleocelgaaGreatDoorPB
import Derived.Test.YtnlmjeleocelgaaGreatDoorPA
import Derived.Test.YtnlmjeleocelgaaGreatDoorVR
import Derived.Test.YtnlmjeleocelgaaGreatDoorShT
import Derived.Test.YtnlmjeleocelgaaGreatDoorVH
import Derived.Test.YtnlmjeleocelgaaGreatDoorVP
set_option linter.all false
namespace Go.Vx
open Go Go.RowKit
set_option maxHeartbeats 1000000
section
variable {key : Int → Int} {D : Int → Prop} {cmp : Int → Int → Option Int}
theorem ZnE (hc : ∀ x y, D x → D y → ∃ c, cmp x y = some c ∧ (c < 0 ↔ key x < key y)) :
    ∀ (n : Nat) (L X Y R : List Int), X ≠ [] → Y ≠ [] → X.length + Y.length ≤ n → L.length + X.length + Y.length + R.length ≤ 1000000 → Srt key X → Srt key Y → (∀ x ∈ X, ∀ y ∈ Y, x < y) → (∀ x ∈ X ++ Y, D x) →
      ∃ Z, ZF n (L ++ X ++ Y ++ R) (L.length : Int) ((L.length + X.length : Nat) : Int) ((L.length + X.length + Y.length : Nat) : Int) cmp = some (L ++ Z ++ R) ∧ Z.Perm (X ++ Y) ∧ Srt key Z := by
  intro n
  induction n with
  | zero =>
    intro L X Y R hX hY hn
    have := List.length_pos_iff.2 hX
    omega
  | succ n ih =>
    intro L X Y R hX hY hn hN sX sY hlt hD
    have pX := List.length_pos_iff.2 hX
    have pY := List.length_pos_iff.2 hY
    show ∃ Z, Z0 (ZF n) _ _ _ _ _ = _ ∧ _
    unfold Z0
    have e1 : i64 (((L.length + X.length : Nat) : Int) - (L.length : Int)) = (X.length : Int) := (ZN (by omega) (by omega)).trans (by omega)
    have e2 : i64 (((L.length + X.length + Y.length : Nat) : Int) - ((L.length + X.length : Nat) : Int)) = (Y.length : Int) := (ZN (by omega) (by omega)).trans (by omega)
    rw [e1, e2]
    by_cases c1 : X.length = 1
    · rw [if_pos (by simp; omega)]
      obtain ⟨x, rfl⟩ := List.length_eq_one_iff.1 c1
      have := Zme (key := key) (D := D) hc (L := L) (Y := Y) (R := R) (x := x) (by simp at hN; omega) sY (fun y hy => hlt x (by simp) y hy) (fun z hz => hD z (by simpa using hz))
      simpa using this
    · rw [if_neg (by simpa using fun q => c1 (by omega))]
      by_cases c2 : Y.length = 1
      · rw [if_pos (by simp; omega)]
        obtain ⟨y, rfl⟩ := List.length_eq_one_iff.1 c2
        have := ZlD (key := key) (D := D) hc (L := L) (X := X) (R := R) (y := y) (by simp at hN; omega) sX (fun x hx => hlt x hx y (by simp)) (fun z hz => hD z (by
          rcases List.mem_cons.1 hz with rfl | q <;> simp_all))
        exact this
      · rw [if_neg (by simpa using fun q => c2 (by omega))]
        generalize ha : L.length = a at *
        generalize hm : a + X.length = m at *
        generalize hb : m + Y.length = b at *
        obtain ⟨mid, hmid⟩ : ∃ mid, mid = (a + b) / 2 := ⟨_, rfl⟩
        rw [show i64 ((a : Int) + (b : Int)) = i64 ((a + b : Nat) : Int) by push_cast; rfl, Zjb (by omega), Option.bind_some, ← hmid]
        have f1 : i64 (mid : Int) = (mid : Int) := ZN (by omega) (by omega)
        have f2 : i64 ((mid : Int) + (m : Int)) = ((mid + m : Nat) : Int) := (ZN (by omega) (by omega)).trans (by omega)
        rw [f1, f2]
        obtain ⟨lo, hlo⟩ : ∃ lo, lo = if mid < m then mid + m - b else a := ⟨_, rfl⟩
        obtain ⟨hi, hhi⟩ : ∃ hi, hi = if mid < m then mid else m := ⟨_, rfl⟩
        have f3 : (if decide ((mid : Int) < (m : Int)) = true then some (i64 (((mid + m : Nat) : Int) - (b : Int)), (mid : Int)) else some ((a : Int), (m : Int))) = some ((lo : Int), (hi : Int)) := by
          by_cases q : mid < m
          · rw [if_pos (by simpa using q), show i64 (((mid + m : Nat) : Int) - (b : Int)) = ((mid + m - b : Nat) : Int) from (ZN (by omega) (by omega)).trans (by omega), hlo, hhi, if_pos q, if_pos q]
          · rw [if_neg (by simpa using q), hlo, hhi, if_neg q, if_neg q]
        rw [f3]
        simp only [Option.bind_some, QS]
        have blo : a ≤ lo ∧ lo ≤ hi ∧ hi ≤ m ∧ hi ≤ mid ∧ mid + m - b ≤ lo := by
          split at hlo <;> split at hhi <;> omega
        obtain ⟨s, h1, h2, h3, h4, h5⟩ := ZiU (body := Qw (L ++ X ++ Y ++ R) (m : Int) cmp (mid : Int)) (fun c => !decide (key (Y.getD (mid - 1 - c) 0) < key (X.getD (c - a) 0))) (lo := lo) (hi := hi) (by omega) (fun i j a1 a2 a3 => by
          have g1 : i64 ((i : Int) + (j : Int)) = i64 ((i + j : Nat) : Int) := by push_cast; rfl
          have g2 : i64 (((i + j) / 2 : Nat) : Int) = (((i + j) / 2 : Nat) : Int) := ZN (by omega) (by omega)
          have g3 : i64 ((((i + j) / 2 : Nat) : Int) + 1) = (((i + j) / 2 + 1 : Nat) : Int) := (ZN (by omega) (by omega)).trans (by omega)
          have g4 : i64 (i64 (((mid + m : Nat) : Int) - 1) - (((i + j) / 2 : Nat) : Int)) = ((m + (mid - 1 - (i + j) / 2) : Nat) : Int) := by
            rw [show i64 (((mid + m : Nat) : Int) - 1) = ((mid + m - 1 : Nat) : Int) from (ZN (by omega) (by omega)).trans (by omega)]
            exact (ZN (by omega) (by omega)).trans (by omega)
          have k1 : (L ++ X ++ Y ++ R)[m + (mid - 1 - (i + j) / 2)]? = some (Y.getD (mid - 1 - (i + j) / 2) 0) := by
            have := Zi1 (L := L ++ X) (X := Y) (R := R) (c := m + (mid - 1 - (i + j) / 2)) (by simp; omega) (by simp; omega)
            rw [this]; congr 2; simp; omega
          have k2 : (L ++ X ++ Y ++ R)[(i + j) / 2]? = some (X.getD ((i + j) / 2 - a) 0) := by
            have := Zi1 (L := L) (X := X) (R := Y ++ R) (c := (i + j) / 2) (by omega) (by omega)
            rw [← ha, ← this]; simp
          unfold Qw
          rw [if_pos (by simpa using a2), g1, Zjb (by omega), Option.bind_some, g2, f1, f2, g4, Qr k1, Option.bind_some, Qr k2, Option.bind_some]
          obtain ⟨c, d1, d2⟩ := hc (Y.getD (mid - 1 - (i + j) / 2) 0) (X.getD ((i + j) / 2 - a) 0) (hD _ (List.mem_append_right _ (Zeb (by omega)))) (hD _ (List.mem_append_left _ (Zeb (by omega))))
          rw [d1, Option.bind_some, g3]
          by_cases q : key (Y.getD (mid - 1 - (i + j) / 2) 0) < key (X.getD ((i + j) / 2 - a) 0)
          · rw [if_neg (by simpa using d2.2 q), if_neg (by simpa using q)]
          · rw [if_pos (by simpa using fun w => q (d2.1 w)), if_pos (by simpa using q)]) (fun i a1 a2 => by
          unfold Qw
          rw [if_neg (by simp)])
        rw [h3]
        simp only [Option.bind_some, Zbg]
        have cut := Znc (key := key) (X := X) (Y := Y) (a := a) (m := m) (b := b) (s := s) hm hb sX sY mid hmid lo hi hlo hhi h1 h2 (fun hl x y hx hy => by
          have q := h4 hl
          rw [show mid - 1 - (s - 1) = mid - s by omega, List.getD_eq_getElem?_getD, List.getD_eq_getElem?_getD, hx, hy] at q
          simp only [Option.getD_some, Bool.not_eq_true', decide_eq_false_iff_not] at q
          have := hlt x (List.mem_of_getElem? hx) y (List.mem_of_getElem? hy)
          unfold LtK; omega) (fun hl x y hx hy => by
          have q := h5 hl
          rw [show mid - 1 - s = mid - s - 1 by omega, List.getD_eq_getElem?_getD, List.getD_eq_getElem?_getD, hx, hy] at q
          simp only [Option.getD_some, Bool.not_eq_false', decide_eq_true_eq] at q
          exact .inl q)
        have le1 : (X.take (s - a)).length = s - a := by rw [List.length_take]; omega
        have le2 : (X.drop (s - a)).length = m - s := by rw [List.length_drop]; omega
        have le3 : (Y.take (mid - s)).length = mid - s := by rw [List.length_take]; omega
        have le4 : (Y.drop (mid - s)).length = b - (mid + m - s) := by rw [List.length_drop]; omega
        have sX1 : Srt key (X.take (s - a)) := sX.sublist (List.take_sublist ..)
        have sX2 : Srt key (X.drop (s - a)) := sX.sublist (List.drop_sublist ..)
        have sY1 : Srt key (Y.take (mid - s)) := sY.sublist (List.take_sublist ..)
        have sY2 : Srt key (Y.drop (mid - s)) := sY.sublist (List.drop_sublist ..)
        have mXX : ∀ x ∈ X.take (s - a), ∀ y ∈ X.drop (s - a), LtK key x y := by
          have := sX
          rw [← List.take_append_drop (s - a) X] at this
          exact this.mid
        have mYY : ∀ x ∈ Y.take (mid - s), ∀ y ∈ Y.drop (mid - s), LtK key x y := by
          have := sY
          rw [← List.take_append_drop (mid - s) Y] at this
          exact this.mid
        have hXe : X = X.take (s - a) ++ X.drop (s - a) := (List.take_append_drop ..).symm
        have hYe : Y = Y.take (mid - s) ++ Y.drop (mid - s) := (List.take_append_drop ..).symm
        have iX1 : ∀ x ∈ X.take (s - a), x ∈ X := fun x hx => List.mem_of_mem_take hx
        have iX2 : ∀ x ∈ X.drop (s - a), x ∈ X := fun x hx => List.mem_of_mem_drop hx
        have iY1 : ∀ x ∈ Y.take (mid - s), x ∈ Y := fun x hx => List.mem_of_mem_take hx
        have iY2 : ∀ x ∈ Y.drop (mid - s), x ∈ Y := fun x hx => List.mem_of_mem_drop hx
        generalize X.take (s - a) = X1 at *
        generalize X.drop (s - a) = X2 at *
        generalize Y.take (mid - s) = Y1 at *
        generalize Y.drop (mid - s) = Y2 at *
        subst hXe hYe
        have g5 : i64 (((mid + m : Nat) : Int) - (s : Int)) = ((mid + m - s : Nat) : Int) := (ZN (by omega) (by omega)).trans (by omega)
        rw [g5]
        have rot : (if ((decide ((s : Int) < (m : Int))) && (decide ((m : Int) < ((mid + m - s : Nat) : Int)))) = true then (Z7 (L ++ (X1 ++ X2) ++ (Y1 ++ Y2) ++ R) (s : Int) (m : Int) ((mid + m - s : Nat) : Int) cmp).bind fun y4 => some y4 else some (L ++ (X1 ++ X2) ++ (Y1 ++ Y2) ++ R)) = some (L ++ X1 ++ Y1 ++ (X2 ++ Y2 ++ R)) := by
          by_cases q : s < m ∧ m < mid + m - s
          · rw [if_pos (by simp; omega)]
            have := Zly (cmp := cmp) (L := L ++ X1) (X := X2) (Y := Y1) (R := Y2 ++ R) (by intro w; subst w; simp at le2; omega) (by intro w; subst w; simp at le3; omega) (by simp only [List.length_append] at hn hN pX pY ⊢; omega)
            rw [show (L ++ X1).length = s by rw [List.length_append]; omega, show s + X2.length = m by omega, show m + Y1.length = mid + m - s by omega] at this
            rw [show L ++ (X1 ++ X2) ++ (Y1 ++ Y2) ++ R = L ++ X1 ++ X2 ++ Y1 ++ (Y2 ++ R) by simp, this]
            simp
          · rw [if_neg (by simp; omega)]
            by_cases w : s < m
            · have : Y1 = [] := List.length_eq_zero_iff.1 (by omega)
              subst this; simp
            · have : X2 = [] := List.length_eq_zero_iff.1 (by omega)
              subst this; simp
        rw [rot]
        simp only [Option.bind_some, Zbg]
        have first : ∃ Z1, (if ((decide ((a : Int) < (s : Int))) && (decide ((s : Int) < (mid : Int)))) = true then (ZF n (L ++ X1 ++ Y1 ++ (X2 ++ Y2 ++ R)) (a : Int) (s : Int) (mid : Int) cmp).bind fun y5 => some y5 else some (L ++ X1 ++ Y1 ++ (X2 ++ Y2 ++ R))) = some (L ++ Z1 ++ (X2 ++ Y2 ++ R)) ∧ Z1.Perm (X1 ++ Y1) ∧ Srt key Z1 := by
          by_cases q : a < s ∧ s < mid
          · rw [if_pos (by simp; omega)]
            obtain ⟨Z, z1, z2, z3⟩ := ih L X1 Y1 (X2 ++ Y2 ++ R) (by intro w; subst w; simp at le1; omega) (by intro w; subst w; simp at le3; omega) (by simp only [List.length_append] at hn hN pX pY c1 c2 ⊢; omega) (by simp only [List.length_append] at hn hN ⊢; omega) sX1 sY1 (fun x hx y hy => hlt x (iX1 x hx) y (iY1 y hy)) (fun x hx => hD x (by
              rcases List.mem_append.1 hx with w | w
              · exact List.mem_append_left _ (iX1 x w)
              · exact List.mem_append_right _ (iY1 x w)))
            rw [ha, show a + X1.length = s by omega, show s + Y1.length = mid by omega] at z1
            exact ⟨Z, by rw [z1]; rfl, z2, z3⟩
          · rw [if_neg (by simp; omega)]
            refine ⟨X1 ++ Y1, by simp, .refl _, ?_⟩
            by_cases w : a < s
            · have : Y1 = [] := List.length_eq_zero_iff.1 (by omega)
              subst this; simpa using sX1
            · have : X1 = [] := List.length_eq_zero_iff.1 (by omega)
              subst this; simpa using sY1
        obtain ⟨Z1, z1, z2, z3⟩ := first
        rw [z1]
        simp only [Option.bind_some, Zbg]
        have hZ1 : Z1.length = mid - a := by rw [z2.length_eq, List.length_append]; omega
        have second : ∃ Z2, (if ((decide ((mid : Int) < ((mid + m - s : Nat) : Int))) && (decide (((mid + m - s : Nat) : Int) < (b : Int)))) = true then (ZF n (L ++ Z1 ++ (X2 ++ Y2 ++ R)) (mid : Int) ((mid + m - s : Nat) : Int) (b : Int) cmp).bind fun y6 => some y6 else some (L ++ Z1 ++ (X2 ++ Y2 ++ R))) = some (L ++ Z1 ++ Z2 ++ R) ∧ Z2.Perm (X2 ++ Y2) ∧ Srt key Z2 := by
          by_cases q : mid < mid + m - s ∧ mid + m - s < b
          · rw [if_pos (by simp; omega)]
            obtain ⟨Z, y1, y2, y3⟩ := ih (L ++ Z1) X2 Y2 R (by intro w; subst w; simp at le2; omega) (by intro w; subst w; simp at le4; omega) (by simp only [List.length_append] at hn hN pX pY c1 c2 ⊢; omega) (by simp only [List.length_append] at hn hN ⊢; omega) sX2 sY2 (fun x hx y hy => hlt x (iX2 x hx) y (iY2 y hy)) (fun x hx => hD x (by
              rcases List.mem_append.1 hx with w | w
              · exact List.mem_append_left _ (iX2 x w)
              · exact List.mem_append_right _ (iY2 x w)))
            rw [show (L ++ Z1).length = mid by rw [List.length_append]; omega, show mid + X2.length = mid + m - s by omega, show mid + m - s + Y2.length = b by omega] at y1
            refine ⟨Z, ?_, y2, y3⟩
            rw [show L ++ Z1 ++ (X2 ++ Y2 ++ R) = L ++ Z1 ++ X2 ++ Y2 ++ R by simp, y1]; rfl
          · rw [if_neg (by simp; omega)]
            refine ⟨X2 ++ Y2, by simp, .refl _, ?_⟩
            by_cases w : s < m
            · have : Y2 = [] := List.length_eq_zero_iff.1 (by omega)
              subst this; simpa using sX2
            · have : X2 = [] := List.length_eq_zero_iff.1 (by omega)
              subst this; simpa using sY2
        obtain ⟨Z2, y1, y2, y3⟩ := second
        refine ⟨Z1 ++ Z2, by rw [y1]; simp, ?_, ?_⟩
        · refine (z2.append y2).trans ?_
          simp only [List.append_assoc]
          refine List.Perm.append_left _ ?_
          rw [← List.append_assoc, ← List.append_assoc]
          exact List.Perm.append_right _ List.perm_append_comm
        · refine z3.app y3 fun x hx y hy => ?_
          rcases List.mem_append.1 (z2.mem_iff.1 hx) with p | p <;> rcases List.mem_append.1 (y2.mem_iff.1 hy) with q | q
          · exact mXX x p y q
          · exact cut.1 x p y q
          · exact cut.2 x p y q
          · exact mYY x p y q
end
end Go.Vx

namespace Go.Vx
open Go Go.RowKit
section
variable {key : Int → Int} {D : Int → Prop} {cmp : Int → Int → Option Int}
theorem Znt (hc : ∀ x y, D x → D y → ∃ c, cmp x y = some c ∧ (c < 0 ↔ key x < key y)) {L X R : List Int} (hN : L.length + X.length + R.length ≤ 1000000) (hX : X.Pairwise (· < ·)) (hD : ∀ x ∈ X, D x) :
    ∃ Z, Zw (L ++ X ++ R) (L.length : Int) ((L.length + X.length : Nat) : Int) cmp = some (L ++ Z ++ R) ∧ Z.Perm X ∧ Srt key Z := by
  unfold Zw
  have e0 : i64 ((L.length : Int) + 1) = ((L.length + 1 : Nat) : Int) := (ZN (by omega) (by omega)).trans (by omega)
  rw [e0]
  have hend1 : ∀ o (i : Nat), L.length + X.length ≤ i → Zt (L.length : Int) ((L.length + X.length : Nat) : Int) cmp o (i : Int) = some (.inr o) := fun o i hi => by
    unfold Zt
    rw [if_neg (by simp; omega)]
  cases X with
  | nil => exact ⟨[], ZbS (by simp only [QS]; rw [hend1 _ _ (by simp)]), .refl _, .nil⟩
  | cons x T =>
    have hT := List.pairwise_cons.1 hX
    obtain ⟨Z, z1, z2, z3⟩ := ZnU (key := key) (D := D) (body1 := Zt (L.length : Int) ((L.length + (x :: T).length : Nat) : Int) cmp) (body2 := Zu (L.length : Int) cmp) (a := L.length) (b := L.length + (x :: T).length)
      (fun P Q x y hx hy hP hP2 => by
        unfold Zu
        have e1 : i64 ((P.length : Int) + 1 - 1) = ((P.length : Nat) : Int) := (ZN (by omega) (by omega)).trans (by omega)
        have e2 : (P.length : Int) + 1 = ((P.length + 1 : Nat) : Int) := by omega
        have g1 : (P ++ y :: x :: Q)[P.length + 1]? = some x := by rw [List.getElem?_append_right (by omega)]; simp
        have g2 : (P ++ y :: x :: Q)[P.length]? = some y := by simp
        have g3 : ((P ++ y :: x :: Q).set (P.length + 1) y)[P.length]? = some y := by rw [List.getElem?_set_ne (by omega)]; exact g2
        have hg : decide ((L.length : Int) < ((P.length + 1 : Nat) : Int)) = true := by simp; omega
        obtain ⟨c, d1, d2⟩ := hc x y hx hy
        rw [e1, e2, hg]
        simp only [gd, beq_self_eq_true, if_true, Bool.true_and]
        rw [Qr g1, Option.bind_some, Qr g2, Option.bind_some, d1, Option.bind_some]
        by_cases q : key x < key y
        · rw [if_pos (by simpa using d2.2 q), if_pos q]
          simp only [Option.bind_some, Int.toNat_natCast]
          rw [Qr g3, Option.bind_some]
          have := ZhJ (L := P) (M := []) (R := Q) (x := y) (y := x)
          simp only [List.length_nil, Nat.add_zero, List.append_nil] at this
          rw [show P ++ y :: x :: Q = P ++ [y] ++ x :: Q by simp, List.set_comm _ _ (by omega), this]
          simp
        · rw [if_neg (by simpa using fun w => q (d2.1 w)), if_neg q]) (fun d => by
        unfold Zu
        simp [gd]) (fun o i hi => by
        unfold Zt
        rw [if_pos (by simp only [List.length_cons] at hi ⊢; simp; omega), show i64 ((i : Int) + 1) = (i : Int) + 1 from ZN (by simp only [List.length_cons] at hi; omega) (by simp only [List.length_cons] at hi hN; omega)]
        rfl) hend1 rfl R T [x] (by simp; omega) (List.pairwise_singleton ..) hD (fun p hp y hy => by rw [List.mem_singleton.1 hp]; exact hT.1 y hy) hT.2
    refine ⟨Z, ?_, z2, z3⟩
    rw [← z1]; congr 2; simp
theorem Zk6 (hc : ∀ x y, D x → D y → ∃ c, cmp x y = some c ∧ (c < 0 ↔ key x < key y)) {l : List Int} (hl : l.length ≤ 100) (hp : l.Pairwise (· < ·)) (hD : ∀ x ∈ l, D x) :
    ∃ l', ZM l cmp = some l' ∧ l'.Perm l ∧ Srt key l' := by
  unfold ZM Z8
  obtain ⟨o, a, l1, b1, b2, b3, b4⟩ := ZnZ (key := key) (D := D) (ins := fun o a b => Zw o a b cmp) (s := 20) (n := l.length) (by omega) (fun L X R hn hX hDX => Znt hc (by omega) hX hDX)
    (body := ZH (l.length : Int) cmp) (fun o a ha => by
      unfold ZH
      by_cases q : a + 20 ≤ l.length
      · rw [if_pos (by simp; omega), if_pos q, show i64 (((a + 20 : Nat) : Int) + 20) = ((a + 20 + 20 : Nat) : Int) from (ZN (by omega) (by omega)).trans (by omega)]
      · rw [if_neg (by simp; omega), if_neg q]) l.length [] l rfl (by simp) hp hD
  simp only [List.nil_append, List.length_nil, Nat.zero_add] at b1 b2
  rw [show loop (t3 (ZH (l.length : Int) cmp)) (l, 0, 20) = some (o, (a : Int)) from b1]
  simp only [Option.bind_some, QS]
  rw [b2]
  simp only [Option.bind_some]
  have hln : l1.length = l.length := b3.length_eq
  obtain ⟨o', k1, k2, k3⟩ := ZnW (key := key) (D := D) (n := l.length) (body := ZC (l.length : Int) cmp) (fun o s h0 h2 hn hB hDo => by
    split
    · rename_i hs
      obtain ⟨p, a, l', p1, pa, p2, p3, p4⟩ := Znq (key := key) (D := D) (sm := fun o a m b => ZF 100 o a m b cmp) (s := s) (n := l.length) h0
        (fun L X Y R hX hY hN sX sY hlt hDX => ZnE hc 100 L X Y R hX hY (by omega) (by omega) sX sY hlt hDX) (body := ZE (l.length : Int) cmp (s : Int)) (fun o a ha => by
          unfold ZE
          by_cases q : a + 2 * s ≤ l.length
          · rw [if_pos (by simp; omega), if_pos q, show i64 ((a : Int) + (s : Int)) = ((a + s : Nat) : Int) from (ZN (by omega) (by omega)).trans (by omega), show i64 (2 * (s : Int)) = ((2 * s : Nat) : Int) from (ZN (by omega) (by omega)).trans (by omega),
              show i64 (((a + 2 * s : Nat) : Int) + ((2 * s : Nat) : Int)) = ((a + 2 * s + 2 * s : Nat) : Int) from (ZN (by omega) (by omega)).trans (by omega)]
          · rw [if_neg (by simp; omega), if_neg q]) l.length [] o hn (by simpa using hn) hB hDo
      simp only [List.nil_append, List.length_nil, Nat.zero_add] at p1 p2
      refine ⟨l', ?_, p3, p4⟩
      unfold ZC
      rw [if_pos (by simpa using hs), show i64 (2 * (s : Int)) = ((2 * s : Nat) : Int) from (ZN (by omega) (by omega)).trans (by omega),
        show loop (t3 (ZE (l.length : Int) cmp (s : Int))) (o, 0, ((2 * s : Nat) : Int)) = some (p, (a : Int)) from p1]
      simp only [Option.bind_some, QS]
      rw [show i64 ((s : Int) * 2) = ((2 * s : Nat) : Int) from (ZN (by omega) (by omega)).trans (by omega)]
      rw [show i64 ((a : Int) + (s : Int)) = ((a + s : Nat) : Int) from (ZN (by omega) (by omega)).trans (by omega)]
      by_cases q : a + s < l.length
      · rw [if_pos q] at p2
        rw [if_pos (by simp; omega), p2]; rfl
      · rw [if_neg q] at p2
        cases p2
        rw [if_neg (by simp; omega)]
    · rename_i hs
      unfold ZC
      rw [if_neg (by simpa using hs)]) _ l1 20 rfl (by omega) (by omega) hln b4 (fun x hx => hD x (b3.mem_iff.1 hx))
  refine ⟨o', ?_, k2.trans b3, k3⟩
  rw [show loop (t2 (ZC (l.length : Int) cmp)) (l1, 20) = some o' from k1]; rfl
end
end Go.Vx

namespace Go.Vx
open Go Go.RowKit
theorem ZhQ {σ ρ : Type} {body : σ → Int → Option ((σ × Int) ⊕ ρ)} {N : Nat} (I : Nat → σ → Prop) (Q : ρ → Prop)
    (hstep : ∀ (k : Nat) s, k < N → I k s → (∃ s', body s (k : Int) = some (.inl (s', (k : Int) + 1)) ∧ I (k + 1) s') ∨ ∃ r, body s (k : Int) = some (.inr r) ∧ Q r)
    (hend : ∀ s, I N s → ∃ r, body s (N : Int) = some (.inr r) ∧ Q r) {s0 : σ} (h0 : I 0 s0) : ∃ r, loop (t2 body) (s0, 0) = some r ∧ Q r := by
  refine Zio (body := t2 body) (fun p => ∃ k : Nat, p.2 = k ∧ k ≤ N ∧ I k p.1) (fun p => N - p.2.toNat) Q ?_ (s0, 0) ⟨0, rfl, Nat.zero_le _, h0⟩
  rintro ⟨s, i⟩ ⟨k, hi, hk, hI⟩
  simp only at hi hI
  subst hi
  simp only [Int.toNat_natCast, QS]
  rcases Nat.lt_or_ge k N with h | h
  · rcases hstep k s h hI with ⟨s', h1, h2⟩ | ⟨r, h1, h2⟩
    · exact .inl ⟨_, h1, ⟨k + 1, by push_cast; rfl, h, h2⟩, by simp only; omega⟩
    · exact .inr ⟨r, h1, h2⟩
  · have : k = N := by omega
    subst this
    exact .inr (hend s hI)
theorem Zmq {ρ : Type} {body : Int → Option (Int ⊕ ρ)} {N : Nat} (I : Nat → Prop) (Q : ρ → Prop)
    (hstep : ∀ k : Nat, k < N → I k → (body (k : Int) = some (.inl ((k : Int) + 1)) ∧ I (k + 1)) ∨ ∃ r, body (k : Int) = some (.inr r) ∧ Q r)
    (hend : I N → ∃ r, body (N : Int) = some (.inr r) ∧ Q r) (h0 : I 0) : ∃ r, loop (t1 body) 0 = some r ∧ Q r := by
  refine Zio (body := t1 body) (fun p => ∃ k : Nat, p = k ∧ k ≤ N ∧ I k) (fun p => N - p.toNat) Q ?_ 0 ⟨0, rfl, Nat.zero_le _, h0⟩
  rintro i ⟨k, hi, hk, hI⟩
  subst hi
  simp only [Int.toNat_natCast, Zbg]
  rcases Nat.lt_or_ge k N with h | h
  · rcases hstep k h hI with ⟨h1, h2⟩ | ⟨r, h1, h2⟩
    · exact .inl ⟨_, h1, ⟨k + 1, by push_cast; rfl, h, h2⟩, by omega⟩
    · exact .inr ⟨r, h1, h2⟩
  · have : k = N := by omega
    subst this
    exact .inr (hend hI)
theorem ZlU {α : Type} {o : List α} {at_ : Nat} (z : α) (h : at_ ≤ o.length) (n : α) :
    (cpy (o ++ [z]) (at_ + 1) ((o.length + 1) - (at_ + 1)) at_ ((o.length + 1) - at_)).set at_ n = o.take at_ ++ n :: o.drop at_ := by
  have hl : (o ++ [z]).length = o.length + 1 := by simp
  have h1 : (at_ + 1) + ((o.length + 1) - (at_ + 1)) ≤ (o ++ [z]).length := by omega
  have h2 : at_ + ((o.length + 1) - at_) ≤ (o ++ [z]).length := by omega
  refine List.ext_getElem? fun i => ?_
  by_cases hi : i < o.length + 1
  · by_cases hia : i = at_
    · subst hia
      rw [List.getElem?_set_self (by rw [Zcx h1 h2]; omega), List.getElem?_append_right (by simp; omega)]
      simp [Nat.min_eq_left h]
    · rw [List.getElem?_set_ne (Ne.symm hia), Zkm h1 h2 (by omega)]
      by_cases hlt : i < at_
      · rw [if_neg (by omega), List.getElem?_append_left (by omega), List.getElem?_append_left (by simp; omega), List.getElem?_take_of_lt hlt]
      · rw [if_pos (by omega), List.getElem?_append_left (by omega), List.getElem?_append_right (by simp; omega)]
        have e : i - (o.take at_).length = (i - at_ - 1) + 1 := by simp; omega
        rw [e, List.getElem?_cons_succ, List.getElem?_drop]
        congr 1
  · rw [List.getElem?_eq_none (by rw [List.length_set, Zcx h1 h2]; omega), List.getElem?_eq_none (by simp; omega)]
theorem ZmV {o : List Int} {at_ : Nat} (h : at_ ≤ o.length) (n : Int) :
    (cpy (o ++ [0]) (at_ + 1) ((o.length + 1) - (at_ + 1)) at_ ((o.length + 1) - at_)).set at_ n = o.take at_ ++ n :: o.drop at_ := ZlU 0 h n
end Go.Vx

namespace Go.Vx
open Go Go.RowKit
end Go.Vx

namespace Go.Vx
open Go Go.RowKit
end Go.Vx

namespace Go.Vx
open Go Go.RowKit
def ZfP (x : api_Memory) : Prop := (wfI .i64) x.Slots ∧ (wfI .i64) x.Limit ∧ (wfL (wfL (wfI .u8))) x.Sectors ∧ (wfL (wfI .i64)) x.Wear ∧ (wfL wfT) x.Bad ∧ True
end Go.Vx

namespace Go.Vx
open Go Go.RowKit
def ZdB (m : api_Memory) (i : Int) : Int := (Zbz (m.Sectors.getD i.toNat [])).1
def okM (m : api_Memory) (k : Nat) : Bool := (Zbz (m.Sectors.getD k [])).2.2 && !(m.Bad.getD k false)
def hdM (m : api_Memory) : Nat → List Int
  | 0 => []
  | k + 1 => hdM m k ++ if okM m k = true then [(k : Int)] else []
theorem Zjs (m : api_Memory) (k : Nat) : hdM m (k + 1) = hdM m k ++ if okM m k = true then [(k : Int)] else [] := rfl
theorem Zjc (m : api_Memory) : ∀ (k : Nat) x, x ∈ hdM m k → 0 ≤ x ∧ x < k
  | 0, x, h => by cases h
  | k + 1, x, h => by
    unfold hdM at h
    rcases List.mem_append.1 h with q | q
    · have := Zjc m k x q; omega
    · split at q
      · rw [List.mem_singleton.1 q]; omega
      · cases q
theorem ZkC (m : api_Memory) : ∀ k : Nat, (hdM m k).Pairwise (· < ·)
  | 0 => .nil
  | k + 1 => by
    unfold hdM
    refine List.pairwise_append.2 ⟨ZkC m k, by split <;> simp, fun x hx y hy => ?_⟩
    have := Zjc m k x hx
    split at hy
    · rw [List.mem_singleton.1 hy]; omega
    · cases hy
theorem ZgQ (m : api_Memory) : ∀ k : Nat, (hdM m k).length ≤ k
  | 0 => Nat.le_refl _
  | k + 1 => by
    unfold hdM
    have := ZgQ m k
    rw [List.length_append]
    split <;> simp <;> omega
def ZkJ (m : api_Memory) : Prop := ∀ s ∈ m.Sectors, u8R s
theorem Zjl (s : List Int) : 0 ≤ (Zbz s).1 ∧ (Zbz s).1 ≤ 1073741824 := by
  unfold Zbz
  split
  · simp
  · simp only
    split
    · rename_i h; exact ⟨by simp only; omega, h.2.1⟩
    · simp
theorem Zi2 {m : api_Memory} (h : ZkJ m) (k : Nat) : u8R (m.Sectors.getD k []) := by
  rw [List.getD_eq_getElem?_getD]
  cases e : m.Sectors[k]? with
  | none => intro x hx; cases hx
  | some s => exact h s (List.mem_of_getElem? e)
theorem ZnS {m : api_Memory} (hm : ZkJ m) (x y : Int) (hx : 0 ≤ x ∧ x < m.Sectors.length) (hy : 0 ≤ y ∧ y < m.Sectors.length) : ∃ c, Xs x y m = some c ∧ (c < 0 ↔ ZdB m x < ZdB m y) := by
  have one : ∀ z : Int, 0 ≤ z ∧ z < m.Sectors.length → Xw z m = some (ZdB m z) := fun z hz => by
    obtain ⟨k, rfl⟩ := Int.eq_ofNat_of_zero_le hz.1
    unfold Xw ZdB
    rw [Qr (Zb4 (by omega) []), Option.bind_some, Zlo (Zi2 hm k), Option.bind_some]; rfl
  unfold Xs
  rw [one x hx, one y hy]
  have bx := Zjl (m.Sectors.getD x.toNat [])
  have by_ := Zjl (m.Sectors.getD y.toNat [])
  refine ⟨_, rfl, ?_⟩
  unfold ZdB
  rw [show i64 ((Zbz (m.Sectors.getD x.toNat [])).1 - (Zbz (m.Sectors.getD y.toNat [])).1) = _ from ZN (by omega) (by omega)]
  omega
theorem ZkL {m : api_Memory} (hm : ZkJ m) (hl : m.Sectors.length ≤ 64) (hb : m.Bad.length = m.Sectors.length) :
    ∃ l, Xp m = some l ∧ l.Perm (hdM m m.Sectors.length) ∧ Srt (ZdB m) l := by
  unfold Xp
  obtain ⟨o, h1, h2⟩ := ZhQ (body := XD m) (s0 := []) (N := m.Sectors.length) (fun k acc => acc = hdM m k) (fun r => r = hdM m m.Sectors.length) (fun k acc hk hI => .inl (by
      subst hI
      unfold XD
      have hlen := ZgQ m k
      rw [if_pos (by simpa using hk), Qr (Zb4 hk []), Option.bind_some, Zlo (Zi2 hm k), Option.bind_some, show i64 ((k : Int) + 1) = (k : Int) + 1 from ZN (by omega) (by omega), Qr (Zb4 (by omega) false)]
      have ok : okM m k = ((Zbz (m.Sectors.getD k [])).2.2 && !(m.Bad.getD k false)) := rfl
      cases hh : (Zbz (m.Sectors.getD k [])).2.2 with
      | false =>
        rw [hh] at ok
        refine ⟨hdM m k, by simp [gd], ?_⟩
        rw [Zjs, ok]; simp
      | true =>
        rw [hh] at ok
        cases hB : m.Bad.getD k false with
        | true =>
          rw [hB] at ok
          refine ⟨hdM m k, by simp [gd], ?_⟩
          rw [Zjs, ok]; simp
        | false =>
          rw [hB] at ok
          refine ⟨hdM m k ++ [(k : Int)], ?_, ?_⟩
          · simp only [gd, beq_self_eq_true, if_true, Option.bind_some, Bool.not_false, Bool.and_self]
            first | rw [Zem (by simp; omega)] | rw [Zj6 (by simp; omega)]
            rfl
          · show _ = hdM m k ++ _
            rw [ok]; simp)) (fun acc hI => ⟨acc, by unfold XD; rw [if_neg (by simp)], hI⟩) rfl
  subst h2
  rw [h1]
  simp only [Option.bind_some, Zbg]
  have hlen := ZgQ m m.Sectors.length
  obtain ⟨l, k1, k2, k3⟩ := Zk6 (key := ZdB m) (D := fun x => 0 ≤ x ∧ x < m.Sectors.length) (cmp := fun z0 z1 => Xs z0 z1 m) (ZnS hm) (l := hdM m m.Sectors.length) (by omega) (ZkC m _) (fun x hx => Zjc m _ x hx)
  rw [k1]
  exact ⟨l, rfl, k2, k3⟩
theorem Zmn {body : Int → Option (Int ⊕ Int)} (P : Nat → Bool) {n : Nat} (h1 : ∀ k : Nat, 0 < k → k ≤ n → body k = if P (k - 1) = true then some (.inr (k : Int)) else some (.inl ((k - 1 : Nat) : Int))) (h0 : body 0 = some (.inr 0)) :
    ∃ r : Nat, loop (t1 body) (n : Int) = some (r : Int) ∧ r ≤ n ∧ (0 < r → P (r - 1) = true) ∧ (r < n → P r = false) := by
  suffices H : ∀ k : Nat, k ≤ n → (k < n → P k = false) → ∃ r : Nat, loop (t1 body) (k : Int) = some (r : Int) ∧ r ≤ n ∧ (0 < r → P (r - 1) = true) ∧ (r < n → P r = false) from H n (Nat.le_refl _) (fun h => absurd h (Nat.lt_irrefl _))
  intro k
  induction k with
  | zero => intro _ hk; exact ⟨0, ZbS (by simpa using h0), by omega, fun h => by omega, hk⟩
  | succ k ih =>
    intro hkn hk
    have e := h1 (k + 1) (by omega) hkn
    by_cases hp : P k = true
    · rw [Nat.add_sub_cancel, if_pos hp] at e
      exact ⟨k + 1, ZbS (by simpa using e), hkn, fun _ => hp, hk⟩
    · rw [Nat.add_sub_cancel, if_neg hp] at e
      obtain ⟨r, k1, k2⟩ := ih (by omega) (fun _ => by simpa using hp)
      exact ⟨r, Zd8 (by simpa using e) k1, k2⟩
theorem Zlz {m : api_Memory} (hm : ZkJ m) (hl : m.Sectors.length ≤ 64) (hb : m.Bad.length = m.Sectors.length) :
    ∃ l, Zbi m = some l ∧ l.Perm (hdM m m.Sectors.length) ∧ Srt (ZdB m) l := by
  unfold Zbi
  obtain ⟨o, h1, h2⟩ := ZhQ (body := Zac m) (s0 := []) (N := m.Sectors.length) (fun k acc => acc.Perm (hdM m k) ∧ Srt (ZdB m) acc) (fun r => r.Perm (hdM m m.Sectors.length) ∧ Srt (ZdB m) r) (fun k acc hk hI => .inl (by
      obtain ⟨i1, i2⟩ := hI
      have hlen := ZgQ m k
      have hal : acc.length ≤ k := by rw [i1.length_eq]; exact hlen
      unfold Zac
      rw [if_pos (by simpa using hk), Qr (Zb4 hk []), Option.bind_some, ZlC (Zi2 hm k), Option.bind_some, show i64 ((k : Int) + 1) = (k : Int) + 1 from ZN (by omega) (by omega), Qr (Zb4 (by omega) false)]
      have ok : okM m k = ((Zbz (m.Sectors.getD k [])).2.2 && !(m.Bad.getD k false)) := rfl
      cases hh : (Zbz (m.Sectors.getD k [])).2.2 with
      | false =>
        rw [hh] at ok
        refine ⟨acc, by simp [gd], ?_, i2⟩
        rw [Zjs, ok]; simpa using i1
      | true =>
        rw [hh] at ok
        cases hB : m.Bad.getD k false with
        | true =>
          rw [hB] at ok
          refine ⟨acc, by simp [gd], ?_, i2⟩
          rw [Zjs, ok]; simpa using i1
        | false =>
          rw [hB] at ok
          have mem : ∀ z ∈ acc, 0 ≤ z ∧ z < (k : Int) := fun z hz => Zjc m k z (i1.mem_iff.1 hz)
          obtain ⟨r, q1, q2, q3, q4⟩ := Zmn (body := Zai m acc (Zbz (m.Sectors.getD k []))) (fun j => decide (ZdB m (acc.getD j 0) ≤ (Zbz (m.Sectors.getD k [])).1)) (n := acc.length) (fun j j0 jn => by
            unfold Zai
            have hj := mem (acc.getD (j - 1) 0) (Zeb (by omega))
            obtain ⟨z, hz⟩ := Int.eq_ofNat_of_zero_le hj.1
            rw [if_pos (by simpa using j0), show i64 ((j : Int) - 1) = ((j - 1 : Nat) : Int) from (ZN (by omega) (by omega)).trans (by omega), Qr (Zb4 (by omega) 0), Option.bind_some, hz,
              Qr (Zb4 (by omega) []), Option.bind_some, ZlC (Zi2 hm z), Option.bind_some]
            by_cases q : ZdB m (z : Int) ≤ (Zbz (m.Sectors.getD k [])).1
            · rw [if_pos (by simpa [ZdB] using q), if_pos (by simpa using q)]
            · rw [if_neg (by simpa [ZdB] using q), if_neg (by simpa using q)]) (by unfold Zai; rw [if_neg (by simp)])
          refine ⟨acc.take r ++ (k : Int) :: acc.drop r, ?_, ?_, ?_⟩
          · simp only [gd, beq_self_eq_true, if_true, Option.bind_some, Bool.not_true, Bool.or_self, Bool.false_eq_true, if_false]
            rw [q1]
            simp only [Option.bind_some, Zbg]
            rw [show apz 8 acc [0] = some (acc ++ [0]) from Zem (by simp; omega), Option.bind_some]
            rw [show i64 ((r : Int) + 1) = ((r + 1 : Nat) : Int) from (ZN (by omega) (by omega)).trans (by omega)]
            have hL : (acc ++ [(0 : Int)]).length = acc.length + 1 := by simp
            have sq : ∀ j : Nat, j ≤ acc.length + 1 → slq (acc ++ [(0 : Int)]) (j : Int) ((acc ++ [(0 : Int)]).length : Int) = some () := fun j hj => by
              unfold slq; rw [hL]
              have a1 : (j : Int) ≤ ((acc.length + 1 : Nat) : Int) := by omega
              simp only [decide_eq_true (show (0 : Int) ≤ (j : Int) by omega), decide_eq_true a1, decide_eq_true (Nat.succ_pos _), decide_eq_true (Nat.le_refl _), Bool.and_self]
              simp [ck]
            rw [sq (r + 1) (by omega), Option.bind_some, sq r (by omega), Option.bind_some]
            have t1 : Int.toNat (((acc ++ [(0 : Int)]).length : Int) - ((r + 1 : Nat) : Int)) = (acc.length + 1) - (r + 1) := by rw [hL]; omega
            have t2' : Int.toNat (((acc ++ [(0 : Int)]).length : Int) - (r : Int)) = (acc.length + 1) - r := by rw [hL]; omega
            rw [t1, t2']
            simp only [Int.toNat_natCast]
            obtain ⟨z, hz⟩ := Zke (xs := cpy (acc ++ [(0 : Int)]) (r + 1) ((acc.length + 1) - (r + 1)) r ((acc.length + 1) - r)) (k := r) (by rw [Zcx (by rw [hL]; omega) (by rw [hL]; omega), hL]; omega)
            rw [Qr hz, Option.bind_some, ZmV q2]
          · refine List.perm_middle.trans ?_
            rw [List.take_append_drop]
            refine (List.Perm.cons _ i1).trans ?_
            rw [Zjs, ok]
            simpa using (List.perm_append_comm (l₁ := [(k : Int)]) (l₂ := hdM m k))
          · have hk' : ZdB m (k : Int) = (Zbz (m.Sectors.getD k [])).1 := rfl
            have hA : Srt (ZdB m) (acc.take r) := i2.sublist (List.take_sublist ..)
            have hB' : Srt (ZdB m) (acc.drop r) := i2.sublist (List.drop_sublist ..)
            have hAy : ∀ a ∈ acc.take r, LtK (ZdB m) a k := by
              have := Ze3 (key := ZdB m) (m := [(k : Int)]) hA (List.pairwise_singleton ..) (fun a b ha hb => by
                simp only [List.head?_cons, Option.some.injEq] at hb
                subst hb
                rw [List.getLast?_eq_getElem?, List.length_take, Nat.min_eq_left q2] at ha
                have l2 := (List.getElem?_eq_some_iff.1 ha).1
                rw [List.length_take] at l2
                rw [List.getElem?_take_of_lt (by omega)] at ha
                have q := q3 (by omega)
                rw [List.getD_eq_getElem?_getD, ha] at q
                have q := of_decide_eq_true q
                simp only [Option.getD_some] at q
                have := (mem a (List.mem_of_getElem? ha)).2
                unfold LtK; omega)
              exact fun a ha => this a ha k (List.mem_singleton.2 rfl)
            have hyB : ∀ b ∈ acc.drop r, LtK (ZdB m) k b := by
              have := Ze3 (key := ZdB m) (l := [(k : Int)]) (List.pairwise_singleton ..) hB' (fun a b ha hb => by
                simp only [List.getLast?_singleton, Option.some.injEq] at ha
                subst ha
                rw [List.head?_drop] at hb
                have l1 := (List.getElem?_eq_some_iff.1 hb).1
                have q := q4 (by omega)
                rw [List.getD_eq_getElem?_getD, hb] at q
                have q := of_decide_eq_false q
                simp only [Option.getD_some] at q
                exact .inl (by omega))
              exact fun b hb => this k (List.mem_singleton.2 rfl) b hb
            refine hA.app (List.pairwise_cons.2 ⟨hyB, hB'⟩) fun a ha b hb => ?_
            rcases List.mem_cons.1 hb with rfl | hb
            · exact hAy a ha
            · exact (hAy a ha).trans (hyB b hb))) (fun acc hI => ⟨acc, by unfold Zac; rw [if_neg (by simp)], hI⟩) ⟨.refl _, .nil⟩
  rw [h1]
  exact ⟨o, rfl, h2⟩
theorem Zmc {m : api_Memory} (hm : ZkJ m) (hl : m.Sectors.length ≤ 64) (hb : m.Bad.length = m.Sectors.length) :
    ∃ l, Xp m = some l ∧ Zbi m = some l ∧ l.Perm (hdM m m.Sectors.length) ∧ Srt (ZdB m) l := by
  obtain ⟨l, a1, a2, a3⟩ := ZkL hm hl hb
  obtain ⟨l', b1, b2, b3⟩ := Zlz hm hl hb
  have : l' = l := Ziq (b2.trans a2.symm) b3 a3
  subst this
  exact ⟨l', a1, b1, a2, a3⟩
end Go.Vx

namespace Go.Vx
open Go Go.RowKit
structure MemOK (m : api_Memory) : Prop where
  slots : 1 ≤ m.Slots ∧ m.Slots ≤ 64
  limit : 1 ≤ m.Limit ∧ m.Limit ≤ 1000000
  n : 2 ≤ m.Sectors.length ∧ m.Sectors.length ≤ 64
  wear : m.Wear.length = m.Sectors.length
  bad : m.Bad.length = m.Sectors.length
  row : ∀ s ∈ m.Sectors, (s.length : Int) = 16 + m.Slots * 97
  wr : ∀ x ∈ m.Wear, 0 ≤ x ∧ x ≤ m.Limit
theorem Zm3 (x a b : Int) : (decide (x < a) || decide (b < x)) = !(decide (a ≤ x) && decide (x ≤ b)) := by
  by_cases h1 : a ≤ x <;> by_cases h2 : x ≤ b <;> simp [h1, h2] <;> omega
theorem Zfq (x a b : Int) : Qi x a b = some (decide (a ≤ x) && decide (x ≤ b)) := by
  unfold Qi
  by_cases h1 : a ≤ x <;> simp [h1, gd]
theorem Zg1 (x a b : Int) : Q2 x a b = some (!(decide (a ≤ x) && decide (x ≤ b))) := by
  rw [← Zm3]
  unfold Q2
  by_cases h1 : x < a <;> simp [h1, gd]
theorem ZmP (m : api_Memory) : Xi m = Qg m := by
  have hb : Jl m = Qn m := by
    funext i
    unfold Jl Qn QY
    simp only [Option.bind_some, Zfq, Zg1]
  unfold Xi Qg
  rw [hb]
  simp only [Zfq, Zg1]
  generalize (decide (1 ≤ m.Slots) && decide (m.Slots ≤ 64)) = A
  generalize (decide (1 ≤ m.Limit) && decide (m.Limit ≤ 1000000)) = B
  generalize (decide ((2 : Int) ≤ (m.Sectors.length : Int)) && decide ((m.Sectors.length : Int) ≤ 64)) = C
  cases A <;> cases B <;> cases C <;> simp [gd]
theorem Znv (m : api_Memory) : ∃ c, Qg m = some c ∧ (c = 0 → MemOK m) ∧ (MemOK m → c = 0) := by
  unfold Qg
  simp only [Zfq, Option.bind_some]
  by_cases hA : 1 ≤ m.Slots ∧ m.Slots ≤ 64
  · by_cases hB : 1 ≤ m.Limit ∧ m.Limit ≤ 1000000
    · by_cases hC : 2 ≤ m.Sectors.length ∧ m.Sectors.length ≤ 64
      · by_cases hD : m.Wear.length = m.Sectors.length ∧ m.Bad.length = m.Sectors.length
        · obtain ⟨r, h1, h2⟩ := Zmq (body := Qn m) (N := m.Sectors.length) (fun k => ∀ j, j < k → ((m.Sectors.getD j []).length : Int) = 16 + m.Slots * 97 ∧ 0 ≤ m.Wear.getD j 0 ∧ m.Wear.getD j 0 ≤ m.Limit)
            (fun r => (∃ e, r = .inl e ∧ e ≠ 0 ∧ ¬ MemOK m) ∨ (r = .inr () ∧ ∀ j, j < m.Sectors.length → ((m.Sectors.getD j []).length : Int) = 16 + m.Slots * 97 ∧ 0 ≤ m.Wear.getD j 0 ∧ m.Wear.getD j 0 ≤ m.Limit)) (fun k hk hI => by
              unfold Qn QY
              have gS := Zb4 (s := m.Sectors) hk []
              have gW := Zb4 (s := m.Wear) (k := k) (by omega) 0
              rw [if_pos (by simpa using hk), Qr gS, Option.bind_some, show i64 (m.Slots * 97) = m.Slots * 97 from ZN (by omega) (by omega), show i64 (16 + m.Slots * 97) = 16 + m.Slots * 97 from ZN (by omega) (by omega), Option.bind_some,
                Qr gW, Option.bind_some, Zfq, Option.bind_some, show i64 ((k : Int) + 1) = (k : Int) + 1 from ZN (by omega) (by omega)]
              by_cases q : ((m.Sectors.getD k []).length : Int) = 16 + m.Slots * 97
              · rw [if_neg (by simpa using q)]
                by_cases q2 : 0 ≤ m.Wear.getD k 0 ∧ m.Wear.getD k 0 ≤ m.Limit
                · left
                  rw [if_neg (by simpa using q2)]
                  refine ⟨rfl, fun j hj => ?_⟩
                  by_cases e : j = k
                  · subst e; exact ⟨q, q2⟩
                  · exact hI j (by omega)
                · right
                  exact ⟨_, by rw [if_pos (by rw [Bool.not_eq_true', Bool.and_eq_false_iff, decide_eq_false_iff_not, decide_eq_false_iff_not]; omega)], .inl ⟨9, rfl, by decide, fun w => q2 (w.wr _ (Zeb (by omega)))⟩⟩
              · right
                exact ⟨_, by rw [if_pos (by simpa using q)], .inl ⟨3, rfl, by decide, fun w => q (w.row _ (List.mem_of_getElem? gS))⟩⟩)
            (fun hI => ⟨.inr (), by unfold Qn; rw [if_neg (by simp)], .inr ⟨rfl, hI⟩⟩) (fun j hj => absurd hj (Nat.not_lt_zero _))
          have hw1 : ((m.Wear.length : Int) = (m.Sectors.length : Int)) := by omega
          have hw2 : ((m.Bad.length : Int) = (m.Sectors.length : Int)) := by omega
          have hc1 : (2 : Int) ≤ (m.Sectors.length : Int) := by omega
          have hc2 : (m.Sectors.length : Int) ≤ 64 := by omega
          simp only [decide_eq_true hA.1, decide_eq_true hA.2, decide_eq_true hB.1, decide_eq_true hB.2, decide_eq_true hc1, decide_eq_true hc2, decide_eq_true hw1, decide_eq_true hw2, Bool.and_self, Bool.not_true, Bool.or_self, gd, beq_self_eq_true, if_true, Option.bind_some, Bool.false_eq_true, if_false]
          rw [h1]
          rcases h2 with ⟨e, rfl, he, hno⟩ | ⟨rfl, hall⟩
          · exact ⟨e, rfl, fun q => absurd q he, fun w => absurd w hno⟩
          · refine ⟨0, rfl, fun _ => ⟨hA, hB, hC, hD.1, hD.2, fun s hs => ?_, fun x hx => ?_⟩, fun _ => rfl⟩
            · obtain ⟨j, hj, rfl⟩ := List.getElem_of_mem hs
              have := (hall j hj).1
              rwa [List.getD_eq_getElem?_getD, List.getElem?_eq_getElem hj] at this
            · obtain ⟨j, hj, rfl⟩ := List.getElem_of_mem hx
              have := (hall j (by omega)).2
              rwa [List.getD_eq_getElem?_getD, List.getElem?_eq_getElem hj] at this
        · refine ⟨2, ?_, fun q => by simp at q, fun w => absurd ⟨w.wear, w.bad⟩ hD⟩
          have hc1 : (2 : Int) ≤ (m.Sectors.length : Int) := by omega
          have hc2 : (m.Sectors.length : Int) ≤ 64 := by omega
          simp only [decide_eq_true hA.1, decide_eq_true hA.2, decide_eq_true hB.1, decide_eq_true hB.2, decide_eq_true hc1, decide_eq_true hc2, Bool.and_self, Bool.not_true, Bool.or_self, gd, beq_self_eq_true, if_true, Option.bind_some, Bool.false_eq_true, if_false]
          rw [if_pos]
          simp; omega
      · refine ⟨9, ?_, fun q => by simp at q, fun w => absurd w.n hC⟩
        have hc : (decide ((2 : Int) ≤ (m.Sectors.length : Int)) && decide ((m.Sectors.length : Int) ≤ 64)) = false := by simp; omega
        simp only [decide_eq_true hA.1, decide_eq_true hA.2, decide_eq_true hB.1, decide_eq_true hB.2, hc, Bool.and_self, Bool.not_true, Bool.or_self, gd, beq_self_eq_true, if_true, Option.bind_some]
        simp
    · refine ⟨9, ?_, fun q => by simp at q, fun w => absurd w.limit hB⟩
      have hc : (decide (1 ≤ m.Limit) && decide (m.Limit ≤ 1000000)) = false := by simpa using hB
      simp [decide_eq_true hA.1, decide_eq_true hA.2, hc, gd]
  · refine ⟨9, ?_, fun q => by simp at q, fun w => absurd w.slots hA⟩
    have hc : (decide (1 ≤ m.Slots) && decide (m.Slots ≤ 64)) = false := by simpa using hA
    simp [hc, gd]
theorem ZiS {α : Type} {s : Nat} {l : List α} (h : l.length ≤ 140737488355328 / s) : ZdU s l = some l := (Zem (by simpa using h)).trans (by simp)
theorem Zne {m : api_Memory} (h : MemOK m) : Q8 m = some m := by
  have hs := h.slots
  have hr : ∀ s ∈ m.Sectors, s.length ≤ 7000 := fun s hs => by have := h.row s hs; omega
  have hn := h.n
  unfold Q8
  obtain ⟨r, h1, h2⟩ := ZhQ (body := QT m) (s0 := []) (N := m.Sectors.length) (fun k acc => acc = m.Sectors.take k) (fun r => r = m.Sectors) (fun k acc hk hI => .inl (by
      subst hI
      have hd := Zb4 (s := m.Sectors) hk []
      have hl := hr _ (List.mem_of_getElem? hd)
      refine ⟨m.Sectors.take k ++ [m.Sectors.getD k []], ?_, ?_⟩
      · unfold QT
        rw [if_pos (by simpa using hk), Qr hd, Option.bind_some, ZiS (by omega), Option.bind_some]
        rw [show app (m.Sectors.take k) [m.Sectors.getD k []] = some (m.Sectors.take k ++ [m.Sectors.getD k []]) from Zj6 (by simp; omega), Option.bind_some, show i64 ((k : Int) + 1) = (k : Int) + 1 from ZN (by omega) (by omega)]
      · rw [List.take_succ, hd]; rfl)) (fun acc hI => ⟨acc, by unfold QT; rw [if_neg (by simp)], by rw [hI, List.take_length]⟩) rfl
  subst h2
  rw [h1]
  simp only [Option.bind_some, Zbg]
  rw [ZiS (by have := h.wear; omega), Option.bind_some, ZiS (by have := h.bad; omega), Option.bind_some]
theorem Zm2 {m : api_Memory} (h : MemOK m) : Zd6 m = some m := by
  have hs := h.slots
  have hr : ∀ s ∈ m.Sectors, s.length ≤ 7000 := fun s hs => by have := h.row s hs; omega
  have hn := h.n
  unfold Zd6
  obtain ⟨r, h1, h2⟩ := ZhQ (body := ZbV m) (s0 := []) (N := m.Sectors.length) (fun k acc => acc = m.Sectors.take k) (fun r => r = m.Sectors) (fun k acc hk hI => .inl (by
      subst hI
      have hd := Zb4 (s := m.Sectors) hk []
      have hl := hr _ (List.mem_of_getElem? hd)
      refine ⟨m.Sectors.take k ++ [m.Sectors.getD k []], ?_, ?_⟩
      · unfold ZbV
        rw [if_pos (by simpa using hk), Qr hd, Option.bind_some, show apz 1 ([] : List Int) (m.Sectors.getD k []) = some (m.Sectors.getD k []) from (Zem (by rw [List.length_nil]; omega)).trans (by simp), Option.bind_some]
        rw [show app (m.Sectors.take k) [m.Sectors.getD k []] = some (m.Sectors.take k ++ [m.Sectors.getD k []]) from Zj6 (by simp; omega)]
        simp only [Option.bind_some, Zbg]
        rw [show i64 ((k : Int) + 1) = (k : Int) + 1 from ZN (by omega) (by omega)]
      · rw [List.take_succ, hd]; rfl)) (fun acc hI => ⟨acc, by unfold ZbV; rw [if_neg (by simp)], by rw [hI, List.take_length]⟩) rfl
  subst h2
  rw [h1]
  simp only [Option.bind_some, Zbg]
  rw [show apz 8 ([] : List Int) m.Wear = some m.Wear from (Zem (by have := h.wear; simp; omega)).trans (by simp), Option.bind_some, show apz 1 ([] : List Bool) m.Bad = some m.Bad from (Zem (by have := h.bad; simp; omega)).trans (by simp), Option.bind_some]
theorem Zj0 (m : api_Memory) (sector : Int) (hm : ZfP m) : Xf m sector = some true := by
  have hmR : ZkJ m := fun s hs x hx => by
    have := (hm.2.2.1.2 s hs).2 x hx
    have := (by simpa [wfI, Lit.wf] using this : IntKind.u8.min ≤ x ∧ x ≤ IntKind.u8.max)
    exact ⟨this.1, this.2⟩
  unfold Xf Zc2 Zc3 ZdO ZdN
  rw [ZmP]
  obtain ⟨c, h1, h2, h3⟩ := Znv m
  rw [h1]
  simp only [Option.bind_some]
  by_cases hc : c = 0
  · have ok := h2 hc
    subst hc
    obtain ⟨l, l1, l2, l3, l4⟩ := Zmc hmR ok.n.2 ok.bad
    have hll : l.length ≤ 64 := by
      rw [l3.length_eq]; have := ZgQ m m.Sectors.length; have := ok.n; omega
    rw [l1, l2]
    simp only [decide_true, Bool.not_true, Bool.false_eq_true, if_false, Option.bind_some, Bool.or_self, gd, beq_self_eq_true, if_true]
    rw [eqI (by omega)]
    simp only [decide_true, Bool.not_true, Bool.false_eq_true, if_false, Option.bind_some, Bool.or_self]
    have hn := ok.n
    rw [show i64 ((m.Sectors.length : Int) - 1) = (m.Sectors.length : Int) - 1 from ZN (by omega) (by omega), Zfq, Zg1]
    simp only [Option.bind_some]
    by_cases hs : 0 ≤ sector ∧ sector ≤ (m.Sectors.length : Int) - 1
    · obtain ⟨k, rfl⟩ := Int.eq_ofNat_of_zero_le hs.1
      have hk : k < m.Sectors.length := by omega
      have hd := Zb4 (s := m.Sectors) hk []
      have hl : (m.Sectors.getD k []).length ≤ 7000 := by have := ok.row _ (List.mem_of_getElem? hd); have := ok.slots; omega
      rw [Zne ok, Zm2 ok]
      simp only [decide_eq_true hs.1, decide_eq_true hs.2, Bool.and_self, Bool.not_true, Bool.false_eq_true, if_false, Option.bind_some]
      have hb := Zb4 (s := m.Bad) (k := k) (by have := ok.bad; omega) false
      rw [Qr hd, Qr hb]
      simp only [Option.bind_some, Int.toNat_natCast]
      rw [show mkz 1 ((m.Sectors.getD k []).length : Int) (0 : Int) = some (List.replicate (m.Sectors.getD k []).length 0) from Zm1 (by omega) 0]
      simp only [Option.bind_some, decide_true]
      rw [ZjZ _ (by simp; omega) (by have := ok.wear; simp; omega) (by have := ok.bad; simp; omega), Zj9]
      simp
    · have hf : (decide (0 ≤ sector) && decide (sector ≤ (m.Sectors.length : Int) - 1)) = false := by simpa using hs
      rw [hf]
      simp only [Bool.not_false, if_true, Option.bind_some, decide_true]
      rw [ZjZ _ (by simp) (by simp) (by simp), Zj9]
      simp
  · have hd : decide (c = 0) = false := decide_eq_false hc
    simp only [hd, Bool.not_false, if_true, Option.bind_some, decide_true, Bool.not_true, Bool.or_self, gd, beq_self_eq_true]
    rw [eqI (by simp)]
    simp only [decide_true, Bool.not_true, Option.bind_some, Bool.or_self, Bool.false_eq_true, if_false]
    rw [ZjZ _ (by simp) (by simp) (by simp), Zj9]
    simp
end Go.Vx
