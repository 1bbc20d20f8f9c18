/- A text of the proof: a verified executor of the program form, or the contracts of the functions that the law reaches. -/
import Derived.Test.YtnlmjeleocelgaaDoorPB
import Derived.Test.YtnlmjeleocelgaaDoorPA
import Derived.Test.YtnlmjeleocelgaaDoorVR
import Derived.Test.YtnlmjeleocelgaaDoorShT
import Derived.Test.YtnlmjeleocelgaaDoorVH
import Derived.Test.YtnlmjeleocelgaaDoorVP
set_option linter.all false
namespace Go.Vx
open Go Go.RowKit
set_option maxHeartbeats 1000000
section
variable {key : Int → Int} {D : Int → Prop} {cmp : Int → Int → Option Int}
theorem Zrn (hc : ∀ x y, D x → D y → ∃ c, cmp x y = some c ∧ (c < 0 ↔ key x < key y)) :
    ∀ (n : Nat) (L X Y R : List Int), X ≠ [] → Y ≠ [] → X.length + Y.length ≤ n → L.length + X.length + Y.length + R.length ≤ 1000000 → Srt key X → Srt key Y → (∀ x ∈ X, ∀ y ∈ Y, x < y) → (∀ x ∈ X ++ Y, D x) →
      ∃ Z, ZF n (L ++ X ++ Y ++ R) (L.length : Int) ((L.length + X.length : Nat) : Int) ((L.length + X.length + Y.length : Nat) : Int) cmp = some (L ++ Z ++ R) ∧ Z.Perm (X ++ Y) ∧ Srt key Z := by
  intro n
  induction n with
  | zero =>
    intro L X Y R hX hY hn
    have := List.length_pos_iff.2 hX
    omega
  | succ n ih =>
    intro L X Y R hX hY hn hN sX sY hlt hD
    have pX := List.length_pos_iff.2 hX
    have pY := List.length_pos_iff.2 hY
    show ∃ Z, ZY (ZF n) _ _ _ _ _ = _ ∧ _
    unfold ZY
    have e1 : i64 (((L.length + X.length : Nat) : Int) - (L.length : Int)) = (X.length : Int) := (Zl (by omega) (by omega)).trans (by omega)
    have e2 : i64 (((L.length + X.length + Y.length : Nat) : Int) - ((L.length + X.length : Nat) : Int)) = (Y.length : Int) := (Zl (by omega) (by omega)).trans (by omega)
    rw [e1, e2]
    by_cases c1 : X.length = 1
    · rw [if_pos (by simp; omega)]
      obtain ⟨x, rfl⟩ := List.length_eq_one_iff.1 c1
      have := ZoQ (key := key) (D := D) hc (L := L) (Y := Y) (R := R) (x := x) (by simp at hN; omega) sY (fun y hy => hlt x (by simp) y hy) (fun z hz => hD z (by simpa using hz))
      simpa using this
    · rw [if_neg (by simpa using fun q => c1 (by omega))]
      by_cases c2 : Y.length = 1
      · rw [if_pos (by simp; omega)]
        obtain ⟨y, rfl⟩ := List.length_eq_one_iff.1 c2
        have := Zn5 (key := key) (D := D) hc (L := L) (X := X) (R := R) (y := y) (by simp at hN; omega) sX (fun x hx => hlt x hx y (by simp)) (fun z hz => hD z (by
          rcases List.mem_cons.1 hz with rfl | q <;> simp_all))
        exact this
      · rw [if_neg (by simpa using fun q => c2 (by omega))]
        generalize ha : L.length = a at *
        generalize hm : a + X.length = m at *
        generalize hb : m + Y.length = b at *
        obtain ⟨mid, hmid⟩ : ∃ mid, mid = (a + b) / 2 := ⟨_, rfl⟩
        rw [show i64 ((a : Int) + (b : Int)) = i64 ((a + b : Nat) : Int) by push_cast; rfl, ZkI (by omega), Option.bind_some, ← hmid]
        have f1 : i64 (mid : Int) = (mid : Int) := Zl (by omega) (by omega)
        have f2 : i64 ((mid : Int) + (m : Int)) = ((mid + m : Nat) : Int) := (Zl (by omega) (by omega)).trans (by omega)
        rw [f1, f2]
        obtain ⟨lo, hlo⟩ : ∃ lo, lo = if mid < m then mid + m - b else a := ⟨_, rfl⟩
        obtain ⟨hi, hhi⟩ : ∃ hi, hi = if mid < m then mid else m := ⟨_, rfl⟩
        have f3 : (if decide ((mid : Int) < (m : Int)) = true then some (i64 (((mid + m : Nat) : Int) - (b : Int)), (mid : Int)) else some ((a : Int), (m : Int))) = some ((lo : Int), (hi : Int)) := by
          by_cases q : mid < m
          · rw [if_pos (by simpa using q), show i64 (((mid + m : Nat) : Int) - (b : Int)) = ((mid + m - b : Nat) : Int) from (Zl (by omega) (by omega)).trans (by omega), hlo, hhi, if_pos q, if_pos q]
          · rw [if_neg (by simpa using q), hlo, hhi, if_neg q, if_neg q]
        rw [f3]
        simp only [Option.bind_some, QU]
        have blo : a ≤ lo ∧ lo ≤ hi ∧ hi ≤ m ∧ hi ≤ mid ∧ mid + m - b ≤ lo := by
          split at hlo <;> split at hhi <;> omega
        obtain ⟨s, h1, h2, h3, h4, h5⟩ := ZkB (body := Qr (L ++ X ++ Y ++ R) (m : Int) cmp (mid : Int)) (fun c => !decide (key (Y.getD (mid - 1 - c) 0) < key (X.getD (c - a) 0))) (lo := lo) (hi := hi) (by omega) (fun i j a1 a2 a3 => by
          have g1 : i64 ((i : Int) + (j : Int)) = i64 ((i + j : Nat) : Int) := by push_cast; rfl
          have g2 : i64 (((i + j) / 2 : Nat) : Int) = (((i + j) / 2 : Nat) : Int) := Zl (by omega) (by omega)
          have g3 : i64 ((((i + j) / 2 : Nat) : Int) + 1) = (((i + j) / 2 + 1 : Nat) : Int) := (Zl (by omega) (by omega)).trans (by omega)
          have g4 : i64 (i64 (((mid + m : Nat) : Int) - 1) - (((i + j) / 2 : Nat) : Int)) = ((m + (mid - 1 - (i + j) / 2) : Nat) : Int) := by
            rw [show i64 (((mid + m : Nat) : Int) - 1) = ((mid + m - 1 : Nat) : Int) from (Zl (by omega) (by omega)).trans (by omega)]
            exact (Zl (by omega) (by omega)).trans (by omega)
          have k1 : (L ++ X ++ Y ++ R)[m + (mid - 1 - (i + j) / 2)]? = some (Y.getD (mid - 1 - (i + j) / 2) 0) := by
            have := ZkN (L := L ++ X) (X := Y) (R := R) (c := m + (mid - 1 - (i + j) / 2)) (by simp; omega) (by simp; omega)
            rw [this]; congr 2; simp; omega
          have k2 : (L ++ X ++ Y ++ R)[(i + j) / 2]? = some (X.getD ((i + j) / 2 - a) 0) := by
            have := ZkN (L := L) (X := X) (R := Y ++ R) (c := (i + j) / 2) (by omega) (by omega)
            rw [← ha, ← this]; simp
          unfold Qr
          rw [if_pos (by simpa using a2), g1, ZkI (by omega), Option.bind_some, g2, f1, f2, g4, Zz k1, Option.bind_some, Zz k2, Option.bind_some]
          obtain ⟨c, d1, d2⟩ := hc (Y.getD (mid - 1 - (i + j) / 2) 0) (X.getD ((i + j) / 2 - a) 0) (hD _ (List.mem_append_right _ (ZaS (by omega)))) (hD _ (List.mem_append_left _ (ZaS (by omega))))
          rw [d1, Option.bind_some, g3]
          by_cases q : key (Y.getD (mid - 1 - (i + j) / 2) 0) < key (X.getD ((i + j) / 2 - a) 0)
          · rw [if_neg (by simpa using d2.2 q), if_neg (by simpa using q)]
          · rw [if_pos (by simpa using fun w => q (d2.1 w)), if_pos (by simpa using q)]) (fun i a1 a2 => by
          unfold Qr
          rw [if_neg (by simp)])
        rw [h3]
        simp only [Option.bind_some, Xl]
        have cut := Zqp (key := key) (X := X) (Y := Y) (a := a) (m := m) (b := b) (s := s) hm hb sX sY mid hmid lo hi hlo hhi h1 h2 (fun hl x y hx hy => by
          have q := h4 hl
          rw [show mid - 1 - (s - 1) = mid - s by omega, List.getD_eq_getElem?_getD, List.getD_eq_getElem?_getD, hx, hy] at q
          simp only [Option.getD_some, Bool.not_eq_true', decide_eq_false_iff_not] at q
          have := hlt x (List.mem_of_getElem? hx) y (List.mem_of_getElem? hy)
          unfold LtK; omega) (fun hl x y hx hy => by
          have q := h5 hl
          rw [show mid - 1 - s = mid - s - 1 by omega, List.getD_eq_getElem?_getD, List.getD_eq_getElem?_getD, hx, hy] at q
          simp only [Option.getD_some, Bool.not_eq_false', decide_eq_true_eq] at q
          exact .inl q)
        have le1 : (X.take (s - a)).length = s - a := by rw [List.length_take]; omega
        have le2 : (X.drop (s - a)).length = m - s := by rw [List.length_drop]; omega
        have le3 : (Y.take (mid - s)).length = mid - s := by rw [List.length_take]; omega
        have le4 : (Y.drop (mid - s)).length = b - (mid + m - s) := by rw [List.length_drop]; omega
        have sX1 : Srt key (X.take (s - a)) := sX.sublist (List.take_sublist ..)
        have sX2 : Srt key (X.drop (s - a)) := sX.sublist (List.drop_sublist ..)
        have sY1 : Srt key (Y.take (mid - s)) := sY.sublist (List.take_sublist ..)
        have sY2 : Srt key (Y.drop (mid - s)) := sY.sublist (List.drop_sublist ..)
        have mXX : ∀ x ∈ X.take (s - a), ∀ y ∈ X.drop (s - a), LtK key x y := by
          have := sX
          rw [← List.take_append_drop (s - a) X] at this
          exact this.mid
        have mYY : ∀ x ∈ Y.take (mid - s), ∀ y ∈ Y.drop (mid - s), LtK key x y := by
          have := sY
          rw [← List.take_append_drop (mid - s) Y] at this
          exact this.mid
        have hXe : X = X.take (s - a) ++ X.drop (s - a) := (List.take_append_drop ..).symm
        have hYe : Y = Y.take (mid - s) ++ Y.drop (mid - s) := (List.take_append_drop ..).symm
        have iX1 : ∀ x ∈ X.take (s - a), x ∈ X := fun x hx => List.mem_of_mem_take hx
        have iX2 : ∀ x ∈ X.drop (s - a), x ∈ X := fun x hx => List.mem_of_mem_drop hx
        have iY1 : ∀ x ∈ Y.take (mid - s), x ∈ Y := fun x hx => List.mem_of_mem_take hx
        have iY2 : ∀ x ∈ Y.drop (mid - s), x ∈ Y := fun x hx => List.mem_of_mem_drop hx
        generalize X.take (s - a) = X1 at *
        generalize X.drop (s - a) = X2 at *
        generalize Y.take (mid - s) = Y1 at *
        generalize Y.drop (mid - s) = Y2 at *
        subst hXe hYe
        have g5 : i64 (((mid + m : Nat) : Int) - (s : Int)) = ((mid + m - s : Nat) : Int) := (Zl (by omega) (by omega)).trans (by omega)
        rw [g5]
        have rot : (if ((decide ((s : Int) < (m : Int))) && (decide ((m : Int) < ((mid + m - s : Nat) : Int)))) = true then (Z4 (L ++ (X1 ++ X2) ++ (Y1 ++ Y2) ++ R) (s : Int) (m : Int) ((mid + m - s : Nat) : Int) cmp).bind fun y4 => some y4 else some (L ++ (X1 ++ X2) ++ (Y1 ++ Y2) ++ R)) = some (L ++ X1 ++ Y1 ++ (X2 ++ Y2 ++ R)) := by
          by_cases q : s < m ∧ m < mid + m - s
          · rw [if_pos (by simp; omega)]
            have := Znn (cmp := cmp) (L := L ++ X1) (X := X2) (Y := Y1) (R := Y2 ++ R) (by intro w; subst w; simp at le2; omega) (by intro w; subst w; simp at le3; omega) (by simp only [List.length_append] at hn hN pX pY ⊢; omega)
            rw [show (L ++ X1).length = s by rw [List.length_append]; omega, show s + X2.length = m by omega, show m + Y1.length = mid + m - s by omega] at this
            rw [show L ++ (X1 ++ X2) ++ (Y1 ++ Y2) ++ R = L ++ X1 ++ X2 ++ Y1 ++ (Y2 ++ R) by simp, this]
            simp
          · rw [if_neg (by simp; omega)]
            by_cases w : s < m
            · have : Y1 = [] := List.length_eq_zero_iff.1 (by omega)
              subst this; simp
            · have : X2 = [] := List.length_eq_zero_iff.1 (by omega)
              subst this; simp
        rw [rot]
        simp only [Option.bind_some, Xl]
        have first : ∃ Z1, (if ((decide ((a : Int) < (s : Int))) && (decide ((s : Int) < (mid : Int)))) = true then (ZF n (L ++ X1 ++ Y1 ++ (X2 ++ Y2 ++ R)) (a : Int) (s : Int) (mid : Int) cmp).bind fun y5 => some y5 else some (L ++ X1 ++ Y1 ++ (X2 ++ Y2 ++ R))) = some (L ++ Z1 ++ (X2 ++ Y2 ++ R)) ∧ Z1.Perm (X1 ++ Y1) ∧ Srt key Z1 := by
          by_cases q : a < s ∧ s < mid
          · rw [if_pos (by simp; omega)]
            obtain ⟨Z, z1, z2, z3⟩ := ih L X1 Y1 (X2 ++ Y2 ++ R) (by intro w; subst w; simp at le1; omega) (by intro w; subst w; simp at le3; omega) (by simp only [List.length_append] at hn hN pX pY c1 c2 ⊢; omega) (by simp only [List.length_append] at hn hN ⊢; omega) sX1 sY1 (fun x hx y hy => hlt x (iX1 x hx) y (iY1 y hy)) (fun x hx => hD x (by
              rcases List.mem_append.1 hx with w | w
              · exact List.mem_append_left _ (iX1 x w)
              · exact List.mem_append_right _ (iY1 x w)))
            rw [ha, show a + X1.length = s by omega, show s + Y1.length = mid by omega] at z1
            exact ⟨Z, by rw [z1]; rfl, z2, z3⟩
          · rw [if_neg (by simp; omega)]
            refine ⟨X1 ++ Y1, by simp, .refl _, ?_⟩
            by_cases w : a < s
            · have : Y1 = [] := List.length_eq_zero_iff.1 (by omega)
              subst this; simpa using sX1
            · have : X1 = [] := List.length_eq_zero_iff.1 (by omega)
              subst this; simpa using sY1
        obtain ⟨Z1, z1, z2, z3⟩ := first
        rw [z1]
        simp only [Option.bind_some, Xl]
        have hZ1 : Z1.length = mid - a := by rw [z2.length_eq, List.length_append]; omega
        have second : ∃ Z2, (if ((decide ((mid : Int) < ((mid + m - s : Nat) : Int))) && (decide (((mid + m - s : Nat) : Int) < (b : Int)))) = true then (ZF n (L ++ Z1 ++ (X2 ++ Y2 ++ R)) (mid : Int) ((mid + m - s : Nat) : Int) (b : Int) cmp).bind fun y6 => some y6 else some (L ++ Z1 ++ (X2 ++ Y2 ++ R))) = some (L ++ Z1 ++ Z2 ++ R) ∧ Z2.Perm (X2 ++ Y2) ∧ Srt key Z2 := by
          by_cases q : mid < mid + m - s ∧ mid + m - s < b
          · rw [if_pos (by simp; omega)]
            obtain ⟨Z, y1, y2, y3⟩ := ih (L ++ Z1) X2 Y2 R (by intro w; subst w; simp at le2; omega) (by intro w; subst w; simp at le4; omega) (by simp only [List.length_append] at hn hN pX pY c1 c2 ⊢; omega) (by simp only [List.length_append] at hn hN ⊢; omega) sX2 sY2 (fun x hx y hy => hlt x (iX2 x hx) y (iY2 y hy)) (fun x hx => hD x (by
              rcases List.mem_append.1 hx with w | w
              · exact List.mem_append_left _ (iX2 x w)
              · exact List.mem_append_right _ (iY2 x w)))
            rw [show (L ++ Z1).length = mid by rw [List.length_append]; omega, show mid + X2.length = mid + m - s by omega, show mid + m - s + Y2.length = b by omega] at y1
            refine ⟨Z, ?_, y2, y3⟩
            rw [show L ++ Z1 ++ (X2 ++ Y2 ++ R) = L ++ Z1 ++ X2 ++ Y2 ++ R by simp, y1]; rfl
          · rw [if_neg (by simp; omega)]
            refine ⟨X2 ++ Y2, by simp, .refl _, ?_⟩
            by_cases w : s < m
            · have : Y2 = [] := List.length_eq_zero_iff.1 (by omega)
              subst this; simpa using sX2
            · have : X2 = [] := List.length_eq_zero_iff.1 (by omega)
              subst this; simpa using sY2
        obtain ⟨Z2, y1, y2, y3⟩ := second
        refine ⟨Z1 ++ Z2, by rw [y1]; simp, ?_, ?_⟩
        · refine (z2.append y2).trans ?_
          simp only [List.append_assoc]
          refine List.Perm.append_left _ ?_
          rw [← List.append_assoc, ← List.append_assoc]
          exact List.Perm.append_right _ List.perm_append_comm
        · refine z3.app y3 fun x hx y hy => ?_
          rcases List.mem_append.1 (z2.mem_iff.1 hx) with p | p <;> rcases List.mem_append.1 (y2.mem_iff.1 hy) with q | q
          · exact mXX x p y q
          · exact cut.1 x p y q
          · exact cut.2 x p y q
          · exact mYY x p y q
end
end Go.Vx

namespace Go.Vx
open Go Go.RowKit
section
variable {key : Int → Int} {D : Int → Prop} {cmp : Int → Int → Option Int}
theorem Zrp (hc : ∀ x y, D x → D y → ∃ c, cmp x y = some c ∧ (c < 0 ↔ key x < key y)) {L X R : List Int} (hN : L.length + X.length + R.length ≤ 1000000) (hX : X.Pairwise (· < ·)) (hD : ∀ x ∈ X, D x) :
    ∃ Z, Zx (L ++ X ++ R) (L.length : Int) ((L.length + X.length : Nat) : Int) cmp = some (L ++ Z ++ R) ∧ Z.Perm X ∧ Srt key Z := by
  unfold Zx
  have e0 : i64 ((L.length : Int) + 1) = ((L.length + 1 : Nat) : Int) := (Zl (by omega) (by omega)).trans (by omega)
  rw [e0]
  have hend1 : ∀ o (i : Nat), L.length + X.length ≤ i → Zr (L.length : Int) ((L.length + X.length : Nat) : Int) cmp o (i : Int) = some (.inr o) := fun o i hi => by
    unfold Zr
    rw [if_neg (by simp; omega)]
  cases X with
  | nil => exact ⟨[], Zb1 (by simp only [QU]; rw [hend1 _ _ (by simp)]), .refl _, .nil⟩
  | cons x T =>
    have hT := List.pairwise_cons.1 hX
    obtain ⟨Z, z1, z2, z3⟩ := ZrB (key := key) (D := D) (body1 := Zr (L.length : Int) ((L.length + (x :: T).length : Nat) : Int) cmp) (body2 := Zw (L.length : Int) cmp) (a := L.length) (b := L.length + (x :: T).length)
      (fun P Q x y hx hy hP hP2 => by
        unfold Zw
        have e1 : i64 ((P.length : Int) + 1 - 1) = ((P.length : Nat) : Int) := (Zl (by omega) (by omega)).trans (by omega)
        have e2 : (P.length : Int) + 1 = ((P.length + 1 : Nat) : Int) := by omega
        have g1 : (P ++ y :: x :: Q)[P.length + 1]? = some x := by rw [List.getElem?_append_right (by omega)]; simp
        have g2 : (P ++ y :: x :: Q)[P.length]? = some y := by simp
        have g3 : ((P ++ y :: x :: Q).set (P.length + 1) y)[P.length]? = some y := by rw [List.getElem?_set_ne (by omega)]; exact g2
        have hg : decide ((L.length : Int) < ((P.length + 1 : Nat) : Int)) = true := by simp; omega
        obtain ⟨c, d1, d2⟩ := hc x y hx hy
        rw [e1, e2, hg]
        simp only [gd, beq_self_eq_true, if_true, Bool.true_and]
        rw [Zz g1, Option.bind_some, Zz g2, Option.bind_some, d1, Option.bind_some]
        by_cases q : key x < key y
        · rw [if_pos (by simpa using d2.2 q), if_pos q]
          simp only [Option.bind_some, Int.toNat_natCast]
          rw [Zz g3, Option.bind_some]
          have := Zi6 (L := P) (M := []) (R := Q) (x := y) (y := x)
          simp only [List.length_nil, Nat.add_zero, List.append_nil] at this
          rw [show P ++ y :: x :: Q = P ++ [y] ++ x :: Q by simp, List.set_comm _ _ (by omega), this]
          simp
        · rw [if_neg (by simpa using fun w => q (d2.1 w)), if_neg q]) (fun d => by
        unfold Zw
        simp [gd]) (fun o i hi => by
        unfold Zr
        rw [if_pos (by simp only [List.length_cons] at hi ⊢; simp; omega), show i64 ((i : Int) + 1) = (i : Int) + 1 from Zl (by simp only [List.length_cons] at hi; omega) (by simp only [List.length_cons] at hi hN; omega)]
        rfl) hend1 rfl R T [x] (by simp; omega) (List.pairwise_singleton ..) hD (fun p hp y hy => by rw [List.mem_singleton.1 hp]; exact hT.1 y hy) hT.2
    refine ⟨Z, ?_, z2, z3⟩
    rw [← z1]; congr 2; simp
theorem ZnK (hc : ∀ x y, D x → D y → ∃ c, cmp x y = some c ∧ (c < 0 ↔ key x < key y)) {l : List Int} (hl : l.length ≤ 100) (hp : l.Pairwise (· < ·)) (hD : ∀ x ∈ l, D x) :
    ∃ l', ZK l cmp = some l' ∧ l'.Perm l ∧ Srt key l' := by
  unfold ZK Z3
  obtain ⟨o, a, l1, b1, b2, b3, b4⟩ := ZrS (key := key) (D := D) (ins := fun o a b => Zx o a b cmp) (s := 20) (n := l.length) (by omega) (fun L X R hn hX hDX => Zrp hc (by omega) hX hDX)
    (body := ZH (l.length : Int) cmp) (fun o a ha => by
      unfold ZH
      by_cases q : a + 20 ≤ l.length
      · rw [if_pos (by simp; omega), if_pos q, show i64 (((a + 20 : Nat) : Int) + 20) = ((a + 20 + 20 : Nat) : Int) from (Zl (by omega) (by omega)).trans (by omega)]
      · rw [if_neg (by simp; omega), if_neg q]) l.length [] l rfl (by simp) hp hD
  simp only [List.nil_append, List.length_nil, Nat.zero_add] at b1 b2
  rw [show loop (t3 (ZH (l.length : Int) cmp)) (l, 0, 20) = some (o, (a : Int)) from b1]
  simp only [Option.bind_some, QU]
  rw [b2]
  simp only [Option.bind_some]
  have hln : l1.length = l.length := b3.length_eq
  obtain ⟨o', k1, k2, k3⟩ := Zrz (key := key) (D := D) (n := l.length) (body := ZD (l.length : Int) cmp) (fun o s h0 h2 hn hB hDo => by
    split
    · rename_i hs
      obtain ⟨p, a, l', p1, pa, p2, p3, p4⟩ := Zq4 (key := key) (D := D) (sm := fun o a m b => ZF 100 o a m b cmp) (s := s) (n := l.length) h0
        (fun L X Y R hX hY hN sX sY hlt hDX => Zrn hc 100 L X Y R hX hY (by omega) (by omega) sX sY hlt hDX) (body := ZC (l.length : Int) cmp (s : Int)) (fun o a ha => by
          unfold ZC
          by_cases q : a + 2 * s ≤ l.length
          · rw [if_pos (by simp; omega), if_pos q, show i64 ((a : Int) + (s : Int)) = ((a + s : Nat) : Int) from (Zl (by omega) (by omega)).trans (by omega), show i64 (2 * (s : Int)) = ((2 * s : Nat) : Int) from (Zl (by omega) (by omega)).trans (by omega),
              show i64 (((a + 2 * s : Nat) : Int) + ((2 * s : Nat) : Int)) = ((a + 2 * s + 2 * s : Nat) : Int) from (Zl (by omega) (by omega)).trans (by omega)]
          · rw [if_neg (by simp; omega), if_neg q]) l.length [] o hn (by simpa using hn) hB hDo
      simp only [List.nil_append, List.length_nil, Nat.zero_add] at p1 p2
      refine ⟨l', ?_, p3, p4⟩
      unfold ZD
      rw [if_pos (by simpa using hs), show i64 (2 * (s : Int)) = ((2 * s : Nat) : Int) from (Zl (by omega) (by omega)).trans (by omega),
        show loop (t3 (ZC (l.length : Int) cmp (s : Int))) (o, 0, ((2 * s : Nat) : Int)) = some (p, (a : Int)) from p1]
      simp only [Option.bind_some, QU]
      rw [show i64 ((s : Int) * 2) = ((2 * s : Nat) : Int) from (Zl (by omega) (by omega)).trans (by omega)]
      rw [show i64 ((a : Int) + (s : Int)) = ((a + s : Nat) : Int) from (Zl (by omega) (by omega)).trans (by omega)]
      by_cases q : a + s < l.length
      · rw [if_pos q] at p2
        rw [if_pos (by simp; omega), p2]; rfl
      · rw [if_neg q] at p2
        cases p2
        rw [if_neg (by simp; omega)]
    · rename_i hs
      unfold ZD
      rw [if_neg (by simpa using hs)]) _ l1 20 rfl (by omega) (by omega) hln b4 (fun x hx => hD x (b3.mem_iff.1 hx))
  refine ⟨o', ?_, k2.trans b3, k3⟩
  rw [show loop (t2 (ZD (l.length : Int) cmp)) (l1, 20) = some o' from k1]; rfl
end
end Go.Vx

namespace Go.Vx
open Go Go.RowKit
theorem ZcT {σ ρ : Type} {body : σ → Int → Option ((σ × Int) ⊕ ρ)} {N : Nat} (I : Nat → σ → Prop) (Q : ρ → Prop)
    (hstep : ∀ (k : Nat) s, k < N → I k s → (∃ s', body s (k : Int) = some (.inl (s', (k : Int) + 1)) ∧ I (k + 1) s') ∨ ∃ r, body s (k : Int) = some (.inr r) ∧ Q r)
    (hend : ∀ s, I N s → ∃ r, body s (N : Int) = some (.inr r) ∧ Q r) {s0 : σ} (h0 : I 0 s0) : ∃ r, loop (t2 body) (s0, 0) = some r ∧ Q r := by
  refine ZeU (body := t2 body) (fun p => ∃ k : Nat, p.2 = k ∧ k ≤ N ∧ I k p.1) (fun p => N - p.2.toNat) Q ?_ (s0, 0) ⟨0, rfl, Nat.zero_le _, h0⟩
  rintro ⟨s, i⟩ ⟨k, hi, hk, hI⟩
  simp only at hi hI
  subst hi
  simp only [Int.toNat_natCast, QU]
  rcases Nat.lt_or_ge k N with h | h
  · rcases hstep k s h hI with ⟨s', h1, h2⟩ | ⟨r, h1, h2⟩
    · exact .inl ⟨_, h1, ⟨k + 1, by push_cast; rfl, h, h2⟩, by simp only; omega⟩
    · exact .inr ⟨r, h1, h2⟩
  · have : k = N := by omega
    subst this
    exact .inr (hend s hI)
theorem Zlq {α β ρ : Type} {body : α → β → Int → Option ((α × β × Int) ⊕ ρ)} {N : Nat} (I : Nat → α → β → Prop) (Q : ρ → Prop)
    (hstep : ∀ (k : Nat) a b, k < N → I k a b → (∃ a' b', body a b (k : Int) = some (.inl (a', b', (k : Int) + 1)) ∧ I (k + 1) a' b') ∨ ∃ r, body a b (k : Int) = some (.inr r) ∧ Q r)
    (hend : ∀ a b, I N a b → ∃ r, body a b (N : Int) = some (.inr r) ∧ Q r) {a0 : α} {b0 : β} (h0 : I 0 a0 b0) : ∃ r, loop (t3 body) (a0, b0, 0) = some r ∧ Q r := by
  refine ZeU (body := t3 body) (fun p => ∃ k : Nat, p.2.2 = k ∧ k ≤ N ∧ I k p.1 p.2.1) (fun p => N - p.2.2.toNat) Q ?_ (a0, b0, 0) ⟨0, rfl, Nat.zero_le _, h0⟩
  rintro ⟨a, b, i⟩ ⟨k, hi, hk, hI⟩
  simp only at hi hI
  subst hi
  simp only [Int.toNat_natCast, Zdd]
  rcases Nat.lt_or_ge k N with h | h
  · rcases hstep k a b h hI with ⟨a', b', h1, h2⟩ | ⟨r, h1, h2⟩
    · exact .inl ⟨_, h1, ⟨k + 1, by push_cast; rfl, h, h2⟩, by simp only; omega⟩
    · exact .inr ⟨r, h1, h2⟩
  · have : k = N := by omega
    subst this
    exact .inr (hend a b hI)
theorem Zfp {ρ : Type} {body : Int → Option (Int ⊕ ρ)} {N : Nat} (I : Nat → Prop) (Q : ρ → Prop)
    (hstep : ∀ k : Nat, k < N → I k → (body (k : Int) = some (.inl ((k : Int) + 1)) ∧ I (k + 1)) ∨ ∃ r, body (k : Int) = some (.inr r) ∧ Q r)
    (hend : I N → ∃ r, body (N : Int) = some (.inr r) ∧ Q r) (h0 : I 0) : ∃ r, loop (t1 body) 0 = some r ∧ Q r := by
  refine ZeU (body := t1 body) (fun p => ∃ k : Nat, p = k ∧ k ≤ N ∧ I k) (fun p => N - p.toNat) Q ?_ 0 ⟨0, rfl, Nat.zero_le _, h0⟩
  rintro i ⟨k, hi, hk, hI⟩
  subst hi
  simp only [Int.toNat_natCast, Xl]
  rcases Nat.lt_or_ge k N with h | h
  · rcases hstep k h hI with ⟨h1, h2⟩ | ⟨r, h1, h2⟩
    · exact .inl ⟨_, h1, ⟨k + 1, by push_cast; rfl, h, h2⟩, by omega⟩
    · exact .inr ⟨r, h1, h2⟩
  · have : k = N := by omega
    subst this
    exact .inr (hend hI)
theorem Zo7 {α : Type} {o : List α} {at_ : Nat} (z : α) (h : at_ ≤ o.length) (n : α) :
    (cpy (o ++ [z]) (at_ + 1) ((o.length + 1) - (at_ + 1)) at_ ((o.length + 1) - at_)).set at_ n = o.take at_ ++ n :: o.drop at_ := by
  have hl : (o ++ [z]).length = o.length + 1 := by simp
  have h1 : (at_ + 1) + ((o.length + 1) - (at_ + 1)) ≤ (o ++ [z]).length := by omega
  have h2 : at_ + ((o.length + 1) - at_) ≤ (o ++ [z]).length := by omega
  refine List.ext_getElem? fun i => ?_
  by_cases hi : i < o.length + 1
  · by_cases hia : i = at_
    · subst hia
      rw [List.getElem?_set_self (by rw [Ze4 h1 h2]; omega), List.getElem?_append_right (by simp; omega)]
      simp [Nat.min_eq_left h]
    · rw [List.getElem?_set_ne (Ne.symm hia), Zmp h1 h2 (by omega)]
      by_cases hlt : i < at_
      · rw [if_neg (by omega), List.getElem?_append_left (by omega), List.getElem?_append_left (by simp; omega), List.getElem?_take_of_lt hlt]
      · rw [if_pos (by omega), List.getElem?_append_left (by omega), List.getElem?_append_right (by simp; omega)]
        have e : i - (o.take at_).length = (i - at_ - 1) + 1 := by simp; omega
        rw [e, List.getElem?_cons_succ, List.getElem?_drop]
        congr 1
  · rw [List.getElem?_eq_none (by rw [List.length_set, Ze4 h1 h2]; omega), List.getElem?_eq_none (by simp; omega)]
theorem Zqz {o : List Int} {at_ : Nat} (h : at_ ≤ o.length) (n : Int) :
    (cpy (o ++ [0]) (at_ + 1) ((o.length + 1) - (at_ + 1)) at_ ((o.length + 1) - at_)).set at_ n = o.take at_ ++ n :: o.drop at_ := Zo7 0 h n
end Go.Vx

namespace Go.Vx
open Go Go.RowKit
def Zej (s : List Int) : Option Nat := if 16 < s.length ∧ (s.length - 16) % 97 = 0 then some ((s.length - 16) / 97) else none
theorem Zm4 {s : List Int} (hl : s.length ≤ 140737488355328) : ∃ y, ZeX s = some y ∧ (match Zej s with | some n => y = ((n : Int), true) | none => y.2 = false) := by
  unfold ZeX
  rw [show i64 ((s.length : Int) - 16) = (s.length : Int) - 16 from Zl (by omega) (by omega)]
  unfold quo rem
  rw [if_neg (by decide), Option.bind_some, if_neg (by decide)]
  by_cases h : 97 ≤ (s.length : Int) - 16
  · obtain ⟨m, hm⟩ : ∃ m : Nat, s.length = m + 16 := ⟨s.length - 16, by omega⟩
    have e1 : ((s.length : Int) - 16) = (m : Int) := by omega
    have e3 : Int.tdiv (m : Int) 97 = ((m / 97 : Nat) : Int) := rfl
    have e4 : Int.tmod (m : Int) 97 = ((m % 97 : Nat) : Int) := rfl
    have e5 : IntKind.i64.wrap (Int.tdiv (m : Int) 97) = ((m / 97 : Nat) : Int) := by rw [e3]; exact Zl (by omega) (by omega)
    refine ⟨_, by rw [decide_eq_true h]; simp only [gd, beq_self_eq_true, if_true, Option.bind_some]; rfl, ?_⟩
    rw [e1, e5, e4]
    unfold Zej
    have e6 : s.length - 16 = m := by omega
    rw [e6]
    by_cases hz : m % 97 = 0
    · rw [if_pos ⟨by omega, hz⟩]; simp [hz]
    · rw [if_neg (fun q => hz q.2)]
      simp only [Bool.true_and]
      simpa using fun q => hz (by omega)
  · refine ⟨_, by rw [decide_eq_false h]; simp only [gd, Bool.false_eq_true, beq_iff_eq, if_false, Option.bind_some]; rfl, ?_⟩
    unfold Zej
    rw [if_neg (fun q => h (by omega))]
    simp
theorem ZoR {s : List Int} (hl : s.length ≤ 140737488355328) : Zg2 s = some (match Zej s with | some n => (n : Int) | none => -1) := by
  unfold Zg2
  rw [show i64 ((s.length : Int) - 16) = (s.length : Int) - 16 from Zl (by omega) (by omega)]
  unfold quo rem
  rw [if_neg (show ¬ (97 : Int) = 0 by decide), if_neg (show ¬ (97 : Int) = 0 by decide)]
  by_cases h : (s.length : Int) - 16 ≤ 0
  · rw [decide_eq_true h]
    simp only [gd, Bool.true_eq_false, beq_iff_eq, if_false, Option.bind_some, Bool.true_or, if_true]
    unfold Zej
    rw [if_neg (fun q => by omega)]
  · obtain ⟨m, hm⟩ : ∃ m : Nat, s.length = m + 16 := ⟨s.length - 16, by omega⟩
    have e1 : ((s.length : Int) - 16) = (m : Int) := by omega
    have e3 : Int.tdiv (m : Int) 97 = ((m / 97 : Nat) : Int) := rfl
    have e4 : Int.tmod (m : Int) 97 = ((m % 97 : Nat) : Int) := rfl
    have e5 : IntKind.i64.wrap (Int.tdiv (m : Int) 97) = ((m / 97 : Nat) : Int) := by rw [e3]; exact Zl (by omega) (by omega)
    rw [decide_eq_false h]
    simp only [gd, beq_self_eq_true, if_true, Option.bind_some, Bool.false_or]
    rw [e1, e5, e4]
    unfold Zej
    have e6 : s.length - 16 = m := by omega
    rw [e6]
    by_cases hz : m % 97 = 0
    · rw [if_neg (by simp [hz]), if_pos ⟨by omega, hz⟩]
    · rw [if_pos (by simpa using fun q => hz (by omega)), if_neg (fun q => hz q.2)]
def slotL (s : List Int) (i : Nat) : List Int := (s.take (16 + i * 97 + 97)).drop (16 + i * 97)
theorem ZbH {s : List Int} {i : Nat} (h : 16 + i * 97 + 97 ≤ s.length) : (slotL s i).length = 97 := by unfold slotL; simp; omega
theorem Zla {s : List Int} (h : u8R s) (i : Nat) : u8R (slotL s i) := fun x hx => h x (List.mem_of_mem_take (List.mem_of_mem_drop hx))
theorem ZjH {s : List Int} {i : Nat} (hl : s.length ≤ 140737488355328) (h : 16 + i * 97 + 97 ≤ s.length) : ∃ v, JJ s (i : Int) = some v ∧ v.toList = slotL s i := by
  unfold JJ
  have e1 : i64 ((i : Int) * 97) = (i : Int) * 97 := Zl (by omega) (by omega)
  have e2 : i64 (16 + (i : Int) * 97) = ((16 + i * 97 : Nat) : Int) := (Zl (by omega) (by omega)).trans (by omega)
  have e3 : i64 (((16 + i * 97 : Nat) : Int) + 97) = ((16 + i * 97 + 97 : Nat) : Int) := (Zl (by omega) (by omega)).trans (by omega)
  rw [e1, e2, e3, ZdZ (by omega) h, Option.bind_some]
  obtain ⟨v, hv, hvl⟩ := ZlV (m := 97) (xs := (s.take (16 + i * 97 + 97)).drop (16 + i * 97)) (by simp; omega)
  rw [hv]
  refine ⟨v, rfl, ?_⟩
  rw [hvl, List.take_of_length_le (by rw [List.length_drop, List.length_take]; omega)]; unfold slotL; rfl
theorem Zoh {s : List Int} {i : Nat} (hl : s.length ≤ 140737488355328) (h : 16 + i * 97 + 97 ≤ s.length) : Zgh s (i : Int) = some (slotL s i) := by
  unfold Zgh
  have e1 : i64 ((i : Int) * 97) = (i : Int) * 97 := Zl (by omega) (by omega)
  have e2 : i64 (16 + (i : Int) * 97) = ((16 + i * 97 : Nat) : Int) := (Zl (by omega) (by omega)).trans (by omega)
  have e4 : i64 ((i : Int) + 1) = (i : Int) + 1 := Zl (by omega) (by omega)
  have e5 : i64 (((i : Int) + 1) * 97) = ((i : Int) + 1) * 97 := Zl (by omega) (by omega)
  have e3 : i64 (16 + ((i : Int) + 1) * 97) = ((16 + i * 97 + 97 : Nat) : Int) := (Zl (by omega) (by omega)).trans (by omega)
  rw [e1, e2, e4, e5, e3, ZdZ (by omega) h]; rfl
def stV (l : List Int) : Int := if l.getD 96 0 = 0 then 1 else if l.any (fun x => !decide (x = 255)) then 2 else 0
theorem ZnB {l : List Int} (hl : l.length ≤ 9223372036854775806) : ZW l (fun z0 => XM z0) = some (l.any fun x => !decide (x = 255)) := by
  have key : loop (t1 (ZV l (fun z0 => XM z0))) 0 = some (match l.findIdx? (fun x => !decide (x = 255)) with | some k => .inl (k : Int) | none => .inr ()) := by
    refine (ZjP (xs := l) (fun k => (match (l.drop k).findIdx? (fun x => !decide (x = 255)) with | some j => (.inl ((j + k : Nat) : Int) : Int ⊕ Unit) | none => .inr ())) (fun k x hx => ?_) ?_).trans (by simp)
    · have hk := (List.getElem?_eq_some_iff.1 hx).1
      unfold ZV XM
      rw [if_pos (by simpa using hk), Zz hx]
      simp only [Option.bind_some]
      rw [show i64 ((k : Int) + 1) = (k : Int) + 1 from Zl (by omega) (by omega), ZcG hx, List.findIdx?_cons]
      by_cases e : x = 255
      · left
        subst e
        refine ⟨by simp, ?_⟩
        simp only [decide_true, Bool.not_true, Bool.false_eq_true, if_false]
        cases (l.drop (k + 1)).findIdx? (fun x => !decide (x = 255)) with
        | none => rfl
        | some j => simp only [Option.map_some]; congr 2; omega
      · right
        simp [e]
    · unfold ZV
      rw [if_neg (by simp)]
      simp
  unfold ZW Ql
  rw [key]
  cases hf : l.findIdx? (fun x => !decide (x = 255)) with
  | none =>
    rw [List.findIdx?_eq_none_iff] at hf
    simp only [Option.bind_some, Sum.elim_inr, Zoi]
    congr 1
    symm
    rw [show decide ((0 : Int) ≤ -1) = false from rfl]
    rw [List.any_eq_false]
    intro x hx
    simpa using hf x hx
  | some k =>
    simp only [Option.bind_some, Sum.elim_inl]
    congr 1
    rw [decide_eq_true (by omega)]
    symm
    rw [List.any_eq_true]
    obtain ⟨hk, h1, _⟩ := List.findIdx?_eq_some_iff_getElem.1 hf
    exact ⟨l[k], List.getElem_mem hk, h1⟩
theorem Zkp {v : Vector Int 97} {l : List Int} (hv : v.toList = l) (hl : l.length = 97) : JE v = some (stV l) := by
  unfold JE
  rw [show ZI v 96 = some (l.getD 96 0) from ZhQ (k := 96) (by rw [hv]; exact Xs (by omega) 0), Option.bind_some]
  unfold stV
  by_cases h : l.getD 96 0 = 0
  · rw [if_pos (by simpa using h), if_pos h]
  · rw [if_neg (by simpa using h), if_neg h]
    rw [hv, show slc l 0 (97 : Int) = some l from (ZdZ (a := 0) (b := 97) (by omega) (by omega)).trans (by rw [List.take_of_length_le (by omega)]; rfl), Option.bind_some, ZnB (by omega), Option.bind_some]
    cases l.any (fun x => !decide (x = 255)) <;> simp
theorem ZoM {s : List Int} {i : Nat} (hl : s.length ≤ 140737488355328) (h : 16 + i * 97 + 97 ≤ s.length) : ZgT s (i : Int) = some (stV (slotL s i)) := by
  unfold ZgT
  have h97 := ZbH h
  rw [Zoh hl h, Option.bind_some]
  generalize slotL s i = l at h97
  rw [show idx l 96 = some (l.getD 96 0) from Zz (k := 96) (Xs (by omega) 0), Option.bind_some]
  unfold stV
  by_cases h : l.getD 96 0 = 0
  · rw [if_pos (by simpa using h), if_pos h]
  · rw [if_neg (by simpa using h), if_neg h]
    have key := ZmO (xs := l) (fun x => if x = 255 then (none : Option Unit) else some ()) (fun _ => (Sum.inl 2 : Int ⊕ Unit)) (Sum.inr ()) (body := ZcU l) (fun k x hx => by
      have hlt := ZpQ hx
      simp only [ZcU, hlt, decide_true, if_true, Zz hx, Option.bind_some]
      rw [show i64 ((k : Int) + 1) = (k : Int) + 1 from Zl (by omega) (by omega)]
      by_cases e : x = 255 <;> simp [e]) (by simp [ZcU])
    rw [key]
    have fa : ∀ m : List Int, (ZiC (fun x => if x = 255 then (none : Option Unit) else some ()) m).isSome = m.any (fun x => !decide (x = 255)) := by
      intro m
      induction m with
      | nil => rfl
      | cons x m ih =>
        unfold ZiC
        by_cases e : x = 255
        · simp [e, ih]
        · simp [e]
    have := fa l
    cases hfl : ZiC (fun x => if x = 255 then (none : Option Unit) else some ()) l with
    | none =>
      rw [hfl] at this
      rw [← this]; rfl
    | some u =>
      rw [hfl] at this
      rw [← this]; rfl
theorem ZoF {s : List Int} {n i : Nat} (h : Zej s = some n) (hi : i < n) : 16 + i * 97 + 97 ≤ s.length := by
  unfold Zej at h
  split at h
  · cases h
    have : (i + 1) * 97 ≤ (s.length - 16) / 97 * 97 := Nat.mul_le_mul_right _ hi
    have := Nat.div_mul_le_self (s.length - 16) 97
    omega
  · cases h
theorem ZnC {s : List Int} {n : Nat} (h : Zej s = some n) : 0 < n ∧ 16 + n * 97 = s.length := by
  unfold Zej at h
  split at h
  · cases h; omega
  · cases h
end Go.Vx

namespace Go.Vx
open Go Go.RowKit
def rd (f : Vector Int 64) (i : Nat) : Int := f.toList.getD i 0
theorem Zic (f : Vector Int 64) {k : Nat} (hk : k < 64) (x : Int) (i : Nat) : rd (XN f (k : Int) x) i = if i = k then x else rd f i := by
  unfold rd
  rw [ZdP, Int.toNat_natCast, List.getD_eq_getElem?_getD, List.getElem?_set, List.getD_eq_getElem?_getD]
  by_cases h : i = k
  · subst h; rw [if_pos rfl, if_pos (by simpa using hk), if_pos rfl]; rfl
  · rw [if_neg (fun q => h q.symm), if_neg h]
theorem Zpz (f : Vector Int 64) {k : Nat} (hk : k < 64) : ZI f (k : Int) = some (rd f k) := ZhQ (by unfold rd; exact Xs (by simpa using hk) 0)
theorem ZkD {f g : Vector Int 64} (h : ∀ i, i < 64 → rd f i = rd g i) : f = g := by
  apply Vector.toList_inj.1
  apply List.ext_getElem (by simp)
  intro i h1 h2
  have := h i (by simpa using h1)
  unfold rd at this
  rw [List.getD_eq_getElem?_getD, List.getD_eq_getElem?_getD, List.getElem?_eq_getElem h1, List.getElem?_eq_getElem h2] at this
  exact this
def Zfa (g : Nat → Int) : Vector Int 64 := Vector.ofFn fun j : Fin 64 => g j.val
theorem Zgl (g : Nat → Int) {i : Nat} (hi : i < 64) : rd (Zfa g) i = g i := by
  unfold rd Zfa
  rw [List.getD_eq_getElem?_getD, List.getElem?_eq_getElem (by simpa using hi)]
  simp
theorem Znv {body : Vector Int 64 → Int → Option ((Vector Int 64 × Int) ⊕ Vector Int 64)} (g : Nat → Int) {v0 : Vector Int 64} (h0 : ∀ i, i < 64 → rd v0 i = 0)
    (hstep : ∀ v (k : Nat), k < 64 → rd v k = 0 → body v k = some (.inl (XN v k (g k), (k : Int) + 1))) (hend : ∀ v, body v (64 : Nat) = some (.inr v)) : loop (t2 body) (v0, 0) = some (Zfa g) := by
  refine ZeY (body := t2 body) (fun p => ∃ k : Nat, p.2 = k ∧ k ≤ 64 ∧ ∀ i, i < 64 → rd p.1 i = if i < k then g i else 0) (fun p => 64 - p.2.toNat) (fun _ => Zfa g) ?_ (v0, 0) ⟨0, rfl, by omega, fun i hi => by rw [if_neg (by omega)]; exact h0 i hi⟩
  rintro ⟨v, z⟩ ⟨k, hz, hk, hI⟩
  simp only at hz hI
  subst hz
  simp only [QU]
  rcases Nat.lt_or_ge k 64 with h | h
  · left
    refine ⟨_, hstep v k h (by rw [hI k h, if_neg (by omega)]), ⟨k + 1, by push_cast; rfl, h, fun i hi => ?_⟩, by simp only; omega, trivial⟩
    simp only
    rw [Zic v h, hI i hi]
    by_cases e : i = k
    · subst e; rw [if_pos rfl, if_pos (by omega)]
    · rw [if_neg e]
      by_cases e2 : i < k
      · rw [if_pos e2, if_pos (by omega)]
      · rw [if_neg e2, if_neg (by omega)]
  · right
    have : k = 64 := by omega
    subst this
    rw [hend]
    have : v = Zfa g := ZkD fun i hi => by rw [hI i hi, if_pos hi, Zgl g hi]
    rw [this]
def Zag (l : List Int) (i : Nat) : Int := if i % 2 = 0 then l.getD (3 * (i / 2)) 0 * 16 + l.getD (3 * (i / 2) + 1) 0 / 16 else (l.getD (3 * (i / 2) + 1) 0 % 16) * 256 + l.getD (3 * (i / 2) + 2) 0
theorem ZnD : (List.range 4096).all (fun n => decide (bor .u16 ((n / 16 * 16 : Nat) : Int) ((n % 16 : Nat) : Int) = (n : Int)) && decide (bor .u16 ((n / 256 * 256 : Nat) : Int) ((n % 256 : Nat) : Int) = (n : Int))) = true := by decide +kernel
theorem bo4 {a b : Int} (ha : 0 ≤ a ∧ a ≤ 255) (hb : 0 ≤ b ∧ b ≤ 15) : bor .u16 (a * 16) b = a * 16 + b := by
  obtain ⟨a, rfl⟩ := Int.eq_ofNat_of_zero_le ha.1
  obtain ⟨b, rfl⟩ := Int.eq_ofNat_of_zero_le hb.1
  have h := List.all_eq_true.1 ZnD (a * 16 + b) (List.mem_range.2 (by omega))
  rw [Bool.and_eq_true] at h
  have h := of_decide_eq_true h.1
  rw [show (a * 16 + b) / 16 * 16 = a * 16 by omega, show (a * 16 + b) % 16 = b by omega, show ((a * 16 : Nat) : Int) = (a : Int) * 16 by omega, show ((a * 16 + b : Nat) : Int) = (a : Int) * 16 + b by omega] at h
  exact h
theorem bo8 {a b : Int} (ha : 0 ≤ a ∧ a ≤ 15) (hb : 0 ≤ b ∧ b ≤ 255) : bor .u16 (a * 256) b = a * 256 + b := by
  obtain ⟨a, rfl⟩ := Int.eq_ofNat_of_zero_le ha.1
  obtain ⟨b, rfl⟩ := Int.eq_ofNat_of_zero_le hb.1
  have h := List.all_eq_true.1 ZnD (a * 256 + b) (List.mem_range.2 (by omega))
  rw [Bool.and_eq_true] at h
  have h := of_decide_eq_true h.2
  rw [show (a * 256 + b) / 256 * 256 = a * 256 by omega, show (a * 256 + b) % 256 = b by omega, show ((a * 256 : Nat) : Int) = (a : Int) * 256 by omega, show ((a * 256 + b : Nat) : Int) = (a : Int) * 256 + b by omega] at h
  exact h
theorem Zon : (List.range 256).all (fun n => decide (Qn .u16 (n : Int) 15 = ((n % 16 : Nat) : Int))) = true := by decide +kernel
theorem ZrD {x : Int} (h : 0 ≤ x ∧ x ≤ 255) : Qn .u16 x 15 = x % 16 := by
  obtain ⟨x, rfl⟩ := Int.eq_ofNat_of_zero_le h.1
  exact (of_decide_eq_true (List.all_eq_true.1 Zon x (List.mem_range.2 (by omega)))).trans (by omega)
theorem Zm5 (z : Int) : u16 z = z % 65536 := rfl
theorem Zpm {k : Nat} (h : k ≤ 9223372036854775807) : quo .i64 (k : Int) 2 = some ((k / 2 : Nat) : Int) := by
  unfold quo
  rw [if_neg (by decide)]
  have e3 : Int.tdiv (k : Int) 2 = ((k / 2 : Nat) : Int) := rfl
  rw [e3, Zl (by omega) (by omega)]
theorem Zqi (k : Nat) : rem (k : Int) 2 = some ((k % 2 : Nat) : Int) := by
  unfold rem
  rw [if_neg (by decide)]; rfl
theorem ZnH {p : Vector Int 96} {l : List Int} (hp : p.toList = l) (hu : u8R l) {i : Nat} (hi : i < 64) : Zau p (i : Int) = some (Zag l i) := by
  have hl : l.length = 96 := by rw [← hp]; simp
  unfold Zau
  rw [Zpm (by omega), Option.bind_some, Zqi, Option.bind_some]
  have hg : ∀ (z : Int) (k : Nat), z = (k : Int) → k < 96 → ZI p z = some (l.getD k 0) := fun z k hz hk => by
    subst hz
    exact ZhQ (by rw [hp]; exact Xs (by omega) 0)
  have e1 : i64 (((i / 2 : Nat) : Int) * 3) = ((3 * (i / 2) : Nat) : Int) := (Zl (by omega) (by omega)).trans (by omega)
  have e2 : i64 (((3 * (i / 2) : Nat) : Int) + 1) = ((3 * (i / 2) + 1 : Nat) : Int) := (Zl (by omega) (by omega)).trans (by omega)
  have e3 : i64 (((3 * (i / 2) : Nat) : Int) + 2) = ((3 * (i / 2) + 2 : Nat) : Int) := (Zl (by omega) (by omega)).trans (by omega)
  rw [e1, e2, e3]
  have b0 := Zcw hu (3 * (i / 2))
  have b1 := Zcw hu (3 * (i / 2) + 1)
  have b2 := Zcw hu (3 * (i / 2) + 2)
  rw [hg _ (3 * (i / 2)) rfl (by omega), hg _ (3 * (i / 2) + 1) rfl (by omega), hg _ (3 * (i / 2) + 2) rfl (by omega)]
  unfold Zag
  generalize l.getD (3 * (i / 2)) 0 = x0 at b0
  generalize l.getD (3 * (i / 2) + 1) 0 = x1 at b1
  generalize l.getD (3 * (i / 2) + 2) 0 = x2 at b2
  have u0 : u16 x0 = x0 := by rw [Zm5]; omega
  have u1 : u16 x1 = x1 := by rw [Zm5]; omega
  have u2 : u16 x2 = x2 := by rw [Zm5]; omega
  by_cases h : i % 2 = 0
  · have s1 : shl .u16 x0 4 = some (x0 * 16) := by
      unfold shl
      rw [if_neg (by decide)]
      show some (IntKind.u16.wrap (x0 * 2 ^ 4)) = _
      rw [show IntKind.u16.wrap (x0 * 2 ^ 4) = (x0 * 2 ^ 4) % 65536 from rfl]
      congr 1; omega
    have s2 : shr .u16 x1 4 = some (x1 / 16) := Zpp (k := .u16) (j := 4) (by decide)
    rw [if_pos (by simp [h]), if_pos h, Option.bind_some, u0, s1, Option.bind_some, Option.bind_some, u1, s2, Option.bind_some, bo4 b0 (by omega)]
  · have s1 : shl .u16 (x1 % 16) 8 = some (x1 % 16 * 256) := by
      unfold shl
      rw [if_neg (by decide)]
      show some (IntKind.u16.wrap (x1 % 16 * 2 ^ 8)) = _
      rw [show IntKind.u16.wrap (x1 % 16 * 2 ^ 8) = (x1 % 16 * 2 ^ 8) % 65536 from rfl]
      congr 1; omega
    rw [if_neg (by simp; omega), if_neg h, Option.bind_some, u1, ZrD b1, s1, Option.bind_some, Option.bind_some, u2, bo8 (by omega) b2]
theorem Zpe : ∀ i, i < 64 → rd (Vector.replicate 64 0) i = 0 := by
  intro i hi
  unfold rd
  rw [Vector.toList_replicate, List.getD_eq_getElem?_getD, List.getElem?_replicate, if_pos hi]; rfl
theorem Zp7 {p : Vector Int 96} {l : List Int} (hp : p.toList = l) (hu : u8R l) : Zbu p = some (Zfa (Zag l)) := by
  unfold Zbu
  rw [Znv (body := JO p) (Zag l) Zpe (fun v k hk h0 => ?_) (fun v => ?_)]
  · rfl
  · unfold JO
    rw [if_pos (by simp; omega), ZnH hp hu hk, Option.bind_some, Zpz v hk, Option.bind_some, show i64 ((k : Int) + 1) = (k : Int) + 1 from Zl (by omega) (by omega)]
  · unfold JO
    rw [if_neg (by decide)]
theorem ZpA (f : Vector Int 64) (i : Nat) (x y : Int) : XN (XN f (i : Int) x) (i : Int) y = XN f (i : Int) y := by
  apply Vector.toList_inj.1
  rw [ZdP, ZdP, ZdP, List.set_set]
def Zea (l : List Int) (j : Nat) : Int := if j % 2 = 1 then l.getD (j / 2) 0 % 16 else l.getD (j / 2) 0 / 16
theorem Zkx {l : List Int} (hu : u8R l) (h96 : 96 ≤ l.length) {i j : Nat} (hi : i < 64) (hj : j < 3) (f : Vector Int 64) (hf : 0 ≤ rd f i ∧ rd f i ≤ 4095) :
    Zaz l (i : Int) f (j : Int) = some (.inl (XN f (i : Int) ((rd f i * 16 + Zea l (3 * i + j)) % 65536), (j : Int) + 1)) := by
  unfold Zaz
  have e1 : i64 (3 * (i : Int)) = ((3 * i : Nat) : Int) := (Zl (by omega) (by omega)).trans (by omega)
  have e2 : i64 (((3 * i : Nat) : Int) + (j : Int)) = ((3 * i + j : Nat) : Int) := (Zl (by omega) (by omega)).trans (by omega)
  have hb := Zcw hu ((3 * i + j) / 2)
  have hx : idx l (((3 * i + j) / 2 : Nat) : Int) = some (l.getD ((3 * i + j) / 2) 0) := Zz (Xs (by omega) 0)
  rw [if_pos (by simp; omega), e1, e2, Zpm (by omega), Option.bind_some, hx, Option.bind_some, Zqi]
  unfold Zea
  generalize l.getD ((3 * i + j) / 2) 0 = x at hb hx
  have ix : i64 x = x := Zl (by omega) (by omega)
  rw [ix]
  have q16 : quo .i64 x 16 = some (x / 16) := by
    unfold quo
    rw [if_neg (by decide), Int.tdiv_eq_ediv_of_nonneg hb.1, Zl (by omega) (by omega)]
  have r16 : rem x 16 = some (x % 16) := by
    unfold rem
    rw [if_neg (by decide), Int.tmod_eq_emod_of_nonneg hb.1]
  rw [q16, Option.bind_some, Option.bind_some]
  have e5 : i64 ((j : Int) + 1) = (j : Int) + 1 := Zl (by omega) (by omega)
  have fin : ∀ h : Int, 0 ≤ h ∧ h ≤ 15 → ((ZI f (i : Int)).bind fun x3 => (ZI f (i : Int)).bind fun x4 => some (Sum.inl (XN f (i : Int) (u16 ((u16 (x3 * 16)) + (u16 h))), i64 ((j : Int) + 1)))) = (some (.inl (XN f (i : Int) ((rd f i * 16 + h) % 65536), (j : Int) + 1)) : Option ((Vector Int 64 × Int) ⊕ Vector Int 64)) := by
    intro h hh
    rw [Zpz f hi, Option.bind_some, Option.bind_some, e5]
    congr 4
    rw [Zm5, Zm5, Zm5]; omega
  by_cases hp : (3 * i + j) % 2 = 1
  · rw [if_pos (by simp [hp]), if_pos hp, Option.bind_some, hx, Option.bind_some, ix, r16, Option.bind_some, Option.bind_some]
    exact fin _ (by omega)
  · rw [if_neg (by simp; omega), if_neg hp, Option.bind_some]
    exact fin _ (by omega)
theorem ZjO {l : List Int} (hu : u8R l) (j : Nat) : 0 ≤ Zea l j ∧ Zea l j ≤ 15 := by
  have := Zcw hu (j / 2)
  unfold Zea
  split <;> omega
theorem Zo1 {l : List Int} (hu : u8R l) (i : Nat) : Zag l i = (Zea l (3 * i) * 16 + Zea l (3 * i + 1)) * 16 + Zea l (3 * i + 2) := by
  have b0 := Zcw hu (3 * (i / 2))
  have b1 := Zcw hu (3 * (i / 2) + 1)
  have b2 := Zcw hu (3 * (i / 2) + 2)
  unfold Zag Zea
  by_cases h : i % 2 = 0
  · rw [if_pos h, if_neg (by omega), if_pos (by omega), if_neg (by omega), show 3 * i / 2 = 3 * (i / 2) by omega, show (3 * i + 1) / 2 = 3 * (i / 2) by omega, show (3 * i + 2) / 2 = 3 * (i / 2) + 1 by omega]
    omega
  · rw [if_neg h, if_pos (by omega), if_neg (by omega), if_pos (by omega), show 3 * i / 2 = 3 * (i / 2) + 1 by omega, show (3 * i + 1) / 2 = 3 * (i / 2) + 2 by omega, show (3 * i + 2) / 2 = 3 * (i / 2) + 2 by omega]
    omega
def Zjv : Vector Int 64 := #v[0, 0, 0, 0, 0, 0, 0, 0, 0, 0, 0, 0, 0, 0, 0, 0, 0, 0, 0, 0, 0, 0, 0, 0, 0, 0, 0, 0, 0, 0, 0, 0, 0, 0, 0, 0, 0, 0, 0, 0, 0, 0, 0, 0, 0, 0, 0, 0, 0, 0, 0, 0, 0, 0, 0, 0, 0, 0, 0, 0, 0, 0, 0, 0]
theorem ZmR : (List.range 64).all (fun i => decide (rd Zjv i = 0)) = true := by decide +kernel
theorem Zpj : ∀ i, i < 64 → rd Zjv i = 0 := fun i hi => of_decide_eq_true (List.all_eq_true.1 ZmR i (List.mem_range.2 hi))
theorem Znw {l : List Int} (hu : u8R l) (h96 : 96 ≤ l.length) : ZgZ l = some (Zfa (Zag l)) := by
  have key := Znv (body := ZcY l) (Zag l) Zpj (fun v k hk h0 => by
    unfold ZcY
    have b0 := ZjO hu (3 * k)
    have b1 := ZjO hu (3 * k + 1)
    have b2 := ZjO hu (3 * k + 2)
    have lp : loop (t2 (Zaz l (k : Int))) (v, 0) = some (XN v (k : Int) (Zag l k)) := by
      refine XG (Zkx hu h96 hk (j := 0) (by omega) v (by omega)) ?_
      refine XG (Zkx hu h96 hk (j := 1) (by omega) _ (by rw [Zic v hk, if_pos rfl, h0, Nat.add_zero]; omega)) ?_
      refine XG (Zkx hu h96 hk (j := 2) (by omega) _ (by rw [Zic _ hk, if_pos rfl, Zic v hk, if_pos rfl, h0, Nat.add_zero]; omega)) ?_
      refine ZeO ?_
      show Zaz l (k : Int) _ (((2 : Nat) : Int) + 1) = _
      unfold Zaz
      rw [if_neg (by decide), Zic _ hk, if_pos rfl, Zic _ hk, if_pos rfl, h0, ZpA, ZpA, Zo1 hu]
      rw [show 3 * k + 0 = 3 * k from rfl]
      have e : (((0 * 16 + Zea l (3 * k)) % 65536 * 16 + Zea l (3 * k + 1)) % 65536 * 16 + Zea l (3 * k + 2)) % 65536 = (Zea l (3 * k) * 16 + Zea l (3 * k + 1)) * 16 + Zea l (3 * k + 2) := by omega
      rw [e]
    rw [if_pos (by simp; omega), lp]
    simp only [Option.bind_some, Xl]
    rw [show i64 ((k : Int) + 1) = (k : Int) + 1 from Zl (by omega) (by omega)]) (fun v => by
    unfold ZcY
    rw [if_neg (by simp)])
  unfold ZgZ
  rw [show (#v[0, 0, 0, 0, 0, 0, 0, 0, 0, 0, 0, 0, 0, 0, 0, 0, 0, 0, 0, 0, 0, 0, 0, 0, 0, 0, 0, 0, 0, 0, 0, 0, 0, 0, 0, 0, 0, 0, 0, 0, 0, 0, 0, 0, 0, 0, 0, 0, 0, 0, 0, 0, 0, 0, 0, 0, 0, 0, 0, 0, 0, 0, 0, 0] : Vector Int 64) = Zjv from rfl, key]; rfl
theorem ZmI {l : List Int} (hu : u8R l) (h96 : 96 ≤ l.length) : Xt l = some (Zfa (Zag l), 0) ∧ ZdX l = some (Zfa (Zag l), 0) := by
  constructor
  · unfold Xt
    rw [if_neg (by simp; omega)]
    rw [show slc l 0 96 = some (l.take 96) from (ZdZ (a := 0) (b := 96) (by omega) (by omega)).trans (by rw [List.drop_zero]), Option.bind_some]
    obtain ⟨v, hv, hvl⟩ := ZlV (m := 96) (xs := l.take 96) (by rw [List.length_take]; omega)
    rw [hv, Option.bind_some, Zp7 hvl (fun x hx => hu x (List.mem_of_mem_take (List.mem_of_mem_take hx))), Option.bind_some]
    have e : Zfa (Zag (List.take 96 (List.take 96 l))) = Zfa (Zag l) := ZkD fun i hi => by
      rw [Zgl _ hi, Zgl _ hi, List.take_take, Nat.min_self]
      have e : ∀ k, k < 96 → (l.take 96).getD k 0 = l.getD k 0 := fun k hk => by
        rw [List.getD_eq_getElem?_getD, List.getD_eq_getElem?_getD, List.getElem?_take_of_lt hk]
      unfold Zag
      rw [e _ (by omega), e _ (by omega), e _ (by omega)]
    rw [e]
  · unfold ZdX
    rw [if_neg (by simp; omega), Znw hu h96, Option.bind_some]
def Ziy (s : List Int) (i : Int) : Vector Int 64 × Int := match Zej s with
  | none => (Zjv, 3)
  | some n => if 0 ≤ i ∧ i ≤ (n : Int) - 1 then (Zfa (Zag (slotL s i.toNat)), 0) else (Zjv, 9)
theorem ZlN {s : List Int} (hu : u8R s) (hl : s.length ≤ 140737488355328) (i : Int) : Zge s i = some (Ziy s i) ∧ ZdT s i = some (Ziy s i) := by
  obtain ⟨y, h1, h2⟩ := Zm4 hl
  unfold Zge ZdT
  rw [h1, ZoR hl, Option.bind_some, Option.bind_some]
  cases hn : Zej s with
  | none =>
    rw [hn] at h2
    simp only at h2
    have hF : Ziy s i = (Zjv, 3) := by unfold Ziy; rw [hn]
    rw [if_pos (by simp [h2]), if_pos (by simp), hF]
    exact ⟨rfl, rfl⟩
  | some n =>
    rw [hn] at h2
    simp only at h2
    subst h2
    have hb := ZnC hn
    have e1 : i64 ((n : Int) - 1) = (n : Int) - 1 := Zl (by omega) (by omega)
    rw [if_neg (by simp), if_neg (by simp)]
    have hF : Ziy s i = if 0 ≤ i ∧ i ≤ (n : Int) - 1 then (Zfa (Zag (slotL s i.toNat)), 0) else (Zjv, 9) := by unfold Ziy; rw [hn]
    rw [show i64 (((n : Int), true).1 - 1) = (n : Int) - 1 from e1, hF]
    unfold Z9 XH
    rw [Option.bind_some, Option.bind_some]
    by_cases h : 0 ≤ i ∧ i ≤ (n : Int) - 1
    · obtain ⟨k, rfl⟩ := Int.eq_ofNat_of_zero_le h.1
      have hs := ZoF hn (i := k) (by omega)
      obtain ⟨v, hv, hvl⟩ := ZjH hl hs
      have h97 := ZbH hs
      rw [if_pos h, if_neg (by simp; omega), if_neg (by simp; omega), hv, Zoh hl hs, Option.bind_some, Option.bind_some]
      rw [hvl, show slc (slotL s k) 0 (97 : Int) = some (slotL s k) from (ZdZ (a := 0) (b := 97) (by omega) (by omega)).trans (by rw [List.take_of_length_le (by omega), List.drop_zero]), Option.bind_some]
      obtain ⟨f1, f2⟩ := ZmI (Zla hu k) (by omega)
      rw [f1, f2]
      exact ⟨rfl, rfl⟩
    · rw [if_neg h, if_pos (by simp; omega), if_pos (by simp; omega)]
      exact ⟨rfl, rfl⟩
end Go.Vx

namespace Go.Vx
open Go Go.RowKit
def Ze5 (x : law3_Deed) : Prop := wfT x.Freeze ∧ (wfV (wfI .u16)) x.Frame ∧ (wfI .i64) x.Power ∧ True
def Zc0 (x : api_Memory) : Prop := (wfI .i64) x.Slots ∧ (wfI .i64) x.Limit ∧ (wfL (wfL (wfI .u8))) x.Sectors ∧ (wfL (wfI .i64)) x.Wear ∧ (wfL wfT) x.Bad ∧ True
end Go.Vx

namespace Go.Vx
open Go Go.RowKit
def ZdV (m : api_Memory) (i : Int) : Int := (Xy (m.Sectors.getD i.toNat [])).1
def okM (m : api_Memory) (k : Nat) : Bool := (Xy (m.Sectors.getD k [])).2.2 && !(m.Bad.getD k false)
def hdM (m : api_Memory) : Nat → List Int
  | 0 => []
  | k + 1 => hdM m k ++ if okM m k = true then [(k : Int)] else []
theorem Zkj (m : api_Memory) (k : Nat) : hdM m (k + 1) = hdM m k ++ if okM m k = true then [(k : Int)] else [] := rfl
theorem Zjk (m : api_Memory) : ∀ (k : Nat) x, x ∈ hdM m k → 0 ≤ x ∧ x < k
  | 0, x, h => by cases h
  | k + 1, x, h => by
    unfold hdM at h
    rcases List.mem_append.1 h with q | q
    · have := Zjk m k x q; omega
    · split at q
      · rw [List.mem_singleton.1 q]; omega
      · cases q
theorem Zmx (m : api_Memory) : ∀ k : Nat, (hdM m k).Pairwise (· < ·)
  | 0 => .nil
  | k + 1 => by
    unfold hdM
    refine List.pairwise_append.2 ⟨Zmx m k, by split <;> simp, fun x hx y hy => ?_⟩
    have := Zjk m k x hx
    split at hy
    · rw [List.mem_singleton.1 hy]; omega
    · cases hy
theorem ZhI (m : api_Memory) : ∀ k : Nat, (hdM m k).length ≤ k
  | 0 => Nat.le_refl _
  | k + 1 => by
    unfold hdM
    have := ZhI m k
    rw [List.length_append]
    split <;> simp <;> omega
def memR (m : api_Memory) : Prop := ∀ s ∈ m.Sectors, u8R s
theorem Zje (s : List Int) : 0 ≤ (Xy s).1 ∧ (Xy s).1 ≤ 1073741824 := by
  unfold Xy
  split
  · simp
  · simp only
    split
    · rename_i h; exact ⟨by simp only; omega, h.2.1⟩
    · simp
theorem ZcR {m : api_Memory} (h : memR m) (k : Nat) : u8R (m.Sectors.getD k []) := by
  rw [List.getD_eq_getElem?_getD]
  cases e : m.Sectors[k]? with
  | none => intro x hx; cases hx
  | some s => exact h s (List.mem_of_getElem? e)
theorem ZrI {m : api_Memory} (hm : memR m) (x y : Int) (hx : 0 ≤ x ∧ x < m.Sectors.length) (hy : 0 ≤ y ∧ y < m.Sectors.length) : ∃ c, XK x y m = some c ∧ (c < 0 ↔ ZdV m x < ZdV m y) := by
  have one : ∀ z : Int, 0 ≤ z ∧ z < m.Sectors.length → XL z m = some (ZdV m z) := fun z hz => by
    obtain ⟨k, rfl⟩ := Int.eq_ofNat_of_zero_le hz.1
    unfold XL ZdV
    rw [Zz (Xs (by omega) []), Option.bind_some, Zjd (ZcR hm k), Option.bind_some]; rfl
  unfold XK
  rw [one x hx, one y hy]
  have bx := Zje (m.Sectors.getD x.toNat [])
  have by_ := Zje (m.Sectors.getD y.toNat [])
  refine ⟨_, rfl, ?_⟩
  unfold ZdV
  rw [show i64 ((Xy (m.Sectors.getD x.toNat [])).1 - (Xy (m.Sectors.getD y.toNat [])).1) = _ from Zl (by omega) (by omega)]
  omega
theorem ZmQ {m : api_Memory} (hm : memR m) (hl : m.Sectors.length ≤ 64) (hb : m.Bad.length = m.Sectors.length) :
    ∃ l, Xp m = some l ∧ l.Perm (hdM m m.Sectors.length) ∧ Srt (ZdV m) l := by
  unfold Xp
  obtain ⟨o, h1, h2⟩ := ZcT (body := X6 m) (s0 := []) (N := m.Sectors.length) (fun k acc => acc = hdM m k) (fun r => r = hdM m m.Sectors.length) (fun k acc hk hI => .inl (by
      subst hI
      unfold X6
      have hlen := ZhI m k
      rw [if_pos (by simpa using hk), Zz (Xs hk []), Option.bind_some, Zjd (ZcR hm k), Option.bind_some, show i64 ((k : Int) + 1) = (k : Int) + 1 from Zl (by omega) (by omega), Zz (Xs (by omega) false)]
      have ok : okM m k = ((Xy (m.Sectors.getD k [])).2.2 && !(m.Bad.getD k false)) := rfl
      cases hh : (Xy (m.Sectors.getD k [])).2.2 with
      | false =>
        rw [hh] at ok
        refine ⟨hdM m k, by simp [gd], ?_⟩
        rw [Zkj, ok]; simp
      | true =>
        rw [hh] at ok
        cases hB : m.Bad.getD k false with
        | true =>
          rw [hB] at ok
          refine ⟨hdM m k, by simp [gd], ?_⟩
          rw [Zkj, ok]; simp
        | false =>
          rw [hB] at ok
          refine ⟨hdM m k ++ [(k : Int)], ?_, ?_⟩
          · simp only [gd, beq_self_eq_true, if_true, Option.bind_some, Bool.not_false, Bool.and_self]
            first | rw [Zd3 (by simp; omega)] | rw [ZcN (by simp; omega)]
            rfl
          · show _ = hdM m k ++ _
            rw [ok]; simp)) (fun acc hI => ⟨acc, by unfold X6; rw [if_neg (by simp)], hI⟩) rfl
  subst h2
  rw [h1]
  simp only [Option.bind_some, Xl]
  have hlen := ZhI m m.Sectors.length
  obtain ⟨l, k1, k2, k3⟩ := ZnK (key := ZdV m) (D := fun x => 0 ≤ x ∧ x < m.Sectors.length) (cmp := fun z0 z1 => XK z0 z1 m) (ZrI hm) (l := hdM m m.Sectors.length) (by omega) (Zmx m _) (fun x hx => Zjk m _ x hx)
  rw [k1]
  exact ⟨l, rfl, k2, k3⟩
theorem ZoU {body : Int → Option (Int ⊕ Int)} (P : Nat → Bool) {n : Nat} (h1 : ∀ k : Nat, 0 < k → k ≤ n → body k = if P (k - 1) = true then some (.inr (k : Int)) else some (.inl ((k - 1 : Nat) : Int))) (h0 : body 0 = some (.inr 0)) :
    ∃ r : Nat, loop (t1 body) (n : Int) = some (r : Int) ∧ r ≤ n ∧ (0 < r → P (r - 1) = true) ∧ (r < n → P r = false) := by
  suffices H : ∀ k : Nat, k ≤ n → (k < n → P k = false) → ∃ r : Nat, loop (t1 body) (k : Int) = some (r : Int) ∧ r ≤ n ∧ (0 < r → P (r - 1) = true) ∧ (r < n → P r = false) from H n (Nat.le_refl _) (fun h => absurd h (Nat.lt_irrefl _))
  intro k
  induction k with
  | zero => intro _ hk; exact ⟨0, Zb1 (by simpa using h0), by omega, fun h => by omega, hk⟩
  | succ k ih =>
    intro hkn hk
    have e := h1 (k + 1) (by omega) hkn
    by_cases hp : P k = true
    · rw [Nat.add_sub_cancel, if_pos hp] at e
      exact ⟨k + 1, Zb1 (by simpa using e), hkn, fun _ => hp, hk⟩
    · rw [Nat.add_sub_cancel, if_neg hp] at e
      obtain ⟨r, k1, k2⟩ := ih (by omega) (fun _ => by simpa using hp)
      exact ⟨r, ZeQ (by simpa using e) k1, k2⟩
theorem Zn1 {m : api_Memory} (hm : memR m) (hl : m.Sectors.length ≤ 64) (hb : m.Bad.length = m.Sectors.length) :
    ∃ l, Zc9 m = some l ∧ l.Perm (hdM m m.Sectors.length) ∧ Srt (ZdV m) l := by
  unfold Zc9
  obtain ⟨o, h1, h2⟩ := ZcT (body := ZbX m) (s0 := []) (N := m.Sectors.length) (fun k acc => acc.Perm (hdM m k) ∧ Srt (ZdV m) acc) (fun r => r.Perm (hdM m m.Sectors.length) ∧ Srt (ZdV m) r) (fun k acc hk hI => .inl (by
      obtain ⟨i1, i2⟩ := hI
      have hlen := ZhI m k
      have hal : acc.length ≤ k := by rw [i1.length_eq]; exact hlen
      unfold ZbX
      rw [if_pos (by simpa using hk), Zz (Xs hk []), Option.bind_some, Zmd (ZcR hm k), Option.bind_some, show i64 ((k : Int) + 1) = (k : Int) + 1 from Zl (by omega) (by omega), Zz (Xs (by omega) false)]
      have ok : okM m k = ((Xy (m.Sectors.getD k [])).2.2 && !(m.Bad.getD k false)) := rfl
      cases hh : (Xy (m.Sectors.getD k [])).2.2 with
      | false =>
        rw [hh] at ok
        refine ⟨acc, by simp [gd], ?_, i2⟩
        rw [Zkj, ok]; simpa using i1
      | true =>
        rw [hh] at ok
        cases hB : m.Bad.getD k false with
        | true =>
          rw [hB] at ok
          refine ⟨acc, by simp [gd], ?_, i2⟩
          rw [Zkj, ok]; simpa using i1
        | false =>
          rw [hB] at ok
          have mem : ∀ z ∈ acc, 0 ≤ z ∧ z < (k : Int) := fun z hz => Zjk m k z (i1.mem_iff.1 hz)
          obtain ⟨r, q1, q2, q3, q4⟩ := ZoU (body := ZbZ m acc (Xy (m.Sectors.getD k []))) (fun j => decide (ZdV m (acc.getD j 0) ≤ (Xy (m.Sectors.getD k [])).1)) (n := acc.length) (fun j j0 jn => by
            unfold ZbZ
            have hj := mem (acc.getD (j - 1) 0) (ZaS (by omega))
            obtain ⟨z, hz⟩ := Int.eq_ofNat_of_zero_le hj.1
            rw [if_pos (by simpa using j0), show i64 ((j : Int) - 1) = ((j - 1 : Nat) : Int) from (Zl (by omega) (by omega)).trans (by omega), Zz (Xs (by omega) 0), Option.bind_some, hz,
              Zz (Xs (by omega) []), Option.bind_some, Zmd (ZcR hm z), Option.bind_some]
            by_cases q : ZdV m (z : Int) ≤ (Xy (m.Sectors.getD k [])).1
            · rw [if_pos (by simpa [ZdV] using q), if_pos (by simpa using q)]
            · rw [if_neg (by simpa [ZdV] using q), if_neg (by simpa using q)]) (by unfold ZbZ; rw [if_neg (by simp)])
          refine ⟨acc.take r ++ (k : Int) :: acc.drop r, ?_, ?_, ?_⟩
          · simp only [gd, beq_self_eq_true, if_true, Option.bind_some, Bool.not_true, Bool.or_self, Bool.false_eq_true, if_false]
            rw [q1]
            simp only [Option.bind_some, Xl]
            rw [show apz 8 acc [0] = some (acc ++ [0]) from Zd3 (by simp; omega), Option.bind_some]
            rw [show i64 ((r : Int) + 1) = ((r + 1 : Nat) : Int) from (Zl (by omega) (by omega)).trans (by omega)]
            have hL : (acc ++ [(0 : Int)]).length = acc.length + 1 := by simp
            have sq : ∀ j : Nat, j ≤ acc.length + 1 → slq (acc ++ [(0 : Int)]) (j : Int) ((acc ++ [(0 : Int)]).length : Int) = some () := fun j hj => by
              unfold slq; rw [hL]
              have a1 : (j : Int) ≤ ((acc.length + 1 : Nat) : Int) := by omega
              simp only [decide_eq_true (show (0 : Int) ≤ (j : Int) by omega), decide_eq_true a1, decide_eq_true (Nat.succ_pos _), decide_eq_true (Nat.le_refl _), Bool.and_self]
              simp [ck]
            rw [sq (r + 1) (by omega), Option.bind_some, sq r (by omega), Option.bind_some]
            have t1 : Int.toNat (((acc ++ [(0 : Int)]).length : Int) - ((r + 1 : Nat) : Int)) = (acc.length + 1) - (r + 1) := by rw [hL]; omega
            have t2' : Int.toNat (((acc ++ [(0 : Int)]).length : Int) - (r : Int)) = (acc.length + 1) - r := by rw [hL]; omega
            rw [t1, t2']
            simp only [Int.toNat_natCast]
            obtain ⟨z, hz⟩ := ZaW (xs := cpy (acc ++ [(0 : Int)]) (r + 1) ((acc.length + 1) - (r + 1)) r ((acc.length + 1) - r)) (k := r) (by rw [Ze4 (by rw [hL]; omega) (by rw [hL]; omega), hL]; omega)
            rw [Zz hz, Option.bind_some, Zqz q2]
          · refine List.perm_middle.trans ?_
            rw [List.take_append_drop]
            refine (List.Perm.cons _ i1).trans ?_
            rw [Zkj, ok]
            simpa using (List.perm_append_comm (l₁ := [(k : Int)]) (l₂ := hdM m k))
          · have hk' : ZdV m (k : Int) = (Xy (m.Sectors.getD k [])).1 := rfl
            have hA : Srt (ZdV m) (acc.take r) := i2.sublist (List.take_sublist ..)
            have hB' : Srt (ZdV m) (acc.drop r) := i2.sublist (List.drop_sublist ..)
            have hAy : ∀ a ∈ acc.take r, LtK (ZdV m) a k := by
              have := ZfV (key := ZdV m) (m := [(k : Int)]) hA (List.pairwise_singleton ..) (fun a b ha hb => by
                simp only [List.head?_cons, Option.some.injEq] at hb
                subst hb
                rw [List.getLast?_eq_getElem?, List.length_take, Nat.min_eq_left q2] at ha
                have l2 := (List.getElem?_eq_some_iff.1 ha).1
                rw [List.length_take] at l2
                rw [List.getElem?_take_of_lt (by omega)] at ha
                have q := q3 (by omega)
                rw [List.getD_eq_getElem?_getD, ha] at q
                have q := of_decide_eq_true q
                simp only [Option.getD_some] at q
                have := (mem a (List.mem_of_getElem? ha)).2
                unfold LtK; omega)
              exact fun a ha => this a ha k (List.mem_singleton.2 rfl)
            have hyB : ∀ b ∈ acc.drop r, LtK (ZdV m) k b := by
              have := ZfV (key := ZdV m) (l := [(k : Int)]) (List.pairwise_singleton ..) hB' (fun a b ha hb => by
                simp only [List.getLast?_singleton, Option.some.injEq] at ha
                subst ha
                rw [List.head?_drop] at hb
                have l1 := (List.getElem?_eq_some_iff.1 hb).1
                have q := q4 (by omega)
                rw [List.getD_eq_getElem?_getD, hb] at q
                have q := of_decide_eq_false q
                simp only [Option.getD_some] at q
                exact .inl (by omega))
              exact fun b hb => this k (List.mem_singleton.2 rfl) b hb
            refine hA.app (List.pairwise_cons.2 ⟨hyB, hB'⟩) fun a ha b hb => ?_
            rcases List.mem_cons.1 hb with rfl | hb
            · exact hAy a ha
            · exact (hAy a ha).trans (hyB b hb))) (fun acc hI => ⟨acc, by unfold ZbX; rw [if_neg (by simp)], hI⟩) ⟨.refl _, .nil⟩
  rw [h1]
  exact ⟨o, rfl, h2⟩
theorem Zpc {m : api_Memory} (hm : memR m) (hl : m.Sectors.length ≤ 64) (hb : m.Bad.length = m.Sectors.length) :
    ∃ l, Xp m = some l ∧ Zc9 m = some l ∧ l.Perm (hdM m m.Sectors.length) ∧ Srt (ZdV m) l := by
  obtain ⟨l, a1, a2, a3⟩ := ZmQ hm hl hb
  obtain ⟨l', b1, b2, b3⟩ := Zn1 hm hl hb
  have : l' = l := ZjE (b2.trans a2.symm) b3 a3
  subst this
  exact ⟨l', a1, b1, a2, a3⟩
end Go.Vx

namespace Go.Vx
open Go Go.RowKit
structure MemOK (m : api_Memory) : Prop where
  slots : 1 ≤ m.Slots ∧ m.Slots ≤ 64
  limit : 1 ≤ m.Limit ∧ m.Limit ≤ 1000000
  n : 2 ≤ m.Sectors.length ∧ m.Sectors.length ≤ 64
  wear : m.Wear.length = m.Sectors.length
  bad : m.Bad.length = m.Sectors.length
  row : ∀ s ∈ m.Sectors, (s.length : Int) = 16 + m.Slots * 97
  wr : ∀ x ∈ m.Wear, 0 ≤ x ∧ x ≤ m.Limit
theorem Zqv (x a b : Int) : (decide (x < a) || decide (b < x)) = !(decide (a ≤ x) && decide (x ≤ b)) := by
  by_cases h1 : a ≤ x <;> by_cases h2 : x ≤ b <;> simp [h1, h2] <;> omega
theorem Zd4 (x a b : Int) : Z9 x a b = some (decide (a ≤ x) && decide (x ≤ b)) := by
  unfold Z9
  by_cases h1 : a ≤ x <;> simp [h1, gd]
theorem Zka (x a b : Int) : XH x a b = some (!(decide (a ≤ x) && decide (x ≤ b))) := by
  rw [← Zqv]
  unfold XH
  by_cases h1 : x < a <;> simp [h1, gd]
theorem Zqq (m : api_Memory) : Zcz m = QY m := by
  have hb : Za9 m = Qe m := by
    funext i
    unfold Za9 Qe Xa
    simp only [Option.bind_some, Zd4, Zka]
  unfold Zcz QY
  rw [hb]
  simp only [Zd4, Zka]
  generalize (decide (1 ≤ m.Slots) && decide (m.Slots ≤ 64)) = A
  generalize (decide (1 ≤ m.Limit) && decide (m.Limit ≤ 1000000)) = B
  generalize (decide ((2 : Int) ≤ (m.Sectors.length : Int)) && decide ((m.Sectors.length : Int) ≤ 64)) = C
  cases A <;> cases B <;> cases C <;> simp [gd]
theorem Zrd (m : api_Memory) : ∃ c, QY m = some c ∧ (c = 0 → MemOK m) ∧ (MemOK m → c = 0) := by
  unfold QY
  simp only [Zd4, Option.bind_some]
  by_cases hA : 1 ≤ m.Slots ∧ m.Slots ≤ 64
  · by_cases hB : 1 ≤ m.Limit ∧ m.Limit ≤ 1000000
    · by_cases hC : 2 ≤ m.Sectors.length ∧ m.Sectors.length ≤ 64
      · by_cases hD : m.Wear.length = m.Sectors.length ∧ m.Bad.length = m.Sectors.length
        · obtain ⟨r, h1, h2⟩ := Zfp (body := Qe m) (N := m.Sectors.length) (fun k => ∀ j, j < k → ((m.Sectors.getD j []).length : Int) = 16 + m.Slots * 97 ∧ 0 ≤ m.Wear.getD j 0 ∧ m.Wear.getD j 0 ≤ m.Limit)
            (fun r => (∃ e, r = .inl e ∧ e ≠ 0 ∧ ¬ MemOK m) ∨ (r = .inr () ∧ ∀ j, j < m.Sectors.length → ((m.Sectors.getD j []).length : Int) = 16 + m.Slots * 97 ∧ 0 ≤ m.Wear.getD j 0 ∧ m.Wear.getD j 0 ≤ m.Limit)) (fun k hk hI => by
              unfold Qe Xa
              have gS := Xs (s := m.Sectors) hk []
              have gW := Xs (s := m.Wear) (k := k) (by omega) 0
              rw [if_pos (by simpa using hk), Zz gS, Option.bind_some, show i64 (m.Slots * 97) = m.Slots * 97 from Zl (by omega) (by omega), show i64 (16 + m.Slots * 97) = 16 + m.Slots * 97 from Zl (by omega) (by omega), Option.bind_some,
                Zz gW, Option.bind_some, Zd4, Option.bind_some, show i64 ((k : Int) + 1) = (k : Int) + 1 from Zl (by omega) (by omega)]
              by_cases q : ((m.Sectors.getD k []).length : Int) = 16 + m.Slots * 97
              · rw [if_neg (by simpa using q)]
                by_cases q2 : 0 ≤ m.Wear.getD k 0 ∧ m.Wear.getD k 0 ≤ m.Limit
                · left
                  rw [if_neg (by simpa using q2)]
                  refine ⟨rfl, fun j hj => ?_⟩
                  by_cases e : j = k
                  · subst e; exact ⟨q, q2⟩
                  · exact hI j (by omega)
                · right
                  exact ⟨_, by rw [if_pos (by rw [Bool.not_eq_true', Bool.and_eq_false_iff, decide_eq_false_iff_not, decide_eq_false_iff_not]; omega)], .inl ⟨9, rfl, by decide, fun w => q2 (w.wr _ (ZaS (by omega)))⟩⟩
              · right
                exact ⟨_, by rw [if_pos (by simpa using q)], .inl ⟨3, rfl, by decide, fun w => q (w.row _ (List.mem_of_getElem? gS))⟩⟩)
            (fun hI => ⟨.inr (), by unfold Qe; rw [if_neg (by simp)], .inr ⟨rfl, hI⟩⟩) (fun j hj => absurd hj (Nat.not_lt_zero _))
          have hw1 : ((m.Wear.length : Int) = (m.Sectors.length : Int)) := by omega
          have hw2 : ((m.Bad.length : Int) = (m.Sectors.length : Int)) := by omega
          have hc1 : (2 : Int) ≤ (m.Sectors.length : Int) := by omega
          have hc2 : (m.Sectors.length : Int) ≤ 64 := by omega
          simp only [decide_eq_true hA.1, decide_eq_true hA.2, decide_eq_true hB.1, decide_eq_true hB.2, decide_eq_true hc1, decide_eq_true hc2, decide_eq_true hw1, decide_eq_true hw2, Bool.and_self, Bool.not_true, Bool.or_self, gd, beq_self_eq_true, if_true, Option.bind_some, Bool.false_eq_true, if_false]
          rw [h1]
          rcases h2 with ⟨e, rfl, he, hno⟩ | ⟨rfl, hall⟩
          · exact ⟨e, rfl, fun q => absurd q he, fun w => absurd w hno⟩
          · refine ⟨0, rfl, fun _ => ⟨hA, hB, hC, hD.1, hD.2, fun s hs => ?_, fun x hx => ?_⟩, fun _ => rfl⟩
            · obtain ⟨j, hj, rfl⟩ := List.getElem_of_mem hs
              have := (hall j hj).1
              rwa [List.getD_eq_getElem?_getD, List.getElem?_eq_getElem hj] at this
            · obtain ⟨j, hj, rfl⟩ := List.getElem_of_mem hx
              have := (hall j (by omega)).2
              rwa [List.getD_eq_getElem?_getD, List.getElem?_eq_getElem hj] at this
        · refine ⟨2, ?_, fun q => by simp at q, fun w => absurd ⟨w.wear, w.bad⟩ hD⟩
          have hc1 : (2 : Int) ≤ (m.Sectors.length : Int) := by omega
          have hc2 : (m.Sectors.length : Int) ≤ 64 := by omega
          simp only [decide_eq_true hA.1, decide_eq_true hA.2, decide_eq_true hB.1, decide_eq_true hB.2, decide_eq_true hc1, decide_eq_true hc2, Bool.and_self, Bool.not_true, Bool.or_self, gd, beq_self_eq_true, if_true, Option.bind_some, Bool.false_eq_true, if_false]
          rw [if_pos]
          simp; omega
      · refine ⟨9, ?_, fun q => by simp at q, fun w => absurd w.n hC⟩
        have hc : (decide ((2 : Int) ≤ (m.Sectors.length : Int)) && decide ((m.Sectors.length : Int) ≤ 64)) = false := by simp; omega
        simp only [decide_eq_true hA.1, decide_eq_true hA.2, decide_eq_true hB.1, decide_eq_true hB.2, hc, Bool.and_self, Bool.not_true, Bool.or_self, gd, beq_self_eq_true, if_true, Option.bind_some]
        simp
    · refine ⟨9, ?_, fun q => by simp at q, fun w => absurd w.limit hB⟩
      have hc : (decide (1 ≤ m.Limit) && decide (m.Limit ≤ 1000000)) = false := by simpa using hB
      simp [decide_eq_true hA.1, decide_eq_true hA.2, hc, gd]
  · refine ⟨9, ?_, fun q => by simp at q, fun w => absurd w.slots hA⟩
    have hc : (decide (1 ≤ m.Slots) && decide (m.Slots ≤ 64)) = false := by simpa using hA
    simp [hc, gd]
theorem ZkM {α : Type} {s : Nat} {l : List α} (h : l.length ≤ 140737488355328 / s) : ZeH s l = some l := (Zd3 (by simpa using h)).trans (by simp)
theorem ZqN {m : api_Memory} (h : MemOK m) : Ja m = some m := by
  have hs := h.slots
  have hr : ∀ s ∈ m.Sectors, s.length ≤ 7000 := fun s hs => by have := h.row s hs; omega
  have hn := h.n
  unfold Ja
  obtain ⟨r, h1, h2⟩ := ZcT (body := Q7 m) (s0 := []) (N := m.Sectors.length) (fun k acc => acc = m.Sectors.take k) (fun r => r = m.Sectors) (fun k acc hk hI => .inl (by
      subst hI
      have hd := Xs (s := m.Sectors) hk []
      have hl := hr _ (List.mem_of_getElem? hd)
      refine ⟨m.Sectors.take k ++ [m.Sectors.getD k []], ?_, ?_⟩
      · unfold Q7
        rw [if_pos (by simpa using hk), Zz hd, Option.bind_some, ZkM (by omega), Option.bind_some]
        rw [show app (m.Sectors.take k) [m.Sectors.getD k []] = some (m.Sectors.take k ++ [m.Sectors.getD k []]) from ZcN (by simp; omega), Option.bind_some, show i64 ((k : Int) + 1) = (k : Int) + 1 from Zl (by omega) (by omega)]
      · rw [List.take_succ, hd]; rfl)) (fun acc hI => ⟨acc, by unfold Q7; rw [if_neg (by simp)], by rw [hI, List.take_length]⟩) rfl
  subst h2
  rw [h1]
  simp only [Option.bind_some, Xl]
  rw [ZkM (by have := h.wear; omega), Option.bind_some, ZkM (by have := h.bad; omega), Option.bind_some]
end Go.Vx

namespace Go.Vx
open Go Go.RowKit
theorem Zn9 {z : Int} (h1 : -9223372036854775808 ≤ z) (h2 : z ≤ 9223372036854775807) : i64 z = z := Zl h1 h2
theorem Zp0 {n : Nat} (h : n ≤ 61) : (1 : Int) ≤ 2 ^ n ∧ (2 : Int) ^ n ≤ 2305843009213693952 := by
  have e : ((2 ^ n : Nat) : Int) = (2 : Int) ^ n := by push_cast; rfl
  have h1 : 1 ≤ 2 ^ n := Nat.one_le_two_pow
  have h2 : 2 ^ n ≤ 2 ^ 61 := Nat.pow_le_pow_right (by decide) h
  rw [show (2 : Nat) ^ 61 = 2305843009213693952 by decide] at h2
  omega
theorem ZlP {v : Int} {n : Nat} (hn : n ≤ 61) : Qn .i64 v ((2 : Int) ^ n - 1) = v % (2 : Int) ^ n := by
  have hb := Zp0 hn
  have e : ((2 : Int) ^ n - 1) = ((2 ^ n - 1 : Nat) : Int) := by
    have h1 : 1 ≤ 2 ^ n := Nat.one_le_two_pow
    have h2 : ((2 ^ n : Nat) : Int) = (2 : Int) ^ n := by push_cast; rfl
    omega
  have h2 : 2 ^ n ≤ 2 ^ 61 := Nat.pow_le_pow_right (by decide) hn
  have h2p : 0 < 2 ^ n := Nat.two_pow_pos n
  have e2 : (BitVec.ofInt 64 ((2 : Int) ^ n - 1)).toNat = 2 ^ n - 1 := by
    rw [e, BitVec.ofInt_natCast, BitVec.toNat_ofNat]
    exact Nat.mod_eq_of_lt (by have : (2 : Nat) ^ 61 < 2 ^ 64 := by decide
                               omega)
  have e3 : ((BitVec.ofInt 64 v).toNat : Int) = v % (2 : Int) ^ 64 := by
    rw [BitVec.toNat_ofInt]
    have : (0 : Int) ≤ v % ((2 ^ 64 : Nat) : Int) := Int.emod_nonneg _ (by decide)
    rw [Int.toNat_of_nonneg this]; rfl
  have e4 : ((BitVec.ofInt 64 v &&& BitVec.ofInt 64 ((2 : Int) ^ n - 1)).toNat : Int) = v % (2 : Int) ^ n := by
    rw [BitVec.toNat_and, e2, Nat.and_two_pow_sub_one_eq_mod]
    push_cast
    rw [e3]
    have : ((2 : Int) ^ n) ∣ (2 : Int) ^ 64 := ⟨(2 : Int) ^ (64 - n), by rw [← Int.pow_add]; congr 1; omega⟩
    exact Int.emod_emod_of_dvd v this
  have hp : (0 : Int) < (2 : Int) ^ n := by omega
  have b1 := Int.emod_nonneg v (show (2 : Int) ^ n ≠ 0 by omega)
  have b2 := Int.emod_lt_of_pos v hp
  unfold Qn
  have : IntKind.i64.bits = 64 := rfl
  rw [this, e4]
  exact Zn9 (by omega) (by omega)
theorem ZqZ {a b n : Nat} (ha : a < 2 ^ n) (hb : a + 2 ^ n * b < 2 ^ 62) : bor .i64 (a : Int) ((2 ^ n * b : Nat) : Int) = ((a + 2 ^ n * b : Nat) : Int) := by
  unfold bor
  have e0 : IntKind.i64.bits = 64 := rfl
  have h64 : (2 : Nat) ^ 62 < 2 ^ 64 := by decide
  have e1 : (BitVec.ofInt 64 (a : Int)).toNat = a := by
    rw [BitVec.ofInt_natCast, BitVec.toNat_ofNat]; exact Nat.mod_eq_of_lt (by omega)
  have e2 : (BitVec.ofInt 64 ((2 ^ n * b : Nat) : Int)).toNat = 2 ^ n * b := by
    rw [BitVec.ofInt_natCast, BitVec.toNat_ofNat]; exact Nat.mod_eq_of_lt (by omega)
  rw [e0, BitVec.toNat_or, e1, e2, Nat.or_comm, ← Nat.two_pow_add_eq_or_of_lt ha, Nat.add_comm]
  have h62 : (2 : Nat) ^ 62 = 4611686018427387904 := by decide
  exact Zn9 (by omega) (by omega)
end Go.Vx

namespace Go.Vx
open Go Go.RowKit
theorem ZmA {a : Nat} (h : a < 9223372036854775808) : (BitVec.ofInt 64 (a : Int)).toNat = a := by
  rw [BitVec.ofInt_natCast, BitVec.toNat_ofNat]; exact Nat.mod_eq_of_lt (by omega)
theorem Zp3 {a b : Nat} (ha : a < 9223372036854775808) (hb : b < 9223372036854775808) : Qn .i64 (a : Int) (b : Int) = ((a &&& b : Nat) : Int) := by
  unfold Qn
  have e0 : IntKind.i64.bits = 64 := rfl
  rw [e0, BitVec.toNat_and, ZmA ha, ZmA hb]
  have := Nat.and_le_left (n := a) (m := b)
  exact Zn9 (by omega) (by omega)
theorem Zol {a b : Nat} (ha : a < 9223372036854775808) (hb : b < 9223372036854775808) : ZbY .i64 (a : Int) (b : Int) = ((a ^^^ b : Nat) : Int) := by
  unfold ZbY
  have e0 : IntKind.i64.bits = 64 := rfl
  rw [e0, BitVec.toNat_xor, ZmA ha, ZmA hb]
  have : a ^^^ b < 2 ^ 63 := Nat.xor_lt_two_pow (by omega) (by omega)
  exact Zn9 (by omega) (by omega)
def restB : BitVec 22 := 2097167#22
def zS (v : BitVec 22) : BitVec 22 := (v <<< 1) ^^^ (if v.msb then restB else 0#22)
theorem ZqP (a b : BitVec 22) : zS (a ^^^ b) = zS a ^^^ zS b := by
  have e1 : ∀ x y r : BitVec 22, (x ^^^ r) ^^^ (y ^^^ r) = x ^^^ y := fun x y r => by
    rw [BitVec.xor_assoc, BitVec.xor_comm y r, ← BitVec.xor_assoc r r y, BitVec.xor_self, BitVec.zero_xor]
  have e2 : ∀ x y r : BitVec 22, (x ^^^ r) ^^^ y = (x ^^^ y) ^^^ r := fun x y r => by
    rw [BitVec.xor_assoc, BitVec.xor_comm r y, ← BitVec.xor_assoc]
  unfold zS
  rw [BitVec.shiftLeft_xor_distrib, BitVec.msb_xor]
  cases a.msb <;> cases b.msb
  · simp
  · simp [BitVec.xor_assoc]
  · simp [e2]
  · simp [e1]
def pS (b : Nat → Bool) : Nat → BitVec 22
  | 0 => 0#22
  | k + 1 => zS (pS b k) ^^^ (if b k then restB else 0#22)
def rS (b : Nat → Bool) : Nat → BitVec 22
  | 0 => 0#22
  | k + 1 => zS (rS b k) ^^^ (if b k then 1#22 else 0#22)
def zI : Nat → BitVec 22 → BitVec 22
  | 0, v => v
  | k + 1, v => zS (zI k v)
theorem Zp9 (k : Nat) (a b : BitVec 22) : zI k (a ^^^ b) = zI k a ^^^ zI k b := by
  induction k with
  | zero => rfl
  | succ k ih => simp only [zI, ih, ZqP]
theorem Zro (k : Nat) (v : BitVec 22) : zI k (zS v) = zS (zI k v) := by
  induction k with
  | zero => rfl
  | succ k ih => simp only [zI, ih]
theorem zI_one : zI 22 1#22 = restB := by decide
theorem zI_zero : zI 22 0#22 = 0#22 := by decide
theorem ZpG (b : Nat → Bool) : ∀ k, pS b k = zI 22 (rS b k)
  | 0 => zI_zero.symm
  | k + 1 => by
    rw [pS, rS, Zp9, Zro, ZpG b k]
    congr 1
    cases b k
    · exact zI_zero.symm
    · exact zI_one.symm
theorem Zmu {b : Nat → Bool} {n : Nat} (h : ∀ k, n ≤ k → b k = false) : ∀ j, rS b (n + j) = zI j (rS b n)
  | 0 => rfl
  | j + 1 => by
    rw [← Nat.add_assoc, rS, Zmu h j, h _ (by omega)]
    simp [zI]
theorem Zqx {b : Nat → Bool} {n : Nat} (h : ∀ k, n ≤ k → b k = false) : rS b (n + 22) = pS b n := by rw [Zmu h, ZpG]
theorem Zrw (v : BitVec 22) : decide (Qn .i64 (v.toNat : Int) 2097152 = 0) = !v.msb := by
  have := v.isLt
  rw [show (2097152 : Int) = ((2097152 : Nat) : Int) from rfl, Zp3 (by omega) (by omega)]
  rw [show (2097152 : Nat) = 2 ^ 21 from rfl]
  have e : v.msb = v.toNat.testBit 21 := by rw [BitVec.msb_eq_getLsbD_last]; rfl
  rw [e]
  have e2 : (v.toNat &&& 2 ^ 21).testBit 21 = v.toNat.testBit 21 := by rw [Nat.testBit_and, Nat.testBit_two_pow_self, Bool.and_true]
  cases hb : v.toNat.testBit 21
  · have : v.toNat &&& 2 ^ 21 = 0 := by
      refine Nat.eq_of_testBit_eq fun i => ?_
      rw [Nat.testBit_and, Nat.testBit_two_pow]
      by_cases h : 21 = i
      · subst h; rw [hb]; simp
      · simp [h]
    rw [this]; rfl
  · have : v.toNat &&& 2 ^ 21 ≠ 0 := fun h => by rw [h, Nat.zero_testBit, hb] at e2; cases e2
    have : ((v.toNat &&& 2 ^ 21 : Nat) : Int) ≠ 0 := by omega
    simp only [this, decide_false, Bool.not_true]
theorem Zq8 (v : BitVec 22) : shl .i64 (v.toNat : Int) 1 = some ((v.toNat : Int) * 2) := by
  have := v.isLt
  unfold shl
  rw [if_neg (by decide)]
  congr 1
  have e : (2 : Int) ^ min (Int.toNat 1) IntKind.i64.bits = 2 := rfl
  rw [e]
  exact Zn9 (by omega) (by omega)
theorem ZqU (v : BitVec 22) : Qn .i64 ((v.toNat : Int) * 2) 4194303 = ((v <<< 1).toNat : Int) := by
  have e : (4194303 : Int) = (2 : Int) ^ 22 - 1 := by decide
  rw [e, ZlP (n := 22) (by decide), BitVec.toNat_shiftLeft, Nat.shiftLeft_eq]
  rw [Int.natCast_emod, Int.natCast_mul]
  rfl
theorem ZrQ (v : BitVec 22) : ZbY .i64 (v.toNat : Int) 2097167 = ((v ^^^ restB).toNat : Int) := by
  have := v.isLt
  rw [show (2097167 : Int) = ((2097167 : Nat) : Int) from rfl, Zol (by omega) (by omega), BitVec.toNat_xor]
  rfl
theorem Zo0 (v : BitVec 22) (b : Bool) : zS v ^^^ (if b then restB else 0#22) = if (!(v.msb == b)) = true then (v <<< 1) ^^^ restB else v <<< 1 := by
  unfold zS
  cases v.msb <;> cases b
  · simp
  · simp
  · simp
  · simp [BitVec.xor_assoc]
theorem ZnG (m : Nat) : (2 * m) ^^^ 1 = 2 * m + 1 := by
  have h1 : ((2 * m) ^^^ 1) % 2 ^ 1 = (2 * m) % 2 ^ 1 ^^^ 1 % 2 ^ 1 := Nat.xor_mod_two_pow
  have h2 : ((2 * m) ^^^ 1) / 2 ^ 1 = (2 * m) / 2 ^ 1 ^^^ 1 / 2 ^ 1 := Nat.xor_div_two_pow
  rw [show (2 * m) % 2 ^ 1 = 0 by omega, show 1 % 2 ^ 1 = 1 from rfl, Nat.zero_xor] at h1
  rw [show (2 * m) / 2 ^ 1 = m by omega, show 1 / 2 ^ 1 = 0 from rfl, Nat.xor_zero] at h2
  omega
theorem Zpf (v : BitVec 22) (b : Bool) : let R : Nat := 2 * v.toNat + b.toNat
    (if 4194304 ≤ R then R ^^^ 6291471 else R) = (zS v ^^^ (if b then 1#22 else 0#22)).toNat := by
  intro R
  have hv := v.isLt
  have hb : b.toNat ≤ 1 := by cases b <;> decide
  have hm : v.msb = decide (2097152 ≤ v.toNat) := by
    rw [BitVec.msb_eq_decide]
  have es : (v <<< 1).toNat = (2 * v.toNat) % 4194304 := by rw [BitVec.toNat_shiftLeft, Nat.shiftLeft_eq]; congr 1; omega
  obtain ⟨s, hs⟩ : ∃ s, (v <<< 1).toNat = 2 * s := ⟨(v <<< 1).toNat / 2, by omega⟩
  have e1 : ∀ u : BitVec 22, ((v <<< 1) ^^^ u ^^^ (if b then 1#22 else 0#22)).toNat = ((v <<< 1).toNat + b.toNat) ^^^ u.toNat := fun u => by
    rw [BitVec.toNat_xor, BitVec.toNat_xor, hs]
    cases b
    · simp
    · simp only [if_true, Bool.toNat_true]
      rw [← ZnG, Nat.xor_assoc, Nat.xor_comm u.toNat, ← Nat.xor_assoc]; rfl
  unfold zS
  by_cases h : 2097152 ≤ v.toNat
  · rw [if_pos (by omega), hm, decide_eq_true h, if_pos rfl, e1]
    have h1 : (R ^^^ 6291471) % 2 ^ 22 = R % 2 ^ 22 ^^^ 6291471 % 2 ^ 22 := Nat.xor_mod_two_pow
    have h2 : (R ^^^ 6291471) / 2 ^ 22 = R / 2 ^ 22 ^^^ 6291471 / 2 ^ 22 := Nat.xor_div_two_pow
    have h3 : R / 2 ^ 22 = 1 := by omega
    have h4 : R % 2 ^ 22 = (v <<< 1).toNat + b.toNat := by omega
    rw [h3, show 6291471 / 2 ^ 22 = 1 from rfl, Nat.xor_self] at h2
    rw [h4, show 6291471 % 2 ^ 22 = restB.toNat from rfl] at h1
    omega
  · rw [if_neg (by omega), hm, decide_eq_false h, if_neg (by decide), e1]
    simp only [BitVec.toNat_ofNat, Nat.zero_mod, Nat.xor_zero]
    omega
end Go.Vx


namespace Go.Vx
open Go Go.RowKit
end Go.Vx

namespace Go.Vx
open Go Go.RowKit
theorem Zpi {n : Int} (h : wfI .u16 n) : 0 ≤ n ∧ n ≤ 65535 := by
  have h' : (decide (IntKind.u16.min ≤ n) && decide (n ≤ IntKind.u16.max)) = true := h
  have e1 : IntKind.u16.min = 0 := by decide
  have e2 : IntKind.u16.max = 65535 := by decide
  rw [e1, e2] at h'
  simpa using h'
theorem Zcs {z : Int} (h1 : -9223372036854775808 ≤ z) (h2 : z ≤ 9223372036854775807) : i64 z = z := Zl h1 h2
end Go.Vx

namespace Go.Vx
open Go Go.RowKit
def w3 (a b c : Int) : Int := 256 * a + 16 * b + c
def hL (l : List Int) : Prop := ∀ x ∈ l, 0 ≤ x ∧ x ≤ 15
end Go.Vx

namespace Go.Vx
open Go Go.RowKit
theorem Zho {σ ρ : Type} {body : σ → Int → Option ((σ × Int) ⊕ ρ)} (S : Nat → σ) (R : ρ) {a b : Nat} (hab : a ≤ b)
    (hstep : ∀ k : Nat, a ≤ k → k < b → body (S k) (k : Int) = some (.inl (S (k + 1), (k : Int) + 1))) (hend : body (S b) (b : Int) = some (.inr R)) :
    loop (t2 body) (S a, (a : Int)) = some R := by
  refine ZeY (body := t2 body) (fun s => ∃ k : Nat, a ≤ k ∧ k ≤ b ∧ s = (S k, (k : Int))) (fun s => b - s.2.toNat) (fun _ => R) ?_ _ ⟨a, Nat.le_refl _, hab, rfl⟩
  rintro _ ⟨k, h1, h2, rfl⟩
  rcases Nat.lt_or_ge k b with h | h
  · exact .inl ⟨_, hstep k h1 h, ⟨k + 1, by omega, h, by push_cast; rfl⟩, by simp only; omega, rfl⟩
  · obtain rfl : k = b := by omega
    exact .inr hend
theorem Zpb {σ ρ : Type} {body : σ → Int → Option ((σ × Int) ⊕ ρ)} (S : Nat → σ) (R : ρ) {b : Nat}
    (hstep : ∀ k : Nat, k < b → body (S (b - 1 - k)) (k : Int) = some (.inl (S (b - k), (k : Int) - 1))) (hend : body (S b) (-1) = some (.inr R)) :
    loop (t2 body) (S 0, (b : Int) - 1) = some R := by
  refine ZeY (body := t2 body) (fun s => ∃ k : Nat, k ≤ b ∧ s = (S (b - k), (k : Int) - 1)) (fun s => (s.2 + 1).toNat) (fun _ => R) ?_ _ ⟨b, Nat.le_refl _, by rw [Nat.sub_self]⟩
  rintro _ ⟨k, h2, rfl⟩
  rcases Nat.eq_zero_or_pos k with rfl | h
  · exact .inr hend
  · obtain ⟨j, rfl⟩ : ∃ j, k = j + 1 := ⟨k - 1, by omega⟩
    refine .inl ⟨_, ?_, ⟨j, by omega, rfl⟩, ?_, rfl⟩
    · have := hstep j h2
      rw [show ((j + 1 : Nat) : Int) - 1 = (j : Int) by omega, show b - (j + 1) = b - 1 - j by omega]
      exact this
    · simp only; omega
def wd (f : Vector Int 64) (i : Nat) : Int := f.toList.getD i 0
def fU (f : Vector Int 64) : Prop := ∀ i, 0 ≤ wd f i ∧ wd f i ≤ 65535
theorem Zq3 {f : Vector Int 64} (h : wfV (wfI .u16) f) : fU f := by
  intro i
  unfold wd
  rcases Nat.lt_or_ge i f.toList.length with hi | hi
  · obtain ⟨x, hx⟩ := ZaW hi
    rw [List.getD_eq_getElem?_getD, hx]
    exact Zpi (h x (List.mem_of_getElem? hx))
  · rw [List.getD_eq_getElem?_getD, List.getElem?_eq_none hi]
    exact ⟨by decide, by decide⟩
theorem JA (f : Vector Int 64) {i : Nat} (hi : i < 64) : ZI f (i : Int) = some (wd f i) := by
  unfold ZI wd
  rw [if_pos (by omega), Int.toNat_natCast]
  obtain ⟨x, hx⟩ := ZaW (xs := f.toList) (k := i) (by simp; omega)
  rw [List.getD_eq_getElem?_getD, hx]; rfl
theorem Zio {x : Int} (h : 0 ≤ x ∧ x ≤ 65535) : X3 x = some (x % 2048) := by
  obtain ⟨n, rfl⟩ : ∃ n : Nat, x = n := ⟨x.toNat, by omega⟩
  have e0 : IntKind.u16.bits = 16 := rfl
  have e1 : (BitVec.ofInt 16 (n : Int)).toNat = n := by
    rw [BitVec.ofInt_natCast, BitVec.toNat_ofNat]; exact Nat.mod_eq_of_lt (by omega)
  have e2 : (BitVec.ofInt 16 2047).toNat = 2 ^ 11 - 1 := rfl
  have e3 : Qn .u16 (n : Int) 2047 = ((n % 2048 : Nat) : Int) := by
    unfold Qn
    rw [e0, BitVec.toNat_and, e1, e2, Nat.and_two_pow_sub_one_eq_mod]
    have : n % 2 ^ 11 < 2048 := Nat.mod_lt _ (by decide)
    simp only [IntKind.wrap, IntKind.signed, IntKind.bits]
    have e : (2 : Int) ^ 16 = 65536 := by decide
    simp [e]
    omega
  unfold X3
  rw [e3, Zcs (by omega) (by omega)]; rfl
theorem ZiG {x : Int} (h : 0 ≤ x) (n : Int) (hn : 0 < n) : rem x n = some (x % n) := by
  unfold rem
  rw [if_neg (by omega), Int.tmod_eq_emod_of_nonneg h]
def Jw (f : Vector Int 64) : Int := wd f 1 % 2048 + wd f 2 % 2048 * 2048
theorem Zkt (f : Vector Int 64) : 0 ≤ Jw f ∧ Jw f < 4194304 := by unfold Jw; omega
theorem Zpw {a b : Int} (ha : 0 ≤ a ∧ a < 2048) (hb : 0 ≤ b ∧ b < 2048) : (shl .i64 b 11).bind (fun q => some (bor .i64 a q)) = some (a + b * 2048) ∧ (shl .i64 a 11).bind (fun q => some (bor .i64 q b)) = some (a * 2048 + b) := by
  have e : ∀ z : Int, 0 ≤ z ∧ z < 2048 → shl .i64 z 11 = some (z * 2048) := fun z hz => by
    unfold shl
    rw [if_neg (by decide)]
    have e : (2 : Int) ^ min (Int.toNat 11) IntKind.i64.bits = 2048 := rfl
    rw [e, w64 (by omega) (by omega)]
  have e2 : ∀ x y : Int, 0 ≤ x ∧ x < 2048 → 0 ≤ y ∧ y < 2048 → bor .i64 x (y * 2048) = x + y * 2048 := fun x y hx hy => by
    obtain ⟨m, rfl⟩ : ∃ m : Nat, x = m := ⟨x.toNat, by omega⟩
    obtain ⟨n, rfl⟩ : ∃ n : Nat, y = n := ⟨y.toNat, by omega⟩
    have := ZqZ (a := m) (b := n) (n := 11) (by rw [show (2 : Nat) ^ 11 = 2048 by decide]; omega) (by rw [show (2 : Nat) ^ 11 = 2048 by decide, show (2 : Nat) ^ 62 = 4611686018427387904 by decide]; omega)
    rw [show (2 : Nat) ^ 11 = 2048 by decide] at this
    rw [show ((n : Int) * 2048) = ((2048 * n : Nat) : Int) by omega, this]; omega
  have e3 : ∀ x y : Int, bor .i64 x y = bor .i64 y x := fun x y => by unfold bor; rw [BitVec.or_comm]
  rw [e b hb, e a ha, Option.bind_some, Option.bind_some, e2 a b ha hb, e3, e2 b a hb ha]
  exact ⟨rfl, by rw [Int.add_comm]⟩
theorem ZrP {a b : Int} (h1 : 0 ≤ a ∧ a ≤ 65535) (h2 : 0 ≤ b ∧ b ≤ 65535) : i64 (b % 2048 * 2048) = b % 2048 * 2048 ∧ i64 (a % 2048 + b % 2048 * 2048) = a % 2048 + b % 2048 * 2048 ∧ i64 a = a ∧ i64 b = b := ⟨Zcs (by omega) (by omega), Zcs (by omega) (by omega), Zcs (by omega) (by omega), Zcs (by omega) (by omega)⟩
theorem Zma {f : Vector Int 64} (h : fU f) : XQ f = some (Jw f) ∧ XF f = some (Jw f) := by
  have v1 : ZI f 1 = some (wd f 1) := JA f (i := 1) (by decide)
  have v2 : ZI f 2 = some (wd f 2) := JA f (i := 2) (by decide)
  obtain ⟨e1, e2, e3, e4⟩ := ZrP (h 1) (h 2)
  refine ⟨?_, ?_⟩
  · unfold XQ Jw
    rw [v1, Option.bind_some, Zio (h 1), Option.bind_some, v2, Option.bind_some, Zio (h 2), Option.bind_some, (Zpw (by omega) (by omega)).1]
  · unfold XF Jw
    rw [v1, Option.bind_some, e3, ZiG (h 1).1 _ (by decide), Option.bind_some, v2, Option.bind_some, e4, ZiG (h 2).1 _ (by decide), Option.bind_some, e1, e2]
def Zec (f : Vector Int 64) : Nat → Int
  | 0 => 0
  | k + 1 => ZbY .i64 (Zec f k) (wd f (k + 1) % 2048)
theorem Zmy {f : Vector Int 64} (h : fU f) : ZaO f = some (Zec f 60) ∧ Zc6 f = some (Zec f 60) := by
  constructor
  · have := Zho (body := Ji f) (Zec f) (Zec f 60) (a := 0) (b := 60) (by decide) (fun k _ hk => by
      have hw := h (k + 1)
      unfold Ji
      rw [if_pos (by simp; omega), Zcs (by omega) (by omega), show (k : Int) + 1 = ((k + 1 : Nat) : Int) by push_cast; rfl, JA f (by omega), Option.bind_some, Zio hw, Option.bind_some]
      rfl) (by unfold Ji; rw [if_neg (by decide)])
    unfold ZaO
    rw [show ((0 : Int), (0 : Int)) = (Zec f 0, ((0 : Nat) : Int)) from rfl, this]
    rfl
  · have := Zho (body := ZaT f) (fun k => Zec f (k - 1)) (Zec f 60) (a := 1) (b := 61) (by decide) (fun k h1 hk => by
      have hw := h k
      obtain ⟨j, rfl⟩ : ∃ j, k = j + 1 := ⟨k - 1, by omega⟩
      unfold ZaT
      rw [if_pos (by simp; omega), JA f (by omega), Option.bind_some, Zcs (by omega) (by omega), ZiG hw.1 _ (by decide), Option.bind_some, Zcs (by omega) (by omega)]
      rfl) (by unfold ZaT; rw [if_neg (by decide)])
    unfold Zc6
    rw [show ((0 : Int), (1 : Int)) = ((fun k => Zec f (k - 1)) 1, ((1 : Nat) : Int)) from rfl, this]
    rfl
def Zdp (f : Vector Int 64) (j : Nat) : Bool := decide (j < 744) && decide (wd f (j / 12) / (2 : Int) ^ (11 - j % 12) % 2 = 1)
theorem ZkO (x : Int) {k : Nat} (hk : k ≤ 11) : shr .u16 x (k : Int) = some (x / (2 : Int) ^ k) := by
  unfold shr
  have hm : min ((k : Int)).toNat IntKind.u16.bits = k := by
    have : IntKind.u16.bits = 16 := rfl
    rw [Int.toNat_natCast]; omega
  have hp : (0 : Int) < 2 ^ k := Int.pow_pos (by decide)
  rw [if_neg (by omega), hm, Int.fdiv_eq_ediv_of_nonneg _ (by omega)]
theorem ZoV (x : Int) {k : Nat} (hk : k ≤ 11) : shr .i64 x (k : Int) = some (x / (2 : Int) ^ k) := by
  unfold shr
  have hm : min ((k : Int)).toNat IntKind.i64.bits = k := by
    have : IntKind.i64.bits = 64 := rfl
    rw [Int.toNat_natCast]; omega
  have hp : (0 : Int) < 2 ^ k := Int.pow_pos (by decide)
  rw [if_neg (by omega), hm, Int.fdiv_eq_ediv_of_nonneg _ (by omega)]
theorem ZqK {x : Int} (h : 0 ≤ x ∧ x ≤ 65535) (k : Nat) : 0 ≤ x / (2 : Int) ^ k ∧ x / (2 : Int) ^ k ≤ 65535 := by
  have hp : (0 : Int) < 2 ^ k := Int.pow_pos (by decide)
  have h1 := Int.ediv_nonneg h.1 (Int.le_of_lt hp)
  have h2 : x / (2 : Int) ^ k ≤ x := Int.ediv_le_self _ h.1
  omega
theorem Zl9 {x : Int} (h : 0 ≤ x ∧ x ≤ 65535) : Qn .u16 x 1 = x % 2 := by
  obtain ⟨n, rfl⟩ : ∃ n : Nat, x = n := ⟨x.toNat, by omega⟩
  have e0 : IntKind.u16.bits = 16 := rfl
  have e1 : (BitVec.ofInt 16 (n : Int)).toNat = n := by
    rw [BitVec.ofInt_natCast, BitVec.toNat_ofNat]; exact Nat.mod_eq_of_lt (by omega)
  have e2 : (BitVec.ofInt 16 1).toNat = 2 ^ 1 - 1 := rfl
  unfold Qn
  rw [e0, BitVec.toNat_and, e1, e2, Nat.and_two_pow_sub_one_eq_mod]
  have : n % 2 ^ 1 < 2 := Nat.mod_lt _ (by decide)
  simp only [IntKind.wrap, IntKind.signed, IntKind.bits]
  have e : (2 : Int) ^ 16 = 65536 := by decide
  simp [e]
  omega
theorem Zmi (x : Int) : Qn .i64 x 1 = x % 2 := ZlP (v := x) (n := 1) (by decide)
def ckS (f : Vector Int 64) (k : Nat) : Int := ((pS (Zdp f) k).toNat : Int)
theorem ZnP (f : Vector Int 64) (j : Nat) : ckS f (j + 1) = if (!((!decide (Qn .i64 (ckS f j) 2097152 = 0)) == Zdp f j)) = true then ZbY .i64 (Qn .i64 (ckS f j * 2) 4194303) 2097167 else Qn .i64 (ckS f j * 2) 4194303 := by
  have := Zo0 (pS (Zdp f) j) (Zdp f j)
  unfold ckS
  rw [pS, this, Zrw, Bool.not_not, ZqU, ZrQ]
  split <;> rfl
theorem Zm1 {f : Vector Int 64} (h : fU f) : JR f = some (ckS f 744) := by
  have inner : ∀ i : Nat, i < 62 → loop (t2 (Xc f (i : Int))) (ckS f (12 * i), 11) = some (ckS f (12 * (i + 1))) := fun i hi => by
    have hw := h i
    have := Zpb (body := Xc f (i : Int)) (fun j => ckS f (12 * i + j)) (ckS f (12 * (i + 1))) (b := 12) (fun k hk => by
      have hd := ZqK hw k
      have hv := (pS (Zdp f) (12 * i + (12 - 1 - k))).isLt
      unfold Xc
      have e1 : shl .i64 (ckS f (12 * i + (12 - 1 - k))) 1 = some (ckS f (12 * i + (12 - 1 - k)) * 2) := Zq8 _
      rw [if_pos (by simp), e1, Option.bind_some, JA f (by omega), Option.bind_some, ZkO _ (by omega), Option.bind_some, Zl9 hd, Zcs (by omega) (by omega)]
      have eb : Zdp f (12 * i + (12 - 1 - k)) = decide (wd f i / (2 : Int) ^ k % 2 = 1) := by
        unfold Zdp
        rw [decide_eq_true (show 12 * i + (12 - 1 - k) < 744 by omega), Bool.true_and, show (12 * i + (12 - 1 - k)) / 12 = i by omega, show 11 - (12 * i + (12 - 1 - k)) % 12 = k by omega]
      have := ZnP f (12 * i + (12 - 1 - k))
      rw [eb] at this
      rw [show 12 * i + (12 - k) = 12 * i + (12 - 1 - k) + 1 by omega, this]
      split <;> rfl) (by unfold Xc; rw [if_neg (by decide)]; rw [show 12 * (i + 1) = 12 * i + 12 by omega])
    exact this
  have := Zho (body := XB f) (fun i => ckS f (12 * i)) (ckS f 744) (a := 0) (b := 62) (by decide) (fun k _ hk => by
    unfold XB
    rw [if_pos (by simp; omega), inner k hk, Option.bind_some, Xl, Zcs (by omega) (by omega)]) (by unfold XB; rw [if_neg (by decide)])
  unfold JR
  have e0 : ((0 : Int), (0 : Int)) = ((fun i => ckS f (12 * i)) 0, ((0 : Nat) : Int)) := rfl
  rw [e0, this]
  rfl
def rkS (f : Vector Int 64) (k : Nat) : Int := ((rS (Zdp f) k).toNat : Int)
theorem ZpY {f : Vector Int 64} (h : fU f) : ZaM f = some (ckS f 744) := by
  have hfin : rkS f 766 = ckS f 744 := by
    unfold rkS ckS
    rw [show 766 = 744 + 22 from rfl, Zqx (fun k hk => by unfold Zdp; rw [decide_eq_false (by omega), Bool.false_and])]
  have := Zho (body := JM f) (rkS f) (ckS f 744) (a := 0) (b := 766) (by decide) (fun k _ hk => by
    have hv := (rS (Zdp f) k).isLt
    have hb : ((if (decide ((k : Int) < 744)) = true then (quo .i64 (k : Int) 12).bind fun q => (ZI f q).bind fun x => (rem (k : Int) 12).bind fun q2 => (shr .i64 (i64 x) (i64 (11 - q2))).bind fun q3 => some (Qn .i64 q3 1) else some 0) : Option Int) = some ((Zdp f k).toNat : Int) := by
      by_cases hk2 : k < 744
      · have hw := h (k / 12)
        rw [if_pos (by simp; omega)]
        have e1 : quo .i64 (k : Int) 12 = some ((k / 12 : Nat) : Int) := by
          unfold quo
          rw [if_neg (by decide), Int.tdiv_eq_ediv_of_nonneg (by omega), w64 (by omega) (by omega)]
          rfl
        rw [e1, Option.bind_some, JA f (by omega), Option.bind_some, ZiG (by omega) _ (by decide), Option.bind_some, Zcs (by omega) (by omega)]
        have e2 : i64 (11 - (k : Int) % 12) = ((11 - k % 12 : Nat) : Int) := by rw [Zcs (by omega) (by omega)]; omega
        rw [e2, ZoV _ (by omega), Option.bind_some, Zmi]
        unfold Zdp
        rw [decide_eq_true hk2, Bool.true_and]
        generalize wd f (k / 12) / (2 : Int) ^ (11 - k % 12) = z
        by_cases hz : z % 2 = 1
        · rw [decide_eq_true hz, hz]; rfl
        · rw [decide_eq_false hz, show z % 2 = 0 by omega]; rfl
      · rw [if_neg (by simp; omega)]
        unfold Zdp
        rw [decide_eq_false hk2, Bool.false_and]; rfl
    unfold JM
    rw [if_pos (by simp; omega), hb, Option.bind_some, Xl]
    have hbl : (Zdp f k).toNat ≤ 1 := by cases Zdp f k <;> decide
    have hs := Zpf (rS (Zdp f) k) (Zdp f k)
    simp only at hs
    have er : i64 (i64 (rkS f k * 2) + ((Zdp f k).toNat : Int)) = ((2 * (rS (Zdp f) k).toNat + (Zdp f k).toNat : Nat) : Int) := by
      unfold rkS
      rw [Zcs (z := ((rS (Zdp f) k).toNat : Int) * 2) (by omega) (by omega), Zcs (by omega) (by omega)]; push_cast; omega
    have en : rkS f (k + 1) = ((zS (rS (Zdp f) k) ^^^ (if Zdp f k then 1#22 else 0#22)).toNat : Int) := rfl
    rw [er, en, ← hs, Zcs (z := (k : Int) + 1) (by omega) (by omega)]
    by_cases hc : 4194304 ≤ 2 * (rS (Zdp f) k).toNat + (Zdp f k).toNat
    · rw [if_pos (by simp; omega), if_pos hc, show (6291471 : Int) = ((6291471 : Nat) : Int) from rfl, Zol (by omega) (by omega)]
    · rw [if_neg (by simp; omega), if_neg hc]) (by unfold JM; rw [if_neg (by decide), hfin])
  unfold ZaM
  rw [show ((0 : Int), (0 : Int)) = (rkS f 0, ((0 : Nat) : Int)) from rfl, this]
  rfl
end Go.Vx

namespace Go.Vx
open Go Go.RowKit
theorem Zm7 {ρ : Type} {body : Int → Option (Int ⊕ ρ)} (P : Nat → Bool) (A Z : ρ) {a b : Nat} (hab : a ≤ b)
    (hstep : ∀ k : Nat, a ≤ k → k < b → body (k : Int) = if P k = true then some (.inl ((k : Int) + 1)) else some (.inr A)) (hend : body (b : Int) = some (.inr Z)) :
    loop (t1 body) (a : Int) = some (cond ((List.range' a (b - a)).all P) Z A) := by
  refine ZeY (body := t1 body) (fun i => ∃ k : Nat, i = k ∧ a ≤ k ∧ k ≤ b) (fun i => b - i.toNat) (fun i => cond ((List.range' i.toNat (b - i.toNat)).all P) Z A) ?_ (a : Int) ⟨a, rfl, Nat.le_refl _, hab⟩
  rintro i ⟨k, rfl, h1, h2⟩
  simp only [Int.toNat_natCast, Xl]
  rcases Nat.lt_or_ge k b with h | h
  · rw [hstep k h1 h]
    obtain ⟨n, hn⟩ : ∃ n, b - k = n + 1 := ⟨b - k - 1, by omega⟩
    rw [hn, List.range'_succ, List.all_cons]
    cases hp : P k
    · right; simp
    · left
      refine ⟨_, by rw [if_pos rfl], ⟨k + 1, by push_cast; rfl, by omega, h⟩, by omega, ?_⟩
      rw [show ((k : Int) + 1).toNat = k + 1 by omega, show b - (k + 1) = n by omega, Bool.true_and]
  · obtain rfl : k = b := by omega
    right
    rw [hend]; simp
def flL (P : Nat → Bool) (c : Int) (a n : Nat) : List api_Flaw := ((List.range' a n).filter fun k => !P k).map fun (k : Nat) => api_Flaw.mk (k : Int) c
theorem ZlB (P : Nat → Bool) (c : Int) (a n : Nat) : flL P c a (n + 1) = flL P c a n ++ (if P (a + n) = true then [] else [api_Flaw.mk ((a + n : Nat) : Int) c]) := by
  unfold flL
  rw [List.range'_1_concat, List.filter_append, List.map_append]
  congr 1
  cases h : P (a + n) <;> simp [h]
theorem ZiZ (P : Nat → Bool) (c : Int) (a : Nat) : ∀ n, (flL P c a n).length ≤ n
  | 0 => by simp [flL]
  | n + 1 => by
    have := ZiZ P c a n
    rw [ZlB, List.length_append]; split <;> simp <;> omega
theorem Zi1 (P : Nat → Bool) (c : Int) (a n : Nat) : (flL P c a n).length = 0 ↔ (List.range' a n).all P = true := by
  unfold flL
  rw [List.length_map, List.length_eq_zero_iff, List.filter_eq_nil_iff, List.all_eq_true]
  exact ⟨fun h x hx => by have := h x hx; simpa using this, fun h x hx => by rw [h x hx]; decide⟩
theorem Zi7 {body : List api_Flaw → Int → Option ((List api_Flaw × Int) ⊕ List api_Flaw)} (P : Nat → Bool) (c : Int) {a b : Nat} (hab : a ≤ b) (l0 : List api_Flaw) (hl : l0.length ≤ 1000) (hb : b ≤ 1000)
    (hstep : ∀ (l : List api_Flaw) (k : Nat), l.length ≤ 2000 → a ≤ k → k < b → body l (k : Int) = if P k = true then some (.inl (l, (k : Int) + 1)) else some (.inl (l ++ [api_Flaw.mk (k : Int) c], (k : Int) + 1)))
    (hend : ∀ l, body l (b : Int) = some (.inr l)) : loop (t2 body) (l0, (a : Int)) = some (l0 ++ flL P c a (b - a)) := by
  have := Zho (body := body) (fun k => l0 ++ flL P c a (k - a)) (l0 ++ flL P c a (b - a)) (a := a) (b := b) hab (fun k h1 h2 => by
    have hlen := ZiZ P c a (k - a)
    rw [hstep _ k (by rw [List.length_append]; omega) h1 h2, show k + 1 - a = k - a + 1 by omega, ZlB, show a + (k - a) = k by omega]
    cases P k <;> simp) (hend _)
  have e : (fun k => l0 ++ flL P c a (k - a)) a = l0 := by simp [flL]
  simp only at e
  rw [e] at this
  exact this
noncomputable def Zrm (n : Nat) : Bool := decide (Za1 (n : Int) = ZcM (n : Int)) && (ZcM (n : Int)).isSome
theorem ZoS : (List.range 4096).all Zrm = true := by decide +kernel
noncomputable def ZiS (x : Int) : Bool := (ZcM x).getD false
theorem ZmL {x : Int} (h : 0 ≤ x ∧ x ≤ 4095) : Za1 x = some (ZiS x) ∧ Zcj x = some (ZiS x) := by
  obtain ⟨n, rfl⟩ : ∃ n : Nat, x = n := ⟨x.toNat, by omega⟩
  have := List.all_eq_true.1 ZoS n (List.mem_range.2 (by omega))
  simp only [Zrm, Bool.and_eq_true, decide_eq_true_eq] at this
  obtain ⟨h2, h3⟩ := this
  obtain ⟨b, hb⟩ := Option.isSome_iff_exists.1 h3
  unfold ZiS
  rw [hb]
  exact ⟨h2.trans hb, Ziw _ b hb⟩
def XE (f : Vector Int 64) (k : Nat) : Bool := decide (wd f k ≤ 4095)
def Zbp (f : Vector Int 64) : Bool := (List.range' 0 64).all (XE f)
theorem ZhZ {f : Vector Int 64} (h : Zbp f = true) (k : Nat) (hk : k < 64) : wd f k ≤ 4095 := by
  have := List.all_eq_true.1 h k (List.mem_range'.2 ⟨k, hk, by omega⟩)
  simpa [XE] using this
theorem Zqe (f : Vector Int 64) : ZbA f = some (!Zbp f) := by
  have := Zm7 (body := JN f) (XE f) (.inl true : Bool ⊕ Unit) (.inr ()) (a := 0) (b := 64) (by decide) (fun k _ hk => by
    unfold JN XE
    rw [if_pos (by simp; omega), JA f hk, Option.bind_some, Zcs (by omega) (by omega)]
    by_cases hw : 4095 < wd f k
    · rw [if_pos (by simpa using hw), if_neg (by simpa using hw)]
    · rw [if_neg (by simpa using hw), if_pos (by simpa using hw)]) (by unfold JN; rw [if_neg (by decide)])
  unfold ZbA
  have e0 : (0 : Int) = ((0 : Nat) : Int) := rfl
  rw [e0, this]
  unfold Zbp
  rw [Nat.sub_zero]
  cases (List.range' 0 64).all (XE f) <;> rfl
def ZaH (n : Int) : Int := gv_frame_syncs.toList.getD (n % 4).toNat 0
theorem Zkw {n : Int} (h : 0 ≤ n) : rem n 4 = some (n % 4) ∧ ZI gv_frame_syncs (n % 4) = some (ZaH n) := by
  refine ⟨ZiG h _ (by decide), ?_⟩
  unfold ZI ZaH
  rw [if_pos (by omega)]
  obtain ⟨x, hx⟩ := ZaW (xs := gv_frame_syncs.toList) (k := (n % 4).toNat) (by simp; omega)
  rw [List.getD_eq_getElem?_getD, hx]; rfl
theorem Znr {n : Int} (h : 0 ≤ n) : Zak n = some (ZaH n) := by
  unfold Zak
  have := (Zkw h).2
  unfold gv_frame_syncs at this
  rw [(Zkw h).1, Option.bind_some, this, Option.bind_some]
noncomputable def ZjF (f : Vector Int 64) (k : Nat) : Bool := ZiS (wd f k)
def ckW (f : Vector Int 64) : Int := wd f 62 % 2048 * 2048 + wd f 63 % 2048
noncomputable def Zib (f : Vector Int 64) : Bool := Zbp f && (decide (wd f 0 = ZaH (Jw f)) && (decide (wd f 61 % 2048 = Zec f 60) && ((List.range' 1 63).all (ZjF f) && decide (ckW f = ckS f 744))))
def Zbl (b : Bool) (i c : Int) : List api_Flaw := if b = true then [] else [api_Flaw.mk i c]
noncomputable def Zm6 (f : Vector Int 64) : List api_Flaw :=
  if Zbp f = true then ((Zbl (decide (wd f 0 = ZaH (Jw f))) 0 1 ++ flL (ZjF f) 2 1 63) ++ Zbl (decide (wd f 61 % 2048 = Zec f 60)) 61 3) ++ Zbl (decide (ckW f = ckS f 744)) 62 4
  else flL (XE f) 5 0 64
theorem Zb8 (b : Bool) (i c : Int) : (Zbl b i c).length ≤ 1 ∧ ((Zbl b i c).length = 0 ↔ b = true) := by cases b <;> simp [Zbl]
theorem ZmE {f : Vector Int 64} (h : fU f) : ZgN f = some (Zm6 f) := by
  have hl1 := Zi7 (body := ZcZ f) (XE f) 5 (a := 0) (b := 64) (by decide) [] (by decide) (by decide) (fun l k hl _ hk => by
    unfold ZcZ XE
    rw [if_pos (by simp; omega), JA f hk, Option.bind_some, Zcs (by omega) (by omega)]
    by_cases hw : 4095 < wd f k
    · rw [if_pos (by simpa using hw), if_neg (by simpa using hw), ZcN (by simp; omega), Option.bind_some]
    · rw [if_neg (by simpa using hw), if_pos (by simpa using hw)]) (fun l => by unfold ZcZ; rw [if_neg (by decide)])
  unfold ZgN
  have e0 : (([] : List api_Flaw), (0 : Int)) = ([], ((0 : Nat) : Int)) := rfl
  rw [e0, hl1, Option.bind_some, Xl, List.nil_append, Nat.sub_zero]
  have hz := Zi1 (XE f) 5 0 64
  unfold Zm6
  cases hn : Zbp f
  · have : ¬ (flL (XE f) 5 0 64).length = 0 := fun hc => by rw [hz.1 hc |> fun e => (show Zbp f = true from e)] at hn; cases hn
    rw [if_pos (by simp only [decide_eq_true_eq]; omega), if_neg (by decide)]
  · have hz0 : (flL (XE f) 5 0 64).length = 0 := hz.2 hn
    have hnil : flL (XE f) 5 0 64 = [] := List.length_eq_zero_iff.1 hz0
    have hnb := Zkt f
    have v0 : ZI f 0 = some (wd f 0) := JA f (i := 0) (by decide)
    have v61 : ZI f 61 = some (wd f 61) := JA f (i := 61) (by decide)
    have v62 : ZI f 62 = some (wd f 62) := JA f (i := 62) (by decide)
    have v63 : ZI f 63 = some (wd f 63) := JA f (i := 63) (by decide)
    have w0 := h 0
    have w61 := h 61
    have w62 := h 62
    have w63 := h 63
    rw [hnil, if_neg (by decide), v0, Option.bind_some, (Zma h).2, Option.bind_some, Znr hnb.1, Option.bind_some, Zcs (z := wd f 0) (by omega) (by omega)]
    have s1 : (if (!decide (wd f 0 = ZaH (Jw f))) = true then (app ([] : List api_Flaw) ([(api_Flaw.mk 0 1)] : List api_Flaw)).bind fun l2 => some l2 else some []) = some (Zbl (decide (wd f 0 = ZaH (Jw f))) 0 1) := by
      by_cases hs : wd f 0 = ZaH (Jw f)
      · simp [hs, Zbl]
      · rw [ZcN (by simp)]; simp [hs, Zbl]
    rw [s1, Option.bind_some, Xl]
    have hl2 := Zi7 (body := Zc2 f) (ZjF f) 2 (a := 1) (b := 64) (by decide) (Zbl (decide (wd f 0 = ZaH (Jw f))) 0 1) (by have := (Zb8 (decide (wd f 0 = ZaH (Jw f))) 0 1).1; omega) (by decide) (fun l k hl _ hk => by
      unfold Zc2 ZjF
      have hw := h k
      rw [if_pos (by simp; omega), JA f hk, Option.bind_some, Zcs (z := wd f k) (by omega) (by omega), (ZmL ⟨hw.1, ZhZ hn k hk⟩).2, Option.bind_some, Zcs (by omega) (by omega)]
      cases ZiS (wd f k)
      · rw [if_pos (by decide), ZcN (by simp; omega), Option.bind_some]; rfl
      · rfl) (fun l => by unfold Zc2; rw [if_neg (by decide)])
    have e1 : (1 : Int) = ((1 : Nat) : Int) := rfl
    have e2 : (Zbl (decide (wd f 0 = ZaH (Jw f))) 0 1, (1 : Int)) = (Zbl (decide (wd f 0 = ZaH (Jw f))) 0 1, ((1 : Nat) : Int)) := rfl
    rw [e2, hl2, Option.bind_some, Xl, show 64 - 1 = 63 from rfl]
    have b1 := (Zb8 (decide (wd f 0 = ZaH (Jw f))) 0 1).1
    have b2 := ZiZ (ZjF f) 2 1 63
    have b3 := (Zb8 (decide (wd f 61 % 2048 = Zec f 60)) 61 3).1
    generalize hX : Zbl (decide (wd f 0 = ZaH (Jw f))) 0 1 ++ flL (ZjF f) 2 1 63 = X
    have bX : X.length ≤ 64 := by rw [← hX, List.length_append]; omega
    rw [v61, Option.bind_some, Zcs (z := wd f 61) (by omega) (by omega), ZiG w61.1 _ (by decide), Option.bind_some, (Zmy h).2, Option.bind_some]
    have s2 : (if (!decide (wd f 61 % 2048 = Zec f 60)) = true then (app X ([(api_Flaw.mk 61 3)] : List api_Flaw)).bind fun l4 => some l4 else some X) = some (X ++ Zbl (decide (wd f 61 % 2048 = Zec f 60)) 61 3) := by
      by_cases hs : wd f 61 % 2048 = Zec f 60
      · simp [hs, Zbl]
      · rw [ZcN (by simp; omega)]; simp [hs, Zbl]
    rw [s2, Option.bind_some, Xl]
    generalize hW : X ++ Zbl (decide (wd f 61 % 2048 = Zec f 60)) 61 3 = W
    have bW : W.length ≤ 65 := by rw [← hW, List.length_append]; omega
    rw [v62, Option.bind_some, Zcs (z := wd f 62) (by omega) (by omega), ZiG w62.1 _ (by decide), Option.bind_some, v63, Option.bind_some, Zcs (z := wd f 63) (by omega) (by omega), ZiG w63.1 _ (by decide), Option.bind_some, ZpY h, Option.bind_some]
    rw [Zcs (z := wd f 62 % 2048 * 2048) (by omega) (by omega), Zcs (z := wd f 62 % 2048 * 2048 + wd f 63 % 2048) (by omega) (by omega)]
    unfold ckW
    by_cases hs : wd f 62 % 2048 * 2048 + wd f 63 % 2048 = ckS f 744
    · simp [hs, Zbl]
    · rw [ZcN (by simp; omega)]; simp [hs, Zbl]
theorem ZoD {f : Vector Int 64} (h : fU f) : Zhb f = some (Zib f) := by
  unfold Zhb
  rw [ZmE h, Option.bind_some]
  congr 1
  unfold Zm6 Zib
  cases hn : Zbp f
  · have hz := Zi1 (XE f) 5 0 64
    have : ¬ (flL (XE f) 5 0 64).length = 0 := fun hc => by rw [hz.1 hc |> fun e => (show Zbp f = true from e)] at hn; cases hn
    rw [if_neg (by decide), Bool.false_and, decide_eq_false_iff_not]; omega
  · rw [if_pos rfl, Bool.true_and, Bool.eq_iff_iff, decide_eq_true_eq]
    simp only [List.length_append, Bool.and_eq_true]
    have b1 := (Zb8 (decide (wd f 0 = ZaH (Jw f))) 0 1).2
    have b2 := Zi1 (ZjF f) 2 1 63
    have b3 := (Zb8 (decide (wd f 61 % 2048 = Zec f 60)) 61 3).2
    have b4 := (Zb8 (decide (ckW f = ckS f 744)) 62 4).2
    rw [← b1, ← b2, ← b3, ← b4]
    omega
end Go.Vx

namespace Go.Vx
open Go Go.RowKit
noncomputable def Zk4 (f : Vector Int 64) : Int × Bool := if (ZiS (wd f 1) && ZiS (wd f 2)) = true then (Jw f, true) else (0, false)
theorem Zof {f : Vector Int 64} (h : fU f) (h1 : wd f 1 ≤ 4095) (h2 : wd f 2 ≤ 4095) : Jc f = some (Zk4 f) ∧ ZiD f = some (Zk4 f) := by
  have w1 := h 1
  have w2 := h 2
  have v1 : ZI f 1 = some (wd f 1) := JA f (i := 1) (by decide)
  have v2 : ZI f 2 = some (wd f 2) := JA f (i := 2) (by decide)
  obtain ⟨o1, o1'⟩ := ZmL (x := wd f 1) ⟨w1.1, h1⟩
  obtain ⟨o2, o2'⟩ := ZmL (x := wd f 2) ⟨w2.1, h2⟩
  obtain ⟨n1, n2⟩ := Zma h
  have right : ∀ x : Int, 0 ≤ x → x ≤ 4095 → Zcj x = some (ZiS x) → Ze2 x = some (ZiS x) := fun x a b e => by
    unfold Ze2
    rw [decide_eq_true b, ZqY, Zcs (by omega) (by omega), e, Option.bind_some, Bool.true_and]
  have r1 := right _ w1.1 h1 o1'
  have r2 := right _ w2.1 h2 o2'
  unfold Jc ZiD Zk4
  rw [v1, v2, Option.bind_some, Option.bind_some, o1, r1, Option.bind_some, Option.bind_some, n1, n2]
  generalize Jw f = n
  cases ZiS (wd f 1)
  · exact ⟨rfl, rfl⟩
  · simp only [Bool.not_true, ZrO, show (false == false) = true from rfl, Option.bind_some, o2, r2]
    cases ZiS (wd f 2)
    · exact ⟨rfl, rfl⟩
    · exact ⟨rfl, rfl⟩
end Go.Vx

namespace Go.Vx
open Go Go.RowKit
theorem Zo8 {f : Vector Int 64} (h : fU f) : Zam f = some (Zm6 f) := by
  have hl1 := Zi7 (body := Jp f) (XE f) 5 (a := 0) (b := 64) (by decide) [] (by decide) (by decide) (fun l k hl _ hk => by
    unfold Jp XE
    rw [if_pos (by simp; omega), JA f hk, Option.bind_some, Zcs (by omega) (by omega)]
    by_cases hw : 4095 < wd f k
    · rw [if_pos (by simpa using hw), if_neg (by simpa using hw), ZcN (by simp; omega), Option.bind_some]
    · rw [if_neg (by simpa using hw), if_pos (by simpa using hw)]) (fun l => by unfold Jp; rw [if_neg (by decide)])
  unfold Zam
  have e0 : (([] : List api_Flaw), (0 : Int)) = ([], ((0 : Nat) : Int)) := rfl
  rw [e0, hl1, Option.bind_some, Xl, List.nil_append, Nat.sub_zero]
  have hz := Zi1 (XE f) 5 0 64
  unfold Zm6
  cases hn : Zbp f
  · have : ¬ (flL (XE f) 5 0 64).length = 0 := fun hc => by rw [hz.1 hc |> fun e => (show Zbp f = true from e)] at hn; cases hn
    rw [if_pos (by simp only [decide_eq_true_eq]; omega), if_neg (by decide)]
  · have hz0 : (flL (XE f) 5 0 64).length = 0 := hz.2 hn
    have hnil : flL (XE f) 5 0 64 = [] := List.length_eq_zero_iff.1 hz0
    have hnb := Zkt f
    have v0 : ZI f 0 = some (wd f 0) := JA f (i := 0) (by decide)
    have v61 : ZI f 61 = some (wd f 61) := JA f (i := 61) (by decide)
    have v62 : ZI f 62 = some (wd f 62) := JA f (i := 62) (by decide)
    have v63 : ZI f 63 = some (wd f 63) := JA f (i := 63) (by decide)
    have w0 := h 0
    have w61 := h 61
    have w62 := h 62
    have w63 := h 63
    rw [hnil, if_neg (by decide), v0, Option.bind_some, (Zma h).1, Option.bind_some, (Zkw hnb.1).1, Option.bind_some, (Zkw hnb.1).2, Option.bind_some]
    have s1 : (if (!decide (wd f 0 = ZaH (Jw f))) = true then (app ([] : List api_Flaw) ([(api_Flaw.mk 0 1)] : List api_Flaw)).bind fun l2 => some l2 else some []) = some (Zbl (decide (wd f 0 = ZaH (Jw f))) 0 1) := by
      by_cases hs : wd f 0 = ZaH (Jw f)
      · simp [hs, Zbl]
      · rw [ZcN (by simp)]; simp [hs, Zbl]
    rw [s1, Option.bind_some, Xl]
    have hl2 := Zi7 (body := Js f) (ZjF f) 2 (a := 1) (b := 64) (by decide) (Zbl (decide (wd f 0 = ZaH (Jw f))) 0 1) (by have := (Zb8 (decide (wd f 0 = ZaH (Jw f))) 0 1).1; omega) (by decide) (fun l k hl _ hk => by
      unfold Js ZjF
      have hw := h k
      rw [if_pos (by simp; omega), JA f hk, Option.bind_some, (ZmL ⟨hw.1, ZhZ hn k hk⟩).1, Option.bind_some, Zcs (by omega) (by omega)]
      cases ZiS (wd f k)
      · rw [if_pos (by decide), ZcN (by simp; omega), Option.bind_some]; rfl
      · rfl) (fun l => by unfold Js; rw [if_neg (by decide)])
    have e1 : (1 : Int) = ((1 : Nat) : Int) := rfl
    have e2 : (Zbl (decide (wd f 0 = ZaH (Jw f))) 0 1, (1 : Int)) = (Zbl (decide (wd f 0 = ZaH (Jw f))) 0 1, ((1 : Nat) : Int)) := rfl
    rw [e2, hl2, Option.bind_some, Xl, show 64 - 1 = 63 from rfl]
    have b1 := (Zb8 (decide (wd f 0 = ZaH (Jw f))) 0 1).1
    have b2 := ZiZ (ZjF f) 2 1 63
    have b3 := (Zb8 (decide (wd f 61 % 2048 = Zec f 60)) 61 3).1
    generalize hX : Zbl (decide (wd f 0 = ZaH (Jw f))) 0 1 ++ flL (ZjF f) 2 1 63 = X
    have bX : X.length ≤ 64 := by rw [← hX, List.length_append]; omega
    rw [v61, Option.bind_some, Zio (h 61), Option.bind_some, (Zmy h).1, Option.bind_some]
    have s2 : (if (!decide (wd f 61 % 2048 = Zec f 60)) = true then (app X ([(api_Flaw.mk 61 3)] : List api_Flaw)).bind fun l4 => some l4 else some X) = some (X ++ Zbl (decide (wd f 61 % 2048 = Zec f 60)) 61 3) := by
      by_cases hs : wd f 61 % 2048 = Zec f 60
      · simp [hs, Zbl]
      · rw [ZcN (by simp; omega)]; simp [hs, Zbl]
    rw [s2, Option.bind_some, Xl]
    generalize hW : X ++ Zbl (decide (wd f 61 % 2048 = Zec f 60)) 61 3 = W
    have bW : W.length ≤ 65 := by rw [← hW, List.length_append]; omega
    have ob : 0 ≤ wd f 62 % 2048 ∧ wd f 62 % 2048 < 2048 := by omega
    have oc : 0 ≤ wd f 63 % 2048 ∧ wd f 63 % 2048 < 2048 := by omega
    have eb := (Zpw ob oc).2
    obtain ⟨q, hq, hq2⟩ : ∃ q, shl .i64 (wd f 62 % 2048) 11 = some q ∧ bor .i64 q (wd f 63 % 2048) = wd f 62 % 2048 * 2048 + wd f 63 % 2048 := by
      cases hh : shl .i64 (wd f 62 % 2048) 11 with
      | none => rw [hh] at eb; cases eb
      | some q => rw [hh, Option.bind_some] at eb; exact ⟨q, rfl, Option.some.inj eb⟩
    rw [v62, Option.bind_some, Zio (h 62), Option.bind_some, hq, Option.bind_some, v63, Option.bind_some, Zio (h 63), Option.bind_some, Zm1 h, Option.bind_some, hq2]
    unfold ckW
    by_cases hs : wd f 62 % 2048 * 2048 + wd f 63 % 2048 = ckS f 744
    · simp [hs, Zbl]
    · rw [ZcN (by simp; omega)]; simp [hs, Zbl]
theorem Znm {f : Vector Int 64} (h : fU f) : (0 < (Zm6 f).length) ↔ Zib f = false := by
  have := ZoD h
  unfold Zhb at this
  rw [ZmE h, Option.bind_some] at this
  have := Option.some.inj this
  rw [← this, decide_eq_false_iff_not]; omega
end Go.Vx
