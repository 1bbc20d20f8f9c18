/- A text of the proof: a verified executor of the program form, or the contracts of the functions that the law reaches. -/
import Derived.Test.YtjfoenlooacoiabGreatDoorPC
import Derived.Test.YtjfoenlooacoiabGreatDoorPB
import Derived.Test.YtjfoenlooacoiabGreatDoorPA
set_option linter.all false
namespace Go.Vx
open Go Go.RowKit
set_option maxHeartbeats 1000000
theorem Zmf {m : api_Memory} {s : ring_spot} (h1 : 0 ≤ s.sector) (h2 : s.slot ≠ m.Slots) : Qa m s = false := by
  unfold Qa
  rw [decide_eq_false (show ¬ s.sector < 0 by omega), decide_eq_false h2]; rfl
theorem Jn {m : api_Memory} {i k : Nat} {S W : List Int} (hi : i < m.Sectors.length) : (QG m i S W).Sectors.getD k [] = if k = i then S else m.Sectors.getD k [] := ZeC hi
theorem Zju {m0 m : api_Memory} {gs : List (Vector Int 64)} {s : ring_spot} (h : PgM m0 gs m s) (ok : MemOK m) (ht : gs.length % m.Slots.toNat ≠ 0) {f : Vector Int 64} (hf : fN f) {p : Int} (hp : 1000 ≤ p) :
    Qa m s = false ∧ (ZF m s (bytesF f) p).2.1 = true ∧ (ZF m s (bytesF f) p).1 = p - 97 ∧ PgM m0 (gs ++ [f]) (ZF m s (bytesF f) p).2.2.1 (ZF m s (bytesF f) p).2.2.2 := by
  have hn := ok.n
  have hsl := ok.slots
  have hS : 0 < m.Slots.toNat := by omega
  obtain ⟨g1, g2⟩ := Zo3 hS ht
  have hd := Nat.div_add_mod gs.length m.Slots.toNat
  have hm := Nat.mod_lt gs.length hS
  have hpos : 0 < gs.length := by
    rcases Nat.eq_zero_or_pos gs.length with w | w
    · rw [w] at ht; simp at ht
    · exact w
  obtain ⟨s1, s2⟩ := h.spot hpos
  rw [g1] at s1 s2
  rw [Nat.add_sub_cancel] at s1 s2
  have hrow := h.row (gs.length / m.Slots.toNat) (by rw [g1]; omega) (by rw [g1]; omega)
  have hcomm : gs.length / m.Slots.toNat * m.Slots.toNat = m.Slots.toNat * (gs.length / m.Slots.toNat) := Nat.mul_comm ..
  generalize hP : gs.length / m.Slots.toNat = P at *
  generalize hj : gs.length % m.Slots.toNat = j at *
  have hsj : s.slot = (j : Int) := by rw [s2]; omega
  have hil : P % m.Sectors.length < m.Sectors.length := Nat.mod_lt _ (by omega)
  have hL : Qa m s = false := Zmf (by rw [s1]; omega) (by rw [hsj]; omega)
  have hrl := ok.row _ (row_bd.getD_memL hil)
  have hfree := hrow j hm
  rw [if_neg (by omega)] at hfree
  have jb : 16 + j * 97 + 97 ≤ (m.Sectors.getD (P % m.Sectors.length) []).length := by omega
  obtain ⟨w1, w2, w3, w4, w5⟩ := Zg4 hf jb hfree (p := p) (by omega)
  have hwr : ZF m s (bytesF f) p = Jd m s (bytesF f) p := by unfold ZF; rw [hL]; rfl
  refine ⟨hL, ?_⟩
  rw [hwr]
  unfold Jd
  rw [s1, hsj]
  simp only [Int.toNat_natCast]
  generalize Qr (m.Sectors.getD (P % m.Sectors.length) []) (16 + j * 97) (bytesF f ++ [0]) p = Q at w1 w2 w3 w4 w5
  have en : (QG m (P % m.Sectors.length) Q.2.2 m.Wear).Sectors.length = m.Sectors.length := by simp [QG]
  have es : (QG m (P % m.Sectors.length) Q.2.2 m.Wear).Slots = m.Slots := rfl
  have el : (gs ++ [f]).length = gs.length + 1 := by simp
  refine ⟨w1, w2, ⟨h.slots, h.limit, h.bad, en.trans h.n, fun i hi => ?_, fun P' q1 q2 => ?_, fun P' q1 q2 k hk => ?_, fun i q1 q2 => ?_, fun q => by rw [el] at q; omega, fun _ => ?_⟩⟩
  · rw [en] at hi ⊢
    rw [es, el, g2]
    have := h.wear i hi
    rw [g1] at this
    exact this
  · rw [es, el, g2] at q1 q2
    rw [en] at q1 ⊢
    rw [Jn hil]
    have old := h.head P' (by rw [g1]; exact q1) (by rw [g1]; exact q2)
    by_cases e : P' % m.Sectors.length = P % m.Sectors.length
    · rw [if_pos e, w5, ← e]; exact old
    · rw [if_neg e]; exact old
  · rw [es, el, g2] at q1 q2
    rw [en] at q1 ⊢
    rw [es] at hk ⊢
    rw [el, Jn hil]
    have old := h.row P' (by rw [g1]; exact q1) (by rw [g1]; exact q2) k hk
    by_cases e : P' = P
    · subst e
      rw [if_pos rfl]
      by_cases ek : k = j
      · subst ek
        rw [w3, if_pos (by omega), Zeg, if_pos (by omega)]
      · rw [w4 k ek (by omega), old]
        by_cases c : P' * m.Slots.toNat + k < gs.length
        · rw [if_pos c, if_pos (by omega), Zeg, if_neg (by omega)]
        · rw [if_neg c, if_neg (by omega)]
    · have hlt : P' < P := by omega
      rw [if_neg (Zha hlt (by omega)), old]
      have hmul : P' * m.Slots.toNat + m.Slots.toNat ≤ P * m.Slots.toNat := by
        have := Nat.mul_le_mul_right m.Slots.toNat (show P' + 1 ≤ P from hlt)
        rw [Nat.add_mul, Nat.one_mul] at this; exact this
      rw [if_pos (by omega), if_pos (by omega), Zeg, if_neg (by omega)]
  · rw [es, el, g2] at q1
    rw [en] at q2
    rw [Jn hil, if_neg (by have := Nat.mod_le P m.Sectors.length; omega)]
    exact h.blank i (by rw [g1]; exact q1) q2
  · rw [es, el, g2, en]
    simp only
    rw [Nat.add_sub_cancel]
    exact ⟨rfl, by omega⟩
theorem ZkH {m0 m : api_Memory} {gs : List (Vector Int 64)} {s : ring_spot} (h : PgM m0 gs m s) (ok : MemOK m) (hb : ∀ i, m0.Bad.getD i false = false) (hlim : 60 ≤ m0.Limit) (hlt : gs.length < 100) (ht : gs.length % m.Slots.toNat = 0) :
    Qa m s = true ∧ QK m s.sector = ((gs.length / m.Slots.toNat % m.Sectors.length : Nat) : Int) ∧ ZaQ m ((gs.length / m.Slots.toNat % m.Sectors.length : Nat) : Int) = ((gs.length / m.Slots.toNat : Nat) : Int) + 1 := by
  have hn := ok.n
  have hsl := ok.slots
  have hS : 0 < m.Slots.toNat := by omega
  obtain ⟨g1, g2⟩ := Zn4 hS ht
  have hd := Nat.div_add_mod gs.length m.Slots.toNat
  have hq : gs.length / m.Slots.toNat ≤ gs.length := Nat.div_le_self ..
  rw [ht, Nat.add_zero] at hd
  have hwear := h.wear
  have hhead := h.head
  have hblank := h.blank
  have hspot := h.spot
  rw [g1] at hwear hhead hblank hspot
  have hspot0 := h.spot0
  generalize gs.length / m.Slots.toNat = q at *
  have hnpos : 0 < m.Sectors.length := by omega
  have hi : q % m.Sectors.length < m.Sectors.length := Nat.mod_lt _ hnpos
  have hx : Qa m s = true ∧ ZaT m s.sector 0 = q % m.Sectors.length := by
    rcases Nat.eq_zero_or_pos gs.length with w | w
    · have hs := hspot0 w
      have hq0 : q = 0 := by
        rcases Nat.eq_zero_or_pos q with z | z
        · exact z
        · have := Nat.mul_le_mul hS z; omega
      rw [hs]
      refine ⟨by unfold Qa; simp, ?_⟩
      unfold ZaT
      rw [hq0]; rfl
    · obtain ⟨s1, s2⟩ := hspot w
      have hq1 : 0 < q := by
        rcases Nat.eq_zero_or_pos q with z | z
        · rw [z, Nat.mul_zero] at hd; omega
        · exact z
      have e : (q - 1) * m.Slots.toNat + m.Slots.toNat = gs.length := by
        have : (q - 1 + 1) * m.Slots.toNat = gs.length := by rw [show q - 1 + 1 = q by omega, Nat.mul_comm]; exact hd
        rw [Nat.add_mul, Nat.one_mul] at this; exact this
      refine ⟨?_, ?_⟩
      · unfold Qa
        rw [decide_eq_true (show s.slot = m.Slots by rw [s2]; omega), Bool.or_true]
      · unfold ZaT
        rw [s1, Nat.add_zero, show (((((q - 1) % m.Sectors.length : Nat) : Int) + 1).toNat) = (q - 1) % m.Sectors.length + 1 by omega, Nat.mod_add_mod, show q - 1 + 1 = q by omega]
  have hok : Zbe m (q % m.Sectors.length) = true := by
    unfold Zbe
    have hw := hwear _ hi
    have hc := (Znv (p := q) hnpos hi).2
    have hdiv : q / m.Sectors.length ≤ q / 2 := Nat.div_le_div_left hn.1 (by omega)
    rw [h.bad, hb, hw, h.limit]
    simp only [Bool.not_false, Bool.true_and, decide_eq_true_eq]
    omega
  refine ⟨hx.1, ?_, ?_⟩
  · unfold QK
    have : Zaz (fun i => Zbe m (ZaT m s.sector i)) 1 = some 0 := by
      unfold Zaz Zaz
      simp only
      rw [hx.2, if_pos hok]
    rw [Zc2 this (by omega)]
    simp only
    rw [hx.2]
  · unfold ZaQ
    congr 1
    have page : ∀ i, i < m.Sectors.length → i < q → ∃ P, P < q ∧ q < P + 1 + m.Sectors.length ∧ P % m.Sectors.length = i := fun i hi' hiq => by
      refine ⟨i + m.Sectors.length * ((q - 1 - i) / m.Sectors.length), ?_, ?_, ?_⟩
      · have := Nat.div_mul_le_self (q - 1 - i) m.Sectors.length
        rw [Nat.mul_comm] at this; omega
      · have a := Nat.div_add_mod (q - 1 - i) m.Sectors.length
        have b := Nat.mod_lt (q - 1 - i) hnpos
        omega
      · rw [Nat.add_mul_mod_self_left, Nat.mod_eq_of_lt hi']
    have key : ∀ P, P < q → q < P + 1 + m.Sectors.length → (headV (m.Sectors.getD (P % m.Sectors.length) [])).1 = (P : Int) + 1 ∧ (headV (m.Sectors.getD (P % m.Sectors.length) [])).2.2 = true := fun P h1 h2 => by
      have hr := ok.row _ (row_bd.getD_memL (show P % m.Sectors.length < m.Sectors.length from Nat.mod_lt _ hnpos))
      exact Zmh (by omega) (by omega) (hhead P h2 h1)
    have up : Zdi m ((q % m.Sectors.length : Nat) : Int) m.Sectors.length ≤ (q : Int) := Ziq (by omega) _ fun i hi' hne hh => by
      rcases Nat.lt_or_ge i q with w | w
      · obtain ⟨P, p1, p2, rfl⟩ := page i hi' w
        rw [(key P p1 p2).1]; omega
      · obtain ⟨k, hk⟩ := hblank i w hi'
        have hr := ok.row _ (row_bd.getD_memL hi')
        rw [hk, List.length_replicate] at hr
        rw [hk, Zfg (by omega)] at hh; cases hh
    have lo : (q : Int) ≤ Zdi m ((q % m.Sectors.length : Nat) : Int) m.Sectors.length := by
      rcases Nat.eq_zero_or_pos q with w | w
      · have := Zew m ((q % m.Sectors.length : Nat) : Int) m.Sectors.length; omega
      · obtain ⟨k1, k2⟩ := key (q - 1) (by omega) (by omega)
        have hne : (q - 1) % m.Sectors.length ≠ q % m.Sectors.length := Zha (by omega) (by omega)
        have := ZkE (m := m) (sec := ((q % m.Sectors.length : Nat) : Int)) m.Sectors.length ((q - 1) % m.Sectors.length) (Nat.mod_lt _ hnpos) (by omega) k2
        rw [k1] at this; omega
    omega
theorem Zms {m0 m : api_Memory} {gs : List (Vector Int 64)} {s : ring_spot} (h : PgM m0 gs m s) (ok : MemOK m) (hb : ∀ i, m0.Bad.getD i false = false) (hlim : 60 ≤ m0.Limit) (hlt : gs.length < 100) (ht : gs.length % m.Slots.toNat = 0) {f : Vector Int 64} (hf : fN f) {p : Int} (hp : 1000 ≤ p) :
    Zcf m s ∧ (ZF m s (bytesF f) p).2.1 = true ∧ (ZF m s (bytesF f) p).1 = p - 108 ∧ PgM m0 (gs ++ [f]) (ZF m s (bytesF f) p).2.2.1 (ZF m s (bytesF f) p).2.2.2 := by
  have hn := ok.n
  have hsl := ok.slots
  have hS : 0 < m.Slots.toNat := by omega
  obtain ⟨hL, hN, hQ⟩ := ZkH h ok hb hlim hlt ht
  obtain ⟨g1, g2⟩ := Zn4 hS ht
  have hd := Nat.div_add_mod gs.length m.Slots.toNat
  rw [ht, Nat.add_zero] at hd
  have hcomm : gs.length / m.Slots.toNat * m.Slots.toNat = m.Slots.toNat * (gs.length / m.Slots.toNat) := Nat.mul_comm ..
  have hq : gs.length / m.Slots.toNat ≤ gs.length := Nat.div_le_self ..
  generalize gs.length / m.Slots.toNat = q at *
  have hi : q % m.Sectors.length < m.Sectors.length := Nat.mod_lt _ (by omega)
  have hrl := ok.row _ (row_bd.getD_memL hi)
  refine ⟨fun _ => by rw [hN, hQ]; exact ⟨by omega, by omega⟩, ?_⟩
  obtain ⟨a1, a2, a3, a4, a5⟩ := Zjq (n := (m.Sectors.getD (q % m.Sectors.length) []).length) (by omega) (v := (q : Int) + 1) (by omega) (p := p - 1) (by omega)
  have hA : QA m s p = ((Qr (List.replicate (m.Sectors.getD (q % m.Sectors.length) []).length 255) 0 (hdL ((q : Int) + 1)) (p - 1)).1, (Qr (List.replicate (m.Sectors.getD (q % m.Sectors.length) []).length 255) 0 (hdL ((q : Int) + 1)) (p - 1)).2.1,
      QG m (q % m.Sectors.length) (Qr (List.replicate (m.Sectors.getD (q % m.Sectors.length) []).length 255) 0 (hdL ((q : Int) + 1)) (p - 1)).2.2 (m.Wear.set (q % m.Sectors.length) (m.Wear.getD (q % m.Sectors.length) 0 + 1)), ⟨((q % m.Sectors.length : Nat) : Int), 0⟩) := by
    unfold QA
    simp only
    rw [if_neg (by omega), hN]
    simp only [Int.toNat_natCast]
    rw [hQ, a1]; rfl
  generalize Qr (List.replicate (m.Sectors.getD (q % m.Sectors.length) []).length 255) 0 (hdL ((q : Int) + 1)) (p - 1) = A at a1 a2 a3 a4 a5 hA
  have hwr : ZF m s (bytesF f) p = Jd (QG m (q % m.Sectors.length) A.2.2 (m.Wear.set (q % m.Sectors.length) (m.Wear.getD (q % m.Sectors.length) 0 + 1))) ⟨((q % m.Sectors.length : Nat) : Int), 0⟩ (bytesF f) A.1 := by
    unfold ZF
    rw [hL, if_pos rfl, hA, if_pos (show A.2.1 = true from a1)]
  rw [hwr]
  unfold Jd
  simp only [Int.toNat_natCast, Int.toNat_zero, Nat.zero_mul, Nat.add_zero]
  have e2 : ∀ T, QG (QG m (q % m.Sectors.length) A.2.2 (m.Wear.set (q % m.Sectors.length) (m.Wear.getD (q % m.Sectors.length) 0 + 1))) (q % m.Sectors.length) T (QG m (q % m.Sectors.length) A.2.2 (m.Wear.set (q % m.Sectors.length) (m.Wear.getD (q % m.Sectors.length) 0 + 1))).Wear = QG m (q % m.Sectors.length) T (m.Wear.set (q % m.Sectors.length) (m.Wear.getD (q % m.Sectors.length) 0 + 1)) := fun T => ZoK ..
  rw [Jn hi, if_pos rfl, e2]
  have free0 : ∀ j, 16 + j * 97 + 97 ≤ A.2.2.length → slotL A.2.2 j = List.replicate 97 255 := fun j hj => by
    rw [ZcD (t := List.replicate A.2.2.length 255) (by rw [List.length_replicate]) hj (fun k h1 h2 => by rw [a5 k (by omega) (by omega), ZeP (by omega)]), ZhY hj]
  obtain ⟨w1, w2, w3, w4, w5⟩ := Zg4 (S := A.2.2) (j := 0) hf (by omega) (free0 0 (by omega)) (p := A.1) (by omega)
  rw [Nat.zero_mul, Nat.add_zero] at w1 w2 w3 w4 w5
  generalize Qr A.2.2 16 (bytesF f ++ [0]) A.1 = Q at w1 w2 w3 w4 w5
  have en : (QG m (q % m.Sectors.length) Q.2.2 (m.Wear.set (q % m.Sectors.length) (m.Wear.getD (q % m.Sectors.length) 0 + 1))).Sectors.length = m.Sectors.length := by simp [QG]
  have es : (QG m (q % m.Sectors.length) Q.2.2 (m.Wear.set (q % m.Sectors.length) (m.Wear.getD (q % m.Sectors.length) 0 + 1))).Slots = m.Slots := rfl
  have el : (gs ++ [f]).length = gs.length + 1 := by simp
  have hwear := h.wear
  have hhead := h.head
  have hrow := h.row
  have hblank := h.blank
  rw [g1] at hwear hhead hrow hblank
  refine ⟨w1, by rw [w2, a2]; omega, ⟨h.slots, h.limit, h.bad, en.trans h.n, fun i hi' => ?_, fun P' q1 q2 => ?_, fun P' q1 q2 k hk => ?_, fun i q1 q2 => ?_, fun z => by rw [el] at z; omega, fun _ => ?_⟩⟩
  · rw [en] at hi' ⊢
    rw [es, el, g2, ZkZ (by omega) hi']
    show (m.Wear.set (q % m.Sectors.length) (m.Wear.getD (q % m.Sectors.length) 0 + 1)).getD i 0 = _
    by_cases e : i = q % m.Sectors.length
    · rw [if_pos e, ← e, Zc3 (by have := ok.wear; omega), hwear i hi']; omega
    · rw [if_neg e, Zad (fun w => e w.symm), hwear i hi', Nat.add_zero]
  · rw [es, el, g2] at q1 q2
    rw [en] at q1 ⊢
    rw [Jn hi]
    by_cases e : P' = q
    · subst e
      rw [if_pos rfl, w5, a4]
    · rw [if_neg (Zha (by omega) (by omega))]
      exact hhead P' (by omega) (by omega)
  · rw [es, el, g2] at q1 q2
    rw [en] at q1 ⊢
    rw [es] at hk ⊢
    rw [el, Jn hi]
    by_cases e : P' = q
    · subst e
      rw [if_pos rfl]
      by_cases ek : k = 0
      · subst ek
        rw [w3, if_pos (by omega), Zeg, if_pos (by omega)]
      · rw [w4 k ek (by omega), free0 k (by omega), if_neg (by omega)]
    · have hlt' : P' < q := by omega
      rw [if_neg (Zha hlt' (by omega)), hrow P' (by omega) hlt' k hk]
      have hmul : P' * m.Slots.toNat + m.Slots.toNat ≤ q * m.Slots.toNat := by
        have := Nat.mul_le_mul_right m.Slots.toNat (show P' + 1 ≤ q from hlt')
        rw [Nat.add_mul, Nat.one_mul] at this; exact this
      rw [if_pos (by omega), if_pos (by omega), Zeg, if_neg (by omega)]
  · rw [es, el, g2] at q1
    rw [en] at q2
    rw [Jn hi, if_neg (by have := Nat.mod_le q m.Sectors.length; omega)]
    exact hblank i (by omega) q2
  · rw [es, el, g2, en]
    simp only
    rw [Nat.add_sub_cancel]
    exact ⟨rfl, by omega⟩
end Go.Vx

namespace Go.Vx
open Go Go.RowKit
set_option maxHeartbeats 1000000
theorem Zne {m0 m : api_Memory} {gs : List (Vector Int 64)} {s : ring_spot} (h : PgM m0 gs m s) (ok : MemOK m) (hb : ∀ i, m0.Bad.getD i false = false) (hlim : 60 ≤ m0.Limit) (hlt : gs.length < 100) {f : Vector Int 64} (hf : fN f) {p : Int} (hp : 1000 ≤ p) :
    Zcf m s ∧ (ZF m s (bytesF f) p).2.1 = true ∧ p - 108 ≤ (ZF m s (bytesF f) p).1 ∧ PgM m0 (gs ++ [f]) (ZF m s (bytesF f) p).2.2.1 (ZF m s (bytesF f) p).2.2.2 := by
  by_cases ht : gs.length % m.Slots.toNat = 0
  · obtain ⟨a, b, c, d⟩ := Zms h ok hb hlim hlt ht hf hp
    exact ⟨a, b, by omega, d⟩
  · obtain ⟨a, b, c, d⟩ := Zju h ok ht hf hp
    exact ⟨fun w => (by rw [a] at w; cases w), b, by omega, d⟩
def isT (a i n j : Nat) : Bool := (List.range i).any fun k => decide ((a + k) % n = j)
theorem ZmH (a i n j : Nat) : isT a (i + 1) n j = (isT a i n j || decide ((a + i) % n = j)) := by
  unfold isT
  rw [List.range_succ, List.any_append]; simp
theorem ZoS {a i n : Nat} (hi : i < n) : isT a i n ((a + i) % n) = false := by
  unfold isT
  rw [List.any_eq_false]
  intro k hk
  have hk' := List.mem_range.1 hk
  rw [decide_eq_true_eq]
  intro e
  have := Zlu (a := a) (n := n) (by omega) hi e
  omega
def gsJ (F : Nat → Vector Int 64) (a c n j : Nat) : Nat → List (Vector Int 64)
  | 0 => []
  | K + 1 => gsJ F a c n j K ++ if isT (a + K) c n j = true then [F K] else []
theorem ZiB (F : Nat → Vector Int 64) (a c n j : Nat) : ∀ K, (gsJ F a c n j K).length ≤ K
  | 0 => Nat.le_refl _
  | K + 1 => by
    have := ZiB F a c n j K
    unfold gsJ
    rw [List.length_append]
    split <;> simp <;> omega
structure BlkM (m : api_Memory) : Prop where
  bad : ∀ i, m.Bad.getD i false = false
  lim : 60 ≤ m.Limit
structure KI (l : List api_Memory) (G : Nat → List (Vector Int 64)) (r : ring_Recorder) (c : Nat) : Prop where
  j : RecJ r
  st : r.stopped = false
  fz : r.frozen = false
  n : r.bank.memories.length = l.length
  c : r.copies = (c : Int)
  pg : ∀ k, k < l.length → PgM (l.getD k dfM) (G k) (r.bank.memories.getD k dfM) (r.bank.spots.getD k dfS)
end Go.Vx

namespace Go.Vx
open Go Go.RowKit
noncomputable def ZnU (n : Nat) : Bool := match Q8 (n : Int) with
  | some w => decide (0 ≤ w) && (decide (w ≤ 4095) && (decide (w % 2048 = (n : Int)) && Zd2 w))
  | none => false
theorem Zmn : (List.range 2048).all ZnU = true := by decide +kernel
noncomputable def wdv (d : Int) : Int := (Q8 d).getD 0
theorem Zaj {d : Int} (h : 0 ≤ d ∧ d ≤ 2047) : Q8 d = some (wdv d) ∧ (0 ≤ wdv d ∧ wdv d ≤ 4095) ∧ wdv d % 2048 = d ∧ Zd2 (wdv d) = true := by
  obtain ⟨n, rfl⟩ : ∃ n : Nat, d = n := ⟨d.toNat, by omega⟩
  have := List.all_eq_true.1 Zmn n (List.mem_range.2 (by omega))
  unfold ZnU at this
  unfold wdv
  cases hw : Q8 (n : Int) with
  | none => rw [hw] at this; cases this
  | some w =>
    rw [hw] at this
    simp only [Bool.and_eq_true, decide_eq_true_eq] at this
    obtain ⟨a, b, c, d⟩ := this
    exact ⟨rfl, ⟨a, b⟩, c, d⟩
theorem Zc8 (f : Vector Int 64) {i : Nat} (x : Int) (hi : i < 64) (j : Nat) : wd (Qz f (i : Int) x) j = if j = i then x else wd f j := by
  unfold wd
  rw [ZbR, Int.toNat_natCast, List.getD_eq_getElem?_getD, List.getElem?_set]
  by_cases h : i = j
  · subst h
    rw [if_pos rfl, if_pos (by simp; omega), if_pos rfl]; rfl
  · rw [if_neg h, if_neg (fun e => h e.symm), List.getD_eq_getElem?_getD]
theorem Zj8 (j : Nat) : wd (Vector.replicate 64 (0 : Int)) j = 0 := by
  unfold wd
  rw [Vector.toList_replicate, List.getD_eq_getElem?_getD, List.getElem?_replicate]; split <;> rfl
theorem Zhz {f g : Vector Int 64} : ∀ k, (∀ i, 1 ≤ i → i ≤ k → wd f i = wd g i) → Jy f k = Jy g k
  | 0, _ => rfl
  | k + 1, h => by rw [Jy, Jy, Zhz k (fun i a b => h i a (by omega)), h (k + 1) (by omega) (by omega)]
theorem Zj4 {f g : Vector Int 64} (h : ∀ i, i < 62 → wd f i = wd g i) : Zbh f = Zbh g := by
  funext j
  unfold Zbh
  by_cases hj : j < 744
  · rw [h (j / 12) (by omega)]
  · rw [decide_eq_false hj]; rfl
noncomputable def J6 (f0 : Vector Int 64) (data : List Int) : Nat → Vector Int 64
  | 0 => f0
  | k + 1 => Qz (J6 f0 data k) ((3 + k : Nat) : Int) (wdv (data.getD k 0))
theorem ZiD (f0 : Vector Int 64) (data : List Int) (j : Nat) : ∀ k, k ≤ 58 → wd (J6 f0 data k) j = if 3 ≤ j ∧ j < 3 + k then wdv (data.getD (j - 3) 0) else wd f0 j
  | 0, _ => by rw [J6, if_neg (by omega)]
  | k + 1, hk => by
    rw [J6, Zc8 _ _ (by omega), ZiD f0 data j k (by omega)]
    by_cases hj : j = 3 + k
    · subst hj
      rw [if_pos rfl, if_pos (by omega), show 3 + k - 3 = k by omega]
    · rw [if_neg hj]
      by_cases h2 : 3 ≤ j ∧ j < 3 + k
      · rw [if_pos h2, if_pos (by omega)]
      · rw [if_neg h2, if_neg (by omega)]
noncomputable def ZdD (f : Vector Int 64) : Vector Int 64 := Qz f ((0 : Nat) : Int) (XG (QU f))
noncomputable def Zbg (f : Vector Int 64) : Vector Int 64 := Qz (ZdD f) ((61 : Nat) : Int) (wdv (Jy (ZdD f) 60))
noncomputable def ZjA (f : Vector Int 64) : Vector Int 64 := Qz (Zbg f) ((62 : Nat) : Int) (wdv (ckS (Zbg f) 744 / 2048))
noncomputable def ZcW (f : Vector Int 64) : Vector Int 64 := Qz (ZjA f) ((63 : Nat) : Int) (wdv (ckS (Zbg f) 744 % 2048))
theorem Zld (f : Vector Int 64) (k : Nat) : 0 ≤ ckS f k ∧ ckS f k < 4194304 := by
  unfold ckS
  have := (pS (Zbh f) k).isLt
  omega
theorem ZkI (n : Int) : 0 ≤ XG n ∧ XG n ≤ 4095 := by
  unfold XG
  have h : n % 4 = 0 ∨ n % 4 = 1 ∨ n % 4 = 2 ∨ n % 4 = 3 := by omega
  rcases h with e | e | e | e <;> rw [e] <;> decide
theorem Zij {f : Vector Int 64} (h : fU f) {i : Nat} (hi : i < 64) {x : Int} (hx : 0 ≤ x ∧ x ≤ 65535) : fU (Qz f (i : Int) x) := by
  intro j
  rw [Zc8 f x hi]
  split
  · exact hx
  · exact h j
theorem Zlp {f : Vector Int 64} (h : fU f) : JA f = some (ZcW f) := by
  have hb := ZgB f
  have hsy := ZkI (QU f)
  have h1 : fU (ZdD f) := Zij h (by decide) (by omega)
  have hsb := ZiC (ZdD f) 60
  obtain ⟨w1, w2, _, _⟩ := Zaj (d := Jy (ZdD f) 60) (by omega)
  have h2 : fU (Zbg f) := Zij h1 (by decide) (by omega)
  have hcb := Zld (Zbg f) 744
  obtain ⟨v1, v2, _, _⟩ := Zaj (d := ckS (Zbg f) 744 / 2048) (by omega)
  obtain ⟨u1, u2, _, _⟩ := Zaj (d := ckS (Zbg f) 744 % 2048) (by omega)
  have i0 : ZM f 0 = some (wd f 0) := QY f (i := 0) (by decide)
  have i61 : ZM (ZdD f) 61 = some (wd (ZdD f) 61) := QY _ (i := 61) (by decide)
  have i62 : ZM (Zbg f) 62 = some (wd (Zbg f) 62) := QY _ (i := 62) (by decide)
  have i63 : ZM (ZjA f) 63 = some (wd (ZjA f) 63) := QY _ (i := 63) (by decide)
  have e1 : Qz f 0 (XG (QU f)) = ZdD f := rfl
  have e2 : Qz (ZdD f) 61 (wdv (Jy (ZdD f) 60)) = Zbg f := rfl
  have e3 : Qz (Zbg f) 62 (wdv (ckS (Zbg f) 744 / 2048)) = ZjA f := rfl
  have e4 : Qz (ZjA f) 63 (wdv (ckS (Zbg f) 744 % 2048)) = ZcW f := rfl
  have sh : shr .i64 (ckS (Zbg f) 744) 11 = some (ckS (Zbg f) 744 / 2048) := Zim _ (k := 11) (by decide)
  have bd : QJ .i64 (ckS (Zbg f) 744) 2047 = ckS (Zbg f) 744 % 2048 := Zfr (v := ckS (Zbg f) 744) (n := 11) (by decide)
  unfold JA
  rw [(ZgQ h).1, Option.bind_some, (ZfH hb.1).1, Option.bind_some, (ZfH hb.1).2, Option.bind_some, i0, Option.bind_some, e1, (Zip h1).1, Option.bind_some, w1, Option.bind_some, i61, Option.bind_some, e2, Zib h2, Option.bind_some, sh, Option.bind_some, v1, Option.bind_some, bd, u1, Option.bind_some, i62, Option.bind_some, e3, i63, Option.bind_some, e4]
structure Made (f : Vector Int 64) (n : Int) (data : List Int) : Prop where
  u : fU f
  nar : ∀ i, wd f i ≤ 4095
  snd : sndB f = true
  num : numN f = (n, true)
  dat : ∀ j, j < 58 → wd f (3 + j) % 2048 = data.getD j 0
noncomputable def beg (n : Int) : Vector Int 64 := Qz (Qz (Vector.replicate 64 (0 : Int)) ((1 : Nat) : Int) (wdv (n % 2048))) ((2 : Nat) : Int) (wdv (n / 2048))
theorem Znn {n : Int} {data : List Int} (hn : 0 ≤ n ∧ n < 4194304) (hl : data.length = 58) (hd : ∀ d ∈ data, 0 ≤ d ∧ d ≤ 2047) : (∀ j, wd (J6 (beg n) data 58) j = if 3 ≤ j ∧ j < 61 then wdv (data.getD (j - 3) 0) else if j = 2 then wdv (n / 2048) else if j = 1 then wdv (n % 2048) else 0) ∧ ∀ j, 0 ≤ wd (J6 (beg n) data 58) j ∧ wd (J6 (beg n) data 58) j ≤ 4095 := by
  obtain ⟨a1, a2, a3, a4⟩ := Zaj (d := n % 2048) (by omega)
  obtain ⟨b1, b2, b3, b4⟩ := Zaj (d := n / 2048) (by omega)
  have hg : ∀ k, k < 58 → 0 ≤ data.getD k 0 ∧ data.getD k 0 ≤ 2047 := fun k hk => by
    obtain ⟨x, hx⟩ := Xz (xs := data) (k := k) (by omega)
    rw [List.getD_eq_getElem?_getD, hx]
    exact hd x (List.mem_of_getElem? hx)
  have hbeg : ∀ j, wd (beg n) j = if j = 2 then wdv (n / 2048) else if j = 1 then wdv (n % 2048) else 0 := fun j => by
    unfold beg
    rw [Zc8 _ _ (by decide), Zc8 _ _ (by decide), Zj8]
  have hW : ∀ j, wd (J6 (beg n) data 58) j = if 3 ≤ j ∧ j < 61 then wdv (data.getD (j - 3) 0) else if j = 2 then wdv (n / 2048) else if j = 1 then wdv (n % 2048) else 0 := fun j => by
    rw [ZiD _ _ _ 58 (by decide), hbeg]
  have hU : ∀ j, 0 ≤ wd (J6 (beg n) data 58) j ∧ wd (J6 (beg n) data 58) j ≤ 4095 := fun j => by
    rw [hW]
    split
    · exact (Zaj (hg (j - 3) (by omega))).2.1
    · split
      · exact b2
      · split
        · exact a2
        · omega
  exact ⟨hW, hU⟩
theorem Zpr {n : Int} {data : List Int} (hn : 0 ≤ n ∧ n < 4194304) (hl : data.length = 58) (hd : ∀ d ∈ data, 0 ≤ d ∧ d ≤ 2047) : XX n data = some (ZcW (J6 (beg n) data 58), 0) := by
  obtain ⟨a1, a2, a3, a4⟩ := Zaj (d := n % 2048) (by omega)
  obtain ⟨b1, b2, b3, b4⟩ := Zaj (d := n / 2048) (by omega)
  obtain ⟨_, hU⟩ := Znn hn hl hd
  have hfU : fU (J6 (beg n) data 58) := fun j => by have := hU j; omega
  have L := ZeD (body := X5 data) (J6 (beg n) data) (.inr (J6 (beg n) data 58) : (Vector Int 64 × Int) ⊕ Vector Int 64) (a := 0) (b := 58) (by decide) (fun k _ hk => by
    obtain ⟨x, hx⟩ := Xz (xs := data) (k := k) (by omega)
    have hdx := hd x (List.mem_of_getElem? hx)
    have hgx : data.getD k 0 = x := by rw [List.getD_eq_getElem?_getD, hx]; rfl
    unfold X5
    rw [if_pos (by rw [decide_eq_true_eq]; omega), Zm hx, Option.bind_some, if_neg (by rw [decide_eq_false (by omega), decide_eq_false (by omega)]; decide), (Zaj hdx).1, Option.bind_some, Zbd (z := 3 + (k : Int)) (by omega) (by omega), show 3 + (k : Int) = ((3 + k : Nat) : Int) by push_cast; rfl, QY _ (by omega), Option.bind_some, Zbd (by omega) (by omega), J6, hgx]) (by
    unfold X5
    rw [if_neg (by rw [decide_eq_true_eq]; omega)])
  have e0 : QJ .i64 n 2047 = n % 2048 := Zfr (v := n) (n := 11) (by decide)
  have e1 : shr .i64 n 11 = some (n / 2048) := Zim _ (k := 11) (by decide)
  have i1 : ZM (Vector.replicate 64 (0 : Int)) 1 = some (wd (Vector.replicate 64 (0 : Int)) 1) := QY _ (i := 1) (by decide)
  have i2 : ZM (Qz (Vector.replicate 64 0) 1 (wdv (n % 2048))) 2 = some (wd (Qz (Vector.replicate 64 0) 1 (wdv (n % 2048))) 2) := QY _ (i := 2) (by decide)
  have eb : Qz (Qz (Vector.replicate 64 0) 1 (wdv (n % 2048))) 2 (wdv (n / 2048)) = J6 (beg n) data 0 := rfl
  unfold XX
  rw [if_neg (by rw [decide_eq_false (by omega), decide_eq_false (by omega)]; decide), if_neg (by rw [decide_eq_true (by omega)]; decide), e0, a1, Option.bind_some, e1, Option.bind_some, b1, Option.bind_some, i1, Option.bind_some, i2, Option.bind_some, eb]
  have L' : loop (t2 (X5 data)) (J6 (beg n) data 0, 0) = some (.inr (J6 (beg n) data 58)) := L
  rw [L', Option.bind_some, Sum.elim_inr, Qx, Zlp hfU, Option.bind_some]
theorem ZpR {n : Int} {data : List Int} (hn : 0 ≤ n ∧ n < 4194304) (hl : data.length = 58) (hd : ∀ d ∈ data, 0 ≤ d ∧ d ≤ 2047) : ∃ f, XX n data = some (f, 0) ∧ Made f n data := by
  obtain ⟨a1, a2, a3, a4⟩ := Zaj (d := n % 2048) (by omega)
  obtain ⟨b1, b2, b3, b4⟩ := Zaj (d := n / 2048) (by omega)
  have hg : ∀ k, k < 58 → 0 ≤ data.getD k 0 ∧ data.getD k 0 ≤ 2047 := fun k hk => by
    obtain ⟨x, hx⟩ := Xz (xs := data) (k := k) (by omega)
    rw [List.getD_eq_getElem?_getD, hx]
    exact hd x (List.mem_of_getElem? hx)
  have hbeg : ∀ j, wd (beg n) j = if j = 2 then wdv (n / 2048) else if j = 1 then wdv (n % 2048) else 0 := fun j => by
    unfold beg
    rw [Zc8 _ _ (by decide), Zc8 _ _ (by decide), Zj8]
  have hW : ∀ j, wd (J6 (beg n) data 58) j = if 3 ≤ j ∧ j < 61 then wdv (data.getD (j - 3) 0) else if j = 2 then wdv (n / 2048) else if j = 1 then wdv (n % 2048) else 0 := fun j => by
    rw [ZiD _ _ _ 58 (by decide), hbeg]
  have hU : ∀ j, 0 ≤ wd (J6 (beg n) data 58) j ∧ wd (J6 (beg n) data 58) j ≤ 4095 := fun j => by
    rw [hW]
    split
    · exact (Zaj (hg (j - 3) (by omega))).2.1
    · split
      · exact b2
      · split
        · exact a2
        · omega
  have hfU : fU (J6 (beg n) data 58) := fun j => by have := hU j; omega
  refine ⟨ZcW (J6 (beg n) data 58), Zpr hn hl hd, ?_⟩
  generalize hF : J6 (beg n) data 58 = F at hU hfU hW
  have hsy := ZkI (QU F)
  have h1 : fU (ZdD F) := Zij hfU (by decide) (by omega)
  have hsb := ZiC (ZdD F) 60
  obtain ⟨_, w2, w3, w4⟩ := Zaj (d := Jy (ZdD F) 60) (by omega)
  have h2 : fU (Zbg F) := Zij h1 (by decide) (by omega)
  have hcb := Zld (Zbg F) 744
  obtain ⟨_, v2, v3, v4⟩ := Zaj (d := ckS (Zbg F) 744 / 2048) (by omega)
  obtain ⟨_, u2, u3, u4⟩ := Zaj (d := ckS (Zbg F) 744 % 2048) (by omega)
  have g1 : ∀ j, wd (ZdD F) j = if j = 0 then XG (QU F) else wd F j := fun j => Zc8 _ _ (by decide) j
  have g2 : ∀ j, wd (Zbg F) j = if j = 61 then wdv (Jy (ZdD F) 60) else wd (ZdD F) j := fun j => Zc8 _ _ (by decide) j
  have g3 : ∀ j, wd (ZjA F) j = if j = 62 then wdv (ckS (Zbg F) 744 / 2048) else wd (Zbg F) j := fun j => Zc8 _ _ (by decide) j
  have g4 : ∀ j, wd (ZcW F) j = if j = 63 then wdv (ckS (Zbg F) 744 % 2048) else wd (ZjA F) j := fun j => Zc8 _ _ (by decide) j
  have G : ∀ j, 1 ≤ j → j ≤ 60 → wd (ZcW F) j = wd F j := fun j a b => by rw [g4, if_neg (by omega), g3, if_neg (by omega), g2, if_neg (by omega), g1, if_neg (by omega)]
  have G1 : ∀ j, 1 ≤ j → j ≤ 60 → wd (ZdD F) j = wd F j := fun j a b => by rw [g1, if_neg (by omega)]
  have K0 : wd (ZcW F) 0 = XG (QU F) := by rw [g4, if_neg (by decide), g3, if_neg (by decide), g2, if_neg (by decide), g1, if_pos rfl]
  have K61 : wd (ZcW F) 61 = wdv (Jy (ZdD F) 60) := by rw [g4, if_neg (by decide), g3, if_neg (by decide), g2, if_pos rfl]
  have K62 : wd (ZcW F) 62 = wdv (ckS (Zbg F) 744 / 2048) := by rw [g4, if_neg (by decide), g3, if_pos rfl]
  have K63 : wd (ZcW F) 63 = wdv (ckS (Zbg F) 744 % 2048) := by rw [g4, if_pos rfl]
  have f1 : wd F 1 = wdv (n % 2048) := by rw [hW, if_neg (by omega), if_neg (by decide), if_pos rfl]
  have f2 : wd F 2 = wdv (n / 2048) := by rw [hW, if_neg (by omega), if_pos rfl]
  have fD : ∀ j, j < 58 → wd F (3 + j) = wdv (data.getD j 0) := fun j hj => by rw [hW, if_pos (by omega), show 3 + j - 3 = j by omega]
  have efn : QU (ZcW F) = QU F := by unfold QU; rw [G 1 (by decide) (by decide), G 2 (by decide) (by decide)]
  have fnv : QU F = n := by unfold QU; rw [f1, f2, a3, b3]; omega
  have hall : ∀ j, 0 ≤ wd (ZcW F) j ∧ wd (ZcW F) j ≤ 4095 := fun j => by
    rw [g4]; split
    · exact u2
    · rw [g3]; split
      · exact v2
      · rw [g2]; split
        · exact w2
        · rw [g1]; split
          · exact hsy
          · exact hU j
  have o1 : Zd2 (wd (ZcW F) 1) = true := by rw [G 1 (by decide) (by decide), f1]; exact a4
  have o2 : Zd2 (wd (ZcW F) 2) = true := by rw [G 2 (by decide) (by decide), f2]; exact b4
  have odd : ∀ j, 1 ≤ j → j < 64 → Zd2 (wd (ZcW F) j) = true := fun j a b => by
    rcases Nat.lt_or_ge j 61 with hj | hj
    · rcases (show j = 1 ∨ j = 2 ∨ 3 ≤ j by omega) with rfl | rfl | h3
      · exact o1
      · exact o2
      · rw [G j a (by omega), show j = 3 + (j - 3) by omega, fD _ (by omega)]
        exact (Zaj (hg _ (by omega))).2.2.2
    · rcases (show j = 61 ∨ j = 62 ∨ j = 63 by omega) with rfl | rfl | rfl
      · rw [K61]; exact w4
      · rw [K62]; exact v4
      · rw [K63]; exact u4
  refine ⟨fun j => by have := hall j; omega, fun j => (hall j).2, ?_, ?_, fun j hj => ?_⟩
  · unfold sndB
    have n1 : Zas (ZcW F) = true := List.all_eq_true.2 fun k _ => decide_eq_true (hall k).2
    have n2 : (List.range' 1 63).all (Zgr (ZcW F)) = true := List.all_eq_true.2 fun k hk => by
      obtain ⟨i, hi, rfl⟩ := List.mem_range'.1 hk
      exact odd _ (by omega) (by omega)
    have n3 : Jy (ZcW F) 60 = Jy (ZdD F) 60 := Zhz 60 fun i a b => by rw [G i a b, G1 i a b]
    have n4 : Zbh (ZcW F) = Zbh (Zbg F) := Zj4 fun i hi => by rw [g4, if_neg (by omega), g3, if_neg (by omega)]
    have n5 : ckS (ZcW F) 744 = ckS (Zbg F) 744 := by unfold ckS; rw [n4]
    have n6 : ckW (ZcW F) = ckS (Zbg F) 744 := by unfold ckW; rw [K62, K63, v3, u3]; omega
    rw [n1, n2, n3, n5, n6, K0, efn, K61, w3, decide_eq_true rfl, decide_eq_true rfl, decide_eq_true rfl]
    rfl
  · unfold numN
    rw [o1, o2, efn, fnv]
    rfl
  · rw [G _ (by omega) (by omega), fD j hj]
    exact (Zaj (hg j hj)).2.2.1
end Go.Vx

namespace Go.Vx
open Go Go.RowKit
theorem ZnB : Zes = some true := by decide +kernel
theorem Znj : Zcu = some true := Ziu true ZnB
end Go.Vx

namespace Go.Vx
open Go Go.RowKit
set_option maxHeartbeats 1000000
structure BlankN (L : Int) (m : api_Memory) : Prop where
  ok : MemOK m
  lim : L ≤ m.Limit
  wear : ∀ i, i < m.Sectors.length → m.Wear.getD i 0 = 0
  bad : ∀ i, i < m.Sectors.length → m.Bad.getD i false = false
  row : ∀ i, i < m.Sectors.length → ∃ k, m.Sectors.getD i [] = List.replicate k 255
theorem BlankN.bd {L : Int} {m : api_Memory} (h : BlankN L m) (i : Nat) : m.Bad.getD i false = false := by
  rcases Nat.lt_or_ge i m.Sectors.length with w | w
  · exact h.bad i w
  · rw [List.getD_eq_getElem?_getD, List.getElem?_eq_none (by rw [h.ok.bad]; exact w)]; rfl
theorem BlankN.m {m : api_Memory} (h : BlankN 100 m) : BlkM m := ⟨h.bd, Int.le_trans (by decide) h.lim⟩
theorem BlankN.u8 {L : Int} {m : api_Memory} (h : BlankN L m) : memR m := fun s hs => by
  obtain ⟨i, hi, rfl⟩ := List.getElem_of_mem hs
  obtain ⟨k, hk⟩ := h.row i hi
  rw [List.getD_eq_getElem?_getD, List.getElem?_eq_getElem hi] at hk
  have : m.Sectors[i] = List.replicate k 255 := hk
  rw [this]; exact Zmq k
theorem Zly (l : List api_Memory) (L : Int) : ∃ b, ZcM l L = some b ∧ (b = true → (1 ≤ l.length ∧ l.length ≤ 8) ∧ ∀ m ∈ l, BlankN L m) := by
  obtain ⟨c, c1, c2, c3, c4⟩ := Zh0 l
  unfold ZcM
  rw [c2, Option.bind_some]
  by_cases q : c = 0
  · obtain ⟨hl, hO⟩ := c3 q
    rw [if_neg (by simp [q])]
    obtain ⟨r, r1, r2⟩ := ZbC (body := ZaP l L) (N := l.length) (fun k => ∀ j, j < k → BlankN L (l.getD j dfM)) (fun r => (∃ b, r = .inl b ∧ b = false) ∨ (r = .inr () ∧ ∀ j, j < l.length → BlankN L (l.getD j dfM))) (fun k hk hI => by
      obtain ⟨g1, g2⟩ := JL hk
      have ok := hO _ g1
      have ek : i64 ((k : Int) + 1) = (k : Int) + 1 := Zh (by omega) (by omega)
      unfold ZaP
      rw [if_pos (by simpa using hk), Zm g2, Option.bind_some, ek]
      by_cases hlim : (l.getD k dfM).Limit < L
      · right
        refine ⟨.inl false, ?_, .inl ⟨false, rfl, rfl⟩⟩
        rw [if_pos (decide_eq_true hlim)]; rfl
      · rw [if_neg (by rw [decide_eq_true_eq]; exact hlim)]
        obtain ⟨z, z1, z2⟩ := ZbC (body := ZaK (l.getD k dfM)) (N := (l.getD k dfM).Sectors.length) (fun i => ∀ j, j < i → (l.getD k dfM).Wear.getD j 0 = 0 ∧ (l.getD k dfM).Bad.getD j false = false ∧ ∃ n, (l.getD k dfM).Sectors.getD j [] = List.replicate n 255)
          (fun z => (∃ b, z = .inl b ∧ b = false) ∨ (z = .inr () ∧ ∀ j, j < (l.getD k dfM).Sectors.length → (l.getD k dfM).Wear.getD j 0 = 0 ∧ (l.getD k dfM).Bad.getD j false = false ∧ ∃ n, (l.getD k dfM).Sectors.getD j [] = List.replicate n 255)) (fun i hi hJ => by
            have hn := ok.n
            have ei : i64 ((i : Int) + 1) = (i : Int) + 1 := Zh (by omega) (by omega)
            have hrow := ok.row _ (row_bd.getD_memL hi)
            have hsl := ok.slots
            unfold ZaK
            rw [if_pos (by simpa using hi), Zm (Qv hi []), Option.bind_some, Zm (Qv (s := (l.getD k dfM).Wear) (by have := ok.wear; omega) 0), Option.bind_some, Zm (Qv (s := (l.getD k dfM).Bad) (by have := ok.bad; omega) false), ei]
            by_cases hw : (l.getD k dfM).Wear.getD i 0 = 0
            · rw [hw]
              cases hbd : (l.getD k dfM).Bad.getD i false with
              | true =>
                right
                exact ⟨.inl false, by simp [gd], .inl ⟨false, rfl, rfl⟩⟩
              | false =>
                obtain ⟨y, y1, y2⟩ := ZbC (body := ZaX ((l.getD k dfM).Sectors.getD i [])) (N := ((l.getD k dfM).Sectors.getD i []).length) (fun j => ∀ t, t < j → ((l.getD k dfM).Sectors.getD i []).getD t 0 = 255)
                  (fun y => (∃ b, y = .inl b ∧ b = false) ∨ (y = .inr () ∧ ∀ t, t < ((l.getD k dfM).Sectors.getD i []).length → ((l.getD k dfM).Sectors.getD i []).getD t 0 = 255)) (fun j hj hT => by
                    unfold ZaX
                    rw [if_pos (by simpa using hj), Zm (Qv hj 0), Option.bind_some, show i64 ((j : Int) + 1) = (j : Int) + 1 from Zh (by omega) (by omega)]
                    by_cases e : ((l.getD k dfM).Sectors.getD i []).getD j 0 = 255
                    · left
                      refine ⟨by rw [if_neg (by rw [e]; decide)], fun t ht => ?_⟩
                      by_cases et : t = j
                      · subst et; exact e
                      · exact hT t (by omega)
                    · right
                      exact ⟨_, by rw [if_pos (by rw [decide_eq_false e]; rfl)], .inl ⟨false, rfl, rfl⟩⟩) (fun hT => ⟨.inr (), by unfold ZaX; rw [if_neg (by simp)], .inr ⟨rfl, hT⟩⟩) (fun t ht => absurd ht (Nat.not_lt_zero _))
                simp only [decide_true, Bool.not_true, gd, beq_self_eq_true, if_true, Option.bind_some, Bool.or_self, Bool.false_eq_true, if_false]
                rw [y1]
                rcases y2 with ⟨b, rfl, hb⟩ | ⟨rfl, hT⟩
                · right
                  exact ⟨.inl b, rfl, .inl ⟨b, rfl, hb⟩⟩
                · left
                  refine ⟨rfl, fun j hj => ?_⟩
                  by_cases e : j = i
                  · subst e
                    refine ⟨hw, hbd, _, Zbk (t := List.replicate ((l.getD k dfM).Sectors.getD j []).length 255) (by simp) fun t ht => by rw [hT t ht, ZeP ht]⟩
                  · exact hJ j (by omega)
            · right
              refine ⟨.inl false, ?_, .inl ⟨false, rfl, rfl⟩⟩
              rw [decide_eq_false hw]
              simp [gd]) (fun hJ => ⟨.inr (), by unfold ZaK; rw [if_neg (by simp)], .inr ⟨rfl, hJ⟩⟩) (fun j hj => absurd hj (Nat.not_lt_zero _))
        rw [z1]
        rcases z2 with ⟨b, rfl, hb⟩ | ⟨rfl, hJ⟩
        · right
          exact ⟨.inl b, rfl, .inl ⟨b, rfl, hb⟩⟩
        · left
          refine ⟨rfl, fun j hj => ?_⟩
          by_cases e : j = k
          · subst e
            exact ⟨ok, by omega, fun i hi => (hJ i hi).1, fun i hi => (hJ i hi).2.1, fun i hi => (hJ i hi).2.2⟩
          · exact hI j (by omega)) (fun hI => ⟨.inr (), by unfold ZaP; rw [if_neg (by simp)], .inr ⟨rfl, hI⟩⟩) (fun j hj => absurd hj (Nat.not_lt_zero _))
    rw [r1]
    rcases r2 with ⟨b, rfl, hb⟩ | ⟨rfl, hI⟩
    · exact ⟨b, rfl, fun w => by rw [hb] at w; cases w⟩
    · refine ⟨true, rfl, fun _ => ⟨hl, fun m hm => ?_⟩⟩
      obtain ⟨j, hj, e⟩ := List.getElem_of_mem hm
      have := hI j hj
      rw [List.getD_eq_getElem?_getD, List.getElem?_eq_getElem hj] at this
      rw [← e]; exact this
  · rw [if_pos (by simp [q])]
    exact ⟨false, rfl, fun w => by cases w⟩
theorem Zjn {L : Int} {m : api_Memory} (h : BlankN L m) : Xm m = some ⟨-1, 0⟩ := by
  have hd : ∀ k, k ≤ m.Sectors.length → hdM m k = [] := by
    intro k
    induction k with
    | zero => intro _; rfl
    | succ k ih =>
      intro hk
      rw [Zg6, ih (by omega)]
      obtain ⟨n, hn⟩ := h.row k (by omega)
      have hrow := h.ok.row _ (row_bd.getD_memL (show k < m.Sectors.length by omega))
      have hsl := h.ok.slots
      rw [hn, List.length_replicate] at hrow
      have : okM m k = false := by
        unfold okM
        rw [hn, Zfg (by omega)]; rfl
      rw [this]; rfl
  obtain ⟨s1, _, s3, _⟩ := ZhA h.u8 h.ok
  rw [hd _ (Nat.le_refl _)] at s3
  have : Zba m = [] := s3.eq_nil
  unfold Xm
  rw [s1, this]; rfl
theorem ZkF {L : Int} {m : api_Memory} (h : BlankN L m) : PgM m [] m ⟨-1, 0⟩ := by
  have hsl := h.ok.slots
  have hn := h.ok.n
  have hp : pgs m.Slots.toNat 0 = 0 := by
    unfold pgs
    rw [Nat.zero_add]; exact Nat.div_eq_of_lt (by omega)
  refine ⟨rfl, rfl, rfl, rfl, fun i hi => ?_, fun P _ q2 => ?_, fun P _ q2 => ?_, fun i _ hi => h.row i hi, fun _ => rfl, fun w => absurd w (Nat.lt_irrefl _)⟩
  · rw [List.length_nil, hp, h.wear i hi]
    unfold cntP
    rw [Nat.zero_add, Nat.div_eq_of_lt (by omega)]; rfl
  · rw [List.length_nil, hp] at q2; exact absurd q2 (Nat.not_lt_zero _)
  · rw [List.length_nil, hp] at q2; exact absurd q2 (Nat.not_lt_zero _)
theorem ZnE {L : Int} {l : List api_Memory} (hl : 1 ≤ l.length ∧ l.length ≤ 8) (hB : ∀ m ∈ l, BlankN L m) {c : Nat} (hc : 1 ≤ c ∧ c ≤ l.length) :
    XO l (c : Int) = some (.inr (⟨⟨l, List.replicate l.length ⟨-1, 0⟩⟩, c, false, false, 0, false⟩, 0)) := by
  obtain ⟨e, c1, c2, c3, c4⟩ := Zh0 l
  have he : e = 0 := c4 ⟨hl, fun m hm => (hB m hm).ok⟩
  unfold XO
  rw [c1, Zbw]
  have a1 : (1 : Int) ≤ (c : Int) := by omega
  have a2 : (c : Int) ≤ (l.length : Int) := by omega
  simp only [Option.bind_some, he, decide_true, Bool.not_true, Bool.false_eq_true, if_false, decide_eq_true a1, decide_eq_true a2, Bool.and_self]
  rw [Zez hl.2 (fun m hm => (hB m hm).ok), Option.bind_some]
  obtain ⟨r, r1, r2⟩ := Zi2 (body := XC l) (a0 := ([] : List ring_spot)) (b0 := false) (N := l.length) (fun k sp fr => sp = List.replicate k ⟨-1, 0⟩ ∧ fr = false) (fun r => r = (List.replicate l.length ⟨-1, 0⟩, false)) (fun k sp fr hk hI => .inl (by
    obtain ⟨rfl, rfl⟩ := hI
    obtain ⟨g1, g2⟩ := JL hk
    have ek : i64 ((k : Int) + 1) = (k : Int) + 1 := Zh (by omega) (by omega)
    unfold XC
    rw [if_pos (by simpa using hk), Zm g2, Option.bind_some, Zjn (hB _ g1), Option.bind_some, J4 (by simp; omega), Option.bind_some, ek, if_neg (by decide)]
    exact ⟨_, _, rfl, by rw [List.replicate_succ'], rfl⟩)) (fun sp fr hI => ⟨(sp, fr), by unfold XC; rw [if_neg (by simp)], by rw [hI.1, hI.2]⟩) ⟨rfl, rfl⟩
  rw [r1, r2]; rfl
end Go.Vx

namespace Go.Vx
open Go Go.RowKit
set_option maxHeartbeats 1000000
def gB (n c : Nat) : Nat → Nat
  | 0 => 0
  | d + 1 => gB n c d + if (List.range c).any (fun i => decide ((d + 1 + i) % n = 0)) = true then 1 else 0
theorem ZpV (n c d : Nat) : gB n c (d + 1) = gB n c d + if (List.range c).any (fun i => decide ((d + 1 + i) % n = 0)) = true then 1 else 0 := rfl
theorem Zop : (List.range 9).all (fun n => (List.range 9).all fun c => (List.range 101).all fun d => !(decide (1 ≤ c) && decide (c ≤ n)) || decide (gB n c d * n ≤ d * c)) = true := by decide +kernel
theorem ZpQ {n c d : Nat} (h1 : 1 ≤ c ∧ c ≤ n) (h2 : n ≤ 8) (h3 : d ≤ 100) : gB n c d * n ≤ d * c := by
  have a := List.all_eq_true.1 Zop n (List.mem_range.2 (by omega))
  have b := List.all_eq_true.1 a c (List.mem_range.2 (by omega))
  have e := List.all_eq_true.1 b d (List.mem_range.2 (by omega))
  rw [decide_eq_true h1.1, decide_eq_true h1.2] at e
  simpa using e
theorem ZjB {x y n : Nat} : (x + y) % n = x % n ↔ y % n = 0 := by
  constructor
  · intro h
    have := Nat.sub_mod_eq_zero_of_mod_eq h
    rwa [Nat.add_sub_cancel_left] at this
  · intro h
    have := Nat.div_add_mod y n
    rw [h, Nat.add_zero] at this
    rw [← this, Nat.add_mul_mod_self_left]
theorem Zo1 {a k d c n : Nat} : isT (a + (k + 1 + d)) c n ((a + k) % n) = (List.range c).any (fun i => decide ((d + 1 + i) % n = 0)) := by
  unfold isT
  congr 1
  funext i
  have : (a + (k + 1 + d) + i) % n = (a + k) % n ↔ (d + 1 + i) % n = 0 := by
    rw [show a + (k + 1 + d) + i = (a + k) + (d + 1 + i) by omega]; exact ZjB
  simp only [this]
theorem Zks (F : Nat → Vector Int 64) (a c n j K : Nat) : gsJ F a c n j (K + 1) = gsJ F a c n j K ++ if isT (a + K) c n j = true then [F K] else [] := rfl
theorem Zmx (F : Nat → Vector Int 64) {a k c n : Nat} (hc : 1 ≤ c) : ∀ d, (gsJ F a c n ((a + k) % n) (k + 1 + d)).length = (gsJ F a c n ((a + k) % n) k).length + 1 + gB n c d
  | 0 => by
    show (gsJ F a c n ((a + k) % n) k ++ _).length = _
    have : isT (a + k) c n ((a + k) % n) = true := by
      unfold isT
      rw [List.any_eq_true]
      exact ⟨0, List.mem_range.2 hc, by simp⟩
    rw [this, if_pos rfl, List.length_append]; rfl
  | d + 1 => by
    have ih := Zmx F (a := a) (k := k) (c := c) (n := n) hc d
    rw [show k + 1 + (d + 1) = k + 1 + d + 1 from rfl, Zks, List.length_append, ih, Zo1]
    rw [ZpV]
    by_cases hh : ((List.range c).any fun i => decide ((d + 1 + i) % n = 0)) = true
    · rw [if_pos hh, if_pos hh]; simp only [List.length_cons, List.length_nil]; omega
    · rw [if_neg hh, if_neg hh]; simp only [List.length_nil]; omega
theorem Zku (F : Nat → Vector Int 64) (a c n j k : Nat) : ∀ d, ∃ r, gsJ F a c n j (k + d) = gsJ F a c n j k ++ r
  | 0 => ⟨[], by simp⟩
  | d + 1 => by
    obtain ⟨r, hr⟩ := Zku F a c n j k d
    refine ⟨r ++ if isT (a + (k + d)) c n j = true then [F (k + d)] else [], ?_⟩
    rw [show k + (d + 1) = k + d + 1 from rfl, Zks, hr, List.append_assoc]
theorem ZkG (F : Nat → Vector Int 64) (a c n j : Nat) : ∀ {K : Nat} {x}, x ∈ gsJ F a c n j K → ∃ k, k < K ∧ x = F k
  | 0, x, h => by cases h
  | K + 1, x, h => by
    rcases List.mem_append.1 h with q | q
    · obtain ⟨k, hk, e⟩ := ZkG F a c n j q
      exact ⟨k, by omega, e⟩
    · split at q
      · exact ⟨K, by omega, List.mem_singleton.1 q⟩
      · cases q
theorem Zod (F : Nat → Vector Int 64) {a c n k K : Nat} (hc : 1 ≤ c) (hk : k < K) : (gsJ F a c n ((a + k) % n) K).getD (gsJ F a c n ((a + k) % n) k).length zF64 = F k := by
  obtain ⟨d, rfl⟩ : ∃ d, K = k + 1 + d := ⟨K - k - 1, by omega⟩
  obtain ⟨r, hr⟩ := Zku F a c n ((a + k) % n) (k + 1) d
  have : isT (a + k) c n ((a + k) % n) = true := by
    unfold isT
    rw [List.any_eq_true]
    exact ⟨0, List.mem_range.2 hc, by simp⟩
  have e : gsJ F a c n ((a + k) % n) (k + 1) = gsJ F a c n ((a + k) % n) k ++ [F k] := by
    show gsJ F a c n ((a + k) % n) k ++ _ = _
    rw [this, if_pos rfl]
  rw [hr, e, List.append_assoc, List.getD_eq_getElem?_getD, List.getElem?_append_right (Nat.le_refl _)]
  simp
theorem Zl4 {f : Vector Int 64} : stV (bytesF f ++ [0]) = 1 := by
  unfold stV
  rw [if_pos]
  rw [List.getD_eq_getElem?_getD, List.getElem?_append_right (by rw [Z3]; omega), Z3]; rfl
theorem Zl0 {f : Vector Int 64} (hf : fN f) : Zck (Xt (bytesF f ++ [0])) = f := by
  rw [← Zb6 hf]
  exact ZgW fun z hz => by rw [Zcn _ hz, Zcn _ hz, ZhZ (Z3 _) hz, Zb6 hf]
theorem ZmO {m0 m : api_Memory} {gs : List (Vector Int 64)} {s : ring_spot} (h : PgM m0 gs m s) (ok : MemOK m) (hR : memR m) (hN : ∀ x ∈ gs, fN x) {mi : Int} {x : api_Kept} (hx : x ∈ keptM m mi) : x.Frame ∈ gs := by
  have hn := ok.n
  have hsl := ok.slots
  have hnpos : 0 < m.Sectors.length := by omega
  obtain ⟨i, i1, i2, j, j1, j2, rfl⟩ := (JZ hR ok).1 hx
  rcases Nat.lt_or_ge i (pgs m.Slots.toNat gs.length) with w | w
  · obtain ⟨P, p1, p2, rfl⟩ : ∃ P, P < pgs m.Slots.toNat gs.length ∧ pgs m.Slots.toNat gs.length < P + 1 + m.Sectors.length ∧ P % m.Sectors.length = i := by
      generalize pgs m.Slots.toNat gs.length = q at *
      refine ⟨i + m.Sectors.length * ((q - 1 - i) / m.Sectors.length), ?_, ?_, ?_⟩
      · have := Nat.div_mul_le_self (q - 1 - i) m.Sectors.length
        rw [Nat.mul_comm] at this; omega
      · have a := Nat.div_add_mod (q - 1 - i) m.Sectors.length
        have b := Nat.mod_lt (q - 1 - i) hnpos
        omega
      · rw [Nat.add_mul_mod_self_left, Nat.mod_eq_of_lt i1]
    have hr := h.row P p2 p1 j (by omega)
    rw [hr] at j2
    by_cases c : P * m.Slots.toNat + j < gs.length
    · have hm : gs.getD (P * m.Slots.toNat + j) zF64 ∈ gs := by
        rw [List.getD_eq_getElem?_getD, List.getElem?_eq_getElem c]; exact List.getElem_mem c
      rw [if_pos c] at hr
      have : frV (m.Sectors.getD (P % m.Sectors.length) []) j = gs.getD (P * m.Slots.toNat + j) zF64 := by
        unfold frV
        rw [hr]; exact Zl0 (hN _ hm)
      simp only
      rw [this]; exact hm
    · rw [if_neg c] at j2
      have : stV (List.replicate 97 255) = 0 := by decide
      rw [this] at j2; cases j2
  · obtain ⟨k, hk⟩ := h.blank i w i1
    have hr := ok.row _ (row_bd.getD_memL i1)
    rw [hk, List.length_replicate] at hr
    unfold okM at i2
    rw [hk, Zfg (by omega)] at i2; cases i2
theorem ZfO {m0 m : api_Memory} {gs : List (Vector Int 64)} {s : ring_spot} (h : PgM m0 gs m s) (ok : MemOK m) (hR : memR m) (hb : ∀ i, m0.Bad.getD i false = false) (hg : gs.length ≤ 100) {i0 : Nat} (hi : i0 < gs.length) (hN : fN (gs.getD i0 zF64)) (hlate : gs.length ≤ i0 + (m.Sectors.length - 1) * m.Slots.toNat) (mi : Int) :
    ∃ x ∈ keptM m mi, x.Frame = gs.getD i0 zF64 ∧ x.Sector = ((i0 / m.Slots.toNat % m.Sectors.length : Nat) : Int) := by
  have hn := ok.n
  have hsl := ok.slots
  have hS : 0 < m.Slots.toNat := by omega
  have hd := Nat.div_add_mod i0 m.Slots.toNat
  have hm := Nat.mod_lt i0 hS
  have hcomm : i0 / m.Slots.toNat * m.Slots.toNat = m.Slots.toNat * (i0 / m.Slots.toNat) := Nat.mul_comm ..
  generalize hP : i0 / m.Slots.toNat = P at *
  generalize hj : i0 % m.Slots.toNat = j at *
  have p1 : P < pgs m.Slots.toNat gs.length := by
    unfold pgs
    have : P + 1 ≤ (gs.length + (m.Slots.toNat - 1)) / m.Slots.toNat := by
      rw [Nat.le_div_iff_mul_le hS, Nat.add_mul, Nat.one_mul]; omega
    omega
  have p2 : pgs m.Slots.toNat gs.length < P + 1 + m.Sectors.length := by
    unfold pgs
    rw [Nat.div_lt_iff_lt_mul hS]
    have e : (P + 1 + m.Sectors.length) * m.Slots.toNat = P * m.Slots.toNat + 2 * m.Slots.toNat + (m.Sectors.length - 1) * m.Slots.toNat := by
      rw [show P + 1 + m.Sectors.length = P + 2 + (m.Sectors.length - 1) by omega, Nat.add_mul, Nat.add_mul]
    rw [e]; omega
  have hil : P % m.Sectors.length < m.Sectors.length := Nat.mod_lt _ (by omega)
  have hrl := ok.row _ (row_bd.getD_memL hil)
  have hpb : pgs m.Slots.toNat gs.length ≤ gs.length + 64 := by
    unfold pgs
    exact Nat.le_trans (Nat.div_le_self ..) (by omega)
  have hh := Zmh (s := m.Sectors.getD (P % m.Sectors.length) []) (by omega) (v := (P : Int) + 1) (by omega) (h.head P p2 p1)
  have hr := h.row P p2 p1 j hm
  rw [if_pos (by omega), show P * m.Slots.toNat + j = i0 by omega] at hr
  refine ⟨⟨mi, ((P % m.Sectors.length : Nat) : Int), (headV (m.Sectors.getD (P % m.Sectors.length) [])).1, (j : Int), frV (m.Sectors.getD (P % m.Sectors.length) []) j⟩, (JZ hR ok).2 ⟨P % m.Sectors.length, hil, ?_, j, by omega, by rw [hr]; exact Zl4, rfl⟩, ?_⟩
  · unfold okM
    rw [hh.2, h.bad, hb]; rfl
  · simp only
    unfold frV
    rw [hr]; exact ⟨Zl0 hN, trivial⟩
theorem Zlf {m0 m : api_Memory} {gs : List (Vector Int 64)} {s : ring_spot} (h : PgM m0 gs m s) (ok : MemOK m) (hR : memR m) (hb : ∀ i, m0.Bad.getD i false = false) (hg : gs.length ≤ 100) {i0 : Nat} (hi : i0 < gs.length) (hN : fN (gs.getD i0 zF64)) (hlate : gs.length ≤ i0 + (m.Sectors.length - 1) * m.Slots.toNat) (mi : Int) :
    ∃ x ∈ keptM m mi, x.Frame = gs.getD i0 zF64 := by
  obtain ⟨x, h1, h2, _⟩ := ZfO h ok hR hb hg hi hN hlate mi
  exact ⟨x, h1, h2⟩
theorem ZmC {s : List (Vector Int 64)} (hl : s.length ≤ 9223372036854775806) {v : Vector Int 64} (hv : v ∈ s) : ZD s v = some true := by
  unfold ZD Qw
  obtain ⟨r, r1, r2⟩ := ZbC (body := Qe s v) (N := s.length) (fun k => ∀ j, j < k → s[j]? ≠ some v) (fun r => ∃ z : Int, r = .inl z ∧ 0 ≤ z) (fun k hk hI => by
    obtain ⟨x, hx⟩ := Xz hk
    unfold Qe
    rw [if_pos (by simpa using hk), Zm hx, Option.bind_some, show i64 ((k : Int) + 1) = (k : Int) + 1 from Zh (by omega) (by omega)]
    by_cases q : v = x
    · right
      subst q
      exact ⟨_, by rw [if_pos (by simp)], k, rfl, by omega⟩
    · left
      refine ⟨by rw [if_neg (by simpa using q)], fun j hj => ?_⟩
      by_cases e : j = k
      · subst e; rw [hx]; exact fun w => q (Option.some.inj w).symm
      · exact hI j (by omega)) (fun hI => by
      obtain ⟨j, hj, e⟩ := List.getElem_of_mem hv
      exact absurd (by rw [List.getElem?_eq_getElem hj, e]) (hI j hj)) (fun j hj => absurd hj (Nat.not_lt_zero _))
  rw [r1]
  obtain ⟨z, rfl, hz⟩ := r2
  simp only [Option.bind_some, Sum.elim_inl]
  rw [decide_eq_true hz]
end Go.Vx

namespace Go.Vx
open Go Go.RowKit
set_option maxHeartbeats 1000000
def Zdh (m : api_Memory) : Nat := (m.Sectors.length - 1) * m.Slots.toNat
theorem Zi9 {m : api_Memory} (ok : MemOK m) : Zdh m ≤ 4096 := by
  have := ok.n
  have := ok.slots
  unfold Zdh
  exact Nat.le_trans (Nat.mul_le_mul (show m.Sectors.length - 1 ≤ 64 by omega) (show m.Slots.toNat ≤ 64 by omega)) (by decide)
theorem Zpu {L : Int} {l : List api_Memory} (hl : 1 ≤ l.length ∧ l.length ≤ 8) (hB : ∀ m ∈ l, BlankN L m) {c : Nat} (hc : 1 ≤ c ∧ c ≤ l.length) :
    ∃ (cap least : Nat), ZaL l (c : Int) = some ((cap : Int), 0) ∧ cap * c ≤ least * l.length ∧ ∀ m ∈ l, least ≤ Zdh m := by
  obtain ⟨e, c1, c2, c3, c4⟩ := Zh0 l
  have he : e = 0 := c4 ⟨hl, fun m hm => (hB m hm).ok⟩
  unfold ZaL
  rw [c1, Zbw]
  have a1 : (1 : Int) ≤ (c : Int) := by omega
  have a2 : (c : Int) ≤ (l.length : Int) := by omega
  simp only [Option.bind_some, he, decide_true, Bool.not_true, Bool.false_eq_true, if_false, decide_eq_true a1, decide_eq_true a2, Bool.and_self]
  obtain ⟨z, z1, L, rfl, z2⟩ := Zam (body := Jk l) (s0 := (-1 : Int)) (N := l.length) (fun k z => (k = 0 ∧ z = -1) ∨ (0 < k ∧ ∃ L : Nat, z = (L : Int) ∧ L ≤ 4096 ∧ ∀ j, j < k → L ≤ Zdh (l.getD j dfM))) (fun z => ∃ L : Nat, z = (L : Int) ∧ L ≤ 4096 ∧ ∀ j, j < l.length → L ≤ Zdh (l.getD j dfM)) (fun k z hk hI => .inl (by
    obtain ⟨g1, g2⟩ := JL hk
    have bm := hB _ g1
    have ok := bm.ok
    have hn := ok.n
    have hsl := ok.slots
    obtain ⟨g, w1, w2⟩ := Zam (body := Jj (l.getD k dfM)) (s0 := (0 : Int)) (N := (l.getD k dfM).Bad.length) (fun j g => g = (j : Int)) (fun g => g = ((l.getD k dfM).Bad.length : Int)) (fun j g hj hG => .inl (by
      have ej : i64 ((j : Int) + 1) = (j : Int) + 1 := Zh (by omega) (by have := ok.bad; omega)
      unfold Jj
      rw [if_pos (by simpa using hj), Zm (Qv hj false), Option.bind_some, bm.bd j, if_pos (by decide), hG, ej]
      exact ⟨_, rfl, by push_cast; rfl⟩)) (fun g hG => ⟨g, by unfold Jj; rw [if_neg (by simp)], hG⟩) rfl
    have hrm := Zi9 ok
    have hv : i64 ((max (i64 (((l.getD k dfM).Bad.length : Int) - 1)) 0) * (l.getD k dfM).Slots) = (Zdh (l.getD k dfM) : Int) := by
      rw [show i64 (((l.getD k dfM).Bad.length : Int) - 1) = (((l.getD k dfM).Sectors.length - 1 : Nat) : Int) from (Zh (by have := ok.bad; omega) (by have := ok.bad; omega)).trans (by have := ok.bad; omega)]
      rw [show max ((((l.getD k dfM).Sectors.length - 1 : Nat)) : Int) 0 = (((l.getD k dfM).Sectors.length - 1 : Nat) : Int) by omega]
      have es : (l.getD k dfM).Slots = (((l.getD k dfM).Slots.toNat : Nat) : Int) := by omega
      have em : ((((l.getD k dfM).Sectors.length - 1 : Nat)) : Int) * (l.getD k dfM).Slots = (Zdh (l.getD k dfM) : Int) := by
        unfold Zdh
        rw [Int.natCast_mul, ← es]
      rw [em]
      exact Zh (by omega) (by omega)
    have ek : i64 ((k : Int) + 1) = (k : Int) + 1 := Zh (by omega) (by omega)
    unfold Jk
    rw [if_pos (by simpa using hk), Zm g2, Option.bind_some, w1, w2, Option.bind_some, Qx, hv, ek]
    by_cases hlt : z < 0 ∨ (Zdh (l.getD k dfM) : Int) < z
    · refine ⟨(Zdh (l.getD k dfM) : Int), by rw [if_pos (by rw [Bool.or_eq_true, decide_eq_true_eq, decide_eq_true_eq]; exact hlt)], .inr ⟨by omega, _, rfl, hrm, fun j hj => ?_⟩⟩
      by_cases e' : j = k
      · subst e'; exact Nat.le_refl _
      · rcases hI with ⟨k0, _⟩ | ⟨_, L, hz, _, hL⟩
        · omega
        · have := hL j (by omega); omega
    · refine ⟨z, by rw [if_neg (by rw [Bool.or_eq_true, decide_eq_true_eq, decide_eq_true_eq]; exact hlt)], ?_⟩
      rcases hI with ⟨_, hz⟩ | ⟨_, L, hz, hb, hL⟩
      · omega
      · refine .inr ⟨by omega, L, hz, hb, fun j hj => ?_⟩
        by_cases e' : j = k
        · subst e'; omega
        · exact hL j (by omega))) (fun z hI => ⟨z, by unfold Jk; rw [if_neg (by simp)], by
      rcases hI with ⟨k0, _⟩ | ⟨_, h⟩
      · omega
      · exact h⟩) (.inl ⟨rfl, rfl⟩)
  rw [z1]
  simp only [Option.bind_some, Qx]
  have hLn : L * l.length ≤ 4096 * 8 := Nat.mul_le_mul z2.1 hl.2
  rw [show i64 ((L : Int) * (l.length : Int)) = ((L * l.length : Nat) : Int) from (Zh (by rw [← Int.natCast_mul]; omega) (by rw [← Int.natCast_mul]; omega)).trans (by push_cast; rfl)]
  have hq : quo .i64 ((L * l.length : Nat) : Int) (c : Int) = some ((L * l.length / c : Nat) : Int) := by
    unfold quo
    rw [if_neg (by omega)]
    have e3 : Int.tdiv ((L * l.length : Nat) : Int) (c : Int) = ((L * l.length / c : Nat) : Int) := rfl
    have hQ : L * l.length / c ≤ 32768 := Nat.le_trans (Nat.div_le_self ..) hLn
    rw [e3]
    generalize L * l.length / c = Q at hQ
    rw [Zh (by omega) (by omega)]
  rw [hq]
  refine ⟨L * l.length / c, L, rfl, Nat.div_mul_le_self .., fun m hm => ?_⟩
  obtain ⟨j, hj, e'⟩ := List.getElem_of_mem hm
  have := z2.2 j hj
  rwa [List.getD_eq_getElem?_getD, List.getElem?_eq_getElem hj, Option.getD_some, e'] at this
end Go.Vx

namespace Go.Vx
open Go Go.RowKit
set_option maxHeartbeats 1000000
end Go.Vx

namespace Go.Vx
open Go Go.RowKit
set_option maxHeartbeats 1000000
theorem ZjG {s : List Int} (h : 16 ≤ s.length) : headV s = headV (s.take 16) := by
  have g : ∀ k, k < 16 → (s.take 16).getD k 0 = s.getD k 0 := fun k hk => by
    rw [List.getD_eq_getElem?_getD, List.getElem?_take_of_lt hk, ← List.getD_eq_getElem?_getD]
  have t : (s.take 16).take 10 = s.take 10 := by rw [List.take_take]; rfl
  unfold headV
  rw [if_neg (show ¬ s.length < 16 by omega), if_neg (show ¬ (s.take 16).length < 16 by rw [List.length_take]; omega), g 2 (by omega), g 3 (by omega), g 4 (by omega), g 5 (by omega), g 10 (by omega), t]
theorem ZgO : ∀ (d s : List Int) (a : Nat) (p q : Int), (d.length : Int) ≤ p → (d.length : Int) ≤ q → (Qr s a d p).2.2 = (Qr s a d q).2.2
  | [], s, a, p, q, _, _ => rfl
  | b :: tl, s, a, p, q, hp, hq => by
    rw [List.length_cons] at hp hq
    unfold Qr
    rw [if_neg (by omega), if_neg (by omega)]
    exact ZgO tl _ _ _ _ (by omega) (by omega)
theorem ZiJ : ∀ (d s : List Int) (a : Nat) (p : Int), 0 ≤ p → (Qr s a d p).2.1 = true → (d.length : Int) ≤ p
  | [], s, a, p, hp, _ => by simpa using hp
  | b :: tl, s, a, p, hp, h => by
    unfold Qr at h
    by_cases e : p = 0
    · rw [if_pos e] at h; cases h
    · rw [if_neg e] at h
      have := ZiJ tl _ _ _ (by omega) h
      rw [List.length_cons]; omega
theorem Zke : ∀ (d s t : List Int) (a : Nat) (p : Int), a + d.length ≤ s.length → (Qr (s ++ t) a d p).2.2 = (Qr s a d p).2.2 ++ t
  | [], s, t, a, p, _ => rfl
  | b :: tl, s, t, a, p, h => by
    rw [List.length_cons] at h
    have g : (s ++ t).getD a 0 = s.getD a 0 := by
      rw [List.getD_eq_getElem?_getD, List.getElem?_append_left (by omega), ← List.getD_eq_getElem?_getD]
    have e : ∀ z, (s ++ t).set a z = s.set a z ++ t := fun z => List.set_append_left _ _ (by omega)
    unfold Qr
    by_cases q : p = 0
    · rw [if_pos q, if_pos q, g, e]
    · rw [if_neg q, if_neg q, g, e]
      exact Zke tl _ t _ _ (by rw [List.length_set]; omega)
theorem ZlH : (List.range 52).all (fun v => (List.range 11).all fun p => (!(headV (Qr (List.replicate 16 255) 0 (hdL ((v : Int) + 1)) (p : Int)).2.2).2.2 || decide ((headV (Qr (List.replicate 16 255) 0 (hdL ((v : Int) + 1)) (p : Int)).2.2).1 = (v : Int) + 1)) && decide ((Qr (List.replicate 16 255) 0 (hdL ((v : Int) + 1)) (p : Int)).2.2.getD 10 0 = 255)) = true := by decide +kernel
theorem Zmr {n : Nat} (hn : 16 ≤ n) {v : Int} (hv : 1 ≤ v ∧ v ≤ 52) {p : Int} (hp : 0 ≤ p) :
    ((headV (Qr (List.replicate n 255) 0 (hdL v) p).2.2).2.2 = true → (headV (Qr (List.replicate n 255) 0 (hdL v) p).2.2).1 = v) ∧ (Qr (List.replicate n 255) 0 (hdL v) p).2.2.getD 10 0 = 255 := by
  obtain ⟨q, hq, e⟩ : ∃ q : Nat, q < 11 ∧ (Qr (List.replicate n 255) 0 (hdL v) p).2.2 = (Qr (List.replicate n 255) 0 (hdL v) (q : Int)).2.2 := by
    by_cases c : 10 ≤ p
    · exact ⟨10, by omega, ZgO _ _ _ _ _ (by rw [Za5]; exact c) (by rw [Za5]; decide)⟩
    · exact ⟨p.toNat, by omega, by rw [Int.toNat_of_nonneg hp]⟩
  rw [e]
  obtain ⟨w, hw⟩ : ∃ w : Nat, v = (w : Int) + 1 := ⟨(v - 1).toNat, by omega⟩
  subst hw
  have a := List.all_eq_true.1 ZlH w (List.mem_range.2 (by omega))
  have b := List.all_eq_true.1 a q (List.mem_range.2 hq)
  rw [Bool.and_eq_true, Bool.or_eq_true] at b
  have er : (List.replicate n 255 : List Int) = List.replicate 16 255 ++ List.replicate (n - 16) 255 := by
    rw [List.replicate_append_replicate, show 16 + (n - 16) = n by omega]
  have ap := Zke (hdL ((w : Int) + 1)) (List.replicate 16 255) (List.replicate (n - 16) 255) 0 (q : Int) (by rw [Za5]; simp)
  have ln : (Qr (List.replicate 16 255) 0 (hdL ((w : Int) + 1)) (q : Int)).2.2.length = 16 := by rw [ZbD]; simp
  rw [er, ap]
  generalize (Qr (List.replicate 16 255) 0 (hdL ((w : Int) + 1)) (q : Int)).2.2 = S at b ln
  have eh : headV (S ++ List.replicate (n - 16) 255) = headV S := by
    rw [ZjG (by rw [List.length_append]; omega), List.take_append_of_le_length (by omega), List.take_of_length_le (by omega)]
  rw [eh, List.getD_eq_getElem?_getD, List.getElem?_append_left (by omega), ← List.getD_eq_getElem?_getD]
  refine ⟨fun h => ?_, of_decide_eq_true b.2⟩
  rcases b.1 with c | c
  · rw [h] at c; cases c
  · exact of_decide_eq_true c
structure WkM (T : Nat) (m : api_Memory) : Prop where
  bad : ∀ i, m.Bad.getD i false = false
  lim : 80 ≤ m.Limit
  wear : ∀ i, m.Wear.getD i 0 ≤ T
  hd : ∀ i, i < m.Sectors.length → (headV (m.Sectors.getD i [])).2.2 = true → (headV (m.Sectors.getD i [])).1 ≤ T
  fz : ∀ i, i < m.Sectors.length → (m.Sectors.getD i []).getD 10 0 = 255
theorem WkM.mono {T U : Nat} {m : api_Memory} (h : WkM T m) (hu : T ≤ U) : WkM U m :=
  ⟨h.bad, h.lim, fun i => by have := h.wear i; omega, fun i hi q => by have := h.hd i hi q; omega, h.fz⟩
theorem WkM.set {T : Nat} {m : api_Memory} (h : WkM T m) {i : Nat} (hi : i < m.Sectors.length) {S W : List Int} (h1 : (headV S).2.2 = true → (headV S).1 ≤ T) (h2 : S.getD 10 0 = 255) (h3 : ∀ k, W.getD k 0 ≤ T) : WkM T (QG m i S W) := by
  refine ⟨h.bad, h.lim, h3, fun k hk => ?_, fun k hk => ?_⟩
  · have hk' : k < m.Sectors.length := by simpa [QG] using hk
    rw [Jn hi]
    by_cases e : k = i
    · rw [if_pos e]; exact h1
    · rw [if_neg e]; exact h.hd k hk'
  · have hk' : k < m.Sectors.length := by simpa [QG] using hk
    rw [Jn hi]
    by_cases e : k = i
    · rw [if_pos e]; exact h2
    · rw [if_neg e]; exact h.fz k hk'
theorem ZiA {T : Nat} {m : api_Memory} (h : WkM T m) (ok : MemOK m) (hT : T ≤ 50) (sec : Int) : 0 ≤ QK m sec ∧ ∀ y, ZaQ m y ≤ T + 1 := by
  refine ⟨?_, fun y => ?_⟩
  · have hn := ok.n
    have : Zbe m (ZaT m sec 0) = true := by
      unfold Zbe
      have a := h.wear (ZaT m sec 0)
      have b := h.lim
      rw [h.bad, decide_eq_true (by omega)]; rfl
    have f1 : Zaz (fun i => Zbe m (ZaT m sec i)) 1 = some 0 := by
      show (if Zbe m (ZaT m sec 0) = true then some 0 else none) = _
      rw [this]; rfl
    unfold QK
    rw [Zc2 f1 (show 1 ≤ m.Sectors.length by omega)]
    exact Int.natCast_nonneg _
  · unfold ZaQ
    have := Ziq (m := m) (sec := y) (B := (T : Int)) (by omega) m.Sectors.length (fun i hi _ q => h.hd i hi q)
    omega
theorem ZfD {T : Nat} {m : api_Memory} (h : WkM T m) (ok : MemOK m) (hT : T ≤ 50) (s : ring_spot) : Zcf m s := fun _ => by
  obtain ⟨a, b⟩ := ZiA h ok hT s.sector
  have := b (QK m s.sector)
  exact ⟨a, by omega⟩
theorem Zmp {T : Nat} {m : api_Memory} (h : WkM T m) {s : ring_spot} (h1 : 0 ≤ s.sector) (h2 : s.sector < m.Sectors.length) (d : List Int) (p : Int) : WkM T (Jd m s d p).2.2.1 := by
  obtain ⟨i, hi⟩ := Int.eq_ofNat_of_zero_le h1
  have hil : i < m.Sectors.length := by omega
  unfold Jd
  rw [hi]
  simp only [Int.toNat_natCast]
  have out := Zbq (d ++ [0]) (m.Sectors.getD i []) (16 + s.slot.toNat * 97) p
  have ln := ZbD (d ++ [0]) (m.Sectors.getD i []) (16 + s.slot.toNat * 97) p
  obtain ⟨a, b⟩ := ZdA (s := (Qr (m.Sectors.getD i []) (16 + s.slot.toNat * 97) (d ++ [0]) p).2.2) (t := m.Sectors.getD i []) ln (fun k hk => out k (.inl (by omega)))
  exact h.set hil (by rw [a, b]; exact h.hd i hil) (by rw [out 10 (.inl (by omega))]; exact h.fz i hil) h.wear
theorem Zn8 {T : Nat} {m : api_Memory} (h : WkM T m) (ok : MemOK m) (hT : T ≤ 50) {s : ring_spot} {p : Int} (hp : 0 ≤ p) : WkM (T + 1) (QA m s p).2.2.1 := by
  have hn := ok.n
  obtain ⟨n1, n2⟩ := ZiA h ok hT s.sector
  obtain ⟨b1, b2⟩ := ZdW n1 (by omega)
  have n3 := n2 (QK m s.sector)
  have n4 : 1 ≤ ZaQ m (QK m s.sector) := by unfold ZaQ; have := (Zew m (QK m s.sector) m.Sectors.length).1; omega
  obtain ⟨y, hy⟩ := Int.eq_ofNat_of_zero_le n1
  unfold QA
  rw [hy] at b1 b2 n3 n4 ⊢
  simp only [Int.toNat_natCast]
  have hyl : y < m.Sectors.length := by omega
  have hrow := ok.row _ (row_bd.getD_memL hyl)
  have hsl := ok.slots
  have hW : ∀ k, (m.Wear.set y (m.Wear.getD y 0 + 1)).getD k 0 ≤ ((T + 1 : Nat) : Int) := fun k => by
    by_cases e : k = y
    · subst e
      rw [Zc3 (by have := ok.wear; omega)]
      have := h.wear k; omega
    · rw [Zad (fun w => e w.symm)]
      have := h.wear k; omega
  by_cases q : p = 0
  · rw [if_pos q]
    refine (h.mono (Nat.le_succ T)).set hyl (fun w => ?_) ?_ hW
    · rw [Zhu (by omega)] at w; cases w
    · unfold Zcy
      rw [List.getD_eq_getElem?_getD, List.getElem?_append_left (by rw [List.length_replicate]; omega), ← List.getD_eq_getElem?_getD, ZeP (by omega)]
  · rw [if_neg q]
    obtain ⟨g1, g2⟩ := Zmr (n := (m.Sectors.getD y []).length) (by omega) (v := ZaQ m (y : Int)) (by omega) (p := p - 1) (by omega)
    exact (h.mono (Nat.le_succ T)).set hyl (fun w => by rw [g1 w]; omega) g2 hW
theorem ZpN {T : Nat} {m : api_Memory} (h : WkM T m) (ok : MemOK m) (hR : memR m) (hT : T ≤ 50) {s : ring_spot} (hs : SpotOK m s) (d : List Int) {p : Int} (hp : 0 ≤ p) : WkM (T + 1) (ZF m s d p).2.2.1 := by
  unfold ZF
  by_cases q : Qa m s = true
  · rw [if_pos q]
    have a := Zn8 h ok hT (s := s) hp
    by_cases z : (QA m s p).2.1 = true
    · rw [if_pos z]
      have hx := (ZiA h ok hT s.sector).1
      obtain ⟨w1, w2, w3⟩ := Zhp ok hR hx p zF64
      have sp := w1.at_ z
      have w4 := (w3 z).1
      refine Zmp a w4 ?_ d _
      rcases sp.sec with v | v
      · omega
      · exact v.2
    · rw [if_neg z]; exact a
  · rw [if_neg q]
    have q' : Qa m s = false := by simpa using q
    have h1 : 0 ≤ s.sector := by
      unfold Qa at q'
      rw [Bool.or_eq_false_iff] at q'
      have := of_decide_eq_false q'.1
      omega
    refine (Zmp h h1 ?_ d p).mono (Nat.le_succ T)
    rcases hs.sec with v | v
    · omega
    · exact v.2
end Go.Vx

namespace Go.Vx
open Go Go.RowKit
set_option maxHeartbeats 1000000
theorem Zov (m : api_Memory) (s : ring_spot) (f : Vector Int 64) {p : Int} (hp : 108 ≤ p) : (ZF m s (bytesF f) p).2.1 = true ∧ p - 108 ≤ (ZF m s (bytesF f) p).1 := by
  have hl : (bytesF f ++ [0]).length = 97 := by rw [List.length_append, Z3]; rfl
  have wrt : ∀ (m : api_Memory) (s : ring_spot) (p : Int), 97 ≤ p → (Jd m s (bytesF f) p).2.1 = true ∧ (Jd m s (bytesF f) p).1 = p - 97 := fun m s p h => by
    obtain ⟨a, b⟩ := Zdq (bytesF f ++ [0]) (m.Sectors.getD s.sector.toNat []) (16 + s.slot.toNat * 97) p (by rw [hl]; exact h)
    unfold Jd
    rw [hl] at b
    exact ⟨a, b⟩
  unfold ZF
  by_cases q : Qa m s = true
  · rw [if_pos q]
    have hA : (QA m s p).2.1 = true ∧ (QA m s p).1 = p - 11 := by
      unfold QA
      simp only
      rw [if_neg (by omega)]
      obtain ⟨a, b⟩ := Zdq (hdL (ZaQ m (QK m s.sector))) (List.replicate (m.Sectors.getD (QK m s.sector).toNat []).length 255) 0 (p - 1) (by rw [Za5]; omega)
      rw [Za5] at b
      exact ⟨a, by rw [b]; omega⟩
    rw [if_pos hA.1]
    obtain ⟨a, b⟩ := wrt (QA m s p).2.2.1 (QA m s p).2.2.2 (QA m s p).1 (by omega)
    exact ⟨a, by omega⟩
  · rw [if_neg q]
    obtain ⟨a, b⟩ := wrt m s p (by omega)
    exact ⟨a, by omega⟩
theorem ZiY {r : ring_Recorder} (hJ : RecJ r) (hst : r.stopped = false) (hfz : r.frozen = false) {f : Vector Int 64} (hf : fU f) (hs : sndB f = true) {a c n : Nat} (ha : (numN f).1 = (a : Int)) (hc : r.copies = (c : Int)) (hnl : r.bank.memories.length = n)
    {Q Qs : Nat → api_Memory → ring_spot → Prop} {Qf : Nat → api_Memory → Prop} (hQ : ∀ j, j < n → Q j (r.bank.memories.getD j dfM) (r.bank.spots.getD j dfS)) (hrd : ∀ j m s, j < n → MemOK m → Q j m s → Zcf m s)
    (hW : ∀ j m s (pw : Int), j < n → MemOK m → memR m → SpotOK m s → Q j m s → 0 ≤ pw → ((ZF m s (bytesF f) pw).2.1 = true → Qs j (ZF m s (bytesF f) pw).2.2.1 (ZF m s (bytesF f) pw).2.2.2) ∧ ((ZF m s (bytesF f) pw).2.1 = false → Qf j (ZF m s (bytesF f) pw).2.2.1))
    {p : Int} (hp : 0 ≤ p ∧ p ≤ 1000000000) :
    ∃ left all r', Z9 r f p = some (left, all, 0, r') ∧ (0 ≤ left ∧ left ≤ 1000000000) ∧ r'.copies = (c : Int) ∧ r'.frozen = false ∧ r'.bank.memories.length = n ∧ RecJ r' ∧
      ((all = true ∧ r'.stopped = false ∧ ∀ j, j < n → if isT a c n j = true then Qs j (r'.bank.memories.getD j dfM) (r'.bank.spots.getD j dfS) else Q j (r'.bank.memories.getD j dfM) (r'.bank.spots.getD j dfS)) ∨
       (all = false ∧ p < 2000 ∧ ∀ j, j < n → (∃ s, Q j (r'.bank.memories.getD j dfM) s) ∨ (isT a c n j = true ∧ ∃ s, Qs j (r'.bank.memories.getD j dfM) s) ∨ Qf j (r'.bank.memories.getD j dfM))) := by
  obtain ⟨fn, fq, fb1, fb2⟩ := ZfQ hf hs
  have hA := hJ.a hst
  have hn := hJ.b.n
  have hcp := hJ.cp
  obtain ⟨e, e1, e2⟩ := ZlS r p
  have h0 : e = 0 := e2.2 ⟨hst, hfz, hp⟩
  obtain ⟨q, q1, q2⟩ := Zkc (b := r.bank) hJ.b hA (c := c) (n := r.bank.memories.length) a rfl (by omega)
  have stp : ∀ k, k < n → Zcf (r.bank.memories.getD k dfM) (r.bank.spots.getD k dfS) := fun k hk => hrd k _ _ hk (hJ.b.ok _ (JL (by rw [hnl]; exact hk)).1) (hQ k hk)
  have hq : q = 0 := q2.2 fun i hi => stp _ (by rw [hnl]; exact Nat.mod_lt _ (by omega))
  have isT_mono : ∀ {k i j : Nat}, k ≤ i → isT a k n j = true → isT a i n j = true := fun {k i j} hk h => by
    unfold isT at h ⊢
    rw [List.any_eq_true] at h ⊢
    obtain ⟨x, x1, x2⟩ := h
    exact ⟨x, List.mem_range.2 (by have := List.mem_range.1 x1; omega), x2⟩
  unfold Z9
  rw [e1, Option.bind_some, if_neg (by simp [h0]), Zik hf, Option.bind_some]
  have hfl := Zhy hf
  rw [if_neg (by rw [decide_eq_true_eq]; intro w; have := hfl.1 (by omega); rw [hs] at this; cases this)]
  rw [fq, Option.bind_some, ha, hc, Zh5 (by omega) hn (by omega), Option.bind_some, q1, Option.bind_some, if_neg (by simp [hq]), ZhX fn, Option.bind_some]
  have hlen : (tgV a c r.bank.memories.length).length = c := by simp [tgV]
  obtain ⟨z, z1, z2⟩ := ZaE (body := t9 (Zy (tgV a c r.bank.memories.length) (bytesF f, 0))) (fun s => ∃ (mems : List api_Memory) (spots : List ring_spot) (pw : Int) (k : Nat), s = (mems, spots, r.copies, r.frozen, r.stopped, r.last, r.some_, pw, (k : Int)) ∧ k ≤ c ∧ (0 ≤ pw ∧ pw ≤ 1000000000) ∧ (2000 ≤ p → p - 108 * k ≤ pw) ∧
        mems.length = n ∧ BankJ mems spots ∧ BankA mems spots ∧ ∀ j, j < n → if isT a k n j = true then Qs j (mems.getD j dfM) (spots.getD j dfS) else Q j (mems.getD j dfM) (spots.getD j dfS)) (fun s => c - s.2.2.2.2.2.2.2.2.toNat)
      (fun z => (∃ mems spots pw, z = .inr (mems, spots, r.copies, r.frozen, r.stopped, r.last, r.some_, pw) ∧ (0 ≤ pw ∧ pw ≤ 1000000000) ∧ mems.length = n ∧ BankJ mems spots ∧ BankA mems spots ∧ ∀ j, j < n → if isT a c n j = true then Qs j (mems.getD j dfM) (spots.getD j dfS) else Q j (mems.getD j dfM) (spots.getD j dfS)) ∨
        (∃ mems spots pw, z = .inl (pw, false, 0, ⟨⟨mems, spots⟩, r.copies, r.frozen, true, r.last, r.some_⟩) ∧ (0 ≤ pw ∧ pw ≤ 1000000000) ∧ p < 2000 ∧ mems.length = n ∧ BankJ mems spots ∧ ∀ j, j < n → (∃ s, Q j (mems.getD j dfM) s) ∨ (isT a c n j = true ∧ ∃ s, Qs j (mems.getD j dfM) s) ∨ Qf j (mems.getD j dfM))) (by
        rintro s ⟨mems, spots, pw, k, rfl, hk, hpw, hpk, hl, bJ, bA, pg⟩
        show (∃ s', Zy (tgV a c r.bank.memories.length) (bytesF f, 0) mems spots r.copies r.frozen r.stopped r.last r.some_ pw (k : Int) = some (.inl s') ∧ _) ∨ ∃ z, Zy (tgV a c r.bank.memories.length) (bytesF f, 0) mems spots r.copies r.frozen r.stopped r.last r.some_ pw (k : Int) = some (.inr z) ∧ _
        unfold Zy
        rcases Nat.lt_or_ge k c with hkc | hkc
        · have htl : (a + k) % n < n := Nat.mod_lt _ (by omega)
          have ht : (a + k) % n < mems.length := by rw [hl]; exact htl
          have g1 := Zlq ht
          have g2 := ZjJ (l := spots) (k := (a + k) % n) (by rw [bJ.len]; exact ht)
          have hm := (JL ht).1
          have pgt := pg _ htl
          rw [ZoS (by omega), if_neg (by decide)] at pgt
          have x1 := hrd _ _ _ htl (bJ.ok _ hm) pgt
          obtain ⟨x2, x3⟩ := hW _ _ _ pw htl (bJ.ok _ hm) (bJ.u8 _ hm) (bA _ ht) pgt hpw.1
          have x4 := Zov (mems.getD ((a + k) % n) dfM) (spots.getD ((a + k) % n) dfS) f (p := pw)
          obtain ⟨w1, w2, w3, w4⟩ := ZkA (r := ⟨⟨mems, spots⟩, r.copies, r.frozen, r.stopped, r.last, r.some_⟩) g1 g2 (bJ.u8 _ hm) (bJ.ok _ hm) (bA _ ht) x1 (Z3 f) (Zau fn) (p := pw) (by omega)
          rw [if_pos (by rw [hlen]; simpa using hkc), Zm (ZiI hkc), Option.bind_some,
            show slc (bytesF f) 0 ((bytesF f).length : Int) = some (bytesF f) from (Zcc (a := 0) (b := (bytesF f).length) (by omega) (Nat.le_refl _)).trans (by rw [List.take_length, List.drop_zero]), Option.bind_some, hnl, w1, Option.bind_some, show i64 ((k : Int) + 1) = (k : Int) + 1 from Zh (by omega) (by omega)]
          generalize ZF (mems.getD ((a + k) % n) dfM) (spots.getD ((a + k) % n) dfS) (bytesF f) pw = A at w2 w3 w4 x2 x3 x4
          cases hall : A.2.1 with
          | true =>
            left
            have sp := w2.at_ hall
            refine ⟨(mems.set ((a + k) % n) A.2.2.1, spots.set ((a + k) % n) A.2.2.2, r.copies, r.frozen, r.stopped, r.last, r.some_, A.1, (k : Int) + 1), by simp only [Bool.not_true, Bool.false_eq_true, if_false], ⟨_, _, A.1, k + 1, rfl, hkc, by omega, fun w => ?_, by rw [List.length_set]; exact hl, bJ.set w2.ok w2.u8 (List.length_set ..), fun j hj => ?_, fun j hj => ?_⟩, by simp only; omega⟩
            · have a1 := hpk w
              have a2 := x4 (by omega)
              push_cast; omega
            · rw [List.length_set] at hj
              rw [JS ht, JS (by rw [bJ.len]; exact ht)]
              by_cases e' : j = (a + k) % n
              · rw [if_pos e', if_pos e']; exact sp
              · rw [if_neg e', if_neg e']; exact bA j hj
            · rw [JS ht, JS (by rw [bJ.len]; exact ht), ZmH]
              by_cases e' : j = (a + k) % n
              · rw [if_pos e', if_pos e', e', decide_eq_true rfl, Bool.or_true, if_pos rfl]; exact x2 hall
              · rw [if_neg e', if_neg e', decide_eq_false (fun w => e' w.symm), Bool.or_false]; exact pg j hj
          | false =>
            right
            refine ⟨.inl (A.1, false, 0, ⟨⟨mems.set ((a + k) % n) A.2.2.1, spots.set ((a + k) % n) A.2.2.2⟩, r.copies, r.frozen, true, r.last, r.some_⟩), by simp only [Bool.not_false, if_true], .inr ⟨_, _, _, rfl, by omega, ?_, by rw [List.length_set]; exact hl, bJ.set w2.ok w2.u8 (List.length_set ..), fun j hj => ?_⟩⟩
            · rcases (by omega : p < 2000 ∨ 2000 ≤ p) with w | w
              · exact w
              · have a1 := hpk w
                have a2 := x4 (by omega)
                rw [a2.1] at hall; cases hall
            · rw [JS ht]
              by_cases e' : j = (a + k) % n
              · rw [if_pos e', e']; exact .inr (.inr (x3 hall))
              · rw [if_neg e']
                have := pg j hj
                by_cases g : isT a k n j = true
                · rw [if_pos g] at this; exact .inr (.inl ⟨isT_mono (by omega) g, _, this⟩)
                · rw [if_neg g] at this; exact .inl ⟨_, this⟩
        · have : k = c := by omega
          subst this
          right
          exact ⟨_, by rw [if_neg (by rw [hlen]; simp)], .inl ⟨mems, spots, pw, rfl, hpw, hl, bJ, bA, pg⟩⟩) (r.bank.memories, r.bank.spots, r.copies, r.frozen, r.stopped, r.last, r.some_, p, 0) ⟨_, _, p, 0, rfl, Nat.zero_le _, hp, fun _ => by simp, hnl, hJ.b, hA, fun j hj => by
        have : isT a 0 n j = false := rfl
        rw [this, if_neg (by decide)]; exact hQ j hj⟩
  have hloop : loop (t9 (Zy (tgV a c r.bank.memories.length) (bytesF f, 0))) (r.bank.memories, r.bank.spots, (c : Int), r.frozen, r.stopped, r.last, r.some_, p, 0) = some z := by rw [← hc]; exact z1
  rw [hloop, Option.bind_some]
  rcases z2 with ⟨mems, spots, pw, rfl, k0, k1, k2, k3, k4⟩ | ⟨mems, spots, pw, rfl, k0, k5, k1, k2, k4⟩
  · simp only [Sum.elim_inr, Zjc]
    refine ⟨_, _, _, rfl, k0, hc, hfz, k1, ⟨k2, fun _ => k3, ?_⟩, .inl ⟨rfl, hst, k4⟩⟩
    simp only; rw [k1, ← hnl]; exact hcp
  · simp only [Sum.elim_inl]
    refine ⟨_, _, _, rfl, k0, hc, hfz, k1, ⟨k2, fun w => by simp at w, ?_⟩, .inr ⟨rfl, k5, k4⟩⟩
    simp only; rw [k1, ← hnl]; exact hcp
end Go.Vx

namespace Go.Vx
open Go Go.RowKit
set_option maxHeartbeats 1000000
noncomputable def nmF (f : Vector Int 64) : Nat := (numN f).1.toNat
theorem Zoc {L : Int} {l : List api_Memory} (hl : 1 ≤ l.length ∧ l.length ≤ 8) (hB : ∀ m ∈ l, BlankN L m) {c : Nat} (hc : 1 ≤ c ∧ c ≤ l.length) {Fs : List (Vector Int 64)} (hF : ∀ k, k < Fs.length → fU (Fs.getD k zF64) ∧ sndB (Fs.getD k zF64) = true) (hlen : Fs.length ≤ 100)
    {Q : Nat → Nat → api_Memory → ring_spot → Prop} {Qf : Nat → Nat → api_Memory → Prop} (h0 : ∀ j, j < l.length → Q 0 j (l.getD j dfM) ⟨-1, 0⟩)
    (hrd : ∀ k j m s, k < Fs.length → j < l.length → MemOK m → Q k j m s → Zcf m s)
    (hW : ∀ k j m s (pw : Int), k < Fs.length → j < l.length → MemOK m → memR m → SpotOK m s → Q k j m s → 0 ≤ pw →
      ((ZF m s (bytesF (Fs.getD k zF64)) pw).2.1 = true → isT (nmF (Fs.getD k zF64)) c l.length j = true → Q (k + 1) j (ZF m s (bytesF (Fs.getD k zF64)) pw).2.2.1 (ZF m s (bytesF (Fs.getD k zF64)) pw).2.2.2) ∧
      ((ZF m s (bytesF (Fs.getD k zF64)) pw).2.1 = false → Qf k j (ZF m s (bytesF (Fs.getD k zF64)) pw).2.2.1))
    (hN : ∀ k j m s, k < Fs.length → j < l.length → isT (nmF (Fs.getD k zF64)) c l.length j = false → Q k j m s → Q (k + 1) j m s)
    {p : Int} (hp : 0 ≤ p ∧ p ≤ 1000000000) :
    ∃ K l2, K ≤ Fs.length ∧ ZaO l (c : Int) Fs p = some (Fs.take K, l2, true) ∧ l2.length = l.length ∧ (∀ m ∈ l2, MemOK m) ∧ (∀ m ∈ l2, memR m) ∧
      ∀ j, j < l.length → (∃ s, Q K j (l2.getD j dfM) s) ∨ (K < Fs.length ∧ ((∃ s, Q (K + 1) j (l2.getD j dfM) s) ∨ Qf K j (l2.getD j dfM))) := by
  unfold ZaO
  rw [ZnE hl hB hc, Option.bind_some]
  simp only [Sum.elim_inr]
  rw [if_neg (by decide)]
  have sp : ∀ k, k < l.length → (List.replicate l.length (⟨-1, 0⟩ : ring_spot)).getD k dfS = ⟨-1, 0⟩ := fun k hk => by
    rw [List.getD_eq_getElem?_getD, List.getElem?_replicate, if_pos hk]; rfl
  have hJ0 : RecJ ⟨⟨l, List.replicate l.length ⟨-1, 0⟩⟩, (c : Int), false, false, 0, false⟩ := by
    refine ⟨⟨hl, fun m hm => (hB m hm).ok, fun m hm => (hB m hm).u8, by simp⟩, fun _ k hk => ?_, by simp only; omega⟩
    have hk' : k < l.length := hk
    have ok := (hB _ (JL hk').1).ok
    have := ok.slots
    show SpotOK (l.getD k dfM) ((List.replicate l.length (⟨-1, 0⟩ : ring_spot)).getD k dfS)
    rw [sp k hk']
    exact ⟨.inl ⟨rfl, rfl⟩, ⟨Int.le_refl _, by simp only; omega⟩, fun w => by simp at w⟩
  obtain ⟨z, z1, z2⟩ := ZaE (body := t10 (XE Fs)) (fun s => ∃ (r : ring_Recorder) (pw : Int) (k : Nat), s = (pw, r.bank.memories, r.bank.spots, r.copies, r.frozen, r.stopped, r.last, r.some_, Fs.take k, (k : Int)) ∧ k ≤ Fs.length ∧ (0 ≤ pw ∧ pw ≤ 1000000000) ∧ r.stopped = false ∧ r.frozen = false ∧ r.copies = (c : Int) ∧ r.bank.memories.length = l.length ∧ RecJ r ∧ ∀ j, j < l.length → Q k j (r.bank.memories.getD j dfM) (r.bank.spots.getD j dfS)) (fun s => Fs.length - s.2.2.2.2.2.2.2.2.2.toNat)
    (fun z => ∃ (r : ring_Recorder) (K : Nat), z = (r.bank.memories, r.bank.spots, r.copies, r.frozen, r.stopped, r.last, r.some_, Fs.take K) ∧ K ≤ Fs.length ∧ r.bank.memories.length = l.length ∧ RecJ r ∧ ∀ j, j < l.length → (∃ s, Q K j (r.bank.memories.getD j dfM) s) ∨ (K < Fs.length ∧ ((∃ s, Q (K + 1) j (r.bank.memories.getD j dfM) s) ∨ Qf K j (r.bank.memories.getD j dfM)))) (by
      rintro s ⟨r, pw, k, rfl, hk, hpw, r1, r2, r3, r4, r5, r6⟩
      show (∃ s', XE Fs pw r.bank.memories r.bank.spots r.copies r.frozen r.stopped r.last r.some_ (Fs.take k) (k : Int) = some (.inl s') ∧ _) ∨ ∃ z, XE Fs pw r.bank.memories r.bank.spots r.copies r.frozen r.stopped r.last r.some_ (Fs.take k) (k : Int) = some (.inr z) ∧ _
      unfold XE
      rcases Nat.lt_or_ge k Fs.length with h | h
      · obtain ⟨f2, f3⟩ := hF k h
        have f1 : Fs[k]? = some (Fs.getD k zF64) := Qv h zF64
        obtain ⟨_, _, fb1, _⟩ := ZfQ f2 f3
        have f4 : (numN (Fs.getD k zF64)).1 = ((nmF (Fs.getD k zF64) : Nat) : Int) := by unfold nmF; omega
        obtain ⟨left, all, r', w1, w2, w3, w4, w5, w6, w7⟩ := ZiY r5 r1 r2 f2 f3 f4 r3 r4 (Q := Q k) (Qs := fun j m s => isT (nmF (Fs.getD k zF64)) c l.length j = true → Q (k + 1) j m s) (Qf := Qf k) r6 (fun j m s hj ok hq => hrd k j m s h hj ok hq) (fun j m s pw hj ok hR hs hq hp => hW k j m s pw h hj ok hR hs hq hp) hpw
        have er : ring_Recorder.mk (ring_bank.mk r.bank.memories r.bank.spots) r.copies r.frozen r.stopped r.last r.some_ = r := rfl
        rw [if_pos (by simpa using h), Zm f1, Option.bind_some, er, w1, Option.bind_some]
        rcases w7 with ⟨rfl, v1, v2⟩ | ⟨rfl, _, v2⟩
        · left
          simp only [decide_true, Bool.not_true, Bool.false_eq_true, if_false]
          rw [Zcg (by simp; omega), Option.bind_some, show i64 ((k : Int) + 1) = (k : Int) + 1 from Zh (by omega) (by omega)]
          refine ⟨_, rfl, ⟨r', left, k + 1, by rw [List.take_succ, f1]; rfl, h, w2, v1, w4, w3, w5, w6, fun j hj => ?_⟩, by simp only; omega⟩
          have := v2 j hj
          by_cases e : isT (nmF (Fs.getD k zF64)) c l.length j = true
          · rw [if_pos e] at this; exact this e
          · rw [if_neg e] at this; exact hN k j _ _ h hj (by simpa using e) this
        · right
          simp only [decide_true, Bool.not_true, Bool.not_false, Bool.false_eq_true, if_false, if_true]
          refine ⟨_, rfl, r', k, rfl, hk, w5, w6, fun j hj => ?_⟩
          rcases v2 j hj with v | ⟨v, s, u⟩ | v
          · exact .inl v
          · exact .inr ⟨h, .inl ⟨s, u v⟩⟩
          · exact .inr ⟨h, .inr v⟩
      · have : k = Fs.length := by omega
        subst this
        right
        exact ⟨_, by rw [if_neg (by simp)], r, Fs.length, rfl, Nat.le_refl _, r4, r5, fun j hj => .inl ⟨_, r6 j hj⟩⟩) (p, l, List.replicate l.length ⟨-1, 0⟩, (c : Int), false, false, 0, false, [], 0) ⟨⟨⟨l, List.replicate l.length ⟨-1, 0⟩⟩, (c : Int), false, false, 0, false⟩, p, 0, rfl, Nat.zero_le _, hp, rfl, rfl, rfl, rfl, hJ0, fun j hj => by rw [show (ring_bank.mk l (List.replicate l.length ⟨-1, 0⟩)).spots.getD j dfS = ⟨-1, 0⟩ from sp j hj]; exact h0 j hj⟩
  rw [z1, Option.bind_some]
  obtain ⟨r, K, rfl, k1, k2, k3, k4⟩ := z2
  simp only [Zjc]
  unfold QH
  rw [Zez k3.b.n.2 k3.b.ok]
  exact ⟨K, _, k1, rfl, k2, k3.b.ok, k3.b.u8, k4⟩
end Go.Vx

namespace Go.Vx
open Go Go.RowKit
set_option maxHeartbeats 1000000
theorem ZlU (m : api_Memory) (s : ring_spot) {d : List Int} (hd : d.length = 96) {p q : Int} (hp : 0 ≤ p) (h : (Jd m s d p).2.1 = true) (hq : 97 ≤ q) : (Jd m s d p).2.2 = (Jd m s d q).2.2 := by
  have hl : (d ++ [0]).length = 97 := by rw [List.length_append, hd]; rfl
  unfold Jd at h ⊢
  have := ZiJ _ _ _ _ hp h
  rw [hl] at this
  simp only
  rw [ZgO (d ++ [0]) _ _ p q (by rw [hl]; exact this) (by rw [hl]; exact hq)]
theorem Zoy (m : api_Memory) (s : ring_spot) {p : Int} (hp : 0 ≤ p) (h : (QA m s p).2.1 = true) : (QA m s p).2.2 = (QA m s 1000).2.2 ∧ (QA m s 1000).2.1 = true ∧ (QA m s 1000).1 = 989 := by
  have hl (v : Int) : (hdL v).length = 10 := Za5 v
  unfold QA at h ⊢
  simp only at h ⊢
  by_cases e : p = 0
  · rw [if_pos e] at h; cases h
  · rw [if_neg e] at h ⊢
    rw [if_neg (show ¬ (1000 : Int) = 0 by decide)]
    simp only at h ⊢
    have a := ZiJ _ _ _ _ (show 0 ≤ p - 1 by omega) h
    rw [hl] at a
    obtain ⟨b1, b2⟩ := Zdq (hdL (ZaQ m (QK m s.sector))) (List.replicate (m.Sectors.getD (QK m s.sector).toNat []).length 255) 0 (1000 - 1) (by rw [hl]; decide)
    rw [hl] at b2
    rw [h, b1, ZgO _ _ _ (p - 1) (1000 - 1) (by rw [hl]; exact a) (by rw [hl]; decide)]
    exact ⟨rfl, rfl, by rw [b2]; decide⟩
theorem ZnI (m : api_Memory) (s : ring_spot) {d : List Int} (hd : d.length = 96) {p : Int} (hp : 0 ≤ p) (h : (ZF m s d p).2.1 = true) : (ZF m s d p).2.2 = (ZF m s d 1000).2.2 := by
  unfold ZF at h ⊢
  by_cases q : Qa m s = true
  · rw [if_pos q] at h ⊢
    rw [if_pos q]
    by_cases z : (QA m s p).2.1 = true
    · rw [if_pos z] at h ⊢
      obtain ⟨a, b, c⟩ := Zoy m s hp z
      rw [if_pos b]
      have pw := Zi5 (m := m) (s := s) hp
      rw [ZlU _ _ hd pw.1 h (q := (QA m s 1000).1) (by omega), a]
    · rw [if_neg z] at h; cases h
  · rw [if_neg q] at h ⊢
    rw [if_neg q]
    exact ZlU _ _ hd hp h (by decide)
theorem Zoh {m0 m : api_Memory} {gs : List (Vector Int 64)} {s : ring_spot} (h : PgM m0 gs m s) (ok : MemOK m) (hb : ∀ i, m0.Bad.getD i false = false) (hlim : 60 ≤ m0.Limit) (hlt : gs.length < 100) {f : Vector Int 64} (hf : fN f) {p : Int} (hp : 0 ≤ p) (hs : (ZF m s (bytesF f) p).2.1 = true) :
    PgM m0 (gs ++ [f]) (ZF m s (bytesF f) p).2.2.1 (ZF m s (bytesF f) p).2.2.2 := by
  rw [ZnI m s (Z3 f) hp hs]
  exact (Zne h ok hb hlim hlt hf (p := 1000) (Int.le_refl _)).2.2.2
theorem Zjg {m : api_Memory} {s : ring_spot} (ok : MemOK m) (hR : memR m) (hs : SpotOK m s) (h1 : 0 ≤ s.sector) (h2 : s.slot < m.Slots) {d : List Int} (hd : d.length = 96) {p : Int} (ok' : MemOK (Jd m s d p).2.2.1) (hR' : memR (Jd m s d p).2.2.1) {mi : Int} {x : api_Kept} (hx : x ∈ keptM m mi) : x ∈ keptM (Jd m s d p).2.2.1 mi := by
  have hl : (d ++ [0]).length = 97 := by rw [List.length_append, hd]; rfl
  obtain ⟨i, i1, i2, j, j1, j2, rfl⟩ := (JZ hR ok).1 hx
  obtain ⟨y, hy⟩ := Int.eq_ofNat_of_zero_le h1
  have hyl : y < m.Sectors.length := by
    rcases hs.sec with v | v <;> omega
  have hfree := hs.free h1
  have hsl0 := hs.slot.1
  obtain ⟨t, ht⟩ := Int.eq_ofNat_of_zero_le hsl0
  rw [hy] at hfree
  rw [ht] at hfree h2
  simp only [Int.toNat_natCast] at hfree
  refine (JZ hR' ok').2 ?_
  unfold Jd
  rw [hy, ht]
  simp only [Int.toNat_natCast]
  have out := Zbq (d ++ [0]) (m.Sectors.getD y []) (16 + t * 97) p
  have ln := ZbD (d ++ [0]) (m.Sectors.getD y []) (16 + t * 97) p
  rw [hl] at out
  generalize (Qr (m.Sectors.getD y []) (16 + t * 97) (d ++ [0]) p).2.2 = S at out ln
  have hrow : (if i = y then S else m.Sectors.getD i []) = (QG m y S m.Wear).Sectors.getD i [] := (Jn hyl).symm
  obtain ⟨a, b⟩ := ZdA (s := S) (t := m.Sectors.getD y []) ln (fun k hk => out k (.inl (by omega)))
  by_cases e : i = y
  · subst e
    rw [if_pos rfl] at hrow
    have hb := row_bd ok i1 j1
    have hj : j ≠ t := fun w => by
      subst w
      rw [hfree j (Int.le_refl _) h2] at j2
      have : stV (List.replicate 97 255) = 0 := by decide
      rw [this] at j2; cases j2
    have hsame : slotL S j = slotL (m.Sectors.getD i []) j := ZcD ln (by omega) fun k k1 k2 => out k (by omega)
    refine ⟨i, by simpa [QG] using i1, ?_, j, j1, ?_, ?_⟩
    · unfold okM at i2 ⊢
      rw [← hrow, b]; exact i2
    · rw [← hrow, hsame]; exact j2
    · rw [← hrow]; unfold frV; rw [a, hsame]
  · rw [if_neg e] at hrow
    refine ⟨i, by simpa [QG] using i1, ?_, j, j1, ?_, ?_⟩
    · unfold okM at i2 ⊢
      rw [← hrow]; exact i2
    · rw [← hrow]; exact j2
    · rw [← hrow]
theorem ZlO {m : api_Memory} {s : ring_spot} (ok : MemOK m) (hR : memR m) (hx0 : 0 ≤ QK m s.sector) {p : Int} (ok' : MemOK (QA m s p).2.2.1) (hR' : memR (QA m s p).2.2.1) {mi : Int} {x : api_Kept} (hx : x ∈ keptM m mi) (hne : x.Sector ≠ QK m s.sector) : x ∈ keptM (QA m s p).2.2.1 mi := by
  obtain ⟨i, i1, i2, j, j1, j2, rfl⟩ := (JZ hR ok).1 hx
  have hn := ok.n
  obtain ⟨b1, b2⟩ := ZdW hx0 (by omega)
  obtain ⟨y, hy⟩ := Int.eq_ofNat_of_zero_le hx0
  have hyl : y < m.Sectors.length := by omega
  have hiy : i ≠ y := fun w => hne (by rw [hy, w])
  obtain ⟨S, W, hS⟩ : ∃ S W, (QA m s p).2.2.1 = QG m y S W := by
    unfold QA
    rw [hy]
    simp only [Int.toNat_natCast]
    by_cases q : p = 0
    · rw [if_pos q]; exact ⟨_, _, rfl⟩
    · rw [if_neg q]; exact ⟨_, _, rfl⟩
  refine (JZ hR' ok').2 ?_
  rw [hS]
  have hrow : m.Sectors.getD i [] = (QG m y S W).Sectors.getD i [] := by rw [Jn hyl, if_neg hiy]
  refine ⟨i, by simpa [QG] using i1, ?_, j, j1, ?_, ?_⟩
  · unfold okM at i2 ⊢
    rw [← hrow]; exact i2
  · rw [← hrow]; exact j2
  · rw [← hrow]
def Zi4 (gs : List (Vector Int 64)) (m : api_Memory) : Prop := ∀ i0, i0 < gs.length → gs.length ≤ i0 + (m.Sectors.length - 1) * m.Slots.toNat → ∀ mi, ∃ x ∈ keptM m mi, x.Frame = gs.getD i0 zF64
theorem Znq {m0 m : api_Memory} {gs : List (Vector Int 64)} {s : ring_spot} (h : PgM m0 gs m s) (ok : MemOK m) (hR : memR m) (hb : ∀ i, m0.Bad.getD i false = false) (hg : gs.length ≤ 100) (hN : ∀ x ∈ gs, fN x) : Zi4 gs m := fun i0 hi hl mi =>
  Zlf h ok hR hb hg hi (hN _ (by rw [List.getD_eq_getElem?_getD, List.getElem?_eq_getElem hi]; exact List.getElem_mem hi)) hl mi
theorem Zm2 {m0 m : api_Memory} {gs : List (Vector Int 64)} {s : ring_spot} (h : PgM m0 gs m s) (ok : MemOK m) (hR : memR m) (hs : SpotOK m s) (hb : ∀ i, m0.Bad.getD i false = false) (hlim : 60 ≤ m0.Limit) (hg : gs.length < 100) (hN : ∀ x ∈ gs, fN x) {f : Vector Int 64} (hf : fN f) {p : Int} (hp : 0 ≤ p) :
    Zi4 gs (ZF m s (bytesF f) p).2.2.1 := by
  have hn := ok.n
  have hsl := ok.slots
  have hS : 0 < m.Slots.toNat := by omega
  intro i0 hi hl mi
  by_cases q : Qa m s = true
  · have ht : gs.length % m.Slots.toNat = 0 := by
      by_cases w : gs.length % m.Slots.toNat = 0
      · exact w
      · rw [(Zju h ok w hf (p := 1000) (Int.le_refl _)).1] at q; cases q
    obtain ⟨_, n2, _⟩ := ZkH h ok hb hlim hg ht
    have hx0 : 0 ≤ QK m s.sector := by rw [n2]; exact Int.natCast_nonneg _
    obtain ⟨w1, w2, w3⟩ := Zhp ok hR hx0 p f
    have en : (QA m s p).2.2.1.Sectors.length = m.Sectors.length := w1.n
    have hd := Nat.div_add_mod gs.length m.Slots.toNat
    rw [ht, Nat.add_zero] at hd
    unfold ZF at hl ⊢
    rw [if_pos q] at hl ⊢
    have hl' : gs.length ≤ i0 + (m.Sectors.length - 1) * m.Slots.toNat := by
      by_cases z : (QA m s p).2.1 = true
      · rw [if_pos z] at hl
        have e1 : (Jd (QA m s p).2.2.1 (QA m s p).2.2.2 (bytesF f) (QA m s p).1).2.2.1.Sectors.length = (QA m s p).2.2.1.Sectors.length := by simp [Jd, QG]
        have e2 : (Jd (QA m s p).2.2.1 (QA m s p).2.2.2 (bytesF f) (QA m s p).1).2.2.1.Slots = (QA m s p).2.2.1.Slots := rfl
        rw [e1, e2, en, w1.slots] at hl; exact hl
      · rw [if_neg z] at hl
        simp only at hl
        rw [en, w1.slots] at hl; exact hl
    obtain ⟨x, x1, x2, x3⟩ := ZfO h ok hR hb (by omega) hi (hN _ (by rw [List.getD_eq_getElem?_getD, List.getElem?_eq_getElem hi]; exact List.getElem_mem hi)) hl' mi
    have hne : x.Sector ≠ QK m s.sector := by
      rw [x3, n2]
      have d0 := Nat.div_add_mod i0 m.Slots.toNat
      have m0 := Nat.mod_lt i0 hS
      generalize gs.length / m.Slots.toNat = Q at *
      generalize i0 / m.Slots.toNat = P at *
      have hPQ : P < Q := by
        rcases Nat.lt_or_ge P Q with w | w
        · exact w
        · have := Nat.mul_le_mul_left m.Slots.toNat w; omega
      have hQP : Q < P + m.Sectors.length := by
        rcases Nat.lt_or_ge Q (P + m.Sectors.length) with w | w
        · exact w
        · have := Nat.mul_le_mul_left m.Slots.toNat w
          have e : m.Slots.toNat * (P + m.Sectors.length) = m.Slots.toNat * P + m.Slots.toNat + (m.Sectors.length - 1) * m.Slots.toNat := by
            rw [show P + m.Sectors.length = P + 1 + (m.Sectors.length - 1) by omega, Nat.mul_add, Nat.mul_add, Nat.mul_one, Nat.mul_comm m.Slots.toNat (m.Sectors.length - 1)]
          omega
      have := Zha hPQ hQP
      exact fun w => this (by exact_mod_cast w)
    have k1 := ZlO ok hR hx0 (p := p) w1.ok w1.u8 x1 hne
    by_cases z : (QA m s p).2.1 = true
    · rw [if_pos z]
      have sp := w1.at_ z
      obtain ⟨v1, v2⟩ := w3 z
      have hsl' : (QA m s p).2.2.2.slot < (QA m s p).2.2.1.Slots := by rw [v2, w1.slots]; omega
      have u1 := Zek w1.ok w1.u8 sp v1 hsl' (Z3 f) (Zau hf) (QA m s p).1
      exact ⟨x, Zjg w1.ok w1.u8 sp v1 hsl' (Z3 f) u1.ok u1.u8 k1, x2⟩
    · rw [if_neg z]; exact ⟨x, k1, x2⟩
  · have q' : Qa m s = false := by simpa using q
    unfold Qa at q'
    rw [Bool.or_eq_false_iff] at q'
    have h1 := of_decide_eq_false q'.1
    have h2 := of_decide_eq_false q'.2
    have h3 := hs.slot
    unfold ZF at hl ⊢
    rw [if_neg q] at hl ⊢
    have e1 : (Jd m s (bytesF f) p).2.2.1.Sectors.length = m.Sectors.length := by simp [Jd, QG]
    have e2 : (Jd m s (bytesF f) p).2.2.1.Slots = m.Slots := rfl
    rw [e1, e2] at hl
    obtain ⟨x, x1, x2, x3⟩ := ZfO h ok hR hb (by omega) hi (hN _ (by rw [List.getD_eq_getElem?_getD, List.getElem?_eq_getElem hi]; exact List.getElem_mem hi)) hl mi
    have u1 := Zek ok hR hs (by omega) (by omega) (Z3 f) (Zau hf) p
    exact ⟨x, Zjg ok hR hs (by omega) (by omega) (Z3 f) u1.ok u1.u8 x1, x2⟩
end Go.Vx

namespace Go.Vx
open Go Go.RowKit
set_option maxHeartbeats 1000000
theorem Zjd {m : api_Memory} {s : ring_spot} (h : ¬ Qa m s = true) : 0 ≤ s.sector ∧ s.slot ≠ m.Slots := by
  have q' : Qa m s = false := by simpa using h
  unfold Qa at q'
  rw [Bool.or_eq_false_iff] at q'
  have h1 := of_decide_eq_false q'.1
  exact ⟨by omega, of_decide_eq_false q'.2⟩
theorem ZnA {m : api_Memory} {s : ring_spot} (ok : MemOK m) (hR : memR m) (hs : SpotOK m s) (hrd : Zcf m s) {f : Vector Int 64} (hf : fN f) (p : Int) {mi : Int} {x : api_Kept} (hx : x ∈ keptM (ZF m s (bytesF f) p).2.2.1 mi) : x ∈ keptM m mi ∨ x.Frame = f := by
  have hsl := ok.slots
  unfold ZF at hx
  by_cases q : Qa m s = true
  · rw [if_pos q] at hx
    obtain ⟨w1, w2, w3⟩ := Zhp ok hR (hrd q).1 p f
    by_cases z : (QA m s p).2.1 = true
    · rw [if_pos z] at hx
      have sp := w1.at_ z
      obtain ⟨v1, v2⟩ := w3 z
      have u1 := Zek w1.ok w1.u8 sp v1 (by rw [v2, w1.slots]; omega) (Z3 f) (Zau hf) (QA m s p).1
      rcases u1.kept mi x hx with v | ⟨_, v⟩
      · exact .inl (w2 mi x v)
      · right; rw [v, Zb6 hf]
    · rw [if_neg z] at hx
      exact .inl (w2 mi x hx)
  · rw [if_neg q] at hx
    obtain ⟨l1, l2⟩ := Zjd q
    have h3 := hs.slot
    have u1 := Zek ok hR hs l1 (by omega) (Z3 f) (Zau hf) p
    rcases u1.kept mi x hx with v | ⟨_, v⟩
    · exact .inl v
    · right; rw [v, Zb6 hf]
theorem Zkb {m : api_Memory} {s : ring_spot} (ok : MemOK m) (hs : SpotOK m s) (h1 : 0 ≤ s.sector) (h2 : s.slot < m.Slots) (hO : okM m s.sector.toNat = true) {f : Vector Int 64} (hf : fN f) {p : Int} (hp : 97 ≤ p) (ok' : MemOK (Jd m s (bytesF f) p).2.2.1) (hR' : memR (Jd m s (bytesF f) p).2.2.1) (mi : Int) :
    ∃ x ∈ keptM (Jd m s (bytesF f) p).2.2.1 mi, x.Frame = f := by
  obtain ⟨y, hy⟩ := Int.eq_ofNat_of_zero_le h1
  have hyl : y < m.Sectors.length := by
    rcases hs.sec with v | v <;> omega
  have hfree := hs.free h1
  obtain ⟨t, ht⟩ := Int.eq_ofNat_of_zero_le hs.slot.1
  rw [hy] at hfree hO
  rw [ht] at hfree h2
  simp only [Int.toNat_natCast] at hfree hO
  have hb := row_bd ok hyl h2
  obtain ⟨w1, w2, w3, w4, w5⟩ := Zg4 hf hb.2 (hfree t (Int.le_refl _) h2) hp
  have out := Zbq (bytesF f ++ [0]) (m.Sectors.getD y []) (16 + t * 97) p
  have ln := ZbD (bytesF f ++ [0]) (m.Sectors.getD y []) (16 + t * 97) p
  have hE : (Jd m s (bytesF f) p).2.2.1 = QG m y (Qr (m.Sectors.getD y []) (16 + t * 97) (bytesF f ++ [0]) p).2.2 m.Wear := by
    unfold Jd
    rw [hy, ht]
    simp only [Int.toNat_natCast]
  rw [hE] at ok' hR' ⊢
  generalize (Qr (m.Sectors.getD y []) (16 + t * 97) (bytesF f ++ [0]) p).2.2 = S at out ln w3 ok' hR' ⊢
  obtain ⟨a, b⟩ := ZdA (s := S) (t := m.Sectors.getD y []) ln (fun k hk => out k (.inl (by omega)))
  have hrow : (QG m y S m.Wear).Sectors.getD y [] = S := by rw [Jn hyl, if_pos rfl]
  refine ⟨⟨mi, (y : Int), (headV S).1, (t : Int), frV S t⟩, (JZ hR' ok').2 ⟨y, by simpa [QG] using hyl, ?_, t, h2, ?_, ?_⟩, ?_⟩
  · unfold okM at hO ⊢
    rw [hrow, b]; exact hO
  · rw [hrow, w3]; exact Zl4
  · rw [hrow]
  · show frV S t = f
    unfold frV
    rw [w3]; exact Zl0 hf
theorem ZoJ {m : api_Memory} {s : ring_spot} (ok : MemOK m) (hR : memR m) (hs : SpotOK m s) (hrd : Zcf m s) (hO : 0 ≤ s.sector → okM m s.sector.toNat = true) {f : Vector Int 64} (hf : fN f) {p : Int} (hp : 0 ≤ p) (hall : (ZF m s (bytesF f) p).2.1 = true) (mi : Int) :
    ∃ x ∈ keptM (ZF m s (bytesF f) p).2.2.1 mi, x.Frame = f := by
  have hn := ok.n
  have hsl := ok.slots
  rw [ZnI m s (Z3 f) hp hall]
  unfold ZF
  by_cases q : Qa m s = true
  · rw [if_pos q]
    obtain ⟨r1, r2⟩ := hrd q
    obtain ⟨w1, w2, w3⟩ := Zhp ok hR r1 1000 f
    obtain ⟨b1, b2⟩ := ZdW r1 (by omega)
    obtain ⟨y, hy⟩ := Int.eq_ofNat_of_zero_le r1
    have hyl : y < m.Sectors.length := by omega
    have hrow := ok.row _ (row_bd.getD_memL hyl)
    have sq : 1 ≤ ZaQ m (QK m s.sector) := by unfold ZaQ; have := (Zew m (QK m s.sector) m.Sectors.length).1; omega
    obtain ⟨g1, g2, g3, g4, g5⟩ := Zjq (n := (m.Sectors.getD y []).length) (by omega) (v := ZaQ m (QK m s.sector)) ⟨sq, r2⟩ (p := 1000 - 1) (by decide)
    have hE : QA m s 1000 = ((Qr (List.replicate (m.Sectors.getD y []).length 255) 0 (hdL (ZaQ m (QK m s.sector))) (1000 - 1)).1, true, QG m y (Qr (List.replicate (m.Sectors.getD y []).length 255) 0 (hdL (ZaQ m (QK m s.sector))) (1000 - 1)).2.2 (m.Wear.set y (m.Wear.getD y 0 + 1)), ⟨(y : Int), 0⟩) := by
      unfold QA
      simp only
      rw [if_neg (by decide), hy]
      rw [hy] at g1
      simp only [Int.toNat_natCast]
      rw [g1]; rfl
    have z : (QA m s 1000).2.1 = true := by rw [hE]
    rw [if_pos z]
    have sp := w1.at_ z
    obtain ⟨v1, v2⟩ := w3 z
    have hslt : (QA m s 1000).2.2.2.slot < (QA m s 1000).2.2.1.Slots := by rw [v2, w1.slots]; omega
    have u1 := Zek w1.ok w1.u8 sp v1 hslt (Z3 f) (Zau hf) (QA m s 1000).1
    refine Zkb w1.ok sp v1 hslt ?_ hf ?_ u1.ok u1.u8 mi
    · rw [hE]
      simp only [Int.toNat_natCast]
      rw [hy] at b2
      simp only [Int.toNat_natCast] at b2
      unfold Zbe at b2
      rw [Bool.and_eq_true] at b2
      unfold okM
      rw [Jn hyl, if_pos rfl, (Zmh (by omega) ⟨sq, r2⟩ g4).2, Bool.true_and]
      exact b2.1
    · rw [hE, g2]; decide
  · rw [if_neg q]
    obtain ⟨l1, l2⟩ := Zjd q
    have h3 := hs.slot
    have u1 := Zek ok hR hs l1 (by omega) (Z3 f) (Zau hf) 1000
    exact Zkb ok hs l1 (by omega) (hO l1) hf (by decide) u1.ok u1.u8 mi
theorem Zj5 {m : api_Memory} (hm : memR m) (ok : MemOK m) : ∃ s, Xm m = some s ∧ SpotOK m s ∧ (0 ≤ s.sector → okM m s.sector.toNat = true) := by
  obtain ⟨s, s1, s2⟩ := ZjE hm ok
  refine ⟨s, s1, s2, fun h => ?_⟩
  obtain ⟨h1, _, h3, _⟩ := ZhA hm ok
  unfold Xm at s1
  rw [h1, Option.bind_some] at s1
  have hmem : s.sector ∈ Zba m := by
    by_cases q : (Zba m).length = 0
    · rw [if_pos (by rw [decide_eq_true_eq]; omega)] at s1
      cases s1
      exact absurd h (by decide)
    · have l1 := (ZgE hm ok).1
      rw [if_neg (by rw [decide_eq_true_eq]; omega), show i64 (((Zba m).length : Int) - 1) = (((Zba m).length - 1 : Nat) : Int) from (Zh (by omega) (by omega)).trans (by omega), Zm (Qv (by omega) 0), Option.bind_some] at s1
      have hmm := JR (X := Zba m) (t := (Zba m).length - 1) (by omega)
      generalize (Zba m).getD ((Zba m).length - 1) 0 = w at s1 hmm
      obtain ⟨z, z1, z2⟩ := Option.bind_eq_some_iff.1 s1
      have : ring_spot.mk w z = s := Option.some.inj z2
      rw [← this]; exact hmm
  obtain ⟨i, _, h5, h6⟩ := ZgN.1 (h3.mem_iff.1 hmem)
  rw [h6]; exact h5
theorem Zo8 {s : List Int} (h : s.getD 10 0 = 255) : (headV s).2.1 = false := by
  unfold headV
  split
  · rfl
  · simp only
    split
    · simp only [h, decide_true, Bool.not_true]
    · rfl
theorem Zkk {l : List api_Memory} (hl : 1 ≤ l.length ∧ l.length ≤ 8) (hO : ∀ m ∈ l, MemOK m) (hR : ∀ m ∈ l, memR m) (hZ : ∀ m ∈ l, ∀ i, i < m.Sectors.length → (m.Sectors.getD i []).getD 10 0 = 255) {c : Nat} (hc : 1 ≤ c ∧ c ≤ l.length) :
    ∃ spots, XO l (c : Int) = some (.inr (⟨⟨l, spots⟩, c, false, false, 0, false⟩, 0)) ∧ RecJ ⟨⟨l, spots⟩, c, false, false, 0, false⟩ ∧ ∀ j, j < l.length → 0 ≤ (spots.getD j dfS).sector → okM (l.getD j dfM) (spots.getD j dfS).sector.toNat = true := by
  obtain ⟨e, c1, c2, c3, c4⟩ := Zh0 l
  have he : e = 0 := c4 ⟨hl, hO⟩
  unfold XO
  rw [c1, Zbw]
  have a1 : (1 : Int) ≤ (c : Int) := by omega
  have a2 : (c : Int) ≤ (l.length : Int) := by omega
  simp only [Option.bind_some, he, decide_true, Bool.not_true, Bool.false_eq_true, if_false, decide_eq_true a1, decide_eq_true a2, Bool.and_self]
  rw [Zez hl.2 hO, Option.bind_some]
  obtain ⟨r, r1, r2⟩ := Zi2 (body := XC l) (a0 := ([] : List ring_spot)) (b0 := false) (N := l.length) (fun k sp fr => sp.length = k ∧ fr = false ∧ ∀ j, j < k → SpotOK (l.getD j dfM) (sp.getD j dfS) ∧ (0 ≤ (sp.getD j dfS).sector → okM (l.getD j dfM) (sp.getD j dfS).sector.toNat = true)) (fun r => r.1.length = l.length ∧ r.2 = false ∧ ∀ j, j < l.length → SpotOK (l.getD j dfM) (r.1.getD j dfS) ∧ (0 ≤ (r.1.getD j dfS).sector → okM (l.getD j dfM) (r.1.getD j dfS).sector.toNat = true)) (fun k sp fr hk hI => .inl (by
    obtain ⟨i1, rfl, i3⟩ := hI
    obtain ⟨g1, g2⟩ := JL hk
    obtain ⟨s, s1, s2, s3⟩ := Zj5 (hR _ g1) (hO _ g1)
    have new : ∀ j, j < k + 1 → SpotOK (l.getD j dfM) ((sp ++ [s]).getD j dfS) ∧ (0 ≤ ((sp ++ [s]).getD j dfS).sector → okM (l.getD j dfM) ((sp ++ [s]).getD j dfS).sector.toNat = true) := fun j hj => by
      by_cases e : j = k
      · subst e
        have : (sp ++ [s]).getD j dfS = s := by
          rw [List.getD_eq_getElem?_getD, List.getElem?_append_right (by omega), i1]; simp
        rw [this]; exact ⟨s2, s3⟩
      · have h := i3 j (by omega)
        have : (sp ++ [s]).getD j dfS = sp.getD j dfS := by
          rw [List.getD_eq_getElem?_getD (l := sp ++ [s]), List.getElem?_append_left (by omega), ← List.getD_eq_getElem?_getD]
        rw [this]; exact h
    have ek : i64 ((k : Int) + 1) = (k : Int) + 1 := Zh (by omega) (by omega)
    unfold XC
    rw [if_pos (by simpa using hk), Zm g2, Option.bind_some, s1, Option.bind_some, J4 (by simp; omega), Option.bind_some, ek]
    by_cases hs : 0 ≤ s.sector
    · rw [if_pos (by simpa using hs)]
      have hlt : s.sector < (l.getD k dfM).Sectors.length := by
        rcases s2.sec with w | w
        · omega
        · exact w.2
      obtain ⟨i, hi⟩ := Int.eq_ofNat_of_zero_le hs
      have hil : i < (l.getD k dfM).Sectors.length := by omega
      rw [hi, Zm (Qv (s := (l.getD k dfM).Sectors) (k := i) hil []), Option.bind_some, Zhd (ZbS (hR _ g1) i), Option.bind_some, Zo8 (hZ _ g1 i hil)]
      exact ⟨_, _, rfl, by simp [i1], rfl, new⟩
    · rw [if_neg (by simpa using hs)]
      exact ⟨_, _, rfl, by simp [i1], rfl, new⟩)) (fun sp fr hI => ⟨(sp, fr), by unfold XC; rw [if_neg (by simp)], hI⟩) ⟨rfl, rfl, fun j hj => absurd hj (Nat.not_lt_zero _)⟩
  rw [r1]
  obtain ⟨sp, fr⟩ := r
  obtain ⟨r3, rfl, r5⟩ := r2
  refine ⟨sp, rfl, ⟨⟨hl, hO, hR, r3⟩, fun _ k hk => (r5 k hk).1, by simp only; omega⟩, fun j hj => (r5 j hj).2⟩
theorem Zpk {l : List api_Memory} (hl : 1 ≤ l.length ∧ l.length ≤ 8) (hO : ∀ m ∈ l, MemOK m) (hR : ∀ m ∈ l, memR m) (hW : ∀ m ∈ l, WkM 45 m) {c : Nat} (hc : 1 ≤ c ∧ c ≤ l.length) {f : Vector Int 64} (hf : fU f) (hs : sndB f = true) :
    ∃ r left r', XO l (c : Int) = some (.inr (r, 0)) ∧ Z9 r f 1000000000 = some (left, true, 0, r') ∧ (1 ≤ r'.bank.memories.length ∧ r'.bank.memories.length ≤ 8) ∧ (∀ m ∈ r'.bank.memories, MemOK m) ∧ (∀ m ∈ r'.bank.memories, memR m) ∧
      (∃ x ∈ XD r'.bank.memories, x.Frame = f) ∧ ∀ x ∈ XD r'.bank.memories, x ∈ XD l ∨ x.Frame = f := by
  obtain ⟨sp, m1, m2, m3⟩ := Zkk hl hO hR (fun m hm => (hW m hm).fz) hc
  obtain ⟨fn, fq, fb1, fb2⟩ := ZfQ hf hs
  obtain ⟨a, ha⟩ := Int.eq_ofNat_of_zero_le fb1
  obtain ⟨left, all, r', w1, w2, w3, w4, w5, w6, w7⟩ := ZiY m2 rfl rfl hf hs ha (c := c) (n := l.length) rfl rfl
    (Q := fun j m s => WkM 45 m ∧ (0 ≤ s.sector → okM m s.sector.toNat = true)) (Qs := fun j m s => ∃ x ∈ keptM m (j : Int), x.Frame = f) (Qf := fun _ _ => True)
    (fun j hj => ⟨hW _ (JL hj).1, m3 j hj⟩) (fun j m s hj ok hq => ZfD hq.1 ok (by decide) s)
    (fun j m s pw hj ok hR' hs' hq hp => ⟨fun h => ZoJ ok hR' hs' (ZfD hq.1 ok (by decide) s) hq.2 fn hp h _, fun _ => trivial⟩) (p := 1000000000) (by decide)
  obtain ⟨left2, all2, e2, r2, v1, v2, v3, v4, v5⟩ := ZlM m2 hf 1000000000
  rw [w1] at v1
  have hr2 : r2 = r' := by
    have := Option.some.inj v1
    exact (congrArg (fun z : Int × Bool × Int × ring_Recorder => z.2.2.2) this).symm
  rw [hr2] at v5
  rcases w7 with ⟨rfl, u1, u2⟩ | ⟨_, u, _⟩
  · refine ⟨_, left, r', m1, w1, w6.b.n, w6.b.ok, w6.b.u8, ?_, fun x hx => (v5 x hx).imp id fun h => h.2⟩
    have hjn : (a + 0) % l.length < l.length := Nat.mod_lt _ (by omega)
    have := u2 _ hjn
    have ht : isT a c l.length ((a + 0) % l.length) = true := by
      unfold isT
      rw [List.any_eq_true]
      exact ⟨0, List.mem_range.2 hc.1, by simp⟩
    rw [if_pos ht] at this
    obtain ⟨x, x1, x2⟩ := this
    exact ⟨x, Zcw.2 ⟨_, by rw [w5]; exact hjn, x1⟩, x2⟩
  · exact absurd u (by decide)
end Go.Vx

namespace Go.Vx
open Go Go.RowKit
set_option maxHeartbeats 1000000
theorem Zh4 {x : Int} (h : 0 ≤ x ∧ x ≤ 65535) : ∃ b, JB x = some b := by
  unfold JB
  by_cases q : x ≤ 4095
  · rw [decide_eq_true q, ZlG, Zbd (by omega) (by omega), (Zjh ⟨h.1, q⟩).2, Option.bind_some]
    exact ⟨_, rfl⟩
  · rw [decide_eq_false q]
    exact ⟨false, rfl⟩
theorem ZmN {f : Vector Int 64} (h : fU f) : ∃ y, QE f = some y := by
  have v1 : ZM f 1 = some (wd f 1) := QY f (i := 1) (by decide)
  have v2 : ZM f 2 = some (wd f 2) := QY f (i := 2) (by decide)
  obtain ⟨a, ha⟩ := Zh4 (h 1)
  obtain ⟨b, hb⟩ := Zh4 (h 2)
  unfold QE
  rw [v1, Option.bind_some, ha, Option.bind_some, v2]
  cases a
  · exact ⟨(0, false), rfl⟩
  · show ∃ y, ((JB (wd f 2)).bind fun y2 => if ((!true) || (!y2)) = true then some (0, false) else (Jb f).bind fun y3 => some (y3, true)) = some y
    rw [hb, Option.bind_some, (ZgQ h).2]
    cases b
    · exact ⟨(0, false), rfl⟩
    · exact ⟨(QU f, true), rfl⟩
theorem Zgy {f : Vector Int 64} (h : fU f) (hs : sndB f = true) : QE f = some (numN f) ∧ 0 ≤ (numN f).1 ∧ (numN f).1 ≤ 4194303 := by
  obtain ⟨fn, _, b1, b2⟩ := ZfQ h hs
  exact ⟨(Zhb h (fn 1).2 (fn 2).2).2, b1, b2⟩
theorem Zm1 {Fs : List (Vector Int 64)} (hF : ∀ k, k < Fs.length → fU (Fs.getD k zF64)) (hl : Fs.length ≤ 40) : ∃ z, loop (t2 (ZY Fs)) (-1, 0) = some z ∧ (z = .inl true ∨ ∃ last, z = .inr last ∧ (-1 ≤ last ∧ last ≤ 4194303) ∧ ∀ k, k < Fs.length → sndB (Fs.getD k zF64) = true ∧ (numN (Fs.getD k zF64)).1 ≤ last) :=
  ZaE (body := t2 (ZY Fs)) (fun s => ∃ (last : Int) (k : Nat), s = (last, (k : Int)) ∧ k ≤ Fs.length ∧ (-1 ≤ last ∧ last ≤ 4194303) ∧ ∀ i, i < k → sndB (Fs.getD i zF64) = true ∧ (numN (Fs.getD i zF64)).1 ≤ last) (fun s => Fs.length - s.2.toNat) _ (by
    rintro s ⟨last, k, rfl, hk, hb, hI⟩
    show (∃ s', ZY Fs last (k : Int) = some (.inl s') ∧ _) ∨ ∃ z, ZY Fs last (k : Int) = some (.inr z) ∧ _
    unfold ZY
    rcases Nat.lt_or_ge k Fs.length with h | h
    · obtain ⟨y, hy⟩ := ZmN (hF k h)
      rw [if_pos (by simpa using h), Zm (Qv h zF64), Option.bind_some, hy, Option.bind_some, Zg2 (hF k h), Option.bind_some]
      by_cases q : ((!sndB (Fs.getD k zF64)) || (decide (y.1 ≤ last))) = true
      · right
        rw [if_pos q]
        exact ⟨_, rfl, .inl rfl⟩
      · left
        rw [if_neg q, show i64 ((k : Int) + 1) = (k : Int) + 1 from Zh (by omega) (by omega)]
        rw [Bool.or_eq_true, Bool.not_eq_true', decide_eq_true_eq, not_or] at q
        have hs : sndB (Fs.getD k zF64) = true := by simpa using q.1
        obtain ⟨n1, n2, n3⟩ := Zgy (hF k h) hs
        have ey : y = numN (Fs.getD k zF64) := by rw [n1] at hy; exact (Option.some.inj hy).symm
        subst ey
        refine ⟨_, rfl, ⟨_, k + 1, rfl, h, ⟨by omega, n3⟩, fun i hi => ?_⟩, by simp only; omega⟩
        by_cases e : i = k
        · subst e; exact ⟨hs, Int.le_refl _⟩
        · have := hI i (by omega)
          exact ⟨this.1, by omega⟩
    · right
      exact ⟨_, by rw [if_neg (by rw [decide_eq_true_eq]; omega)], .inr ⟨last, rfl, hb, fun i hi => hI i (by omega)⟩⟩) _ ⟨-1, 0, rfl, Nat.zero_le _, by decide, fun i hi => absurd hi (Nat.not_lt_zero _)⟩
def Zid (Fs : List (Vector Int 64)) : Prop := ∀ i, i + 1 < Fs.length → (numN (Fs.getD (i + 1) zF64)).1 = (numN (Fs.getD i zF64)).1 + 1
theorem Zos {Fs : List (Vector Int 64)} (hF : ∀ k, k < Fs.length → fU (Fs.getD k zF64) ∧ sndB (Fs.getD k zF64) = true) (hl : Fs.length ≤ 40) : ∃ b, XW Fs = some b ∧ (b = true → Zid Fs) := by
  unfold XW
  obtain ⟨z, z1, z2⟩ := ZaE (body := t1 (JC Fs)) (fun i => ∃ k : Nat, i = (k : Int) ∧ 1 ≤ k ∧ k ≤ Fs.length + 1 ∧ ∀ t, t + 1 < k → t + 1 < Fs.length → (numN (Fs.getD (t + 1) zF64)).1 = (numN (Fs.getD t zF64)).1 + 1) (fun i => Fs.length + 1 - i.toNat) (fun z => z = .inl false ∨ (z = .inr () ∧ Zid Fs)) (by
    rintro i ⟨k, rfl, hk1, hk, hI⟩
    simp only [Qx]
    unfold JC
    rcases Nat.lt_or_ge k Fs.length with h | h
    · obtain ⟨n1, n2, n3⟩ := Zgy (hF (k - 1) (by omega)).1 (hF (k - 1) (by omega)).2
      obtain ⟨m1, m2, m3⟩ := Zgy (hF k h).1 (hF k h).2
      rw [if_pos (by simpa using h), show i64 ((k : Int) - 1) = ((k - 1 : Nat) : Int) from (Zh (by omega) (by omega)).trans (by omega), Zm (Qv (k := k - 1) (by omega) zF64), Option.bind_some, n1, Option.bind_some, Zm (Qv h zF64), Option.bind_some, m1, Option.bind_some, show i64 ((k : Int) + 1) = (k : Int) + 1 from Zh (by omega) (by omega), show i64 ((numN (Fs.getD (k - 1) zF64)).1 + 1) = (numN (Fs.getD (k - 1) zF64)).1 + 1 from Zh (by omega) (by omega)]
      by_cases q : (numN (Fs.getD k zF64)).1 = (numN (Fs.getD (k - 1) zF64)).1 + 1
      · left
        rw [if_neg (by rw [decide_eq_true q]; decide)]
        refine ⟨_, rfl, ⟨k + 1, by push_cast; rfl, by omega, by omega, fun t ht htl => ?_⟩, by omega⟩
        by_cases e : t + 1 = k
        · rw [e, show t = k - 1 by omega]; exact q
        · exact hI t (by omega) htl
      · right
        rw [if_pos (by rw [decide_eq_false q]; rfl)]
        exact ⟨_, rfl, .inl rfl⟩
    · right
      exact ⟨_, by rw [if_neg (by rw [decide_eq_true_eq]; omega)], .inr ⟨rfl, fun t ht => hI t (by omega) ht⟩⟩) 1 ⟨1, rfl, Nat.le_refl _, by omega, fun t ht => by omega⟩
  rw [z1]
  rcases z2 with rfl | ⟨rfl, h⟩
  · exact ⟨false, rfl, fun w => by cases w⟩
  · exact ⟨true, rfl, fun _ => h⟩
theorem Zpp (m : api_Memory) (s : ring_spot) (d : List Int) (p : Int) : (ZF m s d p).2.2.1.Sectors.length = m.Sectors.length ∧ (ZF m s d p).2.2.1.Slots = m.Slots := by
  have w : ∀ (m : api_Memory) (s : ring_spot) (p : Int), (Jd m s d p).2.2.1.Sectors.length = m.Sectors.length ∧ (Jd m s d p).2.2.1.Slots = m.Slots := fun m s p => by unfold Jd; exact ⟨by simp [QG], rfl⟩
  have a : (QA m s p).2.2.1.Sectors.length = m.Sectors.length ∧ (QA m s p).2.2.1.Slots = m.Slots := by
    unfold QA
    simp only
    split
    · exact ⟨by simp [QG], rfl⟩
    · exact ⟨by simp [QG], rfl⟩
  unfold ZF
  split
  · split
    · exact ⟨(w _ _ _).1.trans a.1, (w _ _ _).2.trans a.2⟩
    · exact a
  · exact w _ _ _
theorem ZmW {m : api_Memory} (h : BlankN 80 m) : WkM 0 m := by
  have rw_ : ∀ i, i < m.Sectors.length → ∃ n, 16 ≤ n ∧ m.Sectors.getD i [] = List.replicate n 255 := fun i hi => by
    obtain ⟨k, hk⟩ := h.row i hi
    have hrow := h.ok.row _ (row_bd.getD_memL hi)
    have hsl := h.ok.slots
    rw [hk, List.length_replicate] at hrow
    exact ⟨k, by omega, hk⟩
  refine ⟨h.bd, h.lim, fun i => ?_, fun i hi q => ?_, fun i hi => ?_⟩
  · rcases Nat.lt_or_ge i m.Sectors.length with w | w
    · rw [h.wear i w]; decide
    · rw [List.getD_eq_getElem?_getD, List.getElem?_eq_none (by rw [h.ok.wear]; exact w)]; decide
  · obtain ⟨k, hk, e⟩ := rw_ i hi
    rw [e, Zfg hk] at q; cases q
  · obtain ⟨k, hk, e⟩ := rw_ i hi
    rw [e, ZeP (by omega)]
theorem Zh6 {l : List api_Memory} (hl : 1 ≤ l.length ∧ l.length ≤ 8) (hO : ∀ m ∈ l, MemOK m) (hR : ∀ m ∈ l, memR m) : ∃ R : List api_Kept, Zak l = some (R.map (·.Frame), 0) ∧ R.length ≤ 32768 ∧ (∀ x ∈ R, x ∈ XD l ∧ sndB x.Frame = true) ∧ ∀ x ∈ XD l, sndB x.Frame = true → ∃ y ∈ R, nmK y = nmK x := by
  obtain ⟨d, R, d1, d2, d3, d4⟩ := Zlw (l := l) hR
  obtain ⟨e, e1, e2, e3, e4⟩ := Zh0 l
  have he : e = 0 := e4 ⟨hl, hO⟩
  have hd0 : d = 0 := by
    rw [e1] at d3
    rw [← he]; exact (Option.some.inj d3).symm
  subst hd0
  obtain ⟨f1, f2, f3, f4⟩ := d4 rfl
  rw [if_pos rfl] at d1
  exact ⟨R, d1, f1, f2, fun x hx hs => by
    obtain ⟨y, y1, y2, _⟩ := f4 x hx hs
    exact ⟨y, y1, y2⟩⟩
end Go.Vx
