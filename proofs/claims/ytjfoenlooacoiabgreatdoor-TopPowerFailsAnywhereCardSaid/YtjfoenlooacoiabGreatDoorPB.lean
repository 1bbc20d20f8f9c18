/- A text of the proof: a verified executor of the program form, or the contracts of the functions that the law reaches. -/
import Derived.Test.YtjfoenlooacoiabGreatDoorPA
import Derived.Test.YtjfoenlooacoiabGreatDoorVR
import Derived.Test.YtjfoenlooacoiabGreatDoorShT
import Derived.Test.YtjfoenlooacoiabGreatDoorVH
import Derived.Test.YtjfoenlooacoiabGreatDoorVP
set_option linter.all false
namespace Go.Vx
open Go Go.RowKit
section
variable {key : Int → Int} {D : Int → Prop} {cmp : Int → Int → Option Int}
theorem Zpx (hc : ∀ x y, D x → D y → ∃ c, cmp x y = some c ∧ (c < 0 ↔ key x < key y)) {L X R : List Int} (hN : L.length + X.length + R.length ≤ 1000000) (hX : X.Pairwise (· < ·)) (hD : ∀ x ∈ X, D x) :
    ∃ Z, Zu (L ++ X ++ R) (L.length : Int) ((L.length + X.length : Nat) : Int) cmp = some (L ++ Z ++ R) ∧ Z.Perm X ∧ Srt key Z := by
  unfold Zu
  have e0 : i64 ((L.length : Int) + 1) = ((L.length + 1 : Nat) : Int) := (Zh (by omega) (by omega)).trans (by omega)
  rw [e0]
  have hend1 : ∀ o (i : Nat), L.length + X.length ≤ i → Zt (L.length : Int) ((L.length + X.length : Nat) : Int) cmp o (i : Int) = some (.inr o) := fun o i hi => by
    unfold Zt
    rw [if_neg (by simp; omega)]
  cases X with
  | nil => exact ⟨[], ZaA (by simp only [Qy]; rw [hend1 _ _ (by simp)]), .refl _, .nil⟩
  | cons x T =>
    have hT := List.pairwise_cons.1 hX
    obtain ⟨Z, z1, z2, z3⟩ := ZpU (key := key) (D := D) (body1 := Zt (L.length : Int) ((L.length + (x :: T).length : Nat) : Int) cmp) (body2 := Zv (L.length : Int) cmp) (a := L.length) (b := L.length + (x :: T).length)
      (fun P Q x y hx hy hP hP2 => by
        unfold Zv
        have e1 : i64 ((P.length : Int) + 1 - 1) = ((P.length : Nat) : Int) := (Zh (by omega) (by omega)).trans (by omega)
        have e2 : (P.length : Int) + 1 = ((P.length + 1 : Nat) : Int) := by omega
        have g1 : (P ++ y :: x :: Q)[P.length + 1]? = some x := by rw [List.getElem?_append_right (by omega)]; simp
        have g2 : (P ++ y :: x :: Q)[P.length]? = some y := by simp
        have g3 : ((P ++ y :: x :: Q).set (P.length + 1) y)[P.length]? = some y := by rw [List.getElem?_set_ne (by omega)]; exact g2
        have hg : decide ((L.length : Int) < ((P.length + 1 : Nat) : Int)) = true := by simp; omega
        obtain ⟨c, d1, d2⟩ := hc x y hx hy
        rw [e1, e2, hg]
        simp only [gd, beq_self_eq_true, if_true, Bool.true_and]
        rw [Zm g1, Option.bind_some, Zm g2, Option.bind_some, d1, Option.bind_some]
        by_cases q : key x < key y
        · rw [if_pos (by simpa using d2.2 q), if_pos q]
          simp only [Option.bind_some, Int.toNat_natCast]
          rw [Zm g3, Option.bind_some]
          have := Zgz (L := P) (M := []) (R := Q) (x := y) (y := x)
          simp only [List.length_nil, Nat.add_zero, List.append_nil] at this
          rw [show P ++ y :: x :: Q = P ++ [y] ++ x :: Q by simp, List.set_comm _ _ (by omega), this]
          simp
        · rw [if_neg (by simpa using fun w => q (d2.1 w)), if_neg q]) (fun d => by
        unfold Zv
        simp [gd]) (fun o i hi => by
        unfold Zt
        rw [if_pos (by simp only [List.length_cons] at hi ⊢; simp; omega), show i64 ((i : Int) + 1) = (i : Int) + 1 from Zh (by simp only [List.length_cons] at hi; omega) (by simp only [List.length_cons] at hi hN; omega)]
        rfl) hend1 rfl R T [x] (by simp; omega) (List.pairwise_singleton ..) hD (fun p hp y hy => by rw [List.mem_singleton.1 hp]; exact hT.1 y hy) hT.2
    refine ⟨Z, ?_, z2, z3⟩
    rw [← z1]; congr 2; simp
theorem ZlC (hc : ∀ x y, D x → D y → ∃ c, cmp x y = some c ∧ (c < 0 ↔ key x < key y)) {l : List Int} (hl : l.length ≤ 100) (hp : l.Pairwise (· < ·)) (hD : ∀ x ∈ l, D x) :
    ∃ l', ZU l cmp = some l' ∧ l'.Perm l ∧ Srt key l' := by
  unfold ZU Qt
  obtain ⟨o, a, l1, b1, b2, b3, b4⟩ := Zqb (key := key) (D := D) (ins := fun o a b => Zu o a b cmp) (s := 20) (n := l.length) (by omega) (fun L X R hn hX hDX => Zpx hc (by omega) hX hDX)
    (body := ZO (l.length : Int) cmp) (fun o a ha => by
      unfold ZO
      by_cases q : a + 20 ≤ l.length
      · rw [if_pos (by simp; omega), if_pos q, show i64 (((a + 20 : Nat) : Int) + 20) = ((a + 20 + 20 : Nat) : Int) from (Zh (by omega) (by omega)).trans (by omega)]
      · rw [if_neg (by simp; omega), if_neg q]) l.length [] l rfl (by simp) hp hD
  simp only [List.nil_append, List.length_nil, Nat.zero_add] at b1 b2
  rw [show loop (t3 (ZO (l.length : Int) cmp)) (l, 0, 20) = some (o, (a : Int)) from b1]
  simp only [Option.bind_some, Qy]
  rw [b2]
  simp only [Option.bind_some]
  have hln : l1.length = l.length := b3.length_eq
  obtain ⟨o', k1, k2, k3⟩ := Zqf (key := key) (D := D) (n := l.length) (body := ZJ (l.length : Int) cmp) (fun o s h0 h2 hn hB hDo => by
    split
    · rename_i hs
      obtain ⟨p, a, l', p1, pa, p2, p3, p4⟩ := ZpC (key := key) (D := D) (sm := fun o a m b => ZC 100 o a m b cmp) (s := s) (n := l.length) h0
        (fun L X Y R hX hY hN sX sY hlt hDX => Zpo hc 100 L X Y R hX hY (by omega) (by omega) sX sY hlt hDX) (body := ZI (l.length : Int) cmp (s : Int)) (fun o a ha => by
          unfold ZI
          by_cases q : a + 2 * s ≤ l.length
          · rw [if_pos (by simp; omega), if_pos q, show i64 ((a : Int) + (s : Int)) = ((a + s : Nat) : Int) from (Zh (by omega) (by omega)).trans (by omega), show i64 (2 * (s : Int)) = ((2 * s : Nat) : Int) from (Zh (by omega) (by omega)).trans (by omega),
              show i64 (((a + 2 * s : Nat) : Int) + ((2 * s : Nat) : Int)) = ((a + 2 * s + 2 * s : Nat) : Int) from (Zh (by omega) (by omega)).trans (by omega)]
          · rw [if_neg (by simp; omega), if_neg q]) l.length [] o hn (by simpa using hn) hB hDo
      simp only [List.nil_append, List.length_nil, Nat.zero_add] at p1 p2
      refine ⟨l', ?_, p3, p4⟩
      unfold ZJ
      rw [if_pos (by simpa using hs), show i64 (2 * (s : Int)) = ((2 * s : Nat) : Int) from (Zh (by omega) (by omega)).trans (by omega),
        show loop (t3 (ZI (l.length : Int) cmp (s : Int))) (o, 0, ((2 * s : Nat) : Int)) = some (p, (a : Int)) from p1]
      simp only [Option.bind_some, Qy]
      rw [show i64 ((s : Int) * 2) = ((2 * s : Nat) : Int) from (Zh (by omega) (by omega)).trans (by omega)]
      rw [show i64 ((a : Int) + (s : Int)) = ((a + s : Nat) : Int) from (Zh (by omega) (by omega)).trans (by omega)]
      by_cases q : a + s < l.length
      · rw [if_pos q] at p2
        rw [if_pos (by simp; omega), p2]; rfl
      · rw [if_neg q] at p2
        cases p2
        rw [if_neg (by simp; omega)]
    · rename_i hs
      unfold ZJ
      rw [if_neg (by simpa using hs)]) _ l1 20 rfl (by omega) (by omega) hln b4 (fun x hx => hD x (b3.mem_iff.1 hx))
  refine ⟨o', ?_, k2.trans b3, k3⟩
  rw [show loop (t2 (ZJ (l.length : Int) cmp)) (l1, 20) = some o' from k1]; rfl
end
end Go.Vx

namespace Go.Vx
open Go Go.RowKit
theorem Zam {σ ρ : Type} {body : σ → Int → Option ((σ × Int) ⊕ ρ)} {N : Nat} (I : Nat → σ → Prop) (Q : ρ → Prop)
    (hstep : ∀ (k : Nat) s, k < N → I k s → (∃ s', body s (k : Int) = some (.inl (s', (k : Int) + 1)) ∧ I (k + 1) s') ∨ ∃ r, body s (k : Int) = some (.inr r) ∧ Q r)
    (hend : ∀ s, I N s → ∃ r, body s (N : Int) = some (.inr r) ∧ Q r) {s0 : σ} (h0 : I 0 s0) : ∃ r, loop (t2 body) (s0, 0) = some r ∧ Q r := by
  refine ZaE (body := t2 body) (fun p => ∃ k : Nat, p.2 = k ∧ k ≤ N ∧ I k p.1) (fun p => N - p.2.toNat) Q ?_ (s0, 0) ⟨0, rfl, Nat.zero_le _, h0⟩
  rintro ⟨s, i⟩ ⟨k, hi, hk, hI⟩
  simp only at hi hI
  subst hi
  simp only [Int.toNat_natCast, Qy]
  rcases Nat.lt_or_ge k N with h | h
  · rcases hstep k s h hI with ⟨s', h1, h2⟩ | ⟨r, h1, h2⟩
    · exact .inl ⟨_, h1, ⟨k + 1, by push_cast; rfl, h, h2⟩, by simp only; omega⟩
    · exact .inr ⟨r, h1, h2⟩
  · have : k = N := by omega
    subst this
    exact .inr (hend s hI)
theorem Zi2 {α β ρ : Type} {body : α → β → Int → Option ((α × β × Int) ⊕ ρ)} {N : Nat} (I : Nat → α → β → Prop) (Q : ρ → Prop)
    (hstep : ∀ (k : Nat) a b, k < N → I k a b → (∃ a' b', body a b (k : Int) = some (.inl (a', b', (k : Int) + 1)) ∧ I (k + 1) a' b') ∨ ∃ r, body a b (k : Int) = some (.inr r) ∧ Q r)
    (hend : ∀ a b, I N a b → ∃ r, body a b (N : Int) = some (.inr r) ∧ Q r) {a0 : α} {b0 : β} (h0 : I 0 a0 b0) : ∃ r, loop (t3 body) (a0, b0, 0) = some r ∧ Q r := by
  refine ZaE (body := t3 body) (fun p => ∃ k : Nat, p.2.2 = k ∧ k ≤ N ∧ I k p.1 p.2.1) (fun p => N - p.2.2.toNat) Q ?_ (a0, b0, 0) ⟨0, rfl, Nat.zero_le _, h0⟩
  rintro ⟨a, b, i⟩ ⟨k, hi, hk, hI⟩
  simp only at hi hI
  subst hi
  simp only [Int.toNat_natCast, Zbz]
  rcases Nat.lt_or_ge k N with h | h
  · rcases hstep k a b h hI with ⟨a', b', h1, h2⟩ | ⟨r, h1, h2⟩
    · exact .inl ⟨_, h1, ⟨k + 1, by push_cast; rfl, h, h2⟩, by simp only; omega⟩
    · exact .inr ⟨r, h1, h2⟩
  · have : k = N := by omega
    subst this
    exact .inr (hend a b hI)
theorem ZbC {ρ : Type} {body : Int → Option (Int ⊕ ρ)} {N : Nat} (I : Nat → Prop) (Q : ρ → Prop)
    (hstep : ∀ k : Nat, k < N → I k → (body (k : Int) = some (.inl ((k : Int) + 1)) ∧ I (k + 1)) ∨ ∃ r, body (k : Int) = some (.inr r) ∧ Q r)
    (hend : I N → ∃ r, body (N : Int) = some (.inr r) ∧ Q r) (h0 : I 0) : ∃ r, loop (t1 body) 0 = some r ∧ Q r := by
  refine ZaE (body := t1 body) (fun p => ∃ k : Nat, p = k ∧ k ≤ N ∧ I k) (fun p => N - p.toNat) Q ?_ 0 ⟨0, rfl, Nat.zero_le _, h0⟩
  rintro i ⟨k, hi, hk, hI⟩
  subst hi
  simp only [Int.toNat_natCast, Qx]
  rcases Nat.lt_or_ge k N with h | h
  · rcases hstep k h hI with ⟨h1, h2⟩ | ⟨r, h1, h2⟩
    · exact .inl ⟨_, h1, ⟨k + 1, by push_cast; rfl, h, h2⟩, by omega⟩
    · exact .inr ⟨r, h1, h2⟩
  · have : k = N := by omega
    subst this
    exact .inr (hend hI)
theorem Zkx {α : Type} {o : List α} {at_ : Nat} (z : α) (h : at_ ≤ o.length) (n : α) :
    (cpy (o ++ [z]) (at_ + 1) ((o.length + 1) - (at_ + 1)) at_ ((o.length + 1) - at_)).set at_ n = o.take at_ ++ n :: o.drop at_ := by
  have hl : (o ++ [z]).length = o.length + 1 := by simp
  have h1 : (at_ + 1) + ((o.length + 1) - (at_ + 1)) ≤ (o ++ [z]).length := by omega
  have h2 : at_ + ((o.length + 1) - at_) ≤ (o ++ [z]).length := by omega
  refine List.ext_getElem? fun i => ?_
  by_cases hi : i < o.length + 1
  · by_cases hia : i = at_
    · subst hia
      rw [List.getElem?_set_self (by rw [ZgF h1 h2]; omega), List.getElem?_append_right (by simp; omega)]
      simp [Nat.min_eq_left h]
    · rw [List.getElem?_set_ne (Ne.symm hia), Zm7 h1 h2 (by omega)]
      by_cases hlt : i < at_
      · rw [if_neg (by omega), List.getElem?_append_left (by omega), List.getElem?_append_left (by simp; omega), List.getElem?_take_of_lt hlt]
      · rw [if_pos (by omega), List.getElem?_append_left (by omega), List.getElem?_append_right (by simp; omega)]
        have e : i - (o.take at_).length = (i - at_ - 1) + 1 := by simp; omega
        rw [e, List.getElem?_cons_succ, List.getElem?_drop]
        congr 1
  · rw [List.getElem?_eq_none (by rw [List.length_set, ZgF h1 h2]; omega), List.getElem?_eq_none (by simp; omega)]
theorem ZoP {o : List Int} {at_ : Nat} (h : at_ ≤ o.length) (n : Int) :
    (cpy (o ++ [0]) (at_ + 1) ((o.length + 1) - (at_ + 1)) at_ ((o.length + 1) - at_)).set at_ n = o.take at_ ++ n :: o.drop at_ := Zkx 0 h n
end Go.Vx

namespace Go.Vx
open Go Go.RowKit
def ZcX (s : List Int) : Option Nat := if 16 < s.length ∧ (s.length - 16) % 97 = 0 then some ((s.length - 16) / 97) else none
theorem ZkR {s : List Int} (hl : s.length ≤ 140737488355328) : ∃ y, ZdI s = some y ∧ (match ZcX s with | some n => y = ((n : Int), true) | none => y.2 = false) := by
  unfold ZdI
  rw [show i64 ((s.length : Int) - 16) = (s.length : Int) - 16 from Zh (by omega) (by omega)]
  unfold quo rem
  rw [if_neg (by decide), Option.bind_some, if_neg (by decide)]
  by_cases h : 97 ≤ (s.length : Int) - 16
  · obtain ⟨m, hm⟩ : ∃ m : Nat, s.length = m + 16 := ⟨s.length - 16, by omega⟩
    have e1 : ((s.length : Int) - 16) = (m : Int) := by omega
    have e3 : Int.tdiv (m : Int) 97 = ((m / 97 : Nat) : Int) := rfl
    have e4 : Int.tmod (m : Int) 97 = ((m % 97 : Nat) : Int) := rfl
    have e5 : IntKind.i64.wrap (Int.tdiv (m : Int) 97) = ((m / 97 : Nat) : Int) := by rw [e3]; exact Zh (by omega) (by omega)
    refine ⟨_, by rw [decide_eq_true h]; simp only [gd, beq_self_eq_true, if_true, Option.bind_some]; rfl, ?_⟩
    rw [e1, e5, e4]
    unfold ZcX
    have e6 : s.length - 16 = m := by omega
    rw [e6]
    by_cases hz : m % 97 = 0
    · rw [if_pos ⟨by omega, hz⟩]; simp [hz]
    · rw [if_neg (fun q => hz q.2)]
      simp only [Bool.true_and]
      simpa using fun q => hz (by omega)
  · refine ⟨_, by rw [decide_eq_false h]; simp only [gd, Bool.false_eq_true, beq_iff_eq, if_false, Option.bind_some]; rfl, ?_⟩
    unfold ZcX
    rw [if_neg (fun q => h (by omega))]
    simp
theorem Znf {s : List Int} (hl : s.length ≤ 140737488355328) : Ze2 s = some (match ZcX s with | some n => (n : Int) | none => -1) := by
  unfold Ze2
  rw [show i64 ((s.length : Int) - 16) = (s.length : Int) - 16 from Zh (by omega) (by omega)]
  unfold quo rem
  rw [if_neg (show ¬ (97 : Int) = 0 by decide), if_neg (show ¬ (97 : Int) = 0 by decide)]
  by_cases h : (s.length : Int) - 16 ≤ 0
  · rw [decide_eq_true h]
    simp only [gd, Bool.true_eq_false, beq_iff_eq, if_false, Option.bind_some, Bool.true_or, if_true]
    unfold ZcX
    rw [if_neg (fun q => by omega)]
  · obtain ⟨m, hm⟩ : ∃ m : Nat, s.length = m + 16 := ⟨s.length - 16, by omega⟩
    have e1 : ((s.length : Int) - 16) = (m : Int) := by omega
    have e3 : Int.tdiv (m : Int) 97 = ((m / 97 : Nat) : Int) := rfl
    have e4 : Int.tmod (m : Int) 97 = ((m % 97 : Nat) : Int) := rfl
    have e5 : IntKind.i64.wrap (Int.tdiv (m : Int) 97) = ((m / 97 : Nat) : Int) := by rw [e3]; exact Zh (by omega) (by omega)
    rw [decide_eq_false h]
    simp only [gd, beq_self_eq_true, if_true, Option.bind_some, Bool.false_or]
    rw [e1, e5, e4]
    unfold ZcX
    have e6 : s.length - 16 = m := by omega
    rw [e6]
    by_cases hz : m % 97 = 0
    · rw [if_neg (by simp [hz]), if_pos ⟨by omega, hz⟩]
    · rw [if_pos (by simpa using fun q => hz (by omega)), if_neg (fun q => hz q.2)]
def slotL (s : List Int) (i : Nat) : List Int := (s.take (16 + i * 97 + 97)).drop (16 + i * 97)
theorem JV {s : List Int} {i : Nat} (h : 16 + i * 97 + 97 ≤ s.length) : (slotL s i).length = 97 := by unfold slotL; simp; omega
theorem ZgX {s : List Int} (h : u8R s) (i : Nat) : u8R (slotL s i) := fun x hx => h x (List.mem_of_mem_take (List.mem_of_mem_drop hx))
theorem Zhh {s : List Int} {i : Nat} (hl : s.length ≤ 140737488355328) (h : 16 + i * 97 + 97 ≤ s.length) : ∃ v, Zah s (i : Int) = some v ∧ v.toList = slotL s i := by
  unfold Zah
  have e1 : i64 ((i : Int) * 97) = (i : Int) * 97 := Zh (by omega) (by omega)
  have e2 : i64 (16 + (i : Int) * 97) = ((16 + i * 97 : Nat) : Int) := (Zh (by omega) (by omega)).trans (by omega)
  have e3 : i64 (((16 + i * 97 : Nat) : Int) + 97) = ((16 + i * 97 + 97 : Nat) : Int) := (Zh (by omega) (by omega)).trans (by omega)
  rw [e1, e2, e3, Zcc (by omega) h, Option.bind_some]
  obtain ⟨v, hv, hvl⟩ := ZjO (m := 97) (xs := (s.take (16 + i * 97 + 97)).drop (16 + i * 97)) (by simp; omega)
  rw [hv]
  refine ⟨v, rfl, ?_⟩
  rw [hvl, List.take_of_length_le (by rw [List.length_drop, List.length_take]; omega)]; unfold slotL; rfl
theorem Zl2 {s : List Int} {i : Nat} (hl : s.length ≤ 140737488355328) (h : 16 + i * 97 + 97 ≤ s.length) : Zex s (i : Int) = some (slotL s i) := by
  unfold Zex
  have e1 : i64 ((i : Int) * 97) = (i : Int) * 97 := Zh (by omega) (by omega)
  have e2 : i64 (16 + (i : Int) * 97) = ((16 + i * 97 : Nat) : Int) := (Zh (by omega) (by omega)).trans (by omega)
  have e4 : i64 ((i : Int) + 1) = (i : Int) + 1 := Zh (by omega) (by omega)
  have e5 : i64 (((i : Int) + 1) * 97) = ((i : Int) + 1) * 97 := Zh (by omega) (by omega)
  have e3 : i64 (16 + ((i : Int) + 1) * 97) = ((16 + i * 97 + 97 : Nat) : Int) := (Zh (by omega) (by omega)).trans (by omega)
  rw [e1, e2, e4, e5, e3, Zcc (by omega) h]; rfl
def stV (l : List Int) : Int := if l.getD 96 0 = 0 then 1 else if l.any (fun x => !decide (x = 255)) then 2 else 0
theorem Zmj {l : List Int} (hl : l.length ≤ 9223372036854775806) : Qh l (fun z0 => Jp z0) = some (l.any fun x => !decide (x = 255)) := by
  have key : loop (t1 (Qj l (fun z0 => Jp z0))) 0 = some (match l.findIdx? (fun x => !decide (x = 255)) with | some k => .inl (k : Int) | none => .inr ()) := by
    refine (Zg0 (xs := l) (fun k => (match (l.drop k).findIdx? (fun x => !decide (x = 255)) with | some j => (.inl ((j + k : Nat) : Int) : Int ⊕ Unit) | none => .inr ())) (fun k x hx => ?_) ?_).trans (by simp)
    · have hk := (List.getElem?_eq_some_iff.1 hx).1
      unfold Qj Jp
      rw [if_pos (by simpa using hk), Zm hx]
      simp only [Option.bind_some]
      rw [show i64 ((k : Int) + 1) = (k : Int) + 1 from Zh (by omega) (by omega), JX hx, List.findIdx?_cons]
      by_cases e : x = 255
      · left
        subst e
        refine ⟨by simp, ?_⟩
        simp only [decide_true, Bool.not_true, Bool.false_eq_true, if_false]
        cases (l.drop (k + 1)).findIdx? (fun x => !decide (x = 255)) with
        | none => rfl
        | some j => simp only [Option.map_some]; congr 2; omega
      · right
        simp [e]
    · unfold Qj
      rw [if_neg (by simp)]
      simp
  unfold Qh Xc
  rw [key]
  cases hf : l.findIdx? (fun x => !decide (x = 255)) with
  | none =>
    rw [List.findIdx?_eq_none_iff] at hf
    simp only [Option.bind_some, Sum.elim_inr, Zjp]
    congr 1
    symm
    rw [show decide ((0 : Int) ≤ -1) = false from rfl]
    rw [List.any_eq_false]
    intro x hx
    simpa using hf x hx
  | some k =>
    simp only [Option.bind_some, Sum.elim_inl]
    congr 1
    rw [decide_eq_true (by omega)]
    symm
    rw [List.any_eq_true]
    obtain ⟨hk, h1, _⟩ := List.findIdx?_eq_some_iff_getElem.1 hf
    exact ⟨l[k], List.getElem_mem hk, h1⟩
theorem Zh1 {v : Vector Int 97} {l : List Int} (hv : v.toList = l) (hl : l.length = 97) : Zar v = some (stV l) := by
  unfold Zar
  rw [show ZM v 96 = some (l.getD 96 0) from Zfs (k := 96) (by rw [hv]; exact Qv (by omega) 0), Option.bind_some]
  unfold stV
  by_cases h : l.getD 96 0 = 0
  · rw [if_pos (by simpa using h), if_pos h]
  · rw [if_neg (by simpa using h), if_neg h]
    rw [hv, show slc l 0 (97 : Int) = some l from (Zcc (a := 0) (b := 97) (by omega) (by omega)).trans (by rw [List.take_of_length_le (by omega)]; rfl), Option.bind_some, Zmj (by omega), Option.bind_some]
    cases l.any (fun x => !decide (x = 255)) <;> simp
theorem Zny {s : List Int} {i : Nat} (hl : s.length ≤ 140737488355328) (h : 16 + i * 97 + 97 ≤ s.length) : Ze8 s (i : Int) = some (stV (slotL s i)) := by
  unfold Ze8
  have h97 := JV h
  rw [Zl2 hl h, Option.bind_some]
  generalize slotL s i = l at h97
  rw [show idx l 96 = some (l.getD 96 0) from Zm (k := 96) (Qv (by omega) 0), Option.bind_some]
  unfold stV
  by_cases h : l.getD 96 0 = 0
  · rw [if_pos (by simpa using h), if_pos h]
  · rw [if_neg (by simpa using h), if_neg h]
    have key := Zk3 (xs := l) (fun x => if x = 255 then (none : Option Unit) else some ()) (fun _ => (Sum.inl 2 : Int ⊕ Unit)) (Sum.inr ()) (body := ZbV l) (fun k x hx => by
      have hlt := Zn0 hx
      simp only [ZbV, hlt, decide_true, if_true, Zm hx, Option.bind_some]
      rw [show i64 ((k : Int) + 1) = (k : Int) + 1 from Zh (by omega) (by omega)]
      by_cases e : x = 255 <;> simp [e]) (by simp [ZbV])
    rw [key]
    have fa : ∀ m : List Int, (Zgg (fun x => if x = 255 then (none : Option Unit) else some ()) m).isSome = m.any (fun x => !decide (x = 255)) := by
      intro m
      induction m with
      | nil => rfl
      | cons x m ih =>
        unfold Zgg
        by_cases e : x = 255
        · simp [e, ih]
        · simp [e]
    have := fa l
    cases hfl : Zgg (fun x => if x = 255 then (none : Option Unit) else some ()) l with
    | none =>
      rw [hfl] at this
      rw [← this]; rfl
    | some u =>
      rw [hfl] at this
      rw [← this]; rfl
theorem Zl6 {s : List Int} {n i : Nat} (h : ZcX s = some n) (hi : i < n) : 16 + i * 97 + 97 ≤ s.length := by
  unfold ZcX at h
  split at h
  · cases h
    have : (i + 1) * 97 ≤ (s.length - 16) / 97 * 97 := Nat.mul_le_mul_right _ hi
    have := Nat.div_mul_le_self (s.length - 16) 97
    omega
  · cases h
theorem ZlW {s : List Int} {n : Nat} (h : ZcX s = some n) : 0 < n ∧ 16 + n * 97 = s.length := by
  unfold ZcX at h
  split at h
  · cases h; omega
  · cases h
end Go.Vx

namespace Go.Vx
open Go Go.RowKit
def rd (f : Vector Int 64) (i : Nat) : Int := f.toList.getD i 0
theorem ZfK (f : Vector Int 64) {k : Nat} (hk : k < 64) (x : Int) (i : Nat) : rd (Qz f (k : Int) x) i = if i = k then x else rd f i := by
  unfold rd
  rw [ZbR, Int.toNat_natCast, List.getD_eq_getElem?_getD, List.getElem?_set, List.getD_eq_getElem?_getD]
  by_cases h : i = k
  · subst h; rw [if_pos rfl, if_pos (by simpa using hk), if_pos rfl]; rfl
  · rw [if_neg (fun q => h q.symm), if_neg h]
theorem ZnJ (f : Vector Int 64) {k : Nat} (hk : k < 64) : ZM f (k : Int) = some (rd f k) := Zfs (by unfold rd; exact Qv (by simpa using hk) 0)
theorem ZgW {f g : Vector Int 64} (h : ∀ i, i < 64 → rd f i = rd g i) : f = g := by
  apply Vector.toList_inj.1
  apply List.ext_getElem (by simp)
  intro i h1 h2
  have := h i (by simpa using h1)
  unfold rd at this
  rw [List.getD_eq_getElem?_getD, List.getD_eq_getElem?_getD, List.getElem?_eq_getElem h1, List.getElem?_eq_getElem h2] at this
  exact this
def Zck (g : Nat → Int) : Vector Int 64 := Vector.ofFn fun j : Fin 64 => g j.val
theorem Zcn (g : Nat → Int) {i : Nat} (hi : i < 64) : rd (Zck g) i = g i := by
  unfold rd Zck
  rw [List.getD_eq_getElem?_getD, List.getElem?_eq_getElem (by simpa using hi)]
  simp
theorem ZlL {body : Vector Int 64 → Int → Option ((Vector Int 64 × Int) ⊕ Vector Int 64)} (g : Nat → Int) {v0 : Vector Int 64} (h0 : ∀ i, i < 64 → rd v0 i = 0)
    (hstep : ∀ v (k : Nat), k < 64 → rd v k = 0 → body v k = some (.inl (Qz v k (g k), (k : Int) + 1))) (hend : ∀ v, body v (64 : Nat) = some (.inr v)) : loop (t2 body) (v0, 0) = some (Zck g) := by
  refine ZdM (body := t2 body) (fun p => ∃ k : Nat, p.2 = k ∧ k ≤ 64 ∧ ∀ i, i < 64 → rd p.1 i = if i < k then g i else 0) (fun p => 64 - p.2.toNat) (fun _ => Zck g) ?_ (v0, 0) ⟨0, rfl, by omega, fun i hi => by rw [if_neg (by omega)]; exact h0 i hi⟩
  rintro ⟨v, z⟩ ⟨k, hz, hk, hI⟩
  simp only at hz hI
  subst hz
  simp only [Qy]
  rcases Nat.lt_or_ge k 64 with h | h
  · left
    refine ⟨_, hstep v k h (by rw [hI k h, if_neg (by omega)]), ⟨k + 1, by push_cast; rfl, h, fun i hi => ?_⟩, by simp only; omega, trivial⟩
    simp only
    rw [ZfK v h, hI i hi]
    by_cases e : i = k
    · subst e; rw [if_pos rfl, if_pos (by omega)]
    · rw [if_neg e]
      by_cases e2 : i < k
      · rw [if_pos e2, if_pos (by omega)]
      · rw [if_neg e2, if_neg (by omega)]
  · right
    have : k = 64 := by omega
    subst this
    rw [hend]
    have : v = Zck g := ZgW fun i hi => by rw [hI i hi, if_pos hi, Zcn g hi]
    rw [this]
def Xt (l : List Int) (i : Nat) : Int := if i % 2 = 0 then l.getD (3 * (i / 2)) 0 * 16 + l.getD (3 * (i / 2) + 1) 0 / 16 else (l.getD (3 * (i / 2) + 1) 0 % 16) * 256 + l.getD (3 * (i / 2) + 2) 0
theorem Zlo : (List.range 4096).all (fun n => decide (bor .u16 ((n / 16 * 16 : Nat) : Int) ((n % 16 : Nat) : Int) = (n : Int)) && decide (bor .u16 ((n / 256 * 256 : Nat) : Int) ((n % 256 : Nat) : Int) = (n : Int))) = true := by decide +kernel
theorem bo4 {a b : Int} (ha : 0 ≤ a ∧ a ≤ 255) (hb : 0 ≤ b ∧ b ≤ 15) : bor .u16 (a * 16) b = a * 16 + b := by
  obtain ⟨a, rfl⟩ := Int.eq_ofNat_of_zero_le ha.1
  obtain ⟨b, rfl⟩ := Int.eq_ofNat_of_zero_le hb.1
  have h := List.all_eq_true.1 Zlo (a * 16 + b) (List.mem_range.2 (by omega))
  rw [Bool.and_eq_true] at h
  have h := of_decide_eq_true h.1
  rw [show (a * 16 + b) / 16 * 16 = a * 16 by omega, show (a * 16 + b) % 16 = b by omega, show ((a * 16 : Nat) : Int) = (a : Int) * 16 by omega, show ((a * 16 + b : Nat) : Int) = (a : Int) * 16 + b by omega] at h
  exact h
theorem bo8 {a b : Int} (ha : 0 ≤ a ∧ a ≤ 15) (hb : 0 ≤ b ∧ b ≤ 255) : bor .u16 (a * 256) b = a * 256 + b := by
  obtain ⟨a, rfl⟩ := Int.eq_ofNat_of_zero_le ha.1
  obtain ⟨b, rfl⟩ := Int.eq_ofNat_of_zero_le hb.1
  have h := List.all_eq_true.1 Zlo (a * 256 + b) (List.mem_range.2 (by omega))
  rw [Bool.and_eq_true] at h
  have h := of_decide_eq_true h.2
  rw [show (a * 256 + b) / 256 * 256 = a * 256 by omega, show (a * 256 + b) % 256 = b by omega, show ((a * 256 : Nat) : Int) = (a : Int) * 256 by omega, show ((a * 256 + b : Nat) : Int) = (a : Int) * 256 + b by omega] at h
  exact h
theorem Zl7 : (List.range 256).all (fun n => decide (QJ .u16 (n : Int) 15 = ((n % 16 : Nat) : Int))) = true := by decide +kernel
theorem Zqd {x : Int} (h : 0 ≤ x ∧ x ≤ 255) : QJ .u16 x 15 = x % 16 := by
  obtain ⟨x, rfl⟩ := Int.eq_ofNat_of_zero_le h.1
  exact (of_decide_eq_true (List.all_eq_true.1 Zl7 x (List.mem_range.2 (by omega)))).trans (by omega)
theorem ZkM (z : Int) : u16 z = z % 65536 := rfl
theorem Znx {k : Nat} (h : k ≤ 9223372036854775807) : quo .i64 (k : Int) 2 = some ((k / 2 : Nat) : Int) := by
  unfold quo
  rw [if_neg (by decide)]
  have e3 : Int.tdiv (k : Int) 2 = ((k / 2 : Nat) : Int) := rfl
  rw [e3, Zh (by omega) (by omega)]
theorem ZoG (k : Nat) : rem (k : Int) 2 = some ((k % 2 : Nat) : Int) := by
  unfold rem
  rw [if_neg (by decide)]; rfl
theorem Zlc {p : Vector Int 96} {l : List Int} (hp : p.toList = l) (hu : u8R l) {i : Nat} (hi : i < 64) : ZbE p (i : Int) = some (Xt l i) := by
  have hl : l.length = 96 := by rw [← hp]; simp
  unfold ZbE
  rw [Znx (by omega), Option.bind_some, ZoG, Option.bind_some]
  have hg : ∀ (z : Int) (k : Nat), z = (k : Int) → k < 96 → ZM p z = some (l.getD k 0) := fun z k hz hk => by
    subst hz
    exact Zfs (by rw [hp]; exact Qv (by omega) 0)
  have e1 : i64 (((i / 2 : Nat) : Int) * 3) = ((3 * (i / 2) : Nat) : Int) := (Zh (by omega) (by omega)).trans (by omega)
  have e2 : i64 (((3 * (i / 2) : Nat) : Int) + 1) = ((3 * (i / 2) + 1 : Nat) : Int) := (Zh (by omega) (by omega)).trans (by omega)
  have e3 : i64 (((3 * (i / 2) : Nat) : Int) + 2) = ((3 * (i / 2) + 2 : Nat) : Int) := (Zh (by omega) (by omega)).trans (by omega)
  rw [e1, e2, e3]
  have b0 := Zai hu (3 * (i / 2))
  have b1 := Zai hu (3 * (i / 2) + 1)
  have b2 := Zai hu (3 * (i / 2) + 2)
  rw [hg _ (3 * (i / 2)) rfl (by omega), hg _ (3 * (i / 2) + 1) rfl (by omega), hg _ (3 * (i / 2) + 2) rfl (by omega)]
  unfold Xt
  generalize l.getD (3 * (i / 2)) 0 = x0 at b0
  generalize l.getD (3 * (i / 2) + 1) 0 = x1 at b1
  generalize l.getD (3 * (i / 2) + 2) 0 = x2 at b2
  have u0 : u16 x0 = x0 := by rw [ZkM]; omega
  have u1 : u16 x1 = x1 := by rw [ZkM]; omega
  have u2 : u16 x2 = x2 := by rw [ZkM]; omega
  by_cases h : i % 2 = 0
  · have s1 : shl .u16 x0 4 = some (x0 * 16) := by
      unfold shl
      rw [if_neg (by decide)]
      show some (IntKind.u16.wrap (x0 * 2 ^ 4)) = _
      rw [show IntKind.u16.wrap (x0 * 2 ^ 4) = (x0 * 2 ^ 4) % 65536 from rfl]
      congr 1; omega
    have s2 : shr .u16 x1 4 = some (x1 / 16) := ZmR (k := .u16) (j := 4) (by decide)
    rw [if_pos (by simp [h]), if_pos h, Option.bind_some, u0, s1, Option.bind_some, Option.bind_some, u1, s2, Option.bind_some, bo4 b0 (by omega)]
  · have s1 : shl .u16 (x1 % 16) 8 = some (x1 % 16 * 256) := by
      unfold shl
      rw [if_neg (by decide)]
      show some (IntKind.u16.wrap (x1 % 16 * 2 ^ 8)) = _
      rw [show IntKind.u16.wrap (x1 % 16 * 2 ^ 8) = (x1 % 16 * 2 ^ 8) % 65536 from rfl]
      congr 1; omega
    rw [if_neg (by simp; omega), if_neg h, Option.bind_some, u1, Zqd b1, s1, Option.bind_some, Option.bind_some, u2, bo8 (by omega) b2]
theorem Znp : ∀ i, i < 64 → rd (Vector.replicate 64 0) i = 0 := by
  intro i hi
  unfold rd
  rw [Vector.toList_replicate, List.getD_eq_getElem?_getD, List.getElem?_replicate, if_pos hi]; rfl
theorem Zn7 {p : Vector Int 96} {l : List Int} (hp : p.toList = l) (hu : u8R l) : ZcL p = some (Zck (Xt l)) := by
  unfold ZcL
  rw [ZlL (body := ZaM p) (Xt l) Znp (fun v k hk h0 => ?_) (fun v => ?_)]
  · rfl
  · unfold ZaM
    rw [if_pos (by simp; omega), Zlc hp hu hk, Option.bind_some, ZnJ v hk, Option.bind_some, show i64 ((k : Int) + 1) = (k : Int) + 1 from Zh (by omega) (by omega)]
  · unfold ZaM
    rw [if_neg (by decide)]
theorem ZnO (f : Vector Int 64) (i : Nat) (x y : Int) : Qz (Qz f (i : Int) x) (i : Int) y = Qz f (i : Int) y := by
  apply Vector.toList_inj.1
  rw [ZbR, ZbR, ZbR, List.set_set]
def ZcK (l : List Int) (j : Nat) : Int := if j % 2 = 1 then l.getD (j / 2) 0 % 16 else l.getD (j / 2) 0 / 16
theorem Ziv {l : List Int} (hu : u8R l) (h96 : 96 ≤ l.length) {i j : Nat} (hi : i < 64) (hj : j < 3) (f : Vector Int 64) (hf : 0 ≤ rd f i ∧ rd f i ≤ 4095) :
    JW l (i : Int) f (j : Int) = some (.inl (Qz f (i : Int) ((rd f i * 16 + ZcK l (3 * i + j)) % 65536), (j : Int) + 1)) := by
  unfold JW
  have e1 : i64 (3 * (i : Int)) = ((3 * i : Nat) : Int) := (Zh (by omega) (by omega)).trans (by omega)
  have e2 : i64 (((3 * i : Nat) : Int) + (j : Int)) = ((3 * i + j : Nat) : Int) := (Zh (by omega) (by omega)).trans (by omega)
  have hb := Zai hu ((3 * i + j) / 2)
  have hx : idx l (((3 * i + j) / 2 : Nat) : Int) = some (l.getD ((3 * i + j) / 2) 0) := Zm (Qv (by omega) 0)
  rw [if_pos (by simp; omega), e1, e2, Znx (by omega), Option.bind_some, hx, Option.bind_some, ZoG]
  unfold ZcK
  generalize l.getD ((3 * i + j) / 2) 0 = x at hb hx
  have ix : i64 x = x := Zh (by omega) (by omega)
  rw [ix]
  have q16 : quo .i64 x 16 = some (x / 16) := by
    unfold quo
    rw [if_neg (by decide), Int.tdiv_eq_ediv_of_nonneg hb.1, Zh (by omega) (by omega)]
  have r16 : rem x 16 = some (x % 16) := by
    unfold rem
    rw [if_neg (by decide), Int.tmod_eq_emod_of_nonneg hb.1]
  rw [q16, Option.bind_some, Option.bind_some]
  have e5 : i64 ((j : Int) + 1) = (j : Int) + 1 := Zh (by omega) (by omega)
  have fin : ∀ h : Int, 0 ≤ h ∧ h ≤ 15 → ((ZM f (i : Int)).bind fun x3 => (ZM f (i : Int)).bind fun x4 => some (Sum.inl (Qz f (i : Int) (u16 ((u16 (x3 * 16)) + (u16 h))), i64 ((j : Int) + 1)))) = (some (.inl (Qz f (i : Int) ((rd f i * 16 + h) % 65536), (j : Int) + 1)) : Option ((Vector Int 64 × Int) ⊕ Vector Int 64)) := by
    intro h hh
    rw [ZnJ f hi, Option.bind_some, Option.bind_some, e5]
    congr 4
    rw [ZkM, ZkM, ZkM]; omega
  by_cases hp : (3 * i + j) % 2 = 1
  · rw [if_pos (by simp [hp]), if_pos hp, Option.bind_some, hx, Option.bind_some, ix, r16, Option.bind_some, Option.bind_some]
    exact fin _ (by omega)
  · rw [if_neg (by simp; omega), if_neg hp, Option.bind_some]
    exact fin _ (by omega)
theorem Zg7 {l : List Int} (hu : u8R l) (j : Nat) : 0 ≤ ZcK l j ∧ ZcK l j ≤ 15 := by
  have := Zai hu (j / 2)
  unfold ZcK
  split <;> omega
theorem Znd {l : List Int} (hu : u8R l) (i : Nat) : Xt l i = (ZcK l (3 * i) * 16 + ZcK l (3 * i + 1)) * 16 + ZcK l (3 * i + 2) := by
  have b0 := Zai hu (3 * (i / 2))
  have b1 := Zai hu (3 * (i / 2) + 1)
  have b2 := Zai hu (3 * (i / 2) + 2)
  unfold Xt ZcK
  by_cases h : i % 2 = 0
  · rw [if_pos h, if_neg (by omega), if_pos (by omega), if_neg (by omega), show 3 * i / 2 = 3 * (i / 2) by omega, show (3 * i + 1) / 2 = 3 * (i / 2) by omega, show (3 * i + 2) / 2 = 3 * (i / 2) + 1 by omega]
    omega
  · rw [if_neg h, if_pos (by omega), if_neg (by omega), if_pos (by omega), show 3 * i / 2 = 3 * (i / 2) + 1 by omega, show (3 * i + 1) / 2 = 3 * (i / 2) + 2 by omega, show (3 * i + 2) / 2 = 3 * (i / 2) + 2 by omega]
    omega
def Zhl : Vector Int 64 := #v[0, 0, 0, 0, 0, 0, 0, 0, 0, 0, 0, 0, 0, 0, 0, 0, 0, 0, 0, 0, 0, 0, 0, 0, 0, 0, 0, 0, 0, 0, 0, 0, 0, 0, 0, 0, 0, 0, 0, 0, 0, 0, 0, 0, 0, 0, 0, 0, 0, 0, 0, 0, 0, 0, 0, 0, 0, 0, 0, 0, 0, 0, 0, 0]
theorem Zk4 : (List.range 64).all (fun i => decide (rd Zhl i = 0)) = true := by decide +kernel
theorem ZnF : ∀ i, i < 64 → rd Zhl i = 0 := fun i hi => of_decide_eq_true (List.all_eq_true.1 Zk4 i (List.mem_range.2 hi))
theorem Zlh {l : List Int} (hu : u8R l) (h96 : 96 ≤ l.length) : ZeX l = some (Zck (Xt l)) := by
  have key := ZlL (body := ZbX l) (Xt l) ZnF (fun v k hk h0 => by
    unfold ZbX
    have b0 := Zg7 hu (3 * k)
    have b1 := Zg7 hu (3 * k + 1)
    have b2 := Zg7 hu (3 * k + 2)
    have lp : loop (t2 (JW l (k : Int))) (v, 0) = some (Qz v (k : Int) (Xt l k)) := by
      refine Xq (Ziv hu h96 hk (j := 0) (by omega) v (by omega)) ?_
      refine Xq (Ziv hu h96 hk (j := 1) (by omega) _ (by rw [ZfK v hk, if_pos rfl, h0, Nat.add_zero]; omega)) ?_
      refine Xq (Ziv hu h96 hk (j := 2) (by omega) _ (by rw [ZfK _ hk, if_pos rfl, ZfK v hk, if_pos rfl, h0, Nat.add_zero]; omega)) ?_
      refine Zdp ?_
      show JW l (k : Int) _ (((2 : Nat) : Int) + 1) = _
      unfold JW
      rw [if_neg (by decide), ZfK _ hk, if_pos rfl, ZfK _ hk, if_pos rfl, h0, ZnO, ZnO, Znd hu]
      rw [show 3 * k + 0 = 3 * k from rfl]
      have e : (((0 * 16 + ZcK l (3 * k)) % 65536 * 16 + ZcK l (3 * k + 1)) % 65536 * 16 + ZcK l (3 * k + 2)) % 65536 = (ZcK l (3 * k) * 16 + ZcK l (3 * k + 1)) * 16 + ZcK l (3 * k + 2) := by omega
      rw [e]
    rw [if_pos (by simp; omega), lp]
    simp only [Option.bind_some, Qx]
    rw [show i64 ((k : Int) + 1) = (k : Int) + 1 from Zh (by omega) (by omega)]) (fun v => by
    unfold ZbX
    rw [if_neg (by simp)])
  unfold ZeX
  rw [show (#v[0, 0, 0, 0, 0, 0, 0, 0, 0, 0, 0, 0, 0, 0, 0, 0, 0, 0, 0, 0, 0, 0, 0, 0, 0, 0, 0, 0, 0, 0, 0, 0, 0, 0, 0, 0, 0, 0, 0, 0, 0, 0, 0, 0, 0, 0, 0, 0, 0, 0, 0, 0, 0, 0, 0, 0, 0, 0, 0, 0, 0, 0, 0, 0] : Vector Int 64) = Zhl from rfl, key]; rfl
theorem Zkw {l : List Int} (hu : u8R l) (h96 : 96 ≤ l.length) : XT l = some (Zck (Xt l), 0) ∧ ZcF l = some (Zck (Xt l), 0) := by
  constructor
  · unfold XT
    rw [if_neg (by simp; omega)]
    rw [show slc l 0 96 = some (l.take 96) from (Zcc (a := 0) (b := 96) (by omega) (by omega)).trans (by rw [List.drop_zero]), Option.bind_some]
    obtain ⟨v, hv, hvl⟩ := ZjO (m := 96) (xs := l.take 96) (by rw [List.length_take]; omega)
    rw [hv, Option.bind_some, Zn7 hvl (fun x hx => hu x (List.mem_of_mem_take (List.mem_of_mem_take hx))), Option.bind_some]
    have e : Zck (Xt (List.take 96 (List.take 96 l))) = Zck (Xt l) := ZgW fun i hi => by
      rw [Zcn _ hi, Zcn _ hi, List.take_take, Nat.min_self]
      have e : ∀ k, k < 96 → (l.take 96).getD k 0 = l.getD k 0 := fun k hk => by
        rw [List.getD_eq_getElem?_getD, List.getD_eq_getElem?_getD, List.getElem?_take_of_lt hk]
      unfold Xt
      rw [e _ (by omega), e _ (by omega), e _ (by omega)]
    rw [e]
  · unfold ZcF
    rw [if_neg (by simp; omega), Zlh hu h96, Option.bind_some]
def Zgj (s : List Int) (i : Int) : Vector Int 64 × Int := match ZcX s with
  | none => (Zhl, 3)
  | some n => if 0 ≤ i ∧ i ≤ (n : Int) - 1 then (Zck (Xt (slotL s i.toNat)), 0) else (Zhl, 9)
theorem Zjl {s : List Int} (hu : u8R s) (hl : s.length ≤ 140737488355328) (i : Int) : Zec s i = some (Zgj s i) ∧ ZcT s i = some (Zgj s i) := by
  obtain ⟨y, h1, h2⟩ := ZkR hl
  unfold Zec ZcT
  rw [h1, Znf hl, Option.bind_some, Option.bind_some]
  cases hn : ZcX s with
  | none =>
    rw [hn] at h2
    simp only at h2
    have hF : Zgj s i = (Zhl, 3) := by unfold Zgj; rw [hn]
    rw [if_pos (by simp [h2]), if_pos (by simp), hF]
    exact ⟨rfl, rfl⟩
  | some n =>
    rw [hn] at h2
    simp only at h2
    subst h2
    have hb := ZlW hn
    have e1 : i64 ((n : Int) - 1) = (n : Int) - 1 := Zh (by omega) (by omega)
    rw [if_neg (by simp), if_neg (by simp)]
    have hF : Zgj s i = if 0 ≤ i ∧ i ≤ (n : Int) - 1 then (Zck (Xt (slotL s i.toNat)), 0) else (Zhl, 9) := by unfold Zgj; rw [hn]
    rw [show i64 (((n : Int), true).1 - 1) = (n : Int) - 1 from e1, hF]
    unfold Qu QT
    rw [Option.bind_some, Option.bind_some]
    by_cases h : 0 ≤ i ∧ i ≤ (n : Int) - 1
    · obtain ⟨k, rfl⟩ := Int.eq_ofNat_of_zero_le h.1
      have hs := Zl6 hn (i := k) (by omega)
      obtain ⟨v, hv, hvl⟩ := Zhh hl hs
      have h97 := JV hs
      rw [if_pos h, if_neg (by simp; omega), if_neg (by simp; omega), hv, Zl2 hl hs, Option.bind_some, Option.bind_some]
      rw [hvl, show slc (slotL s k) 0 (97 : Int) = some (slotL s k) from (Zcc (a := 0) (b := 97) (by omega) (by omega)).trans (by rw [List.take_of_length_le (by omega), List.drop_zero]), Option.bind_some]
      obtain ⟨f1, f2⟩ := Zkw (ZgX hu k) (by omega)
      rw [f1, f2]
      exact ⟨rfl, rfl⟩
    · rw [if_neg h, if_pos (by simp; omega), if_pos (by simp; omega)]
      exact ⟨rfl, rfl⟩
end Go.Vx

namespace Go.Vx
open Go Go.RowKit
def ZeU (x : api_Memory) : Prop := (wfI .i64) x.Slots ∧ (wfI .i64) x.Limit ∧ (wfL (wfL (wfI .u8))) x.Sectors ∧ (wfL (wfI .i64)) x.Wear ∧ (wfL wfT) x.Bad ∧ True
end Go.Vx

namespace Go.Vx
open Go Go.RowKit
def ZcR (m : api_Memory) (i : Int) : Int := (headV (m.Sectors.getD i.toNat [])).1
def okM (m : api_Memory) (k : Nat) : Bool := (headV (m.Sectors.getD k [])).2.2 && !(m.Bad.getD k false)
def hdM (m : api_Memory) : Nat → List Int
  | 0 => []
  | k + 1 => hdM m k ++ if okM m k = true then [(k : Int)] else []
theorem Zg6 (m : api_Memory) (k : Nat) : hdM m (k + 1) = hdM m k ++ if okM m k = true then [(k : Int)] else [] := rfl
theorem ZgV (m : api_Memory) : ∀ (k : Nat) x, x ∈ hdM m k → 0 ≤ x ∧ x < k
  | 0, x, h => by cases h
  | k + 1, x, h => by
    unfold hdM at h
    rcases List.mem_append.1 h with q | q
    · have := ZgV m k x q; omega
    · split at q
      · rw [List.mem_singleton.1 q]; omega
      · cases q
theorem Zkj (m : api_Memory) : ∀ k : Nat, (hdM m k).Pairwise (· < ·)
  | 0 => .nil
  | k + 1 => by
    unfold hdM
    refine List.pairwise_append.2 ⟨Zkj m k, by split <;> simp, fun x hx y hy => ?_⟩
    have := ZgV m k x hx
    split at hy
    · rw [List.mem_singleton.1 hy]; omega
    · cases hy
theorem Zfp (m : api_Memory) : ∀ k : Nat, (hdM m k).length ≤ k
  | 0 => Nat.le_refl _
  | k + 1 => by
    unfold hdM
    have := Zfp m k
    rw [List.length_append]
    split <;> simp <;> omega
def memR (m : api_Memory) : Prop := ∀ s ∈ m.Sectors, u8R s
theorem Zhq (s : List Int) : 0 ≤ (headV s).1 ∧ (headV s).1 ≤ 1073741824 := by
  unfold headV
  split
  · simp
  · simp only
    split
    · rename_i h; exact ⟨by simp only; omega, h.2.1⟩
    · simp
theorem ZbS {m : api_Memory} (h : memR m) (k : Nat) : u8R (m.Sectors.getD k []) := by
  rw [List.getD_eq_getElem?_getD]
  cases e : m.Sectors[k]? with
  | none => intro x hx; cases hx
  | some s => exact h s (List.mem_of_getElem? e)
theorem ZpY {m : api_Memory} (hm : memR m) (x y : Int) (hx : 0 ≤ x ∧ x < m.Sectors.length) (hy : 0 ≤ y ∧ y < m.Sectors.length) : ∃ c, Jl x y m = some c ∧ (c < 0 ↔ ZcR m x < ZcR m y) := by
  have one : ∀ z : Int, 0 ≤ z ∧ z < m.Sectors.length → Js z m = some (ZcR m z) := fun z hz => by
    obtain ⟨k, rfl⟩ := Int.eq_ofNat_of_zero_le hz.1
    unfold Js ZcR
    rw [Zm (Qv (by omega) []), Option.bind_some, Zhd (ZbS hm k), Option.bind_some]; rfl
  unfold Jl
  rw [one x hx, one y hy]
  have bx := Zhq (m.Sectors.getD x.toNat [])
  have by_ := Zhq (m.Sectors.getD y.toNat [])
  refine ⟨_, rfl, ?_⟩
  unfold ZcR
  rw [show i64 ((headV (m.Sectors.getD x.toNat [])).1 - (headV (m.Sectors.getD y.toNat [])).1) = _ from Zh (by omega) (by omega)]
  omega
theorem ZkT {m : api_Memory} (hm : memR m) (hl : m.Sectors.length ≤ 64) (hb : m.Bad.length = m.Sectors.length) :
    ∃ l, XA m = some l ∧ l.Perm (hdM m m.Sectors.length) ∧ Srt (ZcR m) l := by
  unfold XA
  obtain ⟨o, h1, h2⟩ := Zam (body := JK m) (s0 := []) (N := m.Sectors.length) (fun k acc => acc = hdM m k) (fun r => r = hdM m m.Sectors.length) (fun k acc hk hI => .inl (by
      subst hI
      unfold JK
      have hlen := Zfp m k
      rw [if_pos (by simpa using hk), Zm (Qv hk []), Option.bind_some, Zhd (ZbS hm k), Option.bind_some, show i64 ((k : Int) + 1) = (k : Int) + 1 from Zh (by omega) (by omega), Zm (Qv (by omega) false)]
      have ok : okM m k = ((headV (m.Sectors.getD k [])).2.2 && !(m.Bad.getD k false)) := rfl
      cases hh : (headV (m.Sectors.getD k [])).2.2 with
      | false =>
        rw [hh] at ok
        refine ⟨hdM m k, by simp [gd], ?_⟩
        rw [Zg6, ok]; simp
      | true =>
        rw [hh] at ok
        cases hB : m.Bad.getD k false with
        | true =>
          rw [hB] at ok
          refine ⟨hdM m k, by simp [gd], ?_⟩
          rw [Zg6, ok]; simp
        | false =>
          rw [hB] at ok
          refine ⟨hdM m k ++ [(k : Int)], ?_, ?_⟩
          · simp only [gd, beq_self_eq_true, if_true, Option.bind_some, Bool.not_false, Bool.and_self]
            first | rw [J4 (by simp; omega)] | rw [Zcg (by simp; omega)]
            rfl
          · show _ = hdM m k ++ _
            rw [ok]; simp)) (fun acc hI => ⟨acc, by unfold JK; rw [if_neg (by simp)], hI⟩) rfl
  subst h2
  rw [h1]
  simp only [Option.bind_some, Qx]
  have hlen := Zfp m m.Sectors.length
  obtain ⟨l, k1, k2, k3⟩ := ZlC (key := ZcR m) (D := fun x => 0 ≤ x ∧ x < m.Sectors.length) (cmp := fun z0 z1 => Jl z0 z1 m) (ZpY hm) (l := hdM m m.Sectors.length) (by omega) (Zkj m _) (fun x hx => ZgV m _ x hx)
  rw [k1]
  exact ⟨l, rfl, k2, k3⟩
theorem Znc {body : Int → Option (Int ⊕ Int)} (P : Nat → Bool) {n : Nat} (h1 : ∀ k : Nat, 0 < k → k ≤ n → body k = if P (k - 1) = true then some (.inr (k : Int)) else some (.inl ((k - 1 : Nat) : Int))) (h0 : body 0 = some (.inr 0)) :
    ∃ r : Nat, loop (t1 body) (n : Int) = some (r : Int) ∧ r ≤ n ∧ (0 < r → P (r - 1) = true) ∧ (r < n → P r = false) := by
  suffices H : ∀ k : Nat, k ≤ n → (k < n → P k = false) → ∃ r : Nat, loop (t1 body) (k : Int) = some (r : Int) ∧ r ≤ n ∧ (0 < r → P (r - 1) = true) ∧ (r < n → P r = false) from H n (Nat.le_refl _) (fun h => absurd h (Nat.lt_irrefl _))
  intro k
  induction k with
  | zero => intro _ hk; exact ⟨0, ZaA (by simpa using h0), by omega, fun h => by omega, hk⟩
  | succ k ih =>
    intro hkn hk
    have e := h1 (k + 1) (by omega) hkn
    by_cases hp : P k = true
    · rw [Nat.add_sub_cancel, if_pos hp] at e
      exact ⟨k + 1, ZaA (by simpa using e), hkn, fun _ => hp, hk⟩
    · rw [Nat.add_sub_cancel, if_neg hp] at e
      obtain ⟨r, k1, k2⟩ := ih (by omega) (fun _ => by simpa using hp)
      exact ⟨r, Zdr (by simpa using e) k1, k2⟩
theorem Zmt {m : api_Memory} (hm : memR m) (hl : m.Sectors.length ≤ 64) (hb : m.Bad.length = m.Sectors.length) :
    ∃ l, ZbZ m = some l ∧ l.Perm (hdM m m.Sectors.length) ∧ Srt (ZcR m) l := by
  unfold ZbZ
  obtain ⟨o, h1, h2⟩ := Zam (body := Zbu m) (s0 := []) (N := m.Sectors.length) (fun k acc => acc.Perm (hdM m k) ∧ Srt (ZcR m) acc) (fun r => r.Perm (hdM m m.Sectors.length) ∧ Srt (ZcR m) r) (fun k acc hk hI => .inl (by
      obtain ⟨i1, i2⟩ := hI
      have hlen := Zfp m k
      have hal : acc.length ≤ k := by rw [i1.length_eq]; exact hlen
      unfold Zbu
      rw [if_pos (by simpa using hk), Zm (Qv hk []), Option.bind_some, ZjF (ZbS hm k), Option.bind_some, show i64 ((k : Int) + 1) = (k : Int) + 1 from Zh (by omega) (by omega), Zm (Qv (by omega) false)]
      have ok : okM m k = ((headV (m.Sectors.getD k [])).2.2 && !(m.Bad.getD k false)) := rfl
      cases hh : (headV (m.Sectors.getD k [])).2.2 with
      | false =>
        rw [hh] at ok
        refine ⟨acc, by simp [gd], ?_, i2⟩
        rw [Zg6, ok]; simpa using i1
      | true =>
        rw [hh] at ok
        cases hB : m.Bad.getD k false with
        | true =>
          rw [hB] at ok
          refine ⟨acc, by simp [gd], ?_, i2⟩
          rw [Zg6, ok]; simpa using i1
        | false =>
          rw [hB] at ok
          have mem : ∀ z ∈ acc, 0 ≤ z ∧ z < (k : Int) := fun z hz => ZgV m k z (i1.mem_iff.1 hz)
          obtain ⟨r, q1, q2, q3, q4⟩ := Znc (body := Zby m acc (headV (m.Sectors.getD k []))) (fun j => decide (ZcR m (acc.getD j 0) ≤ (headV (m.Sectors.getD k [])).1)) (n := acc.length) (fun j j0 jn => by
            unfold Zby
            have hj := mem (acc.getD (j - 1) 0) (JR (by omega))
            obtain ⟨z, hz⟩ := Int.eq_ofNat_of_zero_le hj.1
            rw [if_pos (by simpa using j0), show i64 ((j : Int) - 1) = ((j - 1 : Nat) : Int) from (Zh (by omega) (by omega)).trans (by omega), Zm (Qv (by omega) 0), Option.bind_some, hz,
              Zm (Qv (by omega) []), Option.bind_some, ZjF (ZbS hm z), Option.bind_some]
            by_cases q : ZcR m (z : Int) ≤ (headV (m.Sectors.getD k [])).1
            · rw [if_pos (by simpa [ZcR] using q), if_pos (by simpa using q)]
            · rw [if_neg (by simpa [ZcR] using q), if_neg (by simpa using q)]) (by unfold Zby; rw [if_neg (by simp)])
          refine ⟨acc.take r ++ (k : Int) :: acc.drop r, ?_, ?_, ?_⟩
          · simp only [gd, beq_self_eq_true, if_true, Option.bind_some, Bool.not_true, Bool.or_self, Bool.false_eq_true, if_false]
            rw [q1]
            simp only [Option.bind_some, Qx]
            rw [show apz 8 acc [0] = some (acc ++ [0]) from J4 (by simp; omega), Option.bind_some]
            rw [show i64 ((r : Int) + 1) = ((r + 1 : Nat) : Int) from (Zh (by omega) (by omega)).trans (by omega)]
            have hL : (acc ++ [(0 : Int)]).length = acc.length + 1 := by simp
            have sq : ∀ j : Nat, j ≤ acc.length + 1 → slq (acc ++ [(0 : Int)]) (j : Int) ((acc ++ [(0 : Int)]).length : Int) = some () := fun j hj => by
              unfold slq; rw [hL]
              have a1 : (j : Int) ≤ ((acc.length + 1 : Nat) : Int) := by omega
              simp only [decide_eq_true (show (0 : Int) ≤ (j : Int) by omega), decide_eq_true a1, decide_eq_true (Nat.succ_pos _), decide_eq_true (Nat.le_refl _), Bool.and_self]
              simp [ck]
            rw [sq (r + 1) (by omega), Option.bind_some, sq r (by omega), Option.bind_some]
            have t1 : Int.toNat (((acc ++ [(0 : Int)]).length : Int) - ((r + 1 : Nat) : Int)) = (acc.length + 1) - (r + 1) := by rw [hL]; omega
            have t2' : Int.toNat (((acc ++ [(0 : Int)]).length : Int) - (r : Int)) = (acc.length + 1) - r := by rw [hL]; omega
            rw [t1, t2']
            simp only [Int.toNat_natCast]
            obtain ⟨z, hz⟩ := Xz (xs := cpy (acc ++ [(0 : Int)]) (r + 1) ((acc.length + 1) - (r + 1)) r ((acc.length + 1) - r)) (k := r) (by rw [ZgF (by rw [hL]; omega) (by rw [hL]; omega), hL]; omega)
            rw [Zm hz, Option.bind_some, ZoP q2]
          · refine List.perm_middle.trans ?_
            rw [List.take_append_drop]
            refine (List.Perm.cons _ i1).trans ?_
            rw [Zg6, ok]
            simpa using (List.perm_append_comm (l₁ := [(k : Int)]) (l₂ := hdM m k))
          · have hk' : ZcR m (k : Int) = (headV (m.Sectors.getD k [])).1 := rfl
            have hA : Srt (ZcR m) (acc.take r) := i2.sublist (List.take_sublist ..)
            have hB' : Srt (ZcR m) (acc.drop r) := i2.sublist (List.drop_sublist ..)
            have hAy : ∀ a ∈ acc.take r, LtK (ZcR m) a k := by
              have := Zed (key := ZcR m) (m := [(k : Int)]) hA (List.pairwise_singleton ..) (fun a b ha hb => by
                simp only [List.head?_cons, Option.some.injEq] at hb
                subst hb
                rw [List.getLast?_eq_getElem?, List.length_take, Nat.min_eq_left q2] at ha
                have l2 := (List.getElem?_eq_some_iff.1 ha).1
                rw [List.length_take] at l2
                rw [List.getElem?_take_of_lt (by omega)] at ha
                have q := q3 (by omega)
                rw [List.getD_eq_getElem?_getD, ha] at q
                have q := of_decide_eq_true q
                simp only [Option.getD_some] at q
                have := (mem a (List.mem_of_getElem? ha)).2
                unfold LtK; omega)
              exact fun a ha => this a ha k (List.mem_singleton.2 rfl)
            have hyB : ∀ b ∈ acc.drop r, LtK (ZcR m) k b := by
              have := Zed (key := ZcR m) (l := [(k : Int)]) (List.pairwise_singleton ..) hB' (fun a b ha hb => by
                simp only [List.getLast?_singleton, Option.some.injEq] at ha
                subst ha
                rw [List.head?_drop] at hb
                have l1 := (List.getElem?_eq_some_iff.1 hb).1
                have q := q4 (by omega)
                rw [List.getD_eq_getElem?_getD, hb] at q
                have q := of_decide_eq_false q
                simp only [Option.getD_some] at q
                exact .inl (by omega))
              exact fun b hb => this k (List.mem_singleton.2 rfl) b hb
            refine hA.app (List.pairwise_cons.2 ⟨hyB, hB'⟩) fun a ha b hb => ?_
            rcases List.mem_cons.1 hb with rfl | hb
            · exact hAy a ha
            · exact (hAy a ha).trans (hyB b hb))) (fun acc hI => ⟨acc, by unfold Zbu; rw [if_neg (by simp)], hI⟩) ⟨.refl _, .nil⟩
  rw [h1]
  exact ⟨o, rfl, h2⟩
theorem Znz {m : api_Memory} (hm : memR m) (hl : m.Sectors.length ≤ 64) (hb : m.Bad.length = m.Sectors.length) :
    ∃ l, XA m = some l ∧ ZbZ m = some l ∧ l.Perm (hdM m m.Sectors.length) ∧ Srt (ZcR m) l := by
  obtain ⟨l, a1, a2, a3⟩ := ZkT hm hl hb
  obtain ⟨l', b1, b2, b3⟩ := Zmt hm hl hb
  have : l' = l := ZeZ (b2.trans a2.symm) b3 a3
  subst this
  exact ⟨l', a1, b1, a2, a3⟩
end Go.Vx

namespace Go.Vx
open Go Go.RowKit
structure MemOK (m : api_Memory) : Prop where
  slots : 1 ≤ m.Slots ∧ m.Slots ≤ 64
  limit : 1 ≤ m.Limit ∧ m.Limit ≤ 1000000
  n : 2 ≤ m.Sectors.length ∧ m.Sectors.length ≤ 64
  wear : m.Wear.length = m.Sectors.length
  bad : m.Bad.length = m.Sectors.length
  row : ∀ s ∈ m.Sectors, (s.length : Int) = 16 + m.Slots * 97
  wr : ∀ x ∈ m.Wear, 0 ≤ x ∧ x ≤ m.Limit
theorem Zoi (x a b : Int) : (decide (x < a) || decide (b < x)) = !(decide (a ≤ x) && decide (x ≤ b)) := by
  by_cases h1 : a ≤ x <;> by_cases h2 : x ≤ b <;> simp [h1, h2] <;> omega
theorem Zbw (x a b : Int) : Qu x a b = some (decide (a ≤ x) && decide (x ≤ b)) := by
  unfold Qu
  by_cases h1 : a ≤ x <;> simp [h1, gd]
theorem ZhR (x a b : Int) : QT x a b = some (!(decide (a ≤ x) && decide (x ≤ b))) := by
  rw [← Zoi]
  unfold QT
  by_cases h1 : x < a <;> simp [h1, gd]
theorem Zou (m : api_Memory) : Jm m = Xl m := by
  have hb : Jf m = QN m := by
    funext i
    unfold Jf QN Jr
    simp only [Option.bind_some, Zbw, ZhR]
  unfold Jm Xl
  rw [hb]
  simp only [Zbw, ZhR]
  generalize (decide (1 ≤ m.Slots) && decide (m.Slots ≤ 64)) = A
  generalize (decide (1 ≤ m.Limit) && decide (m.Limit ≤ 1000000)) = B
  generalize (decide ((2 : Int) ≤ (m.Sectors.length : Int)) && decide ((m.Sectors.length : Int) ≤ 64)) = C
  cases A <;> cases B <;> cases C <;> simp [gd]
theorem ZpI (m : api_Memory) : ∃ c, Xl m = some c ∧ (c = 0 → MemOK m) ∧ (MemOK m → c = 0) := by
  unfold Xl
  simp only [Zbw, Option.bind_some]
  by_cases hA : 1 ≤ m.Slots ∧ m.Slots ≤ 64
  · by_cases hB : 1 ≤ m.Limit ∧ m.Limit ≤ 1000000
    · by_cases hC : 2 ≤ m.Sectors.length ∧ m.Sectors.length ≤ 64
      · by_cases hD : m.Wear.length = m.Sectors.length ∧ m.Bad.length = m.Sectors.length
        · obtain ⟨r, h1, h2⟩ := ZbC (body := QN m) (N := m.Sectors.length) (fun k => ∀ j, j < k → ((m.Sectors.getD j []).length : Int) = 16 + m.Slots * 97 ∧ 0 ≤ m.Wear.getD j 0 ∧ m.Wear.getD j 0 ≤ m.Limit)
            (fun r => (∃ e, r = .inl e ∧ e ≠ 0 ∧ ¬ MemOK m) ∨ (r = .inr () ∧ ∀ j, j < m.Sectors.length → ((m.Sectors.getD j []).length : Int) = 16 + m.Slots * 97 ∧ 0 ≤ m.Wear.getD j 0 ∧ m.Wear.getD j 0 ≤ m.Limit)) (fun k hk hI => by
              unfold QN Jr
              have gS := Qv (s := m.Sectors) hk []
              have gW := Qv (s := m.Wear) (k := k) (by omega) 0
              rw [if_pos (by simpa using hk), Zm gS, Option.bind_some, show i64 (m.Slots * 97) = m.Slots * 97 from Zh (by omega) (by omega), show i64 (16 + m.Slots * 97) = 16 + m.Slots * 97 from Zh (by omega) (by omega), Option.bind_some,
                Zm gW, Option.bind_some, Zbw, Option.bind_some, show i64 ((k : Int) + 1) = (k : Int) + 1 from Zh (by omega) (by omega)]
              by_cases q : ((m.Sectors.getD k []).length : Int) = 16 + m.Slots * 97
              · rw [if_neg (by simpa using q)]
                by_cases q2 : 0 ≤ m.Wear.getD k 0 ∧ m.Wear.getD k 0 ≤ m.Limit
                · left
                  rw [if_neg (by simpa using q2)]
                  refine ⟨rfl, fun j hj => ?_⟩
                  by_cases e : j = k
                  · subst e; exact ⟨q, q2⟩
                  · exact hI j (by omega)
                · right
                  exact ⟨_, by rw [if_pos (by rw [Bool.not_eq_true', Bool.and_eq_false_iff, decide_eq_false_iff_not, decide_eq_false_iff_not]; omega)], .inl ⟨9, rfl, by decide, fun w => q2 (w.wr _ (JR (by omega)))⟩⟩
              · right
                exact ⟨_, by rw [if_pos (by simpa using q)], .inl ⟨3, rfl, by decide, fun w => q (w.row _ (List.mem_of_getElem? gS))⟩⟩)
            (fun hI => ⟨.inr (), by unfold QN; rw [if_neg (by simp)], .inr ⟨rfl, hI⟩⟩) (fun j hj => absurd hj (Nat.not_lt_zero _))
          have hw1 : ((m.Wear.length : Int) = (m.Sectors.length : Int)) := by omega
          have hw2 : ((m.Bad.length : Int) = (m.Sectors.length : Int)) := by omega
          have hc1 : (2 : Int) ≤ (m.Sectors.length : Int) := by omega
          have hc2 : (m.Sectors.length : Int) ≤ 64 := by omega
          simp only [decide_eq_true hA.1, decide_eq_true hA.2, decide_eq_true hB.1, decide_eq_true hB.2, decide_eq_true hc1, decide_eq_true hc2, decide_eq_true hw1, decide_eq_true hw2, Bool.and_self, Bool.not_true, Bool.or_self, gd, beq_self_eq_true, if_true, Option.bind_some, Bool.false_eq_true, if_false]
          rw [h1]
          rcases h2 with ⟨e, rfl, he, hno⟩ | ⟨rfl, hall⟩
          · exact ⟨e, rfl, fun q => absurd q he, fun w => absurd w hno⟩
          · refine ⟨0, rfl, fun _ => ⟨hA, hB, hC, hD.1, hD.2, fun s hs => ?_, fun x hx => ?_⟩, fun _ => rfl⟩
            · obtain ⟨j, hj, rfl⟩ := List.getElem_of_mem hs
              have := (hall j hj).1
              rwa [List.getD_eq_getElem?_getD, List.getElem?_eq_getElem hj] at this
            · obtain ⟨j, hj, rfl⟩ := List.getElem_of_mem hx
              have := (hall j (by omega)).2
              rwa [List.getD_eq_getElem?_getD, List.getElem?_eq_getElem hj] at this
        · refine ⟨2, ?_, fun q => by simp at q, fun w => absurd ⟨w.wear, w.bad⟩ hD⟩
          have hc1 : (2 : Int) ≤ (m.Sectors.length : Int) := by omega
          have hc2 : (m.Sectors.length : Int) ≤ 64 := by omega
          simp only [decide_eq_true hA.1, decide_eq_true hA.2, decide_eq_true hB.1, decide_eq_true hB.2, decide_eq_true hc1, decide_eq_true hc2, Bool.and_self, Bool.not_true, Bool.or_self, gd, beq_self_eq_true, if_true, Option.bind_some, Bool.false_eq_true, if_false]
          rw [if_pos]
          simp; omega
      · refine ⟨9, ?_, fun q => by simp at q, fun w => absurd w.n hC⟩
        have hc : (decide ((2 : Int) ≤ (m.Sectors.length : Int)) && decide ((m.Sectors.length : Int) ≤ 64)) = false := by simp; omega
        simp only [decide_eq_true hA.1, decide_eq_true hA.2, decide_eq_true hB.1, decide_eq_true hB.2, hc, Bool.and_self, Bool.not_true, Bool.or_self, gd, beq_self_eq_true, if_true, Option.bind_some]
        simp
    · refine ⟨9, ?_, fun q => by simp at q, fun w => absurd w.limit hB⟩
      have hc : (decide (1 ≤ m.Limit) && decide (m.Limit ≤ 1000000)) = false := by simpa using hB
      simp [decide_eq_true hA.1, decide_eq_true hA.2, hc, gd]
  · refine ⟨9, ?_, fun q => by simp at q, fun w => absurd w.slots hA⟩
    have hc : (decide (1 ≤ m.Slots) && decide (m.Slots ≤ 64)) = false := by simpa using hA
    simp [hc, gd]
theorem ZiK {α : Type} {s : Nat} {l : List α} (h : l.length ≤ 140737488355328 / s) : ZeY s l = some l := (J4 (by simpa using h)).trans (by simp)
theorem ZoB {m : api_Memory} (h : MemOK m) : JN m = some m := by
  have hs := h.slots
  have hr : ∀ s ∈ m.Sectors, s.length ≤ 7000 := fun s hs => by have := h.row s hs; omega
  have hn := h.n
  unfold JN
  obtain ⟨r, h1, h2⟩ := Zam (body := XM m) (s0 := []) (N := m.Sectors.length) (fun k acc => acc = m.Sectors.take k) (fun r => r = m.Sectors) (fun k acc hk hI => .inl (by
      subst hI
      have hd := Qv (s := m.Sectors) hk []
      have hl := hr _ (List.mem_of_getElem? hd)
      refine ⟨m.Sectors.take k ++ [m.Sectors.getD k []], ?_, ?_⟩
      · unfold XM
        rw [if_pos (by simpa using hk), Zm hd, Option.bind_some, ZiK (by omega), Option.bind_some]
        rw [show apz 24 (m.Sectors.take k) [m.Sectors.getD k []] = some (m.Sectors.take k ++ [m.Sectors.getD k []]) from J4 (by simp; omega), Option.bind_some, show i64 ((k : Int) + 1) = (k : Int) + 1 from Zh (by omega) (by omega)]
      · rw [List.take_succ, hd]; rfl)) (fun acc hI => ⟨acc, by unfold XM; rw [if_neg (by simp)], by rw [hI, List.take_length]⟩) rfl
  subst h2
  rw [h1]
  simp only [Option.bind_some, Qx]
  rw [ZiK (by have := h.wear; omega), Option.bind_some, ZiK (by have := h.bad; omega), Option.bind_some]
end Go.Vx

namespace Go.Vx
open Go Go.RowKit
theorem Zmz {z : Int} (h1 : -9223372036854775808 ≤ z) (h2 : z ≤ 9223372036854775807) : i64 z = z := Zh h1 h2
theorem ZoW {n : Nat} (h : n ≤ 61) : (1 : Int) ≤ 2 ^ n ∧ (2 : Int) ^ n ≤ 2305843009213693952 := by
  have e : ((2 ^ n : Nat) : Int) = (2 : Int) ^ n := by push_cast; rfl
  have h1 : 1 ≤ 2 ^ n := Nat.one_le_two_pow
  have h2 : 2 ^ n ≤ 2 ^ 61 := Nat.pow_le_pow_right (by decide) h
  rw [show (2 : Nat) ^ 61 = 2305843009213693952 by decide] at h2
  omega
theorem Zfr {v : Int} {n : Nat} (hn : n ≤ 61) : QJ .i64 v ((2 : Int) ^ n - 1) = v % (2 : Int) ^ n := by
  have hb := ZoW hn
  have e : ((2 : Int) ^ n - 1) = ((2 ^ n - 1 : Nat) : Int) := by
    have h1 : 1 ≤ 2 ^ n := Nat.one_le_two_pow
    have h2 : ((2 ^ n : Nat) : Int) = (2 : Int) ^ n := by push_cast; rfl
    omega
  have h2 : 2 ^ n ≤ 2 ^ 61 := Nat.pow_le_pow_right (by decide) hn
  have h2p : 0 < 2 ^ n := Nat.two_pow_pos n
  have e2 : (BitVec.ofInt 64 ((2 : Int) ^ n - 1)).toNat = 2 ^ n - 1 := by
    rw [e, BitVec.ofInt_natCast, BitVec.toNat_ofNat]
    exact Nat.mod_eq_of_lt (by have : (2 : Nat) ^ 61 < 2 ^ 64 := by decide
                               omega)
  have e3 : ((BitVec.ofInt 64 v).toNat : Int) = v % (2 : Int) ^ 64 := by
    rw [BitVec.toNat_ofInt]
    have : (0 : Int) ≤ v % ((2 ^ 64 : Nat) : Int) := Int.emod_nonneg _ (by decide)
    rw [Int.toNat_of_nonneg this]; rfl
  have e4 : ((BitVec.ofInt 64 v &&& BitVec.ofInt 64 ((2 : Int) ^ n - 1)).toNat : Int) = v % (2 : Int) ^ n := by
    rw [BitVec.toNat_and, e2, Nat.and_two_pow_sub_one_eq_mod]
    push_cast
    rw [e3]
    have : ((2 : Int) ^ n) ∣ (2 : Int) ^ 64 := ⟨(2 : Int) ^ (64 - n), by rw [← Int.pow_add]; congr 1; omega⟩
    exact Int.emod_emod_of_dvd v this
  have hp : (0 : Int) < (2 : Int) ^ n := by omega
  have b1 := Int.emod_nonneg v (show (2 : Int) ^ n ≠ 0 by omega)
  have b2 := Int.emod_lt_of_pos v hp
  unfold QJ
  have : IntKind.i64.bits = 64 := rfl
  rw [this, e4]
  exact Zmz (by omega) (by omega)
theorem Zpa {a b n : Nat} (ha : a < 2 ^ n) (hb : a + 2 ^ n * b < 2 ^ 62) : bor .i64 (a : Int) ((2 ^ n * b : Nat) : Int) = ((a + 2 ^ n * b : Nat) : Int) := by
  unfold bor
  have e0 : IntKind.i64.bits = 64 := rfl
  have h64 : (2 : Nat) ^ 62 < 2 ^ 64 := by decide
  have e1 : (BitVec.ofInt 64 (a : Int)).toNat = a := by
    rw [BitVec.ofInt_natCast, BitVec.toNat_ofNat]; exact Nat.mod_eq_of_lt (by omega)
  have e2 : (BitVec.ofInt 64 ((2 ^ n * b : Nat) : Int)).toNat = 2 ^ n * b := by
    rw [BitVec.ofInt_natCast, BitVec.toNat_ofNat]; exact Nat.mod_eq_of_lt (by omega)
  rw [e0, BitVec.toNat_or, e1, e2, Nat.or_comm, ← Nat.two_pow_add_eq_or_of_lt ha, Nat.add_comm]
  have h62 : (2 : Nat) ^ 62 = 4611686018427387904 := by decide
  exact Zmz (by omega) (by omega)
end Go.Vx

namespace Go.Vx
open Go Go.RowKit
theorem Zki {a : Nat} (h : a < 9223372036854775808) : (BitVec.ofInt 64 (a : Int)).toNat = a := by
  rw [BitVec.ofInt_natCast, BitVec.toNat_ofNat]; exact Nat.mod_eq_of_lt (by omega)
theorem Zn5 {a b : Nat} (ha : a < 9223372036854775808) (hb : b < 9223372036854775808) : QJ .i64 (a : Int) (b : Int) = ((a &&& b : Nat) : Int) := by
  unfold QJ
  have e0 : IntKind.i64.bits = 64 := rfl
  rw [e0, BitVec.toNat_and, Zki ha, Zki hb]
  have := Nat.and_le_left (n := a) (m := b)
  exact Zmz (by omega) (by omega)
theorem ZjD {a b : Nat} (ha : a < 9223372036854775808) (hb : b < 9223372036854775808) : Zb7 .i64 (a : Int) (b : Int) = ((a ^^^ b : Nat) : Int) := by
  unfold Zb7
  have e0 : IntKind.i64.bits = 64 := rfl
  rw [e0, BitVec.toNat_xor, Zki ha, Zki hb]
  have : a ^^^ b < 2 ^ 63 := Nat.xor_lt_two_pow (by omega) (by omega)
  exact Zmz (by omega) (by omega)
def restB : BitVec 22 := 2097167#22
def zS (v : BitVec 22) : BitVec 22 := (v <<< 1) ^^^ (if v.msb then restB else 0#22)
theorem Zog (a b : BitVec 22) : zS (a ^^^ b) = zS a ^^^ zS b := by
  have e1 : ∀ x y r : BitVec 22, (x ^^^ r) ^^^ (y ^^^ r) = x ^^^ y := fun x y r => by
    rw [BitVec.xor_assoc, BitVec.xor_comm y r, ← BitVec.xor_assoc r r y, BitVec.xor_self, BitVec.zero_xor]
  have e2 : ∀ x y r : BitVec 22, (x ^^^ r) ^^^ y = (x ^^^ y) ^^^ r := fun x y r => by
    rw [BitVec.xor_assoc, BitVec.xor_comm r y, ← BitVec.xor_assoc]
  unfold zS
  rw [BitVec.shiftLeft_xor_distrib, BitVec.msb_xor]
  cases a.msb <;> cases b.msb
  · simp
  · simp [BitVec.xor_assoc]
  · simp [e2]
  · simp [e1]
def pS (b : Nat → Bool) : Nat → BitVec 22
  | 0 => 0#22
  | k + 1 => zS (pS b k) ^^^ (if b k then restB else 0#22)
def rS (b : Nat → Bool) : Nat → BitVec 22
  | 0 => 0#22
  | k + 1 => zS (rS b k) ^^^ (if b k then 1#22 else 0#22)
def zI : Nat → BitVec 22 → BitVec 22
  | 0, v => v
  | k + 1, v => zS (zI k v)
theorem Zob (k : Nat) (a b : BitVec 22) : zI k (a ^^^ b) = zI k a ^^^ zI k b := by
  induction k with
  | zero => rfl
  | succ k ih => simp only [zI, ih, Zog]
theorem Zpq (k : Nat) (v : BitVec 22) : zI k (zS v) = zS (zI k v) := by
  induction k with
  | zero => rfl
  | succ k ih => simp only [zI, ih]
theorem zI_one : zI 22 1#22 = restB := by decide
theorem zI_zero : zI 22 0#22 = 0#22 := by decide
theorem ZnV (b : Nat → Bool) : ∀ k, pS b k = zI 22 (rS b k)
  | 0 => zI_zero.symm
  | k + 1 => by
    rw [pS, rS, Zob, Zpq, ZnV b k]
    congr 1
    cases b k
    · exact zI_zero.symm
    · exact zI_one.symm
theorem Zj7 {b : Nat → Bool} {n : Nat} (h : ∀ k, n ≤ k → b k = false) : ∀ j, rS b (n + j) = zI j (rS b n)
  | 0 => rfl
  | j + 1 => by
    rw [← Nat.add_assoc, rS, Zj7 h j, h _ (by omega)]
    simp [zI]
theorem Zox {b : Nat → Bool} {n : Nat} (h : ∀ k, n ≤ k → b k = false) : rS b (n + 22) = pS b n := by rw [Zj7 h, ZnV]
theorem ZpH (v : BitVec 22) : decide (QJ .i64 (v.toNat : Int) 2097152 = 0) = !v.msb := by
  have := v.isLt
  rw [show (2097152 : Int) = ((2097152 : Nat) : Int) from rfl, Zn5 (by omega) (by omega)]
  rw [show (2097152 : Nat) = 2 ^ 21 from rfl]
  have e : v.msb = v.toNat.testBit 21 := by rw [BitVec.msb_eq_getLsbD_last]; rfl
  rw [e]
  have e2 : (v.toNat &&& 2 ^ 21).testBit 21 = v.toNat.testBit 21 := by rw [Nat.testBit_and, Nat.testBit_two_pow_self, Bool.and_true]
  cases hb : v.toNat.testBit 21
  · have : v.toNat &&& 2 ^ 21 = 0 := by
      refine Nat.eq_of_testBit_eq fun i => ?_
      rw [Nat.testBit_and, Nat.testBit_two_pow]
      by_cases h : 21 = i
      · subst h; rw [hb]; simp
      · simp [h]
    rw [this]; rfl
  · have : v.toNat &&& 2 ^ 21 ≠ 0 := fun h => by rw [h, Nat.zero_testBit, hb] at e2; cases e2
    have : ((v.toNat &&& 2 ^ 21 : Nat) : Int) ≠ 0 := by omega
    simp only [this, decide_false, Bool.not_true]
theorem Zpt (v : BitVec 22) : shl .i64 (v.toNat : Int) 1 = some ((v.toNat : Int) * 2) := by
  have := v.isLt
  unfold shl
  rw [if_neg (by decide)]
  congr 1
  have e : (2 : Int) ^ min (Int.toNat 1) IntKind.i64.bits = 2 := rfl
  rw [e]
  exact Zmz (by omega) (by omega)
theorem Zpy (v : BitVec 22) : QJ .i64 ((v.toNat : Int) * 2) 4194303 = ((v <<< 1).toNat : Int) := by
  have e : (4194303 : Int) = (2 : Int) ^ 22 - 1 := by decide
  rw [e, Zfr (n := 22) (by decide), BitVec.toNat_shiftLeft, Nat.shiftLeft_eq]
  rw [Int.natCast_emod, Int.natCast_mul]
  rfl
theorem Zqg (v : BitVec 22) : Zb7 .i64 (v.toNat : Int) 2097167 = ((v ^^^ restB).toNat : Int) := by
  have := v.isLt
  rw [show (2097167 : Int) = ((2097167 : Nat) : Int) from rfl, ZjD (by omega) (by omega), BitVec.toNat_xor]
  rfl
theorem Znk (v : BitVec 22) (b : Bool) : zS v ^^^ (if b then restB else 0#22) = if (!(v.msb == b)) = true then (v <<< 1) ^^^ restB else v <<< 1 := by
  unfold zS
  cases v.msb <;> cases b
  · simp
  · simp
  · simp
  · simp [BitVec.xor_assoc]
theorem ZlZ (m : Nat) : (2 * m) ^^^ 1 = 2 * m + 1 := by
  have h1 : ((2 * m) ^^^ 1) % 2 ^ 1 = (2 * m) % 2 ^ 1 ^^^ 1 % 2 ^ 1 := Nat.xor_mod_two_pow
  have h2 : ((2 * m) ^^^ 1) / 2 ^ 1 = (2 * m) / 2 ^ 1 ^^^ 1 / 2 ^ 1 := Nat.xor_div_two_pow
  rw [show (2 * m) % 2 ^ 1 = 0 by omega, show 1 % 2 ^ 1 = 1 from rfl, Nat.zero_xor] at h1
  rw [show (2 * m) / 2 ^ 1 = m by omega, show 1 / 2 ^ 1 = 0 from rfl, Nat.xor_zero] at h2
  omega
theorem Zm5 (v : BitVec 22) (b : Bool) : let R : Nat := 2 * v.toNat + b.toNat
    (if 4194304 ≤ R then R ^^^ 6291471 else R) = (zS v ^^^ (if b then 1#22 else 0#22)).toNat := by
  intro R
  have hv := v.isLt
  have hb : b.toNat ≤ 1 := by cases b <;> decide
  have hm : v.msb = decide (2097152 ≤ v.toNat) := by
    rw [BitVec.msb_eq_decide]
  have es : (v <<< 1).toNat = (2 * v.toNat) % 4194304 := by rw [BitVec.toNat_shiftLeft, Nat.shiftLeft_eq]; congr 1; omega
  obtain ⟨s, hs⟩ : ∃ s, (v <<< 1).toNat = 2 * s := ⟨(v <<< 1).toNat / 2, by omega⟩
  have e1 : ∀ u : BitVec 22, ((v <<< 1) ^^^ u ^^^ (if b then 1#22 else 0#22)).toNat = ((v <<< 1).toNat + b.toNat) ^^^ u.toNat := fun u => by
    rw [BitVec.toNat_xor, BitVec.toNat_xor, hs]
    cases b
    · simp
    · simp only [if_true, Bool.toNat_true]
      rw [← ZlZ, Nat.xor_assoc, Nat.xor_comm u.toNat, ← Nat.xor_assoc]; rfl
  unfold zS
  by_cases h : 2097152 ≤ v.toNat
  · rw [if_pos (by omega), hm, decide_eq_true h, if_pos rfl, e1]
    have h1 : (R ^^^ 6291471) % 2 ^ 22 = R % 2 ^ 22 ^^^ 6291471 % 2 ^ 22 := Nat.xor_mod_two_pow
    have h2 : (R ^^^ 6291471) / 2 ^ 22 = R / 2 ^ 22 ^^^ 6291471 / 2 ^ 22 := Nat.xor_div_two_pow
    have h3 : R / 2 ^ 22 = 1 := by omega
    have h4 : R % 2 ^ 22 = (v <<< 1).toNat + b.toNat := by omega
    rw [h3, show 6291471 / 2 ^ 22 = 1 from rfl, Nat.xor_self] at h2
    rw [h4, show 6291471 % 2 ^ 22 = restB.toNat from rfl] at h1
    omega
  · rw [if_neg (by omega), hm, decide_eq_false h, if_neg (by decide), e1]
    simp only [BitVec.toNat_ofNat, Nat.zero_mod, Nat.xor_zero]
    omega
end Go.Vx


namespace Go.Vx
open Go Go.RowKit
end Go.Vx

namespace Go.Vx
open Go Go.RowKit
theorem Zm4 {n : Int} (h : wfI .u16 n) : 0 ≤ n ∧ n ≤ 65535 := by
  have h' : (decide (IntKind.u16.min ≤ n) && decide (n ≤ IntKind.u16.max)) = true := h
  have e1 : IntKind.u16.min = 0 := by decide
  have e2 : IntKind.u16.max = 65535 := by decide
  rw [e1, e2] at h'
  simpa using h'
theorem Zbd {z : Int} (h1 : -9223372036854775808 ≤ z) (h2 : z ≤ 9223372036854775807) : i64 z = z := Zh h1 h2
end Go.Vx

namespace Go.Vx
open Go Go.RowKit
def w3 (a b c : Int) : Int := 256 * a + 16 * b + c
def hL (l : List Int) : Prop := ∀ x ∈ l, 0 ≤ x ∧ x ≤ 15
end Go.Vx

namespace Go.Vx
open Go Go.RowKit
theorem ZeD {σ ρ : Type} {body : σ → Int → Option ((σ × Int) ⊕ ρ)} (S : Nat → σ) (R : ρ) {a b : Nat} (hab : a ≤ b)
    (hstep : ∀ k : Nat, a ≤ k → k < b → body (S k) (k : Int) = some (.inl (S (k + 1), (k : Int) + 1))) (hend : body (S b) (b : Int) = some (.inr R)) :
    loop (t2 body) (S a, (a : Int)) = some R := by
  refine ZdM (body := t2 body) (fun s => ∃ k : Nat, a ≤ k ∧ k ≤ b ∧ s = (S k, (k : Int))) (fun s => b - s.2.toNat) (fun _ => R) ?_ _ ⟨a, Nat.le_refl _, hab, rfl⟩
  rintro _ ⟨k, h1, h2, rfl⟩
  rcases Nat.lt_or_ge k b with h | h
  · exact .inl ⟨_, hstep k h1 h, ⟨k + 1, by omega, h, by push_cast; rfl⟩, by simp only; omega, rfl⟩
  · obtain rfl : k = b := by omega
    exact .inr hend
theorem Zm9 {σ ρ : Type} {body : σ → Int → Option ((σ × Int) ⊕ ρ)} (S : Nat → σ) (R : ρ) {b : Nat}
    (hstep : ∀ k : Nat, k < b → body (S (b - 1 - k)) (k : Int) = some (.inl (S (b - k), (k : Int) - 1))) (hend : body (S b) (-1) = some (.inr R)) :
    loop (t2 body) (S 0, (b : Int) - 1) = some R := by
  refine ZdM (body := t2 body) (fun s => ∃ k : Nat, k ≤ b ∧ s = (S (b - k), (k : Int) - 1)) (fun s => (s.2 + 1).toNat) (fun _ => R) ?_ _ ⟨b, Nat.le_refl _, by rw [Nat.sub_self]⟩
  rintro _ ⟨k, h2, rfl⟩
  rcases Nat.eq_zero_or_pos k with rfl | h
  · exact .inr hend
  · obtain ⟨j, rfl⟩ : ∃ j, k = j + 1 := ⟨k - 1, by omega⟩
    refine .inl ⟨_, ?_, ⟨j, by omega, rfl⟩, ?_, rfl⟩
    · have := hstep j h2
      rw [show ((j + 1 : Nat) : Int) - 1 = (j : Int) by omega, show b - (j + 1) = b - 1 - j by omega]
      exact this
    · simp only; omega
def wd (f : Vector Int 64) (i : Nat) : Int := f.toList.getD i 0
def fU (f : Vector Int 64) : Prop := ∀ i, 0 ≤ wd f i ∧ wd f i ≤ 65535
theorem ZpK {f : Vector Int 64} (h : wfV (wfI .u16) f) : fU f := by
  intro i
  unfold wd
  rcases Nat.lt_or_ge i f.toList.length with hi | hi
  · obtain ⟨x, hx⟩ := Xz hi
    rw [List.getD_eq_getElem?_getD, hx]
    exact Zm4 (h x (List.mem_of_getElem? hx))
  · rw [List.getD_eq_getElem?_getD, List.getElem?_eq_none hi]
    exact ⟨by decide, by decide⟩
theorem QY (f : Vector Int 64) {i : Nat} (hi : i < 64) : ZM f (i : Int) = some (wd f i) := by
  unfold ZM wd
  rw [if_pos (by omega), Int.toNat_natCast]
  obtain ⟨x, hx⟩ := Xz (xs := f.toList) (k := i) (by simp; omega)
  rw [List.getD_eq_getElem?_getD, hx]; rfl
theorem ZfF {x : Int} (h : 0 ≤ x ∧ x ≤ 65535) : Xw x = some (x % 2048) := by
  obtain ⟨n, rfl⟩ : ∃ n : Nat, x = n := ⟨x.toNat, by omega⟩
  have e0 : IntKind.u16.bits = 16 := rfl
  have e1 : (BitVec.ofInt 16 (n : Int)).toNat = n := by
    rw [BitVec.ofInt_natCast, BitVec.toNat_ofNat]; exact Nat.mod_eq_of_lt (by omega)
  have e2 : (BitVec.ofInt 16 2047).toNat = 2 ^ 11 - 1 := rfl
  have e3 : QJ .u16 (n : Int) 2047 = ((n % 2048 : Nat) : Int) := by
    unfold QJ
    rw [e0, BitVec.toNat_and, e1, e2, Nat.and_two_pow_sub_one_eq_mod]
    have : n % 2 ^ 11 < 2048 := Nat.mod_lt _ (by decide)
    simp only [IntKind.wrap, IntKind.signed, IntKind.bits]
    have e : (2 : Int) ^ 16 = 65536 := by decide
    simp [e]
    omega
  unfold Xw
  rw [e3, Zbd (by omega) (by omega)]; rfl
theorem Zgd {x : Int} (h : 0 ≤ x) (n : Int) (hn : 0 < n) : rem x n = some (x % n) := by
  unfold rem
  rw [if_neg (by omega), Int.tmod_eq_emod_of_nonneg h]
def QU (f : Vector Int 64) : Int := wd f 1 % 2048 + wd f 2 % 2048 * 2048
theorem ZgB (f : Vector Int 64) : 0 ≤ QU f ∧ QU f < 4194304 := by unfold QU; omega
theorem ZnL {a b : Int} (ha : 0 ≤ a ∧ a < 2048) (hb : 0 ≤ b ∧ b < 2048) : (shl .i64 b 11).bind (fun q => some (bor .i64 a q)) = some (a + b * 2048) ∧ (shl .i64 a 11).bind (fun q => some (bor .i64 q b)) = some (a * 2048 + b) := by
  have e : ∀ z : Int, 0 ≤ z ∧ z < 2048 → shl .i64 z 11 = some (z * 2048) := fun z hz => by
    unfold shl
    rw [if_neg (by decide)]
    have e : (2 : Int) ^ min (Int.toNat 11) IntKind.i64.bits = 2048 := rfl
    rw [e, w64 (by omega) (by omega)]
  have e2 : ∀ x y : Int, 0 ≤ x ∧ x < 2048 → 0 ≤ y ∧ y < 2048 → bor .i64 x (y * 2048) = x + y * 2048 := fun x y hx hy => by
    obtain ⟨m, rfl⟩ : ∃ m : Nat, x = m := ⟨x.toNat, by omega⟩
    obtain ⟨n, rfl⟩ : ∃ n : Nat, y = n := ⟨y.toNat, by omega⟩
    have := Zpa (a := m) (b := n) (n := 11) (by rw [show (2 : Nat) ^ 11 = 2048 by decide]; omega) (by rw [show (2 : Nat) ^ 11 = 2048 by decide, show (2 : Nat) ^ 62 = 4611686018427387904 by decide]; omega)
    rw [show (2 : Nat) ^ 11 = 2048 by decide] at this
    rw [show ((n : Int) * 2048) = ((2048 * n : Nat) : Int) by omega, this]; omega
  have e3 : ∀ x y : Int, bor .i64 x y = bor .i64 y x := fun x y => by unfold bor; rw [BitVec.or_comm]
  rw [e b hb, e a ha, Option.bind_some, Option.bind_some, e2 a b ha hb, e3, e2 b a hb ha]
  exact ⟨rfl, by rw [Int.add_comm]⟩
theorem Zp2 {a b : Int} (h1 : 0 ≤ a ∧ a ≤ 65535) (h2 : 0 ≤ b ∧ b ≤ 65535) : i64 (b % 2048 * 2048) = b % 2048 * 2048 ∧ i64 (a % 2048 + b % 2048 * 2048) = a % 2048 + b % 2048 * 2048 ∧ i64 a = a ∧ i64 b = b := ⟨Zbd (by omega) (by omega), Zbd (by omega) (by omega), Zbd (by omega) (by omega), Zbd (by omega) (by omega)⟩
theorem ZgQ {f : Vector Int 64} (h : fU f) : Xa f = some (QU f) ∧ Jb f = some (QU f) := by
  have v1 : ZM f 1 = some (wd f 1) := QY f (i := 1) (by decide)
  have v2 : ZM f 2 = some (wd f 2) := QY f (i := 2) (by decide)
  obtain ⟨e1, e2, e3, e4⟩ := Zp2 (h 1) (h 2)
  refine ⟨?_, ?_⟩
  · unfold Xa QU
    rw [v1, Option.bind_some, ZfF (h 1), Option.bind_some, v2, Option.bind_some, ZfF (h 2), Option.bind_some, (ZnL (by omega) (by omega)).1]
  · unfold Jb QU
    rw [v1, Option.bind_some, e3, Zgd (h 1).1 _ (by decide), Option.bind_some, v2, Option.bind_some, e4, Zgd (h 2).1 _ (by decide), Option.bind_some, e1, e2]
def Jy (f : Vector Int 64) : Nat → Int
  | 0 => 0
  | k + 1 => Zb7 .i64 (Jy f k) (wd f (k + 1) % 2048)
theorem Zip {f : Vector Int 64} (h : fU f) : Jt f = some (Jy f 60) ∧ Zep f = some (Jy f 60) := by
  constructor
  · have := ZeD (body := XK f) (Jy f) (Jy f 60) (a := 0) (b := 60) (by decide) (fun k _ hk => by
      have hw := h (k + 1)
      unfold XK
      rw [if_pos (by simp; omega), Zbd (by omega) (by omega), show (k : Int) + 1 = ((k + 1 : Nat) : Int) by push_cast; rfl, QY f (by omega), Option.bind_some, ZfF hw, Option.bind_some]
      rfl) (by unfold XK; rw [if_neg (by decide)])
    unfold Jt
    rw [show ((0 : Int), (0 : Int)) = (Jy f 0, ((0 : Nat) : Int)) from rfl, this]
    rfl
  · have := ZeD (body := Zb1 f) (fun k => Jy f (k - 1)) (Jy f 60) (a := 1) (b := 61) (by decide) (fun k h1 hk => by
      have hw := h k
      obtain ⟨j, rfl⟩ : ∃ j, k = j + 1 := ⟨k - 1, by omega⟩
      unfold Zb1
      rw [if_pos (by simp; omega), QY f (by omega), Option.bind_some, Zbd (by omega) (by omega), Zgd hw.1 _ (by decide), Option.bind_some, Zbd (by omega) (by omega)]
      rfl) (by unfold Zb1; rw [if_neg (by decide)])
    unfold Zep
    rw [show ((0 : Int), (1 : Int)) = ((fun k => Jy f (k - 1)) 1, ((1 : Nat) : Int)) from rfl, this]
    rfl
theorem ZiC (f : Vector Int 64) : ∀ k, 0 ≤ Jy f k ∧ Jy f k < 2048
  | 0 => ⟨Int.le_refl 0, by show (0 : Int) < 2048; decide⟩
  | k + 1 => by
    have ih := ZiC f k
    obtain ⟨a, ha⟩ : ∃ n : Nat, Jy f k = n := ⟨(Jy f k).toNat, by omega⟩
    obtain ⟨b, hb⟩ : ∃ n : Nat, wd f (k + 1) % 2048 = n := ⟨(wd f (k + 1) % 2048).toNat, by omega⟩
    rw [Jy, hb, ha, ZjD (by omega) (by omega)]
    have : a ^^^ b < 2 ^ 11 := Nat.xor_lt_two_pow (by omega) (by omega)
    omega
def Zbh (f : Vector Int 64) (j : Nat) : Bool := decide (j < 744) && decide (wd f (j / 12) / (2 : Int) ^ (11 - j % 12) % 2 = 1)
theorem Zig (x : Int) {k : Nat} (hk : k ≤ 11) : shr .u16 x (k : Int) = some (x / (2 : Int) ^ k) := by
  unfold shr
  have hm : min ((k : Int)).toNat IntKind.u16.bits = k := by
    have : IntKind.u16.bits = 16 := rfl
    rw [Int.toNat_natCast]; omega
  have hp : (0 : Int) < 2 ^ k := Int.pow_pos (by decide)
  rw [if_neg (by omega), hm, Int.fdiv_eq_ediv_of_nonneg _ (by omega)]
theorem Zim (x : Int) {k : Nat} (hk : k ≤ 11) : shr .i64 x (k : Int) = some (x / (2 : Int) ^ k) := by
  unfold shr
  have hm : min ((k : Int)).toNat IntKind.i64.bits = k := by
    have : IntKind.i64.bits = 64 := rfl
    rw [Int.toNat_natCast]; omega
  have hp : (0 : Int) < 2 ^ k := Int.pow_pos (by decide)
  rw [if_neg (by omega), hm, Int.fdiv_eq_ediv_of_nonneg _ (by omega)]
theorem Zoe {x : Int} (h : 0 ≤ x ∧ x ≤ 65535) (k : Nat) : 0 ≤ x / (2 : Int) ^ k ∧ x / (2 : Int) ^ k ≤ 65535 := by
  have hp : (0 : Int) < 2 ^ k := Int.pow_pos (by decide)
  have h1 := Int.ediv_nonneg h.1 (Int.le_of_lt hp)
  have h2 : x / (2 : Int) ^ k ≤ x := Int.ediv_le_self _ h.1
  omega
theorem ZjY {x : Int} (h : 0 ≤ x ∧ x ≤ 65535) : QJ .u16 x 1 = x % 2 := by
  obtain ⟨n, rfl⟩ : ∃ n : Nat, x = n := ⟨x.toNat, by omega⟩
  have e0 : IntKind.u16.bits = 16 := rfl
  have e1 : (BitVec.ofInt 16 (n : Int)).toNat = n := by
    rw [BitVec.ofInt_natCast, BitVec.toNat_ofNat]; exact Nat.mod_eq_of_lt (by omega)
  have e2 : (BitVec.ofInt 16 1).toNat = 2 ^ 1 - 1 := rfl
  unfold QJ
  rw [e0, BitVec.toNat_and, e1, e2, Nat.and_two_pow_sub_one_eq_mod]
  have : n % 2 ^ 1 < 2 := Nat.mod_lt _ (by decide)
  simp only [IntKind.wrap, IntKind.signed, IntKind.bits]
  have e : (2 : Int) ^ 16 = 65536 := by decide
  simp [e]
  omega
theorem ZjU (x : Int) : QJ .i64 x 1 = x % 2 := Zfr (v := x) (n := 1) (by decide)
def ckS (f : Vector Int 64) (k : Nat) : Int := ((pS (Zbh f) k).toNat : Int)
theorem ZmF (f : Vector Int 64) (j : Nat) : ckS f (j + 1) = if (!((!decide (QJ .i64 (ckS f j) 2097152 = 0)) == Zbh f j)) = true then Zb7 .i64 (QJ .i64 (ckS f j * 2) 4194303) 2097167 else QJ .i64 (ckS f j * 2) 4194303 := by
  have := Znk (pS (Zbh f) j) (Zbh f j)
  unfold ckS
  rw [pS, this, ZpH, Bool.not_not, Zpy, Zqg]
  split <;> rfl
theorem Zib {f : Vector Int 64} (h : fU f) : XB f = some (ckS f 744) := by
  have inner : ∀ i : Nat, i < 62 → loop (t2 (Q4 f (i : Int))) (ckS f (12 * i), 11) = some (ckS f (12 * (i + 1))) := fun i hi => by
    have hw := h i
    have := Zm9 (body := Q4 f (i : Int)) (fun j => ckS f (12 * i + j)) (ckS f (12 * (i + 1))) (b := 12) (fun k hk => by
      have hd := Zoe hw k
      have hv := (pS (Zbh f) (12 * i + (12 - 1 - k))).isLt
      unfold Q4
      have e1 : shl .i64 (ckS f (12 * i + (12 - 1 - k))) 1 = some (ckS f (12 * i + (12 - 1 - k)) * 2) := Zpt _
      rw [if_pos (by simp), e1, Option.bind_some, QY f (by omega), Option.bind_some, Zig _ (by omega), Option.bind_some, ZjY hd, Zbd (by omega) (by omega)]
      have eb : Zbh f (12 * i + (12 - 1 - k)) = decide (wd f i / (2 : Int) ^ k % 2 = 1) := by
        unfold Zbh
        rw [decide_eq_true (show 12 * i + (12 - 1 - k) < 744 by omega), Bool.true_and, show (12 * i + (12 - 1 - k)) / 12 = i by omega, show 11 - (12 * i + (12 - 1 - k)) % 12 = k by omega]
      have := ZmF f (12 * i + (12 - 1 - k))
      rw [eb] at this
      rw [show 12 * i + (12 - k) = 12 * i + (12 - 1 - k) + 1 by omega, this]
      split <;> rfl) (by unfold Q4; rw [if_neg (by decide)]; rw [show 12 * (i + 1) = 12 * i + 12 by omega])
    exact this
  have := ZeD (body := Xi f) (fun i => ckS f (12 * i)) (ckS f 744) (a := 0) (b := 62) (by decide) (fun k _ hk => by
    unfold Xi
    rw [if_pos (by simp; omega), inner k hk, Option.bind_some, Qx, Zbd (by omega) (by omega)]) (by unfold Xi; rw [if_neg (by decide)])
  unfold XB
  have e0 : ((0 : Int), (0 : Int)) = ((fun i => ckS f (12 * i)) 0, ((0 : Nat) : Int)) := rfl
  rw [e0, this]
  rfl
def rkS (f : Vector Int 64) (k : Nat) : Int := ((rS (Zbh f) k).toNat : Int)
theorem Zo2 {f : Vector Int 64} (h : fU f) : ZcI f = some (ckS f 744) := by
  have hfin : rkS f 766 = ckS f 744 := by
    unfold rkS ckS
    rw [show 766 = 744 + 22 from rfl, Zox (fun k hk => by unfold Zbh; rw [decide_eq_false (by omega), Bool.false_and])]
  have := ZeD (body := ZaG f) (rkS f) (ckS f 744) (a := 0) (b := 766) (by decide) (fun k _ hk => by
    have hv := (rS (Zbh f) k).isLt
    have hb : ((if (decide ((k : Int) < 744)) = true then (quo .i64 (k : Int) 12).bind fun q => (ZM f q).bind fun x => (rem (k : Int) 12).bind fun q2 => (shr .i64 (i64 x) (i64 (11 - q2))).bind fun q3 => some (QJ .i64 q3 1) else some 0) : Option Int) = some ((Zbh f k).toNat : Int) := by
      by_cases hk2 : k < 744
      · have hw := h (k / 12)
        rw [if_pos (by simp; omega)]
        have e1 : quo .i64 (k : Int) 12 = some ((k / 12 : Nat) : Int) := by
          unfold quo
          rw [if_neg (by decide), Int.tdiv_eq_ediv_of_nonneg (by omega), w64 (by omega) (by omega)]
          rfl
        rw [e1, Option.bind_some, QY f (by omega), Option.bind_some, Zgd (by omega) _ (by decide), Option.bind_some, Zbd (by omega) (by omega)]
        have e2 : i64 (11 - (k : Int) % 12) = ((11 - k % 12 : Nat) : Int) := by rw [Zbd (by omega) (by omega)]; omega
        rw [e2, Zim _ (by omega), Option.bind_some, ZjU]
        unfold Zbh
        rw [decide_eq_true hk2, Bool.true_and]
        generalize wd f (k / 12) / (2 : Int) ^ (11 - k % 12) = z
        by_cases hz : z % 2 = 1
        · rw [decide_eq_true hz, hz]; rfl
        · rw [decide_eq_false hz, show z % 2 = 0 by omega]; rfl
      · rw [if_neg (by simp; omega)]
        unfold Zbh
        rw [decide_eq_false hk2, Bool.false_and]; rfl
    unfold ZaG
    rw [if_pos (by simp; omega), hb, Option.bind_some, Qx]
    have hbl : (Zbh f k).toNat ≤ 1 := by cases Zbh f k <;> decide
    have hs := Zm5 (rS (Zbh f) k) (Zbh f k)
    simp only at hs
    have er : i64 (i64 (rkS f k * 2) + ((Zbh f k).toNat : Int)) = ((2 * (rS (Zbh f) k).toNat + (Zbh f k).toNat : Nat) : Int) := by
      unfold rkS
      rw [Zbd (z := ((rS (Zbh f) k).toNat : Int) * 2) (by omega) (by omega), Zbd (by omega) (by omega)]; push_cast; omega
    have en : rkS f (k + 1) = ((zS (rS (Zbh f) k) ^^^ (if Zbh f k then 1#22 else 0#22)).toNat : Int) := rfl
    rw [er, en, ← hs, Zbd (z := (k : Int) + 1) (by omega) (by omega)]
    by_cases hc : 4194304 ≤ 2 * (rS (Zbh f) k).toNat + (Zbh f k).toNat
    · rw [if_pos (by simp; omega), if_pos hc, show (6291471 : Int) = ((6291471 : Nat) : Int) from rfl, ZjD (by omega) (by omega)]
    · rw [if_neg (by simp; omega), if_neg hc]) (by unfold ZaG; rw [if_neg (by decide), hfin])
  unfold ZcI
  rw [show ((0 : Int), (0 : Int)) = (rkS f 0, ((0 : Nat) : Int)) from rfl, this]
  rfl
end Go.Vx

namespace Go.Vx
open Go Go.RowKit
theorem Zk1 {ρ : Type} {body : Int → Option (Int ⊕ ρ)} (P : Nat → Bool) (A Z : ρ) {a b : Nat} (hab : a ≤ b)
    (hstep : ∀ k : Nat, a ≤ k → k < b → body (k : Int) = if P k = true then some (.inl ((k : Int) + 1)) else some (.inr A)) (hend : body (b : Int) = some (.inr Z)) :
    loop (t1 body) (a : Int) = some (cond ((List.range' a (b - a)).all P) Z A) := by
  refine ZdM (body := t1 body) (fun i => ∃ k : Nat, i = k ∧ a ≤ k ∧ k ≤ b) (fun i => b - i.toNat) (fun i => cond ((List.range' i.toNat (b - i.toNat)).all P) Z A) ?_ (a : Int) ⟨a, rfl, Nat.le_refl _, hab⟩
  rintro i ⟨k, rfl, h1, h2⟩
  simp only [Int.toNat_natCast, Qx]
  rcases Nat.lt_or_ge k b with h | h
  · rw [hstep k h1 h]
    obtain ⟨n, hn⟩ : ∃ n, b - k = n + 1 := ⟨b - k - 1, by omega⟩
    rw [hn, List.range'_succ, List.all_cons]
    cases hp : P k
    · right; simp
    · left
      refine ⟨_, by rw [if_pos rfl], ⟨k + 1, by push_cast; rfl, by omega, h⟩, by omega, ?_⟩
      rw [show ((k : Int) + 1).toNat = k + 1 by omega, show b - (k + 1) = n by omega, Bool.true_and]
  · obtain rfl : k = b := by omega
    right
    rw [hend]; simp
def flL (P : Nat → Bool) (c : Int) (a n : Nat) : List api_Flaw := ((List.range' a n).filter fun k => !P k).map fun (k : Nat) => api_Flaw.mk (k : Int) c
theorem ZiW (P : Nat → Bool) (c : Int) (a n : Nat) : flL P c a (n + 1) = flL P c a n ++ (if P (a + n) = true then [] else [api_Flaw.mk ((a + n : Nat) : Int) c]) := by
  unfold flL
  rw [List.range'_1_concat, List.filter_append, List.map_append]
  congr 1
  cases h : P (a + n) <;> simp [h]
theorem ZgL (P : Nat → Bool) (c : Int) (a : Nat) : ∀ n, (flL P c a n).length ≤ n
  | 0 => by simp [flL]
  | n + 1 => by
    have := ZgL P c a n
    rw [ZiW, List.length_append]; split <;> simp <;> omega
theorem ZgI (P : Nat → Bool) (c : Int) (a n : Nat) : (flL P c a n).length = 0 ↔ (List.range' a n).all P = true := by
  unfold flL
  rw [List.length_map, List.length_eq_zero_iff, List.filter_eq_nil_iff, List.all_eq_true]
  exact ⟨fun h x hx => by have := h x hx; simpa using this, fun h x hx => by rw [h x hx]; decide⟩
theorem ZgH {body : List api_Flaw → Int → Option ((List api_Flaw × Int) ⊕ List api_Flaw)} (P : Nat → Bool) (c : Int) {a b : Nat} (hab : a ≤ b) (l0 : List api_Flaw) (hl : l0.length ≤ 1000) (hb : b ≤ 1000)
    (hstep : ∀ (l : List api_Flaw) (k : Nat), l.length ≤ 2000 → a ≤ k → k < b → body l (k : Int) = if P k = true then some (.inl (l, (k : Int) + 1)) else some (.inl (l ++ [api_Flaw.mk (k : Int) c], (k : Int) + 1)))
    (hend : ∀ l, body l (b : Int) = some (.inr l)) : loop (t2 body) (l0, (a : Int)) = some (l0 ++ flL P c a (b - a)) := by
  have := ZeD (body := body) (fun k => l0 ++ flL P c a (k - a)) (l0 ++ flL P c a (b - a)) (a := a) (b := b) hab (fun k h1 h2 => by
    have hlen := ZgL P c a (k - a)
    rw [hstep _ k (by rw [List.length_append]; omega) h1 h2, show k + 1 - a = k - a + 1 by omega, ZiW, show a + (k - a) = k by omega]
    cases P k <;> simp) (hend _)
  have e : (fun k => l0 ++ flL P c a (k - a)) a = l0 := by simp [flL]
  simp only at e
  rw [e] at this
  exact this
noncomputable def Zo7 (n : Nat) : Bool := decide (JU (n : Int) = ZcJ (n : Int)) && (ZcJ (n : Int)).isSome
theorem Zm8 : (List.range 4096).all Zo7 = true := by decide +kernel
noncomputable def Zd2 (x : Int) : Bool := (ZcJ x).getD false
theorem Zjh {x : Int} (h : 0 ≤ x ∧ x ≤ 4095) : JU x = some (Zd2 x) ∧ ZbY x = some (Zd2 x) := by
  obtain ⟨n, rfl⟩ : ∃ n : Nat, x = n := ⟨x.toNat, by omega⟩
  have := List.all_eq_true.1 Zm8 n (List.mem_range.2 (by omega))
  simp only [Zo7, Bool.and_eq_true, decide_eq_true_eq] at this
  obtain ⟨h2, h3⟩ := this
  obtain ⟨b, hb⟩ := Option.isSome_iff_exists.1 h3
  unfold Zd2
  rw [hb]
  exact ⟨h2.trans hb, Zje _ b hb⟩
def Xp (f : Vector Int 64) (k : Nat) : Bool := decide (wd f k ≤ 4095)
def Zas (f : Vector Int 64) : Bool := (List.range' 0 64).all (Xp f)
theorem ZfY {f : Vector Int 64} (h : Zas f = true) (k : Nat) (hk : k < 64) : wd f k ≤ 4095 := by
  have := List.all_eq_true.1 h k (List.mem_range'.2 ⟨k, hk, by omega⟩)
  simpa [Xp] using this
theorem Zom (f : Vector Int 64) : ZcG f = some (!Zas f) := by
  have := Zk1 (body := ZaZ f) (Xp f) (.inl true : Bool ⊕ Unit) (.inr ()) (a := 0) (b := 64) (by decide) (fun k _ hk => by
    unfold ZaZ Xp
    rw [if_pos (by simp; omega), QY f hk, Option.bind_some, Zbd (by omega) (by omega)]
    by_cases hw : 4095 < wd f k
    · rw [if_pos (by simpa using hw), if_neg (by simpa using hw)]
    · rw [if_neg (by simpa using hw), if_pos (by simpa using hw)]) (by unfold ZaZ; rw [if_neg (by decide)])
  unfold ZcG
  have e0 : (0 : Int) = ((0 : Nat) : Int) := rfl
  rw [e0, this]
  unfold Zas
  rw [Nat.sub_zero]
  cases (List.range' 0 64).all (Xp f) <;> rfl
def XG (n : Int) : Int := gv_frame_syncs.toList.getD (n % 4).toNat 0
theorem ZfH {n : Int} (h : 0 ≤ n) : rem n 4 = some (n % 4) ∧ ZM gv_frame_syncs (n % 4) = some (XG n) := by
  refine ⟨Zgd h _ (by decide), ?_⟩
  unfold ZM XG
  rw [if_pos (by omega)]
  obtain ⟨x, hx⟩ := Xz (xs := gv_frame_syncs.toList) (k := (n % 4).toNat) (by simp; omega)
  rw [List.getD_eq_getElem?_getD, hx]; rfl
theorem Zlm {n : Int} (h : 0 ≤ n) : Zb5 n = some (XG n) := by
  unfold Zb5
  have := (ZfH h).2
  unfold gv_frame_syncs at this
  rw [(ZfH h).1, Option.bind_some, this, Option.bind_some]
noncomputable def Zgr (f : Vector Int 64) (k : Nat) : Bool := Zd2 (wd f k)
def ckW (f : Vector Int 64) : Int := wd f 62 % 2048 * 2048 + wd f 63 % 2048
noncomputable def sndB (f : Vector Int 64) : Bool := Zas f && (decide (wd f 0 = XG (QU f)) && (decide (wd f 61 % 2048 = Jy f 60) && ((List.range' 1 63).all (Zgr f) && decide (ckW f = ckS f 744))))
def ZaU (b : Bool) (i c : Int) : List api_Flaw := if b = true then [] else [api_Flaw.mk i c]
noncomputable def ZjK (f : Vector Int 64) : List api_Flaw :=
  if Zas f = true then ((ZaU (decide (wd f 0 = XG (QU f))) 0 1 ++ flL (Zgr f) 2 1 63) ++ ZaU (decide (wd f 61 % 2048 = Jy f 60)) 61 3) ++ ZaU (decide (ckW f = ckS f 744)) 62 4
  else flL (Xp f) 5 0 64
theorem ZbH (b : Bool) (i c : Int) : (ZaU b i c).length ≤ 1 ∧ ((ZaU b i c).length = 0 ↔ b = true) := by cases b <;> simp [ZaU]
theorem Zka {f : Vector Int 64} (h : fU f) : ZcP f = some (ZjK f) := by
  have hl1 := ZgH (body := ZaS f) (Xp f) 5 (a := 0) (b := 64) (by decide) [] (by decide) (by decide) (fun l k hl _ hk => by
    unfold ZaS Xp
    rw [if_pos (by simp; omega), QY f hk, Option.bind_some, Zbd (by omega) (by omega)]
    by_cases hw : 4095 < wd f k
    · rw [if_pos (by simpa using hw), if_neg (by simpa using hw), Zcg (by simp; omega), Option.bind_some]
    · rw [if_neg (by simpa using hw), if_pos (by simpa using hw)]) (fun l => by unfold ZaS; rw [if_neg (by decide)])
  unfold ZcP
  have e0 : (([] : List api_Flaw), (0 : Int)) = ([], ((0 : Nat) : Int)) := rfl
  rw [e0, hl1, Option.bind_some, Qx, List.nil_append, Nat.sub_zero]
  have hz := ZgI (Xp f) 5 0 64
  unfold ZjK
  cases hn : Zas f
  · have : ¬ (flL (Xp f) 5 0 64).length = 0 := fun hc => by rw [hz.1 hc |> fun e => (show Zas f = true from e)] at hn; cases hn
    rw [if_pos (by simp only [decide_eq_true_eq]; omega), if_neg (by decide)]
  · have hz0 : (flL (Xp f) 5 0 64).length = 0 := hz.2 hn
    have hnil : flL (Xp f) 5 0 64 = [] := List.length_eq_zero_iff.1 hz0
    have hnb := ZgB f
    have v0 : ZM f 0 = some (wd f 0) := QY f (i := 0) (by decide)
    have v61 : ZM f 61 = some (wd f 61) := QY f (i := 61) (by decide)
    have v62 : ZM f 62 = some (wd f 62) := QY f (i := 62) (by decide)
    have v63 : ZM f 63 = some (wd f 63) := QY f (i := 63) (by decide)
    have w0 := h 0
    have w61 := h 61
    have w62 := h 62
    have w63 := h 63
    rw [hnil, if_neg (by decide), v0, Option.bind_some, (ZgQ h).2, Option.bind_some, Zlm hnb.1, Option.bind_some, Zbd (z := wd f 0) (by omega) (by omega)]
    have s1 : (if (!decide (wd f 0 = XG (QU f))) = true then (app ([] : List api_Flaw) ([(api_Flaw.mk 0 1)] : List api_Flaw)).bind fun l2 => some l2 else some []) = some (ZaU (decide (wd f 0 = XG (QU f))) 0 1) := by
      by_cases hs : wd f 0 = XG (QU f)
      · simp [hs, ZaU]
      · rw [Zcg (by simp)]; simp [hs, ZaU]
    rw [s1, Option.bind_some, Qx]
    have hl2 := ZgH (body := ZaH f) (Zgr f) 2 (a := 1) (b := 64) (by decide) (ZaU (decide (wd f 0 = XG (QU f))) 0 1) (by have := (ZbH (decide (wd f 0 = XG (QU f))) 0 1).1; omega) (by decide) (fun l k hl _ hk => by
      unfold ZaH Zgr
      have hw := h k
      rw [if_pos (by simp; omega), QY f hk, Option.bind_some, Zbd (z := wd f k) (by omega) (by omega), (Zjh ⟨hw.1, ZfY hn k hk⟩).2, Option.bind_some, Zbd (by omega) (by omega)]
      cases Zd2 (wd f k)
      · rw [if_pos (by decide), Zcg (by simp; omega), Option.bind_some]; rfl
      · rfl) (fun l => by unfold ZaH; rw [if_neg (by decide)])
    have e1 : (1 : Int) = ((1 : Nat) : Int) := rfl
    have e2 : (ZaU (decide (wd f 0 = XG (QU f))) 0 1, (1 : Int)) = (ZaU (decide (wd f 0 = XG (QU f))) 0 1, ((1 : Nat) : Int)) := rfl
    rw [e2, hl2, Option.bind_some, Qx, show 64 - 1 = 63 from rfl]
    have b1 := (ZbH (decide (wd f 0 = XG (QU f))) 0 1).1
    have b2 := ZgL (Zgr f) 2 1 63
    have b3 := (ZbH (decide (wd f 61 % 2048 = Jy f 60)) 61 3).1
    generalize hX : ZaU (decide (wd f 0 = XG (QU f))) 0 1 ++ flL (Zgr f) 2 1 63 = X
    have bX : X.length ≤ 64 := by rw [← hX, List.length_append]; omega
    rw [v61, Option.bind_some, Zbd (z := wd f 61) (by omega) (by omega), Zgd w61.1 _ (by decide), Option.bind_some, (Zip h).2, Option.bind_some]
    have s2 : (if (!decide (wd f 61 % 2048 = Jy f 60)) = true then (app X ([(api_Flaw.mk 61 3)] : List api_Flaw)).bind fun l4 => some l4 else some X) = some (X ++ ZaU (decide (wd f 61 % 2048 = Jy f 60)) 61 3) := by
      by_cases hs : wd f 61 % 2048 = Jy f 60
      · simp [hs, ZaU]
      · rw [Zcg (by simp; omega)]; simp [hs, ZaU]
    rw [s2, Option.bind_some, Qx]
    generalize hW : X ++ ZaU (decide (wd f 61 % 2048 = Jy f 60)) 61 3 = W
    have bW : W.length ≤ 65 := by rw [← hW, List.length_append]; omega
    rw [v62, Option.bind_some, Zbd (z := wd f 62) (by omega) (by omega), Zgd w62.1 _ (by decide), Option.bind_some, v63, Option.bind_some, Zbd (z := wd f 63) (by omega) (by omega), Zgd w63.1 _ (by decide), Option.bind_some, Zo2 h, Option.bind_some]
    rw [Zbd (z := wd f 62 % 2048 * 2048) (by omega) (by omega), Zbd (z := wd f 62 % 2048 * 2048 + wd f 63 % 2048) (by omega) (by omega)]
    unfold ckW
    by_cases hs : wd f 62 % 2048 * 2048 + wd f 63 % 2048 = ckS f 744
    · simp [hs, ZaU]
    · rw [Zcg (by simp; omega)]; simp [hs, ZaU]
theorem Zg2 {f : Vector Int 64} (h : fU f) : Zbf f = some (sndB f) := by
  unfold Zbf
  rw [Zka h, Option.bind_some]
  congr 1
  unfold ZjK sndB
  cases hn : Zas f
  · have hz := ZgI (Xp f) 5 0 64
    have : ¬ (flL (Xp f) 5 0 64).length = 0 := fun hc => by rw [hz.1 hc |> fun e => (show Zas f = true from e)] at hn; cases hn
    rw [if_neg (by decide), Bool.false_and, decide_eq_false_iff_not]; omega
  · rw [if_pos rfl, Bool.true_and, Bool.eq_iff_iff, decide_eq_true_eq]
    simp only [List.length_append, Bool.and_eq_true]
    have b1 := (ZbH (decide (wd f 0 = XG (QU f))) 0 1).2
    have b2 := ZgI (Zgr f) 2 1 63
    have b3 := (ZbH (decide (wd f 61 % 2048 = Jy f 60)) 61 3).2
    have b4 := (ZbH (decide (ckW f = ckS f 744)) 62 4).2
    rw [← b1, ← b2, ← b3, ← b4]
    omega
end Go.Vx

namespace Go.Vx
open Go Go.RowKit
noncomputable def numN (f : Vector Int 64) : Int × Bool := if (Zd2 (wd f 1) && Zd2 (wd f 2)) = true then (QU f, true) else (0, false)
theorem Zhb {f : Vector Int 64} (h : fU f) (h1 : wd f 1 ≤ 4095) (h2 : wd f 2 ≤ 4095) : XY f = some (numN f) ∧ QE f = some (numN f) := by
  have w1 := h 1
  have w2 := h 2
  have v1 : ZM f 1 = some (wd f 1) := QY f (i := 1) (by decide)
  have v2 : ZM f 2 = some (wd f 2) := QY f (i := 2) (by decide)
  obtain ⟨o1, o1'⟩ := Zjh (x := wd f 1) ⟨w1.1, h1⟩
  obtain ⟨o2, o2'⟩ := Zjh (x := wd f 2) ⟨w2.1, h2⟩
  obtain ⟨n1, n2⟩ := ZgQ h
  have right : ∀ x : Int, 0 ≤ x → x ≤ 4095 → ZbY x = some (Zd2 x) → JB x = some (Zd2 x) := fun x a b e => by
    unfold JB
    rw [decide_eq_true b, ZlG, Zbd (by omega) (by omega), e, Option.bind_some, Bool.true_and]
  have r1 := right _ w1.1 h1 o1'
  have r2 := right _ w2.1 h2 o2'
  unfold XY QE numN
  rw [v1, v2, Option.bind_some, Option.bind_some, o1, r1, Option.bind_some, Option.bind_some, n1, n2]
  generalize QU f = n
  cases Zd2 (wd f 1)
  · exact ⟨rfl, rfl⟩
  · simp only [Bool.not_true, ZpB, show (false == false) = true from rfl, Option.bind_some, o2, r2]
    cases Zd2 (wd f 2)
    · exact ⟨rfl, rfl⟩
    · exact ⟨rfl, rfl⟩
end Go.Vx

namespace Go.Vx
open Go Go.RowKit
theorem Zik {f : Vector Int 64} (h : fU f) : Zbm f = some (ZjK f) := by
  have hl1 := ZgH (body := Zal f) (Xp f) 5 (a := 0) (b := 64) (by decide) [] (by decide) (by decide) (fun l k hl _ hk => by
    unfold Zal Xp
    rw [if_pos (by simp; omega), QY f hk, Option.bind_some, Zbd (by omega) (by omega)]
    by_cases hw : 4095 < wd f k
    · rw [if_pos (by simpa using hw), if_neg (by simpa using hw), Zcg (by simp; omega), Option.bind_some]
    · rw [if_neg (by simpa using hw), if_pos (by simpa using hw)]) (fun l => by unfold Zal; rw [if_neg (by decide)])
  unfold Zbm
  have e0 : (([] : List api_Flaw), (0 : Int)) = ([], ((0 : Nat) : Int)) := rfl
  rw [e0, hl1, Option.bind_some, Qx, List.nil_append, Nat.sub_zero]
  have hz := ZgI (Xp f) 5 0 64
  unfold ZjK
  cases hn : Zas f
  · have : ¬ (flL (Xp f) 5 0 64).length = 0 := fun hc => by rw [hz.1 hc |> fun e => (show Zas f = true from e)] at hn; cases hn
    rw [if_pos (by simp only [decide_eq_true_eq]; omega), if_neg (by decide)]
  · have hz0 : (flL (Xp f) 5 0 64).length = 0 := hz.2 hn
    have hnil : flL (Xp f) 5 0 64 = [] := List.length_eq_zero_iff.1 hz0
    have hnb := ZgB f
    have v0 : ZM f 0 = some (wd f 0) := QY f (i := 0) (by decide)
    have v61 : ZM f 61 = some (wd f 61) := QY f (i := 61) (by decide)
    have v62 : ZM f 62 = some (wd f 62) := QY f (i := 62) (by decide)
    have v63 : ZM f 63 = some (wd f 63) := QY f (i := 63) (by decide)
    have w0 := h 0
    have w61 := h 61
    have w62 := h 62
    have w63 := h 63
    rw [hnil, if_neg (by decide), v0, Option.bind_some, (ZgQ h).1, Option.bind_some, (ZfH hnb.1).1, Option.bind_some, (ZfH hnb.1).2, Option.bind_some]
    have s1 : (if (!decide (wd f 0 = XG (QU f))) = true then (app ([] : List api_Flaw) ([(api_Flaw.mk 0 1)] : List api_Flaw)).bind fun l2 => some l2 else some []) = some (ZaU (decide (wd f 0 = XG (QU f))) 0 1) := by
      by_cases hs : wd f 0 = XG (QU f)
      · simp [hs, ZaU]
      · rw [Zcg (by simp)]; simp [hs, ZaU]
    rw [s1, Option.bind_some, Qx]
    have hl2 := ZgH (body := Zac f) (Zgr f) 2 (a := 1) (b := 64) (by decide) (ZaU (decide (wd f 0 = XG (QU f))) 0 1) (by have := (ZbH (decide (wd f 0 = XG (QU f))) 0 1).1; omega) (by decide) (fun l k hl _ hk => by
      unfold Zac Zgr
      have hw := h k
      rw [if_pos (by simp; omega), QY f hk, Option.bind_some, (Zjh ⟨hw.1, ZfY hn k hk⟩).1, Option.bind_some, Zbd (by omega) (by omega)]
      cases Zd2 (wd f k)
      · rw [if_pos (by decide), Zcg (by simp; omega), Option.bind_some]; rfl
      · rfl) (fun l => by unfold Zac; rw [if_neg (by decide)])
    have e1 : (1 : Int) = ((1 : Nat) : Int) := rfl
    have e2 : (ZaU (decide (wd f 0 = XG (QU f))) 0 1, (1 : Int)) = (ZaU (decide (wd f 0 = XG (QU f))) 0 1, ((1 : Nat) : Int)) := rfl
    rw [e2, hl2, Option.bind_some, Qx, show 64 - 1 = 63 from rfl]
    have b1 := (ZbH (decide (wd f 0 = XG (QU f))) 0 1).1
    have b2 := ZgL (Zgr f) 2 1 63
    have b3 := (ZbH (decide (wd f 61 % 2048 = Jy f 60)) 61 3).1
    generalize hX : ZaU (decide (wd f 0 = XG (QU f))) 0 1 ++ flL (Zgr f) 2 1 63 = X
    have bX : X.length ≤ 64 := by rw [← hX, List.length_append]; omega
    rw [v61, Option.bind_some, ZfF (h 61), Option.bind_some, (Zip h).1, Option.bind_some]
    have s2 : (if (!decide (wd f 61 % 2048 = Jy f 60)) = true then (app X ([(api_Flaw.mk 61 3)] : List api_Flaw)).bind fun l4 => some l4 else some X) = some (X ++ ZaU (decide (wd f 61 % 2048 = Jy f 60)) 61 3) := by
      by_cases hs : wd f 61 % 2048 = Jy f 60
      · simp [hs, ZaU]
      · rw [Zcg (by simp; omega)]; simp [hs, ZaU]
    rw [s2, Option.bind_some, Qx]
    generalize hW : X ++ ZaU (decide (wd f 61 % 2048 = Jy f 60)) 61 3 = W
    have bW : W.length ≤ 65 := by rw [← hW, List.length_append]; omega
    have ob : 0 ≤ wd f 62 % 2048 ∧ wd f 62 % 2048 < 2048 := by omega
    have oc : 0 ≤ wd f 63 % 2048 ∧ wd f 63 % 2048 < 2048 := by omega
    have eb := (ZnL ob oc).2
    obtain ⟨q, hq, hq2⟩ : ∃ q, shl .i64 (wd f 62 % 2048) 11 = some q ∧ bor .i64 q (wd f 63 % 2048) = wd f 62 % 2048 * 2048 + wd f 63 % 2048 := by
      cases hh : shl .i64 (wd f 62 % 2048) 11 with
      | none => rw [hh] at eb; cases eb
      | some q => rw [hh, Option.bind_some] at eb; exact ⟨q, rfl, Option.some.inj eb⟩
    rw [v62, Option.bind_some, ZfF (h 62), Option.bind_some, hq, Option.bind_some, v63, Option.bind_some, ZfF (h 63), Option.bind_some, Zib h, Option.bind_some, hq2]
    unfold ckW
    by_cases hs : wd f 62 % 2048 * 2048 + wd f 63 % 2048 = ckS f 744
    · simp [hs, ZaU]
    · rw [Zcg (by simp; omega)]; simp [hs, ZaU]
theorem Zhy {f : Vector Int 64} (h : fU f) : (0 < (ZjK f).length) ↔ sndB f = false := by
  have := Zg2 h
  unfold Zbf at this
  rw [Zka h, Option.bind_some] at this
  have := Option.some.inj this
  rw [← this, decide_eq_false_iff_not]; omega
end Go.Vx

namespace Go.Vx
open Go Go.RowKit
theorem Zoq : ZbW = ring_checkAll_L1 := by
  funext l i
  unfold ZbW ring_checkAll_L1
  simp only [Zou]
theorem Zh0 (l : List api_Memory) : ∃ c, Xo l = some c ∧ Zbi l = some c ∧ (c = 0 → (1 ≤ l.length ∧ l.length ≤ 8) ∧ ∀ m ∈ l, MemOK m) ∧ (((1 ≤ l.length ∧ l.length ≤ 8) ∧ ∀ m ∈ l, MemOK m) → c = 0) := by
  unfold Xo Zbi
  rw [Zbw, Zoq]
  simp only [Option.bind_some]
  by_cases h : 1 ≤ l.length ∧ l.length ≤ 8
  · have a1 : ((1 : Int) ≤ (l.length : Int)) := by omega
    have a2 : ((l.length : Int) ≤ 8) := by omega
    have a3 : ¬ ((l.length : Int) = 0) := by omega
    have a4 : ¬ (8 < (l.length : Int)) := by omega
    simp only [decide_eq_true a1, decide_eq_true a2, decide_eq_false a3, decide_eq_false a4, Bool.and_self, Bool.not_true, Bool.or_self, Bool.false_eq_true, if_false]
    obtain ⟨r, h1, h2⟩ := ZbC (body := ring_checkAll_L1 l) (N := l.length) (fun k => ∀ j, j < k → ∀ m, l[j]? = some m → MemOK m)
      (fun r => (∃ e, r = .inl e ∧ e ≠ 0 ∧ ¬ ∀ m ∈ l, MemOK m) ∨ (r = .inr () ∧ ∀ m ∈ l, MemOK m)) (fun k hk hI => by
        obtain ⟨m, hm⟩ := Xz hk
        obtain ⟨c, c1, c2, c3⟩ := ZpI m
        unfold ring_checkAll_L1
        rw [if_pos (by simpa using hk), Zm hm, Option.bind_some, c1, Option.bind_some, show i64 ((k : Int) + 1) = (k : Int) + 1 from Zh (by omega) (by omega)]
        by_cases q : c = 0
        · left
          refine ⟨by rw [if_neg (by simp [q])], fun j hj m' hm' => ?_⟩
          by_cases e : j = k
          · subst e; rw [hm] at hm'; cases hm'; exact c2 q
          · exact hI j (by omega) m' hm'
        · right
          exact ⟨_, by rw [if_pos (by simp [q])], .inl ⟨c, rfl, q, fun w => q (c3 (w m (List.mem_of_getElem? hm)))⟩⟩) (fun hI => ⟨.inr (), by unfold ring_checkAll_L1; rw [if_neg (by simp)], .inr ⟨rfl, fun m hm => by
        obtain ⟨j, hj, e⟩ := List.getElem_of_mem hm
        exact hI j hj m (by rw [List.getElem?_eq_getElem hj, e])⟩⟩) (fun j hj => absurd hj (Nat.not_lt_zero _))
    rw [h1]
    rcases h2 with ⟨e, rfl, he, hno⟩ | ⟨rfl, hall⟩
    · exact ⟨e, rfl, rfl, fun q => absurd q he, fun w => absurd w.2 hno⟩
    · exact ⟨0, rfl, rfl, fun _ => ⟨h, hall⟩, fun _ => rfl⟩
  · have a1 : (decide ((1 : Int) ≤ (l.length : Int)) && decide ((l.length : Int) ≤ 8)) = false := by simp; omega
    have a2 : (decide ((l.length : Int) = 0) || decide (8 < (l.length : Int))) = true := by rw [Bool.or_eq_true, decide_eq_true_eq, decide_eq_true_eq]; omega
    rw [a1, a2]
    exact ⟨3, by simp, by simp, fun q => by simp at q, fun w => absurd w.1 h⟩
theorem Zdn {α : Type} {n : Nat} {body : List α → Int → Option ((List α × Int) ⊕ List α)} (g : Nat → List α) {c B : Nat} (acc0 : List α) (hB : acc0.length + n * c ≤ B) (hg : ∀ k, k < n → (g k).length ≤ c)
    (h : ∀ (k : Nat) acc, k < n → acc.length + c ≤ B → body acc (k : Int) = some (.inl (acc ++ g k, (k : Int) + 1))) (hend : ∀ acc, body acc (n : Int) = some (.inr acc)) :
    loop (t2 body) (acc0, 0) = some (acc0 ++ (List.range n).flatMap g) := by
  obtain ⟨r, h1, h2⟩ := Zam (body := body) (s0 := acc0) (N := n) (fun k acc => acc = acc0 ++ (List.range k).flatMap g ∧ acc.length ≤ acc0.length + k * c) (fun r => r = acc0 ++ (List.range n).flatMap g) (fun k acc hk hI => .inl (by
    have e : (k + 1) * c ≤ n * c := Nat.mul_le_mul_right _ hk
    rw [Nat.add_mul] at e
    refine ⟨acc ++ g k, h k acc hk (by omega), ?_, ?_⟩
    · rw [List.range_succ, List.flatMap_append, ← List.append_assoc, ← hI.1]; simp
    · have := hg k hk
      rw [List.length_append, Nat.add_mul]; omega)) (fun acc hI => ⟨acc, hend acc, hI.1⟩) ⟨by simp, by omega⟩
  rw [h1, h2]
theorem Zg8 {α β : Type} {l : List α} {g : α → List β} {c : Nat} (h : ∀ x ∈ l, (g x).length ≤ c) : (l.flatMap g).length ≤ l.length * c := by
  induction l with
  | nil => simp
  | cons x l ih =>
    have h1 := h x (List.mem_cons_self ..)
    have h2 := ih fun y hy => h y (List.mem_cons_of_mem _ hy)
    rw [List.flatMap_cons, List.length_append, List.length_cons, Nat.add_mul]; omega
theorem ZjH {α β : Type} (l : List α) (d : α) (g : α → List β) : (List.range l.length).flatMap (fun k => g (l.getD k d)) = l.flatMap g := by
  induction l with
  | nil => rfl
  | cons x l ih =>
    rw [List.length_cons, List.range_succ_eq_map, List.flatMap_cons, List.flatMap_map, List.flatMap_cons]
    congr 1
noncomputable def Zba (m : api_Memory) : List Int := (XA m).getD []
theorem ZhA {m : api_Memory} (hm : memR m) (ok : MemOK m) : XA m = some (Zba m) ∧ ZbZ m = some (Zba m) ∧ (Zba m).Perm (hdM m m.Sectors.length) ∧ Srt (ZcR m) (Zba m) := by
  obtain ⟨l, a1, a2, a3, a4⟩ := Znz hm ok.n.2 ok.bad
  have : Zba m = l := by unfold Zba; rw [a1]; rfl
  rw [this]
  exact ⟨a1, a2, a3, a4⟩
theorem ZgE {m : api_Memory} (hm : memR m) (ok : MemOK m) : (Zba m).length ≤ 64 ∧ ∀ i ∈ Zba m, 0 ≤ i ∧ i < m.Sectors.length := by
  obtain ⟨_, _, p, _⟩ := ZhA hm ok
  refine ⟨by rw [p.length_eq]; have := Zfp m m.Sectors.length; have := ok.n; omega, fun i hi => ZgV m _ i (p.mem_iff.1 hi)⟩
def frV (s : List Int) (j : Nat) : Vector Int 64 := Zck (Xt (slotL s j))
def Zer (m : api_Memory) (mi i : Int) : List api_Kept := (List.range m.Slots.toNat).flatMap fun j => if stV (slotL (m.Sectors.getD i.toNat []) j) = 1 then [api_Kept.mk mi i (headV (m.Sectors.getD i.toNat [])).1 (j : Int) (frV (m.Sectors.getD i.toNat []) j)] else []
def dfM : api_Memory := ⟨0, 0, [], [], []⟩
noncomputable def keptM (m : api_Memory) (mi : Int) : List api_Kept := (Zba m).flatMap (Zer m mi)
noncomputable def XD (l : List api_Memory) : List api_Kept := (List.range l.length).flatMap fun k => keptM (l.getD k dfM) (k : Int)
theorem ZfL {m : api_Memory} (ok : MemOK m) (mi i : Int) : (Zer m mi i).length ≤ 64 := by
  have := Zg8 (l := List.range m.Slots.toNat) (c := 1) (g := fun j => if stV (slotL (m.Sectors.getD i.toNat []) j) = 1 then [api_Kept.mk mi i (headV (m.Sectors.getD i.toNat [])).1 (j : Int) (frV (m.Sectors.getD i.toNat []) j)] else []) (fun x _ => by split <;> simp)
  have h := ok.slots
  rw [List.length_range] at this
  unfold Zer; omega
theorem ZfX {m : api_Memory} (hm : memR m) (ok : MemOK m) (mi : Int) : (keptM m mi).length ≤ 4096 := by
  have := Zg8 (l := Zba m) (c := 64) (g := Zer m mi) (fun x _ => ZfL ok mi x)
  have := (ZgE hm ok).1
  unfold keptM; omega
theorem row_bd {m : api_Memory} (ok : MemOK m) {i : Nat} (hi : i < m.Sectors.length) {j : Nat} (hj : (j : Int) < m.Slots) : (m.Sectors.getD i []).length ≤ 7000 ∧ 16 + j * 97 + 97 ≤ (m.Sectors.getD i []).length := by
  have h := ok.row _ (getD_memL hi)
  have := ok.slots
  omega
where
  getD_memL {α : Type} {l : List (List α)} {i : Nat} (h : i < l.length) : l.getD i [] ∈ l := by
    rw [List.getD_eq_getElem?_getD, List.getElem?_eq_getElem h]; exact List.getElem_mem h
theorem Zk6 {m : api_Memory} (ok : MemOK m) {i : Nat} (hi : i < m.Sectors.length) : ZcX (m.Sectors.getD i []) = some m.Slots.toNat := by
  have h := ok.row _ (row_bd.getD_memL hi)
  have := ok.slots
  unfold ZcX
  rw [if_pos (by omega)]
  congr 1; omega
theorem ZoE {m : api_Memory} (hm : memR m) (ok : MemOK m) {mi : Int} {i : Nat} (hi : i < m.Sectors.length) (acc : List api_Kept) (ha : acc.length ≤ 40000) :
    loop (t2 (JI mi m (i : Int) (headV (m.Sectors.getD i [])))) (acc, 0) = some (acc ++ Zer m mi (i : Int)) := by
  have hs := ok.slots
  refine Zdn (n := m.Slots.toNat) (c := 1) (B := 40064) _ acc (by omega) (fun k _ => by split <;> simp) (fun k a hk hl => ?_) (fun a => ?_)
  · obtain ⟨b1, b2⟩ := row_bd ok hi (j := k) (by omega)
    have hd := Qv (s := m.Sectors) hi []
    obtain ⟨v, hv, hvl⟩ := Zhh (by omega) b2
    have h97 := JV b2
    unfold JI
    rw [if_pos (by simp; omega), Zm hd, Option.bind_some, hv, Option.bind_some, Zh1 hvl h97, Option.bind_some, show i64 ((k : Int) + 1) = (k : Int) + 1 from Zh (by omega) (by omega)]
    simp only [Int.toNat_natCast]
    by_cases q : stV (slotL (m.Sectors.getD i []) k) = 1
    · rw [if_pos (by simpa using q), if_pos q, hvl, show slc (slotL (m.Sectors.getD i []) k) 0 (97 : Int) = some (slotL (m.Sectors.getD i []) k) from (Zcc (a := 0) (b := 97) (by omega) (by omega)).trans (by rw [List.take_of_length_le (by omega), List.drop_zero]), Option.bind_some,
        (Zkw (ZgX (ZbS hm i) k) (by omega)).1, Option.bind_some, J4 (by simp; omega), Option.bind_some]
      rfl
    · rw [if_neg (by simpa using q), if_neg q, List.append_nil]
  · unfold JI
    rw [if_neg (by simp; omega)]
theorem Zon {m : api_Memory} (hm : memR m) (ok : MemOK m) {mi : Int} {i : Nat} (hi : i < m.Sectors.length) (acc : List api_Kept) (ha : acc.length ≤ 40000) :
    loop (t2 (Za3 mi m (i : Int) (headV (m.Sectors.getD i [])))) (acc, 0) = some (acc ++ Zer m mi (i : Int)) := by
  have hs := ok.slots
  refine Zdn (n := m.Slots.toNat) (c := 1) (B := 40064) _ acc (by omega) (fun k _ => by split <;> simp) (fun k a hk hl => ?_) (fun a => ?_)
  · obtain ⟨b1, b2⟩ := row_bd ok hi (j := k) (by omega)
    have hd := Qv (s := m.Sectors) hi []
    unfold Za3
    rw [if_pos (by simp; omega), Zm hd, Option.bind_some, Zny (by omega) b2, Option.bind_some, show i64 ((k : Int) + 1) = (k : Int) + 1 from Zh (by omega) (by omega)]
    simp only [Int.toNat_natCast]
    by_cases q : stV (slotL (m.Sectors.getD i []) k) = 1
    · rw [if_pos (by simpa using q), if_pos q, Option.bind_some, (Zjl (ZbS hm i) (by omega) (k : Int)).2, Option.bind_some]
      have hF : Zgj (m.Sectors.getD i []) (k : Int) = (frV (m.Sectors.getD i []) k, 0) := by
        unfold Zgj
        rw [Zk6 ok hi]
        simp only [Int.toNat_natCast]
        rw [if_pos (by omega)]; rfl
      rw [hF, J4 (by simp; omega), Option.bind_some]
    · rw [if_neg (by simpa using q), if_neg q, List.append_nil]
  · unfold Za3
    rw [if_neg (by simp; omega)]
theorem Zl9 {m : api_Memory} (hm : memR m) (ok : MemOK m) {mi : Int} (acc : List api_Kept) (ha : acc.length ≤ 35000) :
    loop (t2 (JQ mi m (Zba m))) (acc, 0) = some (acc ++ keptM m mi) ∧ loop (t2 (Za8 mi m (Zba m))) (acc, 0) = some (acc ++ keptM m mi) := by
  obtain ⟨l1, l2⟩ := ZgE hm ok
  have e : keptM m mi = (List.range (Zba m).length).flatMap fun k => Zer m mi ((Zba m).getD k 0) := (ZjH _ 0 _).symm
  rw [e]
  constructor
  · refine Zdn (n := (Zba m).length) (c := 64) (B := 39200) _ acc (by omega) (fun k _ => ZfL ok _ _) (fun k a hk hl => ?_) (fun a => ?_)
    · have hd := Qv hk 0
      have hb := l2 _ (JR hk)
      unfold JQ
      rw [if_pos (by simpa using hk), Zm hd, Option.bind_some]
      obtain ⟨i, hi⟩ := Int.eq_ofNat_of_zero_le hb.1
      rw [hi, Zm (Qv (s := m.Sectors) (k := i) (by omega) []), Option.bind_some, Zhd (ZbS hm i), Option.bind_some, ZoE hm ok (by omega) a (by omega), Option.bind_some, Qx, show i64 ((k : Int) + 1) = (k : Int) + 1 from Zh (by omega) (by omega)]
    · unfold JQ
      rw [if_neg (by simp)]
  · refine Zdn (n := (Zba m).length) (c := 64) (B := 39200) _ acc (by omega) (fun k _ => ZfL ok _ _) (fun k a hk hl => ?_) (fun a => ?_)
    · have hd := Qv hk 0
      have hb := l2 _ (JR hk)
      unfold Za8
      rw [if_pos (by simpa using hk), Zm hd, Option.bind_some]
      obtain ⟨i, hi⟩ := Int.eq_ofNat_of_zero_le hb.1
      rw [hi, Zm (Qv (s := m.Sectors) (k := i) (by omega) []), Option.bind_some, ZjF (ZbS hm i), Option.bind_some, Zon hm ok (by omega) a (by omega), Option.bind_some, Qx, show i64 ((k : Int) + 1) = (k : Int) + 1 from Zh (by omega) (by omega)]
    · unfold Za8
      rw [if_neg (by simp)]
theorem JL {l : List api_Memory} {k : Nat} (h : k < l.length) : l.getD k dfM ∈ l ∧ l[k]? = some (l.getD k dfM) := by
  rw [List.getD_eq_getElem?_getD, List.getElem?_eq_getElem h]
  exact ⟨List.getElem_mem h, rfl⟩
theorem ZlR {l : List api_Memory} (hl : l.length ≤ 8) (hR : ∀ m ∈ l, memR m) (hO : ∀ m ∈ l, MemOK m) : (XD l).length ≤ 32768 := by
  have := Zg8 (l := List.range l.length) (c := 4096) (g := fun k => keptM (l.getD k dfM) (k : Int)) (fun k hk => by
    have := JL (List.mem_range.1 hk)
    exact ZfX (hR _ this.1) (hO _ this.1) _)
  rw [List.length_range] at this
  unfold XD; omega
theorem Zpe {l : List api_Memory} (hR : ∀ m ∈ l, memR m) : ∃ c, Xo l = some c ∧ Zbi l = some c ∧ ZbB l = some (if c = 0 then XD l else [], c) ∧ Zdt l = some (if c = 0 then XD l else [], c) ∧
    (c = 0 → (1 ≤ l.length ∧ l.length ≤ 8) ∧ ∀ m ∈ l, MemOK m) ∧ (((1 ≤ l.length ∧ l.length ≤ 8) ∧ ∀ m ∈ l, MemOK m) → c = 0) := by
  obtain ⟨c, c1, c2, c3, c4⟩ := Zh0 l
  refine ⟨c, c1, c2, ?_⟩
  unfold ZbB Zdt
  rw [c1, c2]
  simp only [Option.bind_some]
  by_cases q : c = 0
  · obtain ⟨hl, hO⟩ := c3 q
    rw [if_pos q, if_neg (by simp [q]), if_neg (by simp [q])]
    have A : loop (t2 (JG l)) ([], 0) = some ([] ++ XD l) := by
      refine Zdn (n := l.length) (c := 4096) (B := 35000) _ [] (by simp; omega) (fun k hk => ZfX (hR _ (JL hk).1) (hO _ (JL hk).1) _) (fun k a hk hb => ?_) (fun a => ?_)
      · obtain ⟨g1, g2⟩ := JL hk
        unfold JG
        rw [if_pos (by simpa using hk), Zm g2, Option.bind_some, (ZhA (hR _ g1) (hO _ g1)).1, Option.bind_some, (Zl9 (hR _ g1) (hO _ g1) a (by omega)).1, Option.bind_some, Qx, show i64 ((k : Int) + 1) = (k : Int) + 1 from Zh (by omega) (by omega)]
      · unfold JG
        rw [if_neg (by simp)]
    have B : loop (t2 (Za7 l)) ([], 0) = some ([] ++ XD l) := by
      refine Zdn (n := l.length) (c := 4096) (B := 35000) _ [] (by simp; omega) (fun k hk => ZfX (hR _ (JL hk).1) (hO _ (JL hk).1) _) (fun k a hk hb => ?_) (fun a => ?_)
      · obtain ⟨g1, g2⟩ := JL hk
        unfold Za7
        rw [if_pos (by simpa using hk), Zm g2, Option.bind_some, (ZhA (hR _ g1) (hO _ g1)).2.1, Option.bind_some, (Zl9 (hR _ g1) (hO _ g1) a (by omega)).2, Option.bind_some, Qx, show i64 ((k : Int) + 1) = (k : Int) + 1 from Zh (by omega) (by omega)]
      · unfold Za7
        rw [if_neg (by simp)]
    rw [A, B]
    simp only [Option.bind_some, Qx, List.nil_append]
    exact ⟨by rw [q], by rw [q], c3, c4⟩
  · rw [if_neg q, if_pos (by simp [q]), if_pos (by simp [q])]
    exact ⟨rfl, rfl, c3, c4⟩
end Go.Vx
