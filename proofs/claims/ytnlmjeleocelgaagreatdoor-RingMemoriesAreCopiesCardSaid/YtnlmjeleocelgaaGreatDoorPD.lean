/- A text of the proof: a verified executor of the program form, or the contracts of the functions that the law reaches. -/
import Derived.Test.YtnlmjeleocelgaaGreatDoorPC
set_option linter.all false
namespace Go.Vx
open Go Go.RowKit
def Zdf (p : Nat → Bool) : Nat → Option Nat
  | 0 => none
  | n + 1 => match Zdf p n with
    | some k => some k
    | none => if p n = true then some n else none
theorem Zik {p : Nat → Bool} {k z : Nat} (h : Zdf p k = some z) : ∀ {n : Nat}, k ≤ n → Zdf p n = some z
  | 0, hn => by
    obtain rfl : k = 0 := by omega
    exact h
  | n + 1, hn => by
    by_cases e : k = n + 1
    · subst e; exact h
    · have := Zik h (n := n) (by omega)
      unfold Zdf; rw [this]
theorem Zio {p : Nat → Bool} : ∀ {n z : Nat}, Zdf p n = some z → z < n ∧ p z = true
  | 0, z, h => by cases h
  | n + 1, z, h => by
    unfold Zdf at h
    split at h
    · rename_i k hk
      cases h
      have := Zio hk
      exact ⟨by omega, this.2⟩
    · split at h
      · rename_i q
        cases h
        exact ⟨by omega, q⟩
      · cases h
def ZgN (m : api_Memory) (z : Nat) : Bool := !(m.Bad.getD z false) && decide (m.Wear.getD z 0 < m.Limit)
def ZeF (m : api_Memory) (sec : Int) (i : Nat) : Nat := ((sec + 1).toNat + i) % m.Sectors.length
def Zat (m : api_Memory) (sec : Int) : Int := match Zdf (fun i => ZgN m (ZeF m sec i)) m.Sectors.length with
  | some i => (ZeF m sec i : Int)
  | none => -1
theorem Zlq {m : api_Memory} {sec : Int} (h : 0 ≤ Zat m sec) (hn : 0 < m.Sectors.length) : Zat m sec < m.Sectors.length ∧ ZgN m (Zat m sec).toNat = true := by
  unfold Zat at h ⊢
  split at h
  · rename_i i hi
    have := (Zio hi).2
    have hlt : ZeF m sec i < m.Sectors.length := Nat.mod_lt _ hn
    exact ⟨by omega, by simpa using this⟩
  · omega
theorem Zn1 {b : ring_bank} {k : Nat} {m : api_Memory} {s : ring_spot} (hm : b.memories[k]? = some m) (hs : b.spots[k]? = some s) (ok : MemOK m) (h1 : -1 ≤ s.sector) (h2 : s.sector < m.Sectors.length) : Q7 b (k : Int) = some (Zat m s.sector) := by
  have hn := ok.n
  unfold Q7
  rw [ZG hm, Option.bind_some]
  obtain ⟨r, r1, r2⟩ := Zf4 (body := Xn b (k : Int) m) (N := m.Sectors.length) (fun j => Zdf (fun i => ZgN m (ZeF m s.sector i)) j = none) (fun r => Sum.elim (fun q => q) (fun _ => (-1 : Int)) r = Zat m s.sector) (fun j hj hI => by
    have hlt : ZeF m s.sector j < m.Sectors.length := Nat.mod_lt _ (by omega)
    have e1 : i64 (s.sector + 1) = s.sector + 1 := Zo (by omega) (by omega)
    have e2 : i64 (s.sector + 1 + (j : Int)) = (((s.sector + 1).toNat + j : Nat) : Int) := (Zo (by omega) (by omega)).trans (by omega)
    have e3 : rem (((s.sector + 1).toNat + j : Nat) : Int) (m.Sectors.length : Int) = some (ZeF m s.sector j : Int) := by
      unfold rem ZeF
      rw [if_neg (by omega)]
      rfl
    unfold Xn
    rw [if_pos (by simpa using hj), ZG hs, Option.bind_some, e1, e2, e3, Option.bind_some, ZG (JR (s := m.Bad) (by have := ok.bad; omega) false), Option.bind_some, show i64 ((j : Int) + 1) = (j : Int) + 1 from Zo (by omega) (by omega), ZG (JR (s := m.Wear) (by have := ok.wear; omega) 0)]
    have hp : ZgN m (ZeF m s.sector j) = (!(m.Bad.getD (ZeF m s.sector j) false) && decide (m.Wear.getD (ZeF m s.sector j) 0 < m.Limit)) := rfl
    cases hB : m.Bad.getD (ZeF m s.sector j) false with
    | true =>
      rw [hB] at hp
      left
      refine ⟨by simp [gd], ?_⟩
      unfold Zdf
      rw [hI, hp]; rfl
    | false =>
      rw [hB] at hp
      simp only [Bool.not_false, gd, beq_self_eq_true, if_true, Option.bind_some, Bool.true_and] at hp ⊢
      by_cases q : m.Wear.getD (ZeF m s.sector j) 0 < m.Limit
      · right
        refine ⟨_, by rw [if_pos (decide_eq_true q)], ?_⟩
        have : Zdf (fun i => ZgN m (ZeF m s.sector i)) (j + 1) = some j := by
          unfold Zdf
          rw [hI, hp, decide_eq_true q]; rfl
        unfold Zat
        rw [Zik this (by omega)]; rfl
      · left
        refine ⟨by rw [if_neg (by simpa using q)], ?_⟩
        unfold Zdf
        rw [hI, hp, decide_eq_false q]; rfl) (fun hI => ⟨.inr (), by unfold Xn; rw [if_neg (by simp)], by unfold Zat; rw [hI]; rfl⟩) rfl
  rw [r1]
  cases r with
  | inl q => simp only [Option.bind_some, Sum.elim_inl] at r2 ⊢; rw [← r2]
  | inr q => simp only [Option.bind_some, Sum.elim_inr] at r2 ⊢; rw [← r2]; rfl
def Zhn (m : api_Memory) (sec : Int) : Nat → Int
  | 0 => 0
  | k + 1 => if ((XU (m.Sectors.getD k [])).2.2 && !decide ((k : Int) = sec)) = true then max (Zhn m sec k) (XU (m.Sectors.getD k [])).1 else Zhn m sec k
theorem Zkz (m : api_Memory) (sec : Int) : ∀ k, 0 ≤ Zhn m sec k ∧ Zhn m sec k ≤ 1073741824
  | 0 => by simp [Zhn]
  | k + 1 => by
    have h := Zkz m sec k
    have := Zjh (m.Sectors.getD k [])
    unfold Zhn
    split <;> omega
def Zft (m : api_Memory) (sec : Int) : Int := Zhn m sec m.Sectors.length + 1
theorem Zpa {b : ring_bank} {k : Nat} {m : api_Memory} (hm : b.memories[k]? = some m) (hR : memR m) (ok : MemOK m) (sec : Int) : QE b (k : Int) sec = some (Zft m sec) := by
  have hn := ok.n
  unfold QE
  rw [ZG hm, Option.bind_some]
  obtain ⟨r, r1, r2⟩ := ZcV (body := QN sec m) (s0 := (0 : Int)) (N := m.Sectors.length) (fun j z => z = Zhn m sec j) (fun z => z = Zhn m sec m.Sectors.length) (fun j z hj hI => .inl (by
    unfold QN
    rw [if_pos (by simpa using hj), ZG (JR hj []), Option.bind_some, Zko (ZfW hR j), Option.bind_some, show i64 ((j : Int) + 1) = (j : Int) + 1 from Zo (by omega) (by omega), hI]
    by_cases q : ((XU (m.Sectors.getD j [])).2.2 && !decide ((j : Int) = sec)) = true
    · exact ⟨_, by rw [if_pos q], by show _ = Zhn m sec (j + 1); rw [Zhn, if_pos q]⟩
    · exact ⟨_, by rw [if_neg q], by show _ = Zhn m sec (j + 1); rw [Zhn, if_neg q]⟩)) (fun z hI => ⟨z, by unfold QN; rw [if_neg (by simp)], hI⟩) rfl
  have := Zkz m sec m.Sectors.length
  rw [r1, Option.bind_some, XL, r2, show i64 (Zhn m sec m.Sectors.length + 1) = _ from Zo (by omega) (by omega)]
  rfl
def ZaW (m : api_Memory) (s : ring_spot) : Bool := decide (s.sector < 0) || decide (s.slot = m.Slots)
theorem ZkN {b : ring_bank} {k : Nat} {m : api_Memory} {s : ring_spot} (hm : b.memories[k]? = some m) (hs : b.spots[k]? = some s) : QK b (k : Int) = some (ZaW m s) := by
  unfold QK ZaW
  rw [ZG hs, Option.bind_some, ZG hm]
  by_cases q : s.sector < 0
  · simp [q, gd]
  · simp [q, gd]
def Zek (s : List Int) : List Int := List.replicate (s.length / 2) 255 ++ s.drop (s.length / 2)
def Zdx (m : api_Memory) (s : ring_spot) (p : Int) : Int × Bool × api_Memory × ring_spot :=
  let y := Zat m s.sector
  let S := m.Sectors.getD y.toNat []
  let W := m.Wear.set y.toNat (m.Wear.getD y.toNat 0 + 1)
  if p = 0 then (0, false, ZaC m y.toNat (Zek S) W, s) else
  let q := Zbi (List.replicate S.length 255) 0 (hdL (Zft m y)) (p - 1)
  (q.1, q.2.1, ZaC m y.toNat q.2.2 W, cond q.2.1 ⟨y, 0⟩ s)
def upd (r : ring_Recorder) (k : Nat) (m : api_Memory) (sp : List ring_spot) : ring_Recorder := ⟨⟨r.bank.memories.set k m, sp⟩, r.copies, r.frozen, r.stopped, r.last, r.some_⟩
theorem Zqi {r : ring_Recorder} {k : Nat} {m : api_Memory} {s : ring_spot} (hm : r.bank.memories[k]? = some m) (hs : r.bank.spots[k]? = some s) (hR : memR m) (ok : MemOK m) (h1 : -1 ≤ s.sector) (h2 : s.sector < m.Sectors.length) (hx : 0 ≤ Zat m s.sector) (hq : Zft m (Zat m s.sector) ≤ 1073741824) {p : Int} (hp : 0 ≤ p ∧ p ≤ 1000000000) :
    Xl r (k : Int) p = some ((Zdx m s p).1, (Zdx m s p).2.1, upd r k (Zdx m s p).2.2.1 (if (Zdx m s p).2.1 = true then r.bank.spots.set k (Zdx m s p).2.2.2 else r.bank.spots)) := by
  have hn := ok.n
  obtain ⟨b1, b2⟩ := Zlq hx (by omega)
  have hkl := (List.getElem?_eq_some_iff.1 hm).1
  unfold Xl
  rw [ZG hm, Option.bind_some, Zn1 hm hs ok h1 h2, Option.bind_some, Zpa hm hR ok, Option.bind_some]
  obtain ⟨y, hy⟩ := Int.eq_ofNat_of_zero_le hx
  unfold Zdx
  rw [hy] at b1 b2 hq ⊢
  simp only [Int.toNat_natCast] at b2 ⊢
  have hyl : y < m.Sectors.length := by omega
  have hyw : y < m.Wear.length := by have := ok.wear; omega
  have hw := ok.wr _ (ZbN hyw)
  have hrow := ok.row _ (row_bd.getD_memL hyl)
  have hsl := ok.slots
  have hlim := ok.limit
  rw [ZG (JR hyw 0), Option.bind_some, Option.bind_some, ZG (JR hyl []), Option.bind_some, Zoy (by omega) (by omega) hp, Option.bind_some, show i64 (m.Wear.getD y 0 + 1) = m.Wear.getD y 0 + 1 from Zo (by omega) (by omega)]
  by_cases q : p = 0
  · rw [if_pos q, if_pos q]
    simp only [Bool.not_false, if_true, Bool.false_eq_true, if_false]
    rw [List.set_set]
    rfl
  · rw [if_neg q, if_neg q]
    simp only [Bool.not_true, Bool.false_eq_true, if_false]
    rw [List.set_set]
    have g1 : (r.bank.memories.set k (ZaC m y (List.replicate (m.Sectors.getD y []).length 255) (m.Wear.set y (m.Wear.getD y 0 + 1))))[k]? = some (ZaC m y (List.replicate (m.Sectors.getD y []).length 255) (m.Wear.set y (m.Wear.getD y 0 + 1))) := List.getElem?_set_self hkl
    have g2 : (ZaC m y (List.replicate (m.Sectors.getD y []).length 255) (m.Wear.set y (m.Wear.getD y 0 + 1))).Sectors[y]? = some (List.replicate (m.Sectors.getD y []).length 255) := List.getElem?_set_self hyl
    have hs1 : 1 ≤ Zft m (y : Int) := by have := Zkz m (y : Int) m.Sectors.length; unfold Zft; omega
    have hput := ZnJ (s := List.replicate (m.Sectors.getD y []).length 255) (d := hdL (Zft m (y : Int))) (a := 0) (p := p - 1) (by rw [List.length_replicate]; omega) (by rw [List.length_replicate]; simp only [hdL, List.length_cons, List.length_nil]; omega) (by omega)
    have em : api_Memory.mk m.Slots m.Limit (m.Sectors.set y (List.replicate (m.Sectors.getD y []).length 255)) (m.Wear.set y (m.Wear.getD y 0 + 1)) m.Bad = ZaC m y (List.replicate (m.Sectors.getD y []).length 255) (m.Wear.set y (m.Wear.getD y 0 + 1)) := rfl
    rw [em, ZG g1, Option.bind_some, ZG g2, Option.bind_some, Option.bind_some, Zlp ⟨hs1, hq⟩, Option.bind_some]
    have hput' : QT (List.replicate (m.Sectors.getD y []).length 255) 0 (hdL (Zft m (y : Int))) (p - 1) = some (Zbi (List.replicate (m.Sectors.getD y []).length 255) 0 (hdL (Zft m (y : Int))) (p - 1)) := hput
    rw [hput', Option.bind_some]
    have e3 : ∀ P : Int × Bool × List Int, (r.bank.memories.set k (ZaC m y (List.replicate (m.Sectors.getD y []).length 255) (m.Wear.set y (m.Wear.getD y 0 + 1)))).set k (api_Memory.mk (ZaC m y (List.replicate (m.Sectors.getD y []).length 255) (m.Wear.set y (m.Wear.getD y 0 + 1))).Slots (ZaC m y (List.replicate (m.Sectors.getD y []).length 255) (m.Wear.set y (m.Wear.getD y 0 + 1))).Limit ((ZaC m y (List.replicate (m.Sectors.getD y []).length 255) (m.Wear.set y (m.Wear.getD y 0 + 1))).Sectors.set y P.2.2) (ZaC m y (List.replicate (m.Sectors.getD y []).length 255) (m.Wear.set y (m.Wear.getD y 0 + 1))).Wear (ZaC m y (List.replicate (m.Sectors.getD y []).length 255) (m.Wear.set y (m.Wear.getD y 0 + 1))).Bad) = r.bank.memories.set k (ZaC m y P.2.2 (m.Wear.set y (m.Wear.getD y 0 + 1))) := fun P => by
      rw [List.set_set]; unfold ZaC; simp
    rw [e3]
    cases hP : (Zbi (List.replicate (m.Sectors.getD y []).length 255) 0 (hdL (Zft m (y : Int))) (p - 1)).2.1 with
    | true =>
      simp only [if_true, cond_true, ZG hs, Option.bind_some, Zo0]
      rfl
    | false =>
      simp only [Bool.false_eq_true, if_false, cond_false, Option.bind_some, Zo0]
      rfl
def Zis (m : api_Memory) (s : ring_spot) (data : List Int) (p : Int) : Int × Bool × api_Memory × ring_spot :=
  let q := Zbi (m.Sectors.getD s.sector.toNat []) (16 + s.slot.toNat * 97) (data ++ [0]) p
  (q.1, q.2.1, ZaC m s.sector.toNat q.2.2 m.Wear, ⟨s.sector, s.slot + 1⟩)
theorem ZlY {r : ring_Recorder} {k : Nat} {m : api_Memory} {s : ring_spot} {data : List Int} {p : Int} {mems : List api_Memory} {spots : List ring_spot} (hm : mems[k]? = some m) (hs : spots[k]? = some s) (ok : MemOK m) (h1 : 0 ≤ s.sector) (h2 : s.sector < m.Sectors.length) (h3 : 0 ≤ s.slot ∧ s.slot < m.Slots) (hd : data.length = 96) (hp : 0 ≤ p ∧ p ≤ 1000000000) :
    ((idx spots (k : Int)).bind fun x => (idx mems (k : Int)).bind fun x2 => (idx x2.Sectors x.sector).bind fun x3 => (idx mems (k : Int)).bind fun x4 => (idx x2.Sectors x.sector).bind fun x5 => (apz 1 data ([0] : List Int)).bind fun l =>
      (QT x3 (i64 (16 + (i64 (x.slot * 97)))) l p).bind fun y3 =>
      some (y3.1, y3.2.1, (ring_Recorder.mk (ring_bank.mk (mems.set (Int.toNat (k : Int)) (api_Memory.mk x2.Slots x2.Limit (x2.Sectors.set x.sector.toNat y3.2.2) x2.Wear x2.Bad)) (spots.set (Int.toNat (k : Int)) (ring_spot.mk x.sector (i64 (x.slot + 1))))) r.copies r.frozen r.stopped r.last r.some_))) =
    some ((Zis m s data p).1, (Zis m s data p).2.1, ⟨⟨mems.set k (Zis m s data p).2.2.1, spots.set k (Zis m s data p).2.2.2⟩, r.copies, r.frozen, r.stopped, r.last, r.some_⟩) := by
  have hsl := ok.slots
  obtain ⟨i, hi⟩ := Int.eq_ofNat_of_zero_le h1
  obtain ⟨j, hj⟩ := Int.eq_ofNat_of_zero_le h3.1
  unfold Zis
  rw [ZG hs, Option.bind_some, ZG hm, Option.bind_some, hi, hj]
  have hil : i < m.Sectors.length := by omega
  have hrow := row_bd ok hil (j := j) (by omega)
  rw [ZG (JR hil []), Option.bind_some, Option.bind_some, Option.bind_some, Zbb (by simp; omega), Option.bind_some]
  rw [show i64 ((j : Int) * 97) = (j : Int) * 97 from Zo (by omega) (by omega), show i64 (16 + (j : Int) * 97) = ((16 + j * 97 : Nat) : Int) from (Zo (by omega) (by omega)).trans (by omega)]
  rw [ZnJ (by omega) (by rw [List.length_append]; simp only [List.length_cons, List.length_nil]; omega) hp, Option.bind_some, show i64 ((j : Int) + 1) = (j : Int) + 1 from Zo (by omega) (by omega)]
  simp only [Int.toNat_natCast]
  rfl
def ZdQ (m : api_Memory) (s : ring_spot) (data : List Int) (p : Int) : Int × Bool × api_Memory × ring_spot :=
  if ZaW m s = true then
    if (Zdx m s p).2.1 = true then Zis (Zdx m s p).2.2.1 (Zdx m s p).2.2.2 data (Zdx m s p).1 else ((Zdx m s p).1, false, (Zdx m s p).2.2.1, s)
  else Zis m s data p
end Go.Vx

namespace Go.Vx
open Go Go.RowKit
structure WP (m m' : api_Memory) (s' : ring_spot) (all : Bool) (f : Vector Int 64) : Prop where
  slots : m'.Slots = m.Slots
  n : m'.Sectors.length = m.Sectors.length
  ok : MemOK m'
  u8 : memR m'
  at_ : all = true → SpotOK m' s'
  kept : ∀ mi x, x ∈ keptM m' mi → x ∈ keptM m mi ∨ (all = true ∧ x.Frame = f)
theorem Zmr {n j : Nat} (h : 16 + j * 97 + 97 ≤ n) : slotL (List.replicate n (255 : Int)) j = List.replicate 97 255 := by
  unfold slotL
  rw [List.take_replicate, List.drop_replicate]
  congr 1; omega
theorem Znu {n k : Nat} (h : k < n) : (List.replicate n (255 : Int)).getD k 0 = 255 := by
  rw [List.getD_eq_getElem?_getD, List.getElem?_replicate, if_pos h]; rfl
theorem Zpn (n : Nat) : u8R (List.replicate n 255) := fun x hx => by rw [List.eq_of_mem_replicate hx]; omega
theorem ZnE {s : List Int} (h : u8R s) : u8R (Zek s) := fun x hx => by
  rcases List.mem_append.1 hx with q | q
  · rw [List.eq_of_mem_replicate q]; omega
  · exact h x (List.mem_of_mem_drop q)
theorem Zmx (s : List Int) : (Zek s).length = s.length := by unfold Zek; simp; omega
theorem Zly {s : List Int} (h : 2 ≤ s.length) : (XU (Zek s)).2.2 = false := by
  unfold XU
  split
  · rfl
  · simp only
    rw [if_neg]
    rintro ⟨_, _, e⟩
    have this : ((Zek s).take 10).getD 0 0 = (hdL (ZkE ((Zek s).getD 2 0) ((Zek s).getD 3 0) ((Zek s).getD 4 0) ((Zek s).getD 5 0))).getD 0 0 := by rw [e]
    rw [List.getD_eq_getElem?_getD, List.getElem?_take_of_lt (by omega)] at this
    have e2 : (Zek s)[0]? = some 255 := by
      unfold Zek
      rw [List.getElem?_append_left (by simp; omega), List.getElem?_replicate, if_pos (by omega)]
    rw [e2] at this
    simp [hdL] at this
theorem ZoT {m : api_Memory} (ok : MemOK m) {i : Nat} (hi : i < m.Sectors.length) (hx : ZgN m i = true) : (m.Wear.set i (m.Wear.getD i 0 + 1)).length = m.Wear.length ∧ ∀ x ∈ m.Wear.set i (m.Wear.getD i 0 + 1), 0 ≤ x ∧ x ≤ m.Limit := by
  refine ⟨List.length_set .., fun x hx' => ?_⟩
  unfold ZgN at hx
  rw [Bool.and_eq_true] at hx
  have h1 := of_decide_eq_true hx.2
  rcases List.mem_or_eq_of_mem_set hx' with q | rfl
  · exact ok.wr x q
  · have := ok.wr _ (ZbN (X := m.Wear) (t := i) (by have := ok.wear; omega)); omega
theorem ZpJ {m : api_Memory} {s : ring_spot} (ok : MemOK m) (hR : memR m) (hx : 0 ≤ Zat m s.sector) (p : Int) (f : Vector Int 64) :
    WP m (Zdx m s p).2.2.1 (Zdx m s p).2.2.2 (Zdx m s p).2.1 f ∧ (∀ mi x, x ∈ keptM (Zdx m s p).2.2.1 mi → x ∈ keptM m mi) ∧ ((Zdx m s p).2.1 = true → 0 ≤ (Zdx m s p).2.2.2.sector ∧ (Zdx m s p).2.2.2.slot = 0) := by
  have hn := ok.n
  obtain ⟨b1, b2⟩ := Zlq hx (by omega)
  obtain ⟨y, hy⟩ := Int.eq_ofNat_of_zero_le hx
  have hsl := ok.slots
  unfold Zdx
  rw [hy] at b1 b2 ⊢
  simp only [Int.toNat_natCast] at b2 ⊢
  have hyl : y < m.Sectors.length := by omega
  obtain ⟨w1, w2⟩ := ZoT ok hyl b2
  have hrow := ok.row _ (row_bd.getD_memL hyl)
  by_cases q : p = 0
  · rw [if_pos q]
    have hS : (Zek (m.Sectors.getD y [])).length = (m.Sectors.getD y []).length := Zmx _
    have hu := ZnE (ZfW hR y)
    obtain ⟨o', r'⟩ := ZiO ok hR hyl hS hu w1 w2
    have kk : ∀ mi x, x ∈ keptM (ZaC m y (Zek (m.Sectors.getD y [])) (m.Wear.set y (m.Wear.getD y 0 + 1))) mi → x ∈ keptM m mi := fun mi x hx' => by
      rcases Zh0 ok hR hyl hS hu w1 w2 hx' with w | ⟨w, _⟩
      · exact w
      · rw [Zly (by omega)] at w; cases w
    exact ⟨⟨rfl, by simp [ZaC], o', r', (fun h => by cases h), fun mi x hx' => .inl (kk mi x hx')⟩, kk, fun h => by cases h⟩
  · rw [if_neg q]
    have hout : ∀ k, 10 ≤ k → k < (m.Sectors.getD y []).length → (Zbi (List.replicate (m.Sectors.getD y []).length 255) 0 (hdL (Zft m (y : Int))) (p - 1)).2.2.getD k 0 = 255 := fun k h1 h2 => by
      rw [Zhk _ _ _ _ _ (.inr (by simp only [hdL, List.length_cons, List.length_nil]; omega)), Znu h2]
    have hlen := Zi5 (hdL (Zft m (y : Int))) (List.replicate (m.Sectors.getD y []).length 255) 0 (p - 1)
    have hu := ZkA (hdL (Zft m (y : Int))) (List.replicate (m.Sectors.getD y []).length 255) 0 (p - 1) (Zpn _)
    generalize Zbi (List.replicate (m.Sectors.getD y []).length 255) 0 (hdL (Zft m (y : Int))) (p - 1) = P at hout hlen hu
    rw [List.length_replicate] at hlen
    obtain ⟨o', r'⟩ := ZiO ok hR hyl hlen hu w1 w2
    have free : ∀ j : Nat, (j : Int) < m.Slots → slotL P.2.2 j = List.replicate 97 255 := fun j hj => by
      have hb : 16 + j * 97 + 97 ≤ (m.Sectors.getD y []).length := by omega
      rw [ZiY (t := List.replicate (m.Sectors.getD y []).length 255) (by rw [hlen, List.length_replicate]) (by omega) (fun k h1 h2 => by rw [hout k (by omega) (by omega), Znu (by omega)]), Zmr hb]
    have kk : ∀ mi x, x ∈ keptM (ZaC m y P.2.2 (m.Wear.set y (m.Wear.getD y 0 + 1))) mi → x ∈ keptM m mi := fun mi x hx' => by
      rcases Zh0 ok hR hyl hlen hu w1 w2 hx' with w | ⟨_, _, j, j1, j2, _⟩
      · exact w
      · rw [free j j1] at j2
        have : stV (List.replicate 97 255) = 0 := by decide
        rw [this] at j2; cases j2
    refine ⟨⟨rfl, by simp [ZaC], o', r', fun h => ?_, fun mi x hx' => .inl (kk mi x hx')⟩, kk, fun h => ?_⟩
    · rw [show P.2.1 = true from h, cond_true]
      refine ⟨.inr ⟨by simp only; omega, by simp only [ZaC, List.length_set]; omega⟩, ⟨Int.le_refl _, by simp only [ZaC]; omega⟩, fun _ j _ hj => ?_⟩
      simp only [Int.toNat_natCast]
      rw [show (ZaC m y P.2.2 (m.Wear.set y (m.Wear.getD y 0 + 1))).Sectors.getD y [] = P.2.2 from (Zh6 hyl).trans (by rw [if_pos rfl])]
      exact free j hj
    · rw [show P.2.1 = true from h, cond_true]; exact ⟨by simp only; omega, rfl⟩
theorem ZmN {d e : List Int} (hd : d.length = 96) {i : Nat} (hi : i < 64) : Zgv (d ++ e) i = Zgv d i := by
  have g : ∀ k, k < 96 → (d ++ e).getD k 0 = d.getD k 0 := fun k hk => by
    rw [List.getD_eq_getElem?_getD, List.getElem?_append_left (by omega), ← List.getD_eq_getElem?_getD]
  unfold Zgv
  rw [g _ (by omega), g _ (by omega), g _ (by omega)]
theorem Znj {b : Int} (h : 0 ≤ b ∧ b ≤ 255) : QD .u8 255 b = b := by
  have key : (List.range 256).all (fun n => decide (QD .u8 255 (n : Int) = (n : Int))) = true := by decide +kernel
  obtain ⟨n, rfl⟩ := Int.eq_ofNat_of_zero_le h.1
  exact of_decide_eq_true (List.all_eq_true.1 key n (List.mem_range.2 (by omega)))
theorem Znh {m : api_Memory} {s : ring_spot} (ok : MemOK m) (hR : memR m) (hs : SpotOK m s) (h1 : 0 ≤ s.sector) (h3 : s.slot < m.Slots) {data : List Int} (hd : data.length = 96) (hu : u8R data) (p : Int) :
    WP m (Zis m s data p).2.2.1 (Zis m s data p).2.2.2 (Zis m s data p).2.1 (Zli (Zgv data)) := by
  have hn := ok.n
  have hsl := ok.slots
  have h2 : s.sector < m.Sectors.length := by
    rcases hs.sec with w | w
    · omega
    · exact w.2
  have hfree := hs.free h1
  have hslot := hs.slot
  unfold Zis
  generalize hsec : s.sector = sec at *
  generalize hslt : s.slot = slt at *
  obtain ⟨i, rfl⟩ := Int.eq_ofNat_of_zero_le h1
  obtain ⟨j, rfl⟩ := Int.eq_ofNat_of_zero_le hslot.1
  simp only [Int.toNat_natCast] at hfree ⊢
  have hil : i < m.Sectors.length := by omega
  have hrow := ok.row _ (row_bd.getD_memL hil)
  have hfj := hfree j (Int.le_refl _) h3
  have hdl : (data ++ [(0 : Int)]).length = 97 := by rw [List.length_append, hd]; rfl
  have hlen := Zi5 (data ++ [0]) (m.Sectors.getD i []) (16 + j * 97) p
  have hpu := ZkA (data ++ [0]) (m.Sectors.getD i []) (16 + j * 97) p (ZfW hR i)
  have hout : ∀ k, k < 16 + j * 97 ∨ 16 + j * 97 + 97 ≤ k → (Zbi (m.Sectors.getD i []) (16 + j * 97) (data ++ [0]) p).2.2.getD k 0 = (m.Sectors.getD i []).getD k 0 := fun k hk => Zhk _ _ _ _ _ (by rw [hdl]; exact hk)
  have old : ∀ t, t < 97 → (m.Sectors.getD i []).getD (16 + j * 97 + t) 0 = 255 := fun t ht => by
    rw [← Zg5 (by omega) ht, hfj, Znu ht]
  have hin := Zl5 (data ++ [0]) (m.Sectors.getD i []) (16 + j * 97) p (by rw [hdl]; omega)
  have hlast := Zj3 data (m.Sectors.getD i []) 0 (16 + j * 97) p (by omega)
  rw [hd] at hlast
  generalize Zbi (m.Sectors.getD i []) (16 + j * 97) (data ++ [0]) p = P at hlen hpu hout hin hlast
  have hw : ∀ x ∈ m.Wear, 0 ≤ x ∧ x ≤ m.Limit := ok.wr
  obtain ⟨o', r'⟩ := ZiO ok hR hil hlen hpu rfl hw
  have oth : ∀ k : Nat, (k : Int) < m.Slots → k ≠ j → slotL P.2.2 k = slotL (m.Sectors.getD i []) k := fun k hk hkj => by
    refine ZiY hlen (by omega) fun z z1 z2 => hout z ?_
    rcases Nat.lt_or_ge k j with w | w
    · left; omega
    · right; omega
  have hhead := ZlE (s := P.2.2) (t := m.Sectors.getD i []) hlen (fun k hk => hout k (.inl (by omega)))
  refine ⟨rfl, by simp [ZaC], o', r', fun hall => ?_, fun mi x hx => ?_⟩
  · refine ⟨.inr ⟨by simp only; omega, by simp only [ZaC, List.length_set]; omega⟩, ⟨by simp only; omega, by simp only [ZaC]; omega⟩, fun _ k hk hks => ?_⟩
    simp only [Int.toNat_natCast] at hk ⊢
    rw [show (ZaC m i P.2.2 m.Wear).Sectors.getD i [] = P.2.2 from (Zh6 hil).trans (by rw [if_pos rfl])]
    have hks' : (k : Int) < m.Slots := hks
    rw [oth k hks' (by omega)]
    exact hfree k (by omega) hks'
  · rcases Zh0 ok hR hil hlen hpu rfl hw hx with w | ⟨w1, w2, k, k1, k2, rfl⟩
    · exact .inl w
    · by_cases e : k = j
      · subst e
        cases hall : P.2.1 with
        | true =>
          right
          refine ⟨rfl, ?_⟩
          have hS : slotL P.2.2 k = data ++ [0] := by
            refine Zf7 (by rw [ZeH (by omega), hdl]) fun t ht => ?_
            rw [ZeH (by omega)] at ht
            rw [Zg5 (by omega) ht, hin hall t (by omega), old t ht, Znj]
            rcases Nat.lt_or_ge t 96 with q | q
            · rw [List.getD_eq_getElem?_getD, List.getElem?_append_left (by omega), ← List.getD_eq_getElem?_getD]; exact Zgr hu t
            · obtain rfl : t = 96 := by omega
              rw [List.getD_eq_getElem?_getD, List.getElem?_append_right (by omega), hd]; simp
          have hF : frV P.2.2 k = Zli (Zgv data) := by
            unfold frV
            rw [hS]
            exact ZnS fun z hz => by rw [Zky _ hz, Zky _ hz, ZmN hd hz]
          simp only
          exact hF
        | false =>
          have h96 : (slotL P.2.2 k).getD 96 0 ≠ 0 := by
            rw [Zg5 (by omega) (by omega)]
            have o96 := old 96 (by omega)
            rcases hlast hall with q | q
            · rw [q, o96]; decide
            · rw [q, o96]; decide
          unfold stV at k2
          rw [if_neg h96] at k2
          split at k2 <;> simp at k2
      · left
        rw [oth k k1 e] at k2
        refine (ZhV hR ok).2 ⟨i, hil, ?_, k, k1, k2, ?_⟩
        · unfold okM
          rw [w2, ← hhead.2, w1]; rfl
        · have hF : frV P.2.2 k = frV (m.Sectors.getD i []) k := by unfold frV; rw [oth k k1 e]
          rw [hhead.1, hF]
theorem Zmq {α : Type} {l : List α} {k : Nat} {x : α} (h : l[k]? = some x) : l.set k x = l := by
  refine List.ext_getElem? fun j => ?_
  rw [List.getElem?_set]
  split
  · rename_i e
    subst e
    rw [if_pos (List.getElem?_eq_some_iff.1 h).1, h]
  · rfl
theorem Zm3 {m : api_Memory} {s : ring_spot} {p : Int} (hp : 0 ≤ p) : 0 ≤ (Zdx m s p).1 ∧ (Zdx m s p).1 ≤ p := by
  unfold Zdx
  simp only
  split
  · exact ⟨Int.le_refl _, by simp only; omega⟩
  · have := Zhe (hdL (Zft m (Zat m s.sector))) (List.replicate (m.Sectors.getD (Zat m s.sector).toNat []).length 255) 0 (p - 1) (by omega)
    exact ⟨this.1, by simp only; omega⟩
theorem Zog {r : ring_Recorder} {k : Nat} {m : api_Memory} {s : ring_spot} (hm : r.bank.memories[k]? = some m) (hs : r.bank.spots[k]? = some s) (hR : memR m) (ok : MemOK m) (hsp : SpotOK m s)
    (hl : ZaW m s = true → 0 ≤ Zat m s.sector ∧ Zft m (Zat m s.sector) ≤ 1073741824) {data : List Int} (hd : data.length = 96) (hu : u8R data) {p : Int} (hp : 0 ≤ p ∧ p ≤ 1000000000) :
    XY r (k : Int) data p = some ((ZdQ m s data p).1, (ZdQ m s data p).2.1, ⟨⟨r.bank.memories.set k (ZdQ m s data p).2.2.1, r.bank.spots.set k (ZdQ m s data p).2.2.2⟩, r.copies, r.frozen, r.stopped, r.last, r.some_⟩) ∧
    WP m (ZdQ m s data p).2.2.1 (ZdQ m s data p).2.2.2 (ZdQ m s data p).2.1 (Zli (Zgv data)) ∧ 0 ≤ (ZdQ m s data p).1 ∧ (ZdQ m s data p).1 ≤ p := by
  have hkl := (List.getElem?_eq_some_iff.1 hm).1
  have hks := (List.getElem?_eq_some_iff.1 hs).1
  have hsec : -1 ≤ s.sector ∧ s.sector < m.Sectors.length := by
    have := ok.n
    rcases hsp.sec with w | w <;> omega
  unfold XY ZdQ
  rw [ZkN hm hs, Option.bind_some]
  by_cases h : ZaW m s = true
  · obtain ⟨x1, x2⟩ := hl h
    obtain ⟨a1, a2, a3⟩ := ZpJ ok hR x1 p (Zli (Zgv data))
    have a4 := Zm3 (m := m) (s := s) hp.1
    rw [if_pos h, if_pos h, Zqi hm hs hR ok hsec.1 hsec.2 x1 x2 hp, Option.bind_some]
    generalize Zdx m s p = A at a1 a2 a3 a4
    cases hA : A.2.1 with
    | true =>
      obtain ⟨c1, c2⟩ := a3 hA
      have sp := a1.at_ hA
      simp only [Bool.not_true, Bool.false_eq_true, if_false, if_true, Option.bind_some, Sum.elim_inr, Znl, upd]
      have hsl := a1.ok.slots
      have c3 : A.2.2.2.sector < A.2.2.1.Sectors.length := by
        rcases sp.sec with w | w
        · omega
        · exact w.2
      have g1 : (r.bank.memories.set k A.2.2.1)[k]? = some A.2.2.1 := List.getElem?_set_self hkl
      have g2 : (r.bank.spots.set k A.2.2.2)[k]? = some A.2.2.2 := List.getElem?_set_self hks
      have pe := ZlY (r := r) (p := A.1) (data := data) g1 g2 a1.ok c1 c3 ⟨by omega, by omega⟩ hd (by omega)
      refine ⟨?_, ?_, ?_⟩
      · refine pe.trans ?_
        rw [List.set_set, List.set_set]
      · have wp := Znh a1.ok a1.u8 sp c1 (by omega) hd hu A.1
        exact ⟨wp.slots.trans a1.slots, wp.n.trans a1.n, wp.ok, wp.u8, wp.at_, fun mi x hx => by
          rcases wp.kept mi x hx with w | w
          · exact .inl (a2 mi x w)
          · exact .inr w⟩
      · have := Zhe (data ++ [0]) (A.2.2.1.Sectors.getD A.2.2.2.sector.toNat []) (16 + A.2.2.2.slot.toNat * 97) A.1 a4.1
        unfold Zis
        exact ⟨this.1, by simp only; omega⟩
    | false =>
      simp only [Bool.not_false, if_true, Bool.false_eq_true, if_false, Option.bind_some, Sum.elim_inl, upd]
      refine ⟨by rw [Zmq hs], ⟨a1.slots, a1.n, a1.ok, a1.u8, (fun w => by cases w), fun mi x hx => .inl (a2 mi x hx)⟩, a4⟩
  · rw [if_neg h, if_neg h]
    simp only [Option.bind_some, Sum.elim_inr, Znl]
    have hh : ¬ s.sector < 0 ∧ ¬ s.slot = m.Slots := by
      unfold ZaW at h
      rw [Bool.or_eq_true, decide_eq_true_eq, decide_eq_true_eq] at h
      exact ⟨fun w => h (.inl w), fun w => h (.inr w)⟩
    have hb := hsp.slot
    refine ⟨ZlY hm hs ok (by omega) hsec.2 ⟨hb.1, by omega⟩ hd hp, Znh ok hR hsp (by omega) (by omega) hd hu p, ?_⟩
    have := Zhe (data ++ [0]) (m.Sectors.getD s.sector.toNat []) (16 + s.slot.toNat * 97) p hp.1
    exact this
end Go.Vx

namespace Go.Vx
open Go Go.RowKit
def rbV (v : Vector Int 96) (t : Nat) : Int := v.toList.getD t 0
theorem ZiP (v : Vector Int 96) {k : Nat} (hk : k < 96) (x : Int) (t : Nat) : rbV (JQ v (k : Int) x) t = if t = k then x else rbV v t := by
  unfold rbV
  rw [Zj4, Int.toNat_natCast, List.getD_eq_getElem?_getD, List.getElem?_set, List.getD_eq_getElem?_getD]
  by_cases h : t = k
  · subst h; rw [if_pos rfl, if_pos (by simpa using hk), if_pos rfl]; rfl
  · rw [if_neg (fun q => h q.symm), if_neg h]
theorem Zjl (v : Vector Int 96) {k : Nat} (hk : k < 96) : ZP v (k : Int) = some (rbV v k) := Zkq (by unfold rbV; exact JR (by simpa using hk) 0)
def bS (f : Vector Int 64) (i t : Nat) : Int :=
  if t % 3 = 0 then (if 2 * (t / 3) < i then wd f (2 * (t / 3)) / 16 else 0) else
  if t % 3 = 1 then (if 2 * (t / 3) < i then wd f (2 * (t / 3)) % 16 * 16 else 0) + (if 2 * (t / 3) + 1 < i then wd f (2 * (t / 3) + 1) / 256 else 0) else
  (if 2 * (t / 3) + 1 < i then wd f (2 * (t / 3) + 1) % 256 else 0)
theorem Zps : (List.range 4096).all (fun n => decide (QD .u16 (n : Int) 15 = ((n % 16 : Nat) : Int))) = true := by decide +kernel
theorem sb1 {w : Int} (h : 0 ≤ w ∧ w ≤ 4095) : QD .u16 w 15 = w % 16 := by
  obtain ⟨x, rfl⟩ := Int.eq_ofNat_of_zero_le h.1
  exact (of_decide_eq_true (List.all_eq_true.1 Zps x (List.mem_range.2 (by omega)))).trans (by omega)
theorem Zo6 : (List.range 256).all (fun n => decide (bor .u8 (n : Int) (QD .u8 0 15) = (n : Int)) && decide (bor .u8 (QD .u8 ((n / 16 * 16 : Nat) : Int) 240) ((n % 16 : Nat) : Int) = (n : Int))) = true := by decide +kernel
theorem sb2 {x : Int} (h : 0 ≤ x ∧ x ≤ 255) : bor .u8 x (QD .u8 0 15) = x := by
  obtain ⟨x, rfl⟩ := Int.eq_ofNat_of_zero_le h.1
  have := List.all_eq_true.1 Zo6 x (List.mem_range.2 (by omega))
  rw [Bool.and_eq_true] at this
  exact of_decide_eq_true this.1
theorem sb3 {a b : Int} (ha : 0 ≤ a ∧ a ≤ 15) (hb : 0 ≤ b ∧ b ≤ 15) : bor .u8 (QD .u8 (a * 16) 240) b = a * 16 + b := by
  obtain ⟨a, rfl⟩ := Int.eq_ofNat_of_zero_le ha.1
  obtain ⟨b, rfl⟩ := Int.eq_ofNat_of_zero_le hb.1
  have h := List.all_eq_true.1 Zo6 (a * 16 + b) (List.mem_range.2 (by omega))
  rw [Bool.and_eq_true] at h
  have h := of_decide_eq_true h.2
  rw [show (a * 16 + b) / 16 * 16 = a * 16 by omega, show (a * 16 + b) % 16 = b by omega, show ((a * 16 : Nat) : Int) = (a : Int) * 16 by omega, show ((a * 16 + b : Nat) : Int) = (a : Int) * 16 + b by omega] at h
  exact h
theorem bS0 (f : Vector Int 64) (i k : Nat) : bS f i (3 * k) = if 2 * k < i then wd f (2 * k) / 16 else 0 := by
  unfold bS
  rw [if_pos (by omega), show 3 * k / 3 = k by omega]
theorem bS1 (f : Vector Int 64) (i k : Nat) : bS f i (3 * k + 1) = (if 2 * k < i then wd f (2 * k) % 16 * 16 else 0) + (if 2 * k + 1 < i then wd f (2 * k + 1) / 256 else 0) := by
  unfold bS
  rw [if_neg (by omega), if_pos (by omega), show (3 * k + 1) / 3 = k by omega]
theorem bS2 (f : Vector Int 64) (i k : Nat) : bS f i (3 * k + 2) = if 2 * k + 1 < i then wd f (2 * k + 1) % 256 else 0 := by
  unfold bS
  rw [if_neg (by omega), if_neg (by omega), show (3 * k + 2) / 3 = k by omega]
theorem three (t : Nat) : ∃ k, t = 3 * k ∨ t = 3 * k + 1 ∨ t = 3 * k + 2 := ⟨t / 3, by omega⟩
theorem ZmH {f : Vector Int 64} (hf : fN f) {v : Vector Int 96} {i : Nat} (hi : i < 64) (hI : ∀ t, t < 96 → rbV v t = bS f i t) :
    ∃ v', X4 v (i : Int) (wd f i) = some v' ∧ ∀ t, t < 96 → rbV v' t = bS f (i + 1) t := by
  have hw := hf i
  unfold X4
  rw [Zqh (by omega), Option.bind_some, Zq1, Option.bind_some]
  obtain ⟨k, hk⟩ : ∃ k, i = 2 * k ∨ i = 2 * k + 1 := ⟨i / 2, by omega⟩
  have ek : i / 2 = k := by omega
  rw [ek]
  have e1 : i64 ((k : Int) * 3) = ((3 * k : Nat) : Int) := (Zo (by omega) (by omega)).trans (by omega)
  have e2 : i64 (((3 * k : Nat) : Int) + 1) = ((3 * k + 1 : Nat) : Int) := (Zo (by omega) (by omega)).trans (by omega)
  have e3 : i64 (((3 * k : Nat) : Int) + 2) = ((3 * k + 2 : Nat) : Int) := (Zo (by omega) (by omega)).trans (by omega)
  rw [e1, e2, e3]
  have k0 : 3 * k < 96 := by omega
  have k1 : 3 * k + 1 < 96 := by omega
  have k2 : 3 * k + 2 < 96 := by omega
  rcases hk with rfl | rfl
  · have s1 : shr .u16 (wd f (2 * k)) 4 = some (wd f (2 * k) / 16) := ZkB (wd f (2 * k)) (k := 4) (by omega)
    have s2 : shl .u16 (wd f (2 * k) % 16) 4 = some (wd f (2 * k) % 16 * 16) := by
      unfold shl
      rw [if_neg (by decide)]
      show some (IntKind.u16.wrap (wd f (2 * k) % 16 * 2 ^ 4)) = _
      rw [show IntKind.u16.wrap (wd f (2 * k) % 16 * 2 ^ 4) = (wd f (2 * k) % 16 * 2 ^ 4) % 65536 from rfl]
      congr 1; omega
    have o1' : rbV v (3 * k + 1) = 0 := by
      rw [hI _ k1, bS1, if_neg (by omega), if_neg (by omega)]; rfl
    rw [if_pos (by simp), s1, Option.bind_some, Zjl v k1, Option.bind_some, Zjl v k0, Option.bind_some, sb1 hw, s2, Option.bind_some]
    have u1 : u8 (wd f (2 * k) / 16) = wd f (2 * k) / 16 := by rw [u8m]; omega
    have u2 : u8 (wd f (2 * k) % 16 * 16) = wd f (2 * k) % 16 * 16 := by rw [u8m]; omega
    rw [u1, u2, Zjl (JQ v ((3 * k : Nat) : Int) (wd f (2 * k) / 16)) k1, Option.bind_some, o1', sb2 (by omega)]
    refine ⟨_, rfl, fun t ht => ?_⟩
    rw [ZiP _ k1, ZiP v k0 _ t]
    obtain ⟨q, rfl | rfl | rfl⟩ := three t
    · rw [if_neg (by omega), bS0]
      by_cases e : q = k
      · subst e; rw [if_pos rfl, if_pos (by omega)]
      · rw [if_neg (by omega), hI _ ht, bS0]
        have c : (2 * q < 2 * k) ↔ (2 * q < 2 * k + 1) := by omega
        simp only [c]
    · rw [bS1]
      by_cases e : q = k
      · subst e; rw [if_pos rfl, if_pos (by omega), if_neg (by omega), Int.add_zero]
      · rw [if_neg (by omega), if_neg (by omega), hI _ ht, bS1]
        have c : (2 * q < 2 * k) ↔ (2 * q < 2 * k + 1) := by omega
        have c' : (2 * q + 1 < 2 * k) ↔ (2 * q + 1 < 2 * k + 1) := by omega
        simp only [c, c']
    · rw [if_neg (by omega), if_neg (by omega), hI _ ht, bS2, bS2]
      have c' : (2 * q + 1 < 2 * k) ↔ (2 * q + 1 < 2 * k + 1) := by omega
      simp only [c']
  · have s1 : shr .u16 (wd f (2 * k + 1)) 8 = some (wd f (2 * k + 1) / 256) := ZkB (wd f (2 * k + 1)) (k := 8) (by omega)
    have hp := hf (2 * k)
    have o1' : rbV v (3 * k + 1) = wd f (2 * k) % 16 * 16 := by
      rw [hI _ k1, bS1, if_pos (by omega), if_neg (by omega), Int.add_zero]
    have u1 : u8 (wd f (2 * k + 1) / 256) = wd f (2 * k + 1) / 256 := by rw [u8m]; omega
    rw [if_neg (by rw [decide_eq_true_eq]; omega), Zjl v k1, Option.bind_some, s1, Option.bind_some, Option.bind_some, Zjl _ k2, Option.bind_some, o1', u1, sb3 (by omega) (by omega), show u8 (wd f (2 * k + 1)) = wd f (2 * k + 1) % 256 from u8m _]
    refine ⟨_, rfl, fun t ht => ?_⟩
    rw [ZiP _ k2, ZiP v k1 _ t]
    obtain ⟨q, rfl | rfl | rfl⟩ := three t
    · rw [if_neg (by omega), if_neg (by omega), hI _ ht, bS0, bS0]
      have c : (2 * q < 2 * k + 1) ↔ (2 * q < 2 * k + 1 + 1) := by omega
      simp only [c]
    · rw [if_neg (by omega), bS1]
      by_cases e : q = k
      · subst e; rw [if_pos rfl, if_pos (by omega), if_pos (by omega)]
      · rw [if_neg (by omega), hI _ ht, bS1]
        have c : (2 * q < 2 * k + 1) ↔ (2 * q < 2 * k + 1 + 1) := by omega
        have c' : (2 * q + 1 < 2 * k + 1) ↔ (2 * q + 1 < 2 * k + 1 + 1) := by omega
        simp only [c, c']
    · rw [bS2]
      by_cases e : q = k
      · subst e; rw [if_pos rfl, if_pos (by omega)]
      · rw [if_neg (by omega), if_neg (by omega), hI _ ht, bS2]
        have c' : (2 * q + 1 < 2 * k + 1) ↔ (2 * q + 1 < 2 * k + 1 + 1) := by omega
        simp only [c']
def Zaf (f : Vector Int 64) : List Int := (List.range 96).map fun t => bS f 64 t
theorem ZfH (f : Vector Int 64) {t : Nat} (h : t < 96) : (Zaf f).getD t 0 = bS f 64 t := by
  unfold Zaf
  rw [List.getD_eq_getElem?_getD, List.getElem?_map, List.getElem?_range h]; rfl
theorem Zfe (f : Vector Int 64) : (Zaf f).length = 96 := by simp [Zaf]
theorem Zql {f : Vector Int 64} (hf : fN f) (t : Nat) : 0 ≤ bS f 64 t ∧ bS f 64 t ≤ 255 := by
  have h1 := hf (2 * (t / 3))
  have h2 := hf (2 * (t / 3) + 1)
  unfold bS
  split
  · split <;> omega
  · split
    · split <;> split <;> omega
    · split <;> omega
theorem Zmu {f : Vector Int 64} (hf : fN f) : u8R (Zaf f) := fun x hx => by
  obtain ⟨t, ht, rfl⟩ := List.mem_map.1 hx
  exact Zql hf t
theorem Zlk {f : Vector Int 64} (hf : fN f) : Zli (Zgv (Zaf f)) = f := by
  refine ZnS fun i hi => ?_
  rw [Zky _ hi]
  show _ = wd f i
  unfold Zgv
  obtain ⟨k, hk⟩ : ∃ k, i = 2 * k ∨ i = 2 * k + 1 := ⟨i / 2, by omega⟩
  have ek : i / 2 = k := by omega
  rw [ek]
  have h1 := hf (2 * k)
  have h2 := hf (2 * k + 1)
  rcases hk with rfl | rfl
  · rw [if_pos (by omega), ZfH f (by omega), ZfH f (by omega), bS0, bS1, if_pos (by omega), if_pos (by omega), if_pos (by omega)]
    omega
  · rw [if_neg (by omega), ZfH f (by omega), ZfH f (by omega), bS1, bS2, if_pos (by omega), if_pos (by omega), if_pos (by omega)]
    omega
theorem ZmA {f : Vector Int 64} (hf : fN f) : JK f = some (Zaf f, 0) := by
  unfold JK
  have hnb : Zbk f = true := List.all_eq_true.2 fun k _ => by unfold XD; exact decide_eq_true (hf k).2
  rw [ZpA, hnb, Option.bind_some, if_neg (by decide)]
  unfold Zcw
  obtain ⟨v, v1, v2⟩ := ZcV (body := JI f) (s0 := Vector.replicate 96 (0 : Int)) (N := 64) (fun i v => ∀ t, t < 96 → rbV v t = bS f i t) (fun v => ∀ t, t < 96 → rbV v t = bS f 64 t) (fun i v hi hI => .inl (by
    obtain ⟨v', w1, w2⟩ := ZmH hf hi hI
    refine ⟨v', ?_, w2⟩
    unfold JI
    rw [if_pos (by simp; omega), Js f hi, Option.bind_some, w1, Option.bind_some, show i64 ((i : Int) + 1) = (i : Int) + 1 from Zo (by omega) (by omega)])) (fun v hI => ⟨v, by unfold JI; rw [if_neg (by decide)], hI⟩) (fun t ht => by
    have : rbV (Vector.replicate 96 (0 : Int)) t = 0 := by
      have e : (Vector.replicate 96 (0 : Int)).toList = List.replicate 96 0 := rfl
      unfold rbV
      rw [e, List.getD_eq_getElem?_getD, List.getElem?_replicate, if_pos ht]; rfl
    rw [this]
    unfold bS
    split
    · rw [if_neg (by omega)]
    · split
      · rw [if_neg (by omega), if_neg (by omega)]; rfl
      · rw [if_neg (by omega)])
  rw [v1, Option.bind_some]
  have hv : v.toList = Zaf f := Zf7 (by rw [Zfe]; simp) fun t ht => by
    have ht' : t < 96 := by simpa using ht
    rw [ZfH f ht']; exact v2 t ht'
  rw [hv, show slc (Zaf f) 0 96 = some (Zaf f) from (ZgR (a := 0) (b := 96) (by omega) (by rw [Zfe]; omega)).trans (by rw [List.take_of_length_le (by rw [Zfe]; omega), List.drop_zero]), Option.bind_some]
end Go.Vx

namespace Go.Vx
open Go Go.RowKit
structure BankJ (mems : List api_Memory) (spots : List ring_spot) : Prop where
  n : 1 ≤ mems.length ∧ mems.length ≤ 8
  ok : ∀ m ∈ mems, MemOK m
  u8 : ∀ m ∈ mems, memR m
  len : spots.length = mems.length
def BankA (mems : List api_Memory) (spots : List ring_spot) : Prop := ∀ k, k < mems.length → SpotOK (mems.getD k dfM) (spots.getD k dfS)
structure RecJ (r : ring_Recorder) : Prop where
  b : BankJ r.bank.memories r.bank.spots
  a : r.stopped = false → BankA r.bank.memories r.bank.spots
  cp : 1 ≤ r.copies ∧ r.copies ≤ r.bank.memories.length
theorem Zpe {l : List api_Memory} {k : Nat} (h : k < l.length) : l[k]? = some (l.getD k dfM) := (Zmk h).2
theorem Znz {l : List ring_spot} {k : Nat} (h : k < l.length) : l[k]? = some (l.getD k dfS) := by
  rw [List.getD_eq_getElem?_getD, List.getElem?_eq_getElem h]; rfl
theorem ZeC {α : Type} {l : List α} {i k : Nat} {x d : α} (hi : i < l.length) : (l.set i x).getD k d = if k = i then x else l.getD k d := by
  rw [List.getD_eq_getElem?_getD, List.getElem?_set]
  by_cases e : i = k
  · subst e; rw [if_pos rfl, if_pos hi, if_pos rfl]; rfl
  · rw [if_neg e, if_neg (fun q => e q.symm), List.getD_eq_getElem?_getD]
theorem ZhX {l : List api_Memory} {x : api_Kept} : x ∈ Zgg l ↔ ∃ k : Nat, k < l.length ∧ x ∈ keptM (l.getD k dfM) (k : Int) := by
  unfold Zgg
  rw [List.mem_flatMap]
  exact ⟨fun ⟨k, a, b⟩ => ⟨k, List.mem_range.1 a, b⟩, fun ⟨k, a, b⟩ => ⟨k, List.mem_range.2 a, b⟩⟩
theorem ZnD {l : List api_Memory} {k : Nat} {m' : api_Memory} (hk : k < l.length) {P : api_Kept → Prop} (h : ∀ x, x ∈ keptM m' (k : Int) → x ∈ keptM (l.getD k dfM) (k : Int) ∨ P x) {x : api_Kept} (hx : x ∈ Zgg (l.set k m')) : x ∈ Zgg l ∨ P x := by
  obtain ⟨z, z1, z2⟩ := ZhX.1 hx
  rw [List.length_set] at z1
  rw [ZeC hk] at z2
  by_cases e : z = k
  · subst e
    rw [if_pos rfl] at z2
    rcases h x z2 with w | w
    · exact .inl (ZhX.2 ⟨z, z1, w⟩)
    · exact .inr w
  · rw [if_neg e] at z2
    exact .inl (ZhX.2 ⟨z, z1, z2⟩)
theorem BankJ.set {mems : List api_Memory} {spots : List ring_spot} (h : BankJ mems spots) {k : Nat} {m' : api_Memory} (ok : MemOK m') (u : memR m') {spots' : List ring_spot} (hl : spots'.length = spots.length) : BankJ (mems.set k m') spots' := by
  refine ⟨by rw [List.length_set]; exact h.n, fun m hm => ?_, fun m hm => ?_, by rw [List.length_set, hl]; exact h.len⟩
  · rcases List.mem_or_eq_of_mem_set hm with q | rfl
    · exact h.ok m q
    · exact ok
  · rcases List.mem_or_eq_of_mem_set hm with q | rfl
    · exact h.u8 m q
    · exact u
theorem Zqf {f : Vector Int 64} (hf : fU f) (h : ZhJ f = true) : fN f ∧ X8 f = some (ZkS f) ∧ 0 ≤ (ZkS f).1 ∧ (ZkS f).1 ≤ 4194303 := by
  unfold ZhJ at h
  rw [Bool.and_eq_true] at h
  have hn : fN f := fun i => by
    refine ⟨(hf i).1, ?_⟩
    by_cases hi : i < 64
    · exact ZhF h.1 i hi
    · have : wd f i = 0 := by
        unfold wd
        rw [List.getD_eq_getElem?_getD, List.getElem?_eq_none (by simp; omega)]; rfl
      omega
  refine ⟨hn, (Zm0 hf (hn 1).2 (hn 2).2).1, ?_⟩
  have := Zkn f
  unfold ZkS
  split
  · simp only; omega
  · simp
def tgV (a c n : Nat) : List Int := (List.range c).map fun k => (((a + k) % n : Nat) : Int)
theorem ZmO {a c n : Nat} (h1 : a ≤ 4194303) (h2 : 1 ≤ n ∧ n ≤ 8) (h3 : 1 ≤ c ∧ c ≤ n) : Zaj (a : Int) (n : Int) (c : Int) = some (tgV a c n) := by
  unfold Zaj
  rw [Zq9 (number := (a : Int)) (memories := (n : Int)) (copies := (c : Int)) ⟨by omega, by omega⟩ ⟨by omega, by omega⟩ ⟨by omega, by omega⟩]
  rfl
theorem Zlz {a c n k : Nat} (h : k < c) : (tgV a c n)[k]? = some (((a + k) % n : Nat) : Int) := by
  unfold tgV
  rw [List.getElem?_map, List.getElem?_range h]; rfl
theorem Zp4 {a n i j : Nat} (hi : i < n) (hj : j < n) (h : (a + i) % n = (a + j) % n) : i = j := by
  rcases Nat.lt_trichotomy i j with w | w | w
  · have := Nat.sub_mod_eq_zero_of_mod_eq h.symm
    rw [show a + j - (a + i) = j - i by omega, Nat.mod_eq_of_lt (by omega)] at this
    omega
  · exact w
  · have := Nat.sub_mod_eq_zero_of_mod_eq h
    rw [show a + i - (a + j) = i - j by omega, Nat.mod_eq_of_lt (by omega)] at this
    omega
def Zkv (m : api_Memory) (s : ring_spot) : Prop := ZaW m s = true → 0 ≤ Zat m s.sector ∧ Zft m (Zat m s.sector) ≤ 1073741824
theorem Zoi {m : api_Memory} {s : ring_spot} (ok : MemOK m) (h : SpotOK m s) : -1 ≤ s.sector ∧ s.sector < m.Sectors.length := by
  have := ok.n
  rcases h.sec with w | w <;> omega
theorem ZoH {b : ring_bank} (hJ : BankJ b.memories b.spots) (hA : BankA b.memories b.spots) {c n : Nat} (a : Nat) (hn : n = b.memories.length) (hc : c ≤ n) :
    ∃ e, X5 b (tgV a c n) = some e ∧ (e = 0 ↔ ∀ i, i < c → Zkv (b.memories.getD ((a + i) % n) dfM) (b.spots.getD ((a + i) % n) dfS)) := by
  have hb := hJ.n
  have hlen : (tgV a c n).length = c := by simp [tgV]
  have at_ : ∀ i, i < c → ((a + i) % n) < b.memories.length := fun i hi => by rw [← hn]; exact Nat.mod_lt _ (by omega)
  have w : ∀ i, i < c → QK b (((a + i) % n : Nat) : Int) = some (ZaW (b.memories.getD ((a + i) % n) dfM) (b.spots.getD ((a + i) % n) dfS)) ∧
      Q7 b (((a + i) % n : Nat) : Int) = some (Zat (b.memories.getD ((a + i) % n) dfM) (b.spots.getD ((a + i) % n) dfS).sector) ∧
      ∀ z, QE b (((a + i) % n : Nat) : Int) z = some (Zft (b.memories.getD ((a + i) % n) dfM) z) := fun i hi => by
    have h1 := Zpe (at_ i hi)
    have h2 := Znz (l := b.spots) (k := (a + i) % n) (by rw [hJ.len]; exact at_ i hi)
    have hm := (Zmk (at_ i hi)).1
    have sp := Zoi (hJ.ok _ hm) (hA _ (at_ i hi))
    exact ⟨ZkN h1 h2, Zn1 h1 h2 (hJ.ok _ hm) sp.1 sp.2, fun z => Zpa h1 (hJ.u8 _ hm) (hJ.ok _ hm) z⟩
  unfold X5
  obtain ⟨r1, e1, q1⟩ := Zf4 (body := Q9 b (tgV a c n)) (N := c) (fun k => ∀ i, i < k → ZaW (b.memories.getD ((a + i) % n) dfM) (b.spots.getD ((a + i) % n) dfS) = true → 0 ≤ Zat (b.memories.getD ((a + i) % n) dfM) (b.spots.getD ((a + i) % n) dfS).sector)
    (fun r => (∃ e, r = .inl e ∧ e ≠ 0 ∧ ∃ i, i < c ∧ ZaW (b.memories.getD ((a + i) % n) dfM) (b.spots.getD ((a + i) % n) dfS) = true ∧ Zat (b.memories.getD ((a + i) % n) dfM) (b.spots.getD ((a + i) % n) dfS).sector < 0) ∨ (r = .inr () ∧ ∀ i, i < c → ZaW (b.memories.getD ((a + i) % n) dfM) (b.spots.getD ((a + i) % n) dfS) = true → 0 ≤ Zat (b.memories.getD ((a + i) % n) dfM) (b.spots.getD ((a + i) % n) dfS).sector)) (fun k hk hI => by
      obtain ⟨w1, w2, w3⟩ := w k hk
      unfold Q9
      rw [if_pos (by rw [hlen]; simpa using hk), ZG (Zlz hk), Option.bind_some, w1, Option.bind_some, w2, show i64 ((k : Int) + 1) = (k : Int) + 1 from Zo (by omega) (by omega)]
      cases hL : ZaW (b.memories.getD ((a + k) % n) dfM) (b.spots.getD ((a + k) % n) dfS) with
      | false =>
        left
        refine ⟨by simp [gd], fun i hi hLi => ?_⟩
        by_cases e : i = k
        · subst e; rw [hL] at hLi; cases hLi
        · exact hI i (by omega) hLi
      | true =>
        simp only [gd, beq_self_eq_true, if_true, Option.bind_some, Bool.true_and]
        by_cases q : Zat (b.memories.getD ((a + k) % n) dfM) (b.spots.getD ((a + k) % n) dfS).sector < 0
        · right
          exact ⟨_, by rw [if_pos (decide_eq_true q)], .inl ⟨4, rfl, by decide, k, hk, hL, q⟩⟩
        · left
          refine ⟨by rw [if_neg (by rw [decide_eq_true_eq]; exact q)], fun i hi hLi => ?_⟩
          by_cases e : i = k
          · subst e; omega
          · exact hI i (by omega) hLi) (fun hI => ⟨.inr (), by unfold Q9; rw [hlen, if_neg (by simp)], .inr ⟨rfl, hI⟩⟩) (fun i hi => absurd hi (Nat.not_lt_zero _))
  rw [e1]
  rcases q1 with ⟨e, rfl, he, i, i1, i2, i3⟩ | ⟨rfl, q1⟩
  · refine ⟨e, rfl, fun q => absurd q he, fun h => ?_⟩
    have := (h i i1 i2).1
    omega
  · simp only [Option.bind_some, Sum.elim_inr, ZoY]
    obtain ⟨r2, e2, q2⟩ := Zf4 (body := Xa b (tgV a c n)) (N := c) (fun k => ∀ i, i < k → Zkv (b.memories.getD ((a + i) % n) dfM) (b.spots.getD ((a + i) % n) dfS))
      (fun r => (∃ e, r = .inl e ∧ e ≠ 0 ∧ ∃ i, i < c ∧ ¬ Zkv (b.memories.getD ((a + i) % n) dfM) (b.spots.getD ((a + i) % n) dfS)) ∨ (r = .inr () ∧ ∀ i, i < c → Zkv (b.memories.getD ((a + i) % n) dfM) (b.spots.getD ((a + i) % n) dfS))) (fun k hk hI => by
        obtain ⟨w1, w2, w3⟩ := w k hk
        unfold Xa
        rw [if_pos (by rw [hlen]; simpa using hk), ZG (Zlz hk), Option.bind_some, w1, Option.bind_some, w2, show i64 ((k : Int) + 1) = (k : Int) + 1 from Zo (by omega) (by omega)]
        cases hL : ZaW (b.memories.getD ((a + k) % n) dfM) (b.spots.getD ((a + k) % n) dfS) with
        | false =>
          left
          refine ⟨by simp [gd], fun i hi hLi => ?_⟩
          by_cases e : i = k
          · subst e; rw [hL] at hLi; cases hLi
          · exact hI i (by omega) hLi
        | true =>
          simp only [gd, beq_self_eq_true, if_true, Option.bind_some, Bool.true_and]
          rw [w3, Option.bind_some]
          by_cases q : 1073741824 < Zft (b.memories.getD ((a + k) % n) dfM) (Zat (b.memories.getD ((a + k) % n) dfM) (b.spots.getD ((a + k) % n) dfS).sector)
          · right
            exact ⟨_, by rw [if_pos (decide_eq_true q)], .inl ⟨3, rfl, by decide, k, hk, fun h => by have := (h hL).2; omega⟩⟩
          · left
            refine ⟨by rw [if_neg (by rw [decide_eq_true_eq]; exact q)], fun i hi hLi => ?_⟩
            by_cases e : i = k
            · subst e; exact ⟨q1 i hk hL, by omega⟩
            · exact hI i (by omega) hLi) (fun hI => ⟨.inr (), by unfold Xa; rw [hlen, if_neg (by simp)], .inr ⟨rfl, hI⟩⟩) (fun i hi => absurd hi (Nat.not_lt_zero _))
    rw [e2]
    rcases q2 with ⟨e, rfl, he, i, i1, i2⟩ | ⟨rfl, q2⟩
    · exact ⟨e, rfl, fun q => absurd q he, fun h => absurd (h i i1) i2⟩
    · exact ⟨0, rfl, fun _ => q2, fun _ => rfl⟩
theorem ZpS (r : ring_Recorder) (p : Int) : ∃ e, Xb r p = some e ∧ (e = 0 ↔ r.stopped = false ∧ r.frozen = false ∧ 0 ≤ p ∧ p ≤ 1000000000) := by
  unfold Xb
  rw [ZdN]
  cases h1 : r.stopped with
  | true => exact ⟨15, by simp, by simp⟩
  | false =>
    cases h2 : r.frozen with
    | true => exact ⟨11, by simp, by simp⟩
    | false =>
      by_cases h : 0 ≤ p ∧ p ≤ 1000000000
      · exact ⟨0, by simp [h.1, h.2], by simp [h.1, h.2]⟩
      · have hf : (decide (0 ≤ p) && decide (p ≤ 1000000000)) = false := by simpa using h
        refine ⟨9, by simp [hf], ?_⟩
        constructor
        · intro q; cases q
        · rintro ⟨_, _, q⟩; exact absurd q h
end Go.Vx

namespace Go.Vx
open Go Go.RowKit
theorem Zn3 {r : ring_Recorder} (hJ : RecJ r) {f : Vector Int 64} (hf : fU f) (p : Int) :
    ∃ left all e r', Qv r f p = some (left, all, e, r') ∧ RecJ r' ∧ r'.bank.memories.length = r.bank.memories.length ∧ r'.copies = r.copies ∧
      ∀ x ∈ Zgg r'.bank.memories, x ∈ Zgg r.bank.memories ∨ (ZhJ f = true ∧ x.Frame = f) := by
  obtain ⟨e, e1, e2⟩ := ZpS r p
  unfold Qv
  rw [e1, Option.bind_some]
  have same : ∀ x ∈ Zgg r.bank.memories, x ∈ Zgg r.bank.memories ∨ (ZhJ f = true ∧ x.Frame = f) := fun x hx => .inl hx
  by_cases h0 : e = 0
  · rw [if_neg (by simp [h0]), Zob hf, Option.bind_some]
    have hfl := ZmZ hf
    by_cases hs : ZhJ f = false
    · rw [if_pos (by rw [decide_eq_true_eq]; have := hfl.2 hs; omega)]
      exact ⟨_, _, _, r, rfl, hJ, rfl, rfl, same⟩
    · have hs' : ZhJ f = true := by simpa using hs
      rw [if_neg (by rw [decide_eq_true_eq]; intro q; exact hs (hfl.1 (by omega)))]
      obtain ⟨fn, fq, fb1, fb2⟩ := Zqf hf hs'
      obtain ⟨st, fz, hp⟩ := e2.1 h0
      have hA := hJ.a st
      have hn := hJ.b.n
      have hcp := hJ.cp
      obtain ⟨a, ha⟩ := Int.eq_ofNat_of_zero_le fb1
      obtain ⟨c, hc⟩ := Int.eq_ofNat_of_zero_le (show 0 ≤ r.copies by omega)
      obtain ⟨q, q1, q2⟩ := ZoH (b := r.bank) hJ.b hA (c := c) a rfl (by omega)
      rw [fq, Option.bind_some, ha, hc, ZmO (by omega) hn (by omega), Option.bind_some, q1, Option.bind_some]
      by_cases hq : q = 0
      · have hr := q2.1 hq
        rw [if_neg (by simp [hq]), ZmA fn, Option.bind_some]
        have hlen : (tgV a c r.bank.memories.length).length = c := by simp [tgV]
        have at_ : ∀ i, i < c → ((a + i) % r.bank.memories.length) < r.bank.memories.length := fun i hi => Nat.mod_lt _ (by omega)
        -- round by round
        obtain ⟨z, z1, z2⟩ := ZeP (body := t9 (Z6 (tgV a c r.bank.memories.length) (Zaf f, 0))) (fun s => ∃ (mems : List api_Memory) (spots : List ring_spot) (pw : Int) (k : Nat), s = (mems, spots, r.copies, r.frozen, r.stopped, r.last, r.some_, pw, (k : Int)) ∧ k ≤ c ∧ (0 ≤ pw ∧ pw ≤ 1000000000) ∧
            mems.length = r.bank.memories.length ∧ BankJ mems spots ∧ BankA mems spots ∧ (∀ i, k ≤ i → i < c → mems.getD ((a + i) % r.bank.memories.length) dfM = r.bank.memories.getD ((a + i) % r.bank.memories.length) dfM ∧ spots.getD ((a + i) % r.bank.memories.length) dfS = r.bank.spots.getD ((a + i) % r.bank.memories.length) dfS) ∧
            ∀ x ∈ Zgg mems, x ∈ Zgg r.bank.memories ∨ (ZhJ f = true ∧ x.Frame = f)) (fun s => c - s.2.2.2.2.2.2.2.2.toNat)
          (fun z => (∃ left all e r', z = .inl (left, all, e, r') ∧ RecJ r' ∧ r'.bank.memories.length = r.bank.memories.length ∧ r'.copies = r.copies ∧ ∀ x ∈ Zgg r'.bank.memories, x ∈ Zgg r.bank.memories ∨ (ZhJ f = true ∧ x.Frame = f)) ∨
            (∃ mems spots pw, z = .inr (mems, spots, r.copies, r.frozen, r.stopped, r.last, r.some_, pw) ∧ mems.length = r.bank.memories.length ∧ BankJ mems spots ∧ BankA mems spots ∧ ∀ x ∈ Zgg mems, x ∈ Zgg r.bank.memories ∨ (ZhJ f = true ∧ x.Frame = f))) (by
            rintro s ⟨mems, spots, pw, k, rfl, hk, hpw, hl, bJ, bA, un, kp⟩
            show (∃ s', Z6 (tgV a c r.bank.memories.length) (Zaf f, 0) mems spots r.copies r.frozen r.stopped r.last r.some_ pw (k : Int) = some (.inl s') ∧ _) ∨ ∃ z, Z6 (tgV a c r.bank.memories.length) (Zaf f, 0) mems spots r.copies r.frozen r.stopped r.last r.some_ pw (k : Int) = some (.inr z) ∧ _
            unfold Z6
            rcases Nat.lt_or_ge k c with hkc | hkc
            · have hlt := at_ k hkc
              have ht : ((a + k) % r.bank.memories.length) < mems.length := by rw [hl]; exact hlt
              have g1 := Zpe ht
              have g2 := Znz (l := spots) (k := (a + k) % r.bank.memories.length) (by rw [bJ.len]; exact ht)
              obtain ⟨u1, u2⟩ := un k (Nat.le_refl _) hkc
              have hm := (Zmk ht).1
              have hrd := hr k hkc
              rw [← u1, ← u2] at hrd
              obtain ⟨w1, w2, w3, w4⟩ := Zog (r := ⟨⟨mems, spots⟩, r.copies, r.frozen, r.stopped, r.last, r.some_⟩) g1 g2 (bJ.u8 _ hm) (bJ.ok _ hm) (bA _ ht) hrd (Zfe f) (Zmu fn) hpw
              rw [if_pos (by rw [hlen]; simpa using hkc), ZG (Zlz hkc), Option.bind_some,
                show slc (Zaf f) 0 ((Zaf f).length : Int) = some (Zaf f) from (ZgR (a := 0) (b := (Zaf f).length) (by omega) (Nat.le_refl _)).trans (by rw [List.take_length, List.drop_zero]), Option.bind_some, w1, Option.bind_some, show i64 ((k : Int) + 1) = (k : Int) + 1 from Zo (by omega) (by omega)]
              generalize ZdQ (mems.getD ((a + k) % r.bank.memories.length) dfM) (spots.getD ((a + k) % r.bank.memories.length) dfS) (Zaf f) pw = A at w2 w3 w4
              have nJ : BankJ (mems.set ((a + k) % r.bank.memories.length) A.2.2.1) (spots.set ((a + k) % r.bank.memories.length) A.2.2.2) := bJ.set w2.ok w2.u8 (List.length_set ..)
              have nk : ∀ x ∈ Zgg (mems.set ((a + k) % r.bank.memories.length) A.2.2.1), x ∈ Zgg r.bank.memories ∨ (ZhJ f = true ∧ x.Frame = f) := fun x hx => by
                rcases ZnD ht (P := fun x => x.Frame = f) (fun y hy => by
                  rcases w2.kept _ y hy with v | ⟨_, v⟩
                  · exact .inl v
                  · right; rw [v, Zlk fn]) hx with v | v
                · exact kp x v
                · exact .inr ⟨hs', v⟩
              cases hall : A.2.1 with
              | false =>
                right
                refine ⟨.inl (A.1, false, 0, ⟨⟨mems.set ((a + k) % r.bank.memories.length) A.2.2.1, spots.set ((a + k) % r.bank.memories.length) A.2.2.2⟩, r.copies, r.frozen, true, r.last, r.some_⟩), by simp only [Bool.not_false, if_true], .inl ⟨A.1, false, 0, ⟨⟨mems.set ((a + k) % r.bank.memories.length) A.2.2.1, spots.set ((a + k) % r.bank.memories.length) A.2.2.2⟩, r.copies, r.frozen, true, r.last, r.some_⟩, rfl, ⟨nJ, fun q => by simp at q, ?_⟩, by simp only [List.length_set]; exact hl, rfl, nk⟩⟩
                simp only [List.length_set]; rw [hl]; exact hJ.cp
              | true =>
                left
                have sp := w2.at_ hall
                refine ⟨(mems.set ((a + k) % r.bank.memories.length) A.2.2.1, spots.set ((a + k) % r.bank.memories.length) A.2.2.2, r.copies, r.frozen, r.stopped, r.last, r.some_, A.1, (k : Int) + 1), by simp only [Bool.not_true, Bool.false_eq_true, if_false], ⟨_, _, A.1, k + 1, rfl, hkc, by omega, by rw [List.length_set]; exact hl, nJ, fun j hj => ?_, fun i hi hic => ?_, nk⟩, by simp only; omega⟩
                · rw [List.length_set] at hj
                  rw [ZeC ht, ZeC (by rw [bJ.len]; exact ht)]
                  by_cases e' : j = (a + k) % r.bank.memories.length
                  · rw [if_pos e', if_pos e']; exact sp
                  · rw [if_neg e', if_neg e']; exact bA j hj
                · have hne : (a + i) % r.bank.memories.length ≠ (a + k) % r.bank.memories.length := fun q => by
                    have := Zp4 (a := a) (n := r.bank.memories.length) (by omega) (by omega) q
                    omega
                  rw [ZeC ht, ZeC (by rw [bJ.len]; exact ht), if_neg hne, if_neg hne]
                  exact un i (by omega) hic
            · have : k = c := by omega
              subst this
              right
              exact ⟨_, by rw [if_neg (by rw [hlen]; simp)], .inr ⟨mems, spots, pw, rfl, hl, bJ, bA, kp⟩⟩) (r.bank.memories, r.bank.spots, r.copies, r.frozen, r.stopped, r.last, r.some_, p, 0) ⟨_, _, p, 0, rfl, Nat.zero_le _, hp, rfl, hJ.b, hA, fun i _ _ => ⟨rfl, rfl⟩, same⟩
        have hloop : loop (t9 (Z6 (tgV a c r.bank.memories.length) (Zaf f, 0))) (r.bank.memories, r.bank.spots, (c : Int), r.frozen, r.stopped, r.last, r.some_, p, 0) = some z := by rw [← hc]; exact z1
        rw [hloop, Option.bind_some]
        rcases z2 with ⟨left, all, e', r', rfl, k1, k2, k3, k4⟩ | ⟨mems, spots, pw, rfl, k1, k2, k3, k4⟩
        · exact ⟨left, all, e', r', rfl, k1, k2, k3.trans hc, k4⟩
        · simp only [Sum.elim_inr, Znl]
          refine ⟨_, _, _, _, rfl, ⟨k2, fun _ => k3, ?_⟩, k1, hc, k4⟩
          simp only; rw [k1]; exact hJ.cp
      · rw [if_pos (by simp [hq])]
        exact ⟨_, _, _, r, rfl, hJ, rfl, hc, same⟩
  · rw [if_pos (by simp [h0])]
    exact ⟨_, _, _, r, rfl, hJ, rfl, rfl, same⟩
end Go.Vx

namespace Go.Vx
open Go Go.RowKit
structure memSz (m : api_Memory) : Prop where
  n : m.Sectors.length * 24 ≤ 140737488355328
  s : ∀ s ∈ m.Sectors, s.length * 1 ≤ 140737488355328
  w : m.Wear.length * 8 ≤ 140737488355328
  b : m.Bad.length * 1 ≤ 140737488355328
theorem ZoU {m : api_Memory} (h : memSz m) : ZeJ m = some m := by
  have hn := h.n
  unfold ZeJ
  obtain ⟨r, h1, h2⟩ := ZcV (body := ZbW m) (s0 := []) (N := m.Sectors.length) (fun k acc => acc = m.Sectors.take k) (fun r => r = m.Sectors) (fun k acc hk hI => .inl (by
      subst hI
      have hd := JR (s := m.Sectors) hk []
      have hl := h.s _ (List.mem_of_getElem? hd)
      refine ⟨m.Sectors.take k ++ [m.Sectors.getD k []], ?_, ?_⟩
      · unfold ZbW
        rw [if_pos (by simpa using hk), ZG hd, Option.bind_some, show apz 1 ([] : List Int) (m.Sectors.getD k []) = some (m.Sectors.getD k []) from (Zbb (by rw [List.length_nil]; omega)).trans (by simp), Option.bind_some]
        rw [show apz 24 (m.Sectors.take k) [m.Sectors.getD k []] = some (m.Sectors.take k ++ [m.Sectors.getD k []]) from Zbb (by rw [List.length_take, List.length_singleton]; omega)]
        simp only [Option.bind_some, XL]
        rw [show i64 ((k : Int) + 1) = (k : Int) + 1 from Zo (by omega) (by omega)]
      · rw [List.take_succ, hd]; rfl)) (fun acc hI => ⟨acc, by unfold ZbW; rw [if_neg (by simp)], by rw [hI, List.take_length]⟩) rfl
  subst h2
  rw [h1]
  simp only [Option.bind_some, XL]
  have hw := h.w
  have hb := h.b
  rw [show apz 8 ([] : List Int) m.Wear = some m.Wear from (Zbb (by rw [List.length_nil]; omega)).trans (by simp), Option.bind_some, show apz 1 ([] : List Bool) m.Bad = some m.Bad from (Zbb (by rw [List.length_nil]; omega)).trans (by simp), Option.bind_some]
theorem eqM {a : List api_Memory} (ha : a.length ≤ 9223372036854775807) (hs : ∀ m ∈ a, memSz m) : Zr a a (fun z0 z1 => Xt z0 z1) = some true := by
  unfold Zr
  rw [if_neg (by simp)]
  obtain ⟨r, h1, h2⟩ := Zf4 (body := Zv a a (fun z0 z1 => Xt z0 z1)) (N := a.length) (fun _ => True) (fun r => r = .inr ()) (fun k hk _ => by
    obtain ⟨x, hx⟩ := Za6 hk
    have sz := hs x (List.mem_of_getElem? hx)
    have s1 := sz.n
    have s2 := sz.w
    have s3 := sz.b
    left
    unfold Zv
    simp only [show decide ((k : Int) < (a.length : Int)) = true from decide_eq_true (by omega), if_true, ZG hx, Option.bind_some, ZpX x (by omega) (by omega) (by omega)]
    rw [show i64 ((k : Int) + 1) = (k : Int) + 1 from Zo (by omega) (by omega)]
    simp) (fun _ => ⟨.inr (), by unfold Zv; rw [if_neg (by simp)], rfl⟩) trivial
  rw [h1, h2]; rfl
theorem ZmM (l : List api_Memory) (copies : Int) (deeds : List law3_Deed) (hl : wfL ZcU l) (hd : wfL Ze5 deeds) (z0 : l.length * 88 ≤ 140737488355328) (zn : ∀ m ∈ l, memSz m) : Xp l copies deeds = some true := by
  have hR : ∀ m ∈ l, memR m := fun m hm => Zok (hl.2 m hm)
  have hD : ∀ d ∈ deeds, fU d.Frame := fun d hd' => ZqL (hd.2 d hd').2.1
  have hdl := hd.1
  unfold Xp
  obtain ⟨o, o1, o2⟩ := ZcV (body := Qw l) (s0 := []) (N := l.length) (fun k acc => acc = l.take k) (fun r => r = l) (fun k acc hk hI => .inl (by
      obtain ⟨m, hm⟩ := Za6 hk
      subst hI
      refine ⟨l.take k ++ [m], ?_, by rw [List.take_succ, hm]; rfl⟩
      unfold Qw
      rw [if_pos (by simpa using hk), ZG hm, Option.bind_some, ZoU (zn m (List.mem_of_getElem? hm)), Option.bind_some, Zbb (by rw [List.length_take, List.length_singleton]; omega), Option.bind_some, show i64 ((k : Int) + 1) = (k : Int) + 1 from Zo (by omega) (by omega)])) (fun acc hI => ⟨acc, by unfold Qw; rw [if_neg (by simp)], by rw [hI, List.take_length]⟩) rfl
  rw [o1, o2]
  simp only [Option.bind_some, XL]
  obtain ⟨c, c1, d2⟩ := ZoP hR copies
  rcases d2 with ⟨e, he, hM⟩ | ⟨hc, spots, frozen, hM, hI⟩
  · rw [hM, Option.bind_some]
    simp only [Sum.elim_inl]
    rw [if_pos (by simp [he]), ZnH]; rfl
  · rw [hM, Option.bind_some]
    simp only [Sum.elim_inr]
    rw [if_neg (by simp)]
    have hJ : RecJ ⟨⟨l, spots⟩, copies, frozen, false, 0, false⟩ := ⟨⟨hI.bank.n, hI.bank.ok, hI.bank.u8, hI.bank.len⟩, fun _ => hI.bank.at_, hI.cp⟩
    unfold Qb
    rw [Zka hJ.b.n.2 hJ.b.ok]
    simp only [Option.bind_some]
    obtain ⟨z, z1, z2⟩ := ZeP (body := t8 (Qh deeds)) (fun s => ∃ (r : ring_Recorder) (k : Nat), s = (r.bank.memories, r.bank.spots, r.copies, r.frozen, r.stopped, r.last, r.some_, (k : Int)) ∧ k ≤ deeds.length ∧ RecJ r) (fun s => deeds.length - s.2.2.2.2.2.2.2.toNat)
      (fun _ => True) (by
        rintro s ⟨r, k, rfl, hk, rJ⟩
        show (∃ s', Qh deeds r.bank.memories r.bank.spots r.copies r.frozen r.stopped r.last r.some_ (k : Int) = some (.inl s') ∧ _) ∨ ∃ z, Qh deeds r.bank.memories r.bank.spots r.copies r.frozen r.stopped r.last r.some_ (k : Int) = some (.inr z) ∧ _
        unfold Qh
        rcases Nat.lt_or_ge k deeds.length with h | h
        · left
          obtain ⟨d, hdk⟩ := Za6 h
          have er : ring_Recorder.mk (ring_bank.mk r.bank.memories r.bank.spots) r.copies r.frozen r.stopped r.last r.some_ = r := rfl
          have ek : i64 ((k : Int) + 1) = (k : Int) + 1 := Zo (by omega) (by omega)
          obtain ⟨a1, a2, a3, r', f1, f2, _⟩ := Zn3 rJ (hD d (List.mem_of_getElem? hdk)) d.Power
          rw [if_pos (by simpa using h), ZG hdk, Option.bind_some, ek, er, f1, Option.bind_some]
          exact ⟨_, rfl, ⟨r', k + 1, rfl, h, f2⟩, by simp only; omega⟩
        · have : k = deeds.length := by omega
          subst this
          right
          exact ⟨_, by rw [if_neg (by simp)], trivial⟩) (l, spots, copies, frozen, false, 0, false, 0) ⟨⟨⟨l, spots⟩, copies, frozen, false, 0, false⟩, 0, rfl, Nat.zero_le _, hJ⟩
    rw [z1, Option.bind_some]
    rw [eqM (by omega) zn]
    simp only [Option.bind_some, gd, beq_self_eq_true, if_true, Bool.and_self]
    rw [ZnH]; rfl
end Go.Vx
