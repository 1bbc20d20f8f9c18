/- A text of the proof: a verified executor of the program form, or the contracts of the functions that the law reaches. -/
import Derived.Test.YtnlmjeleocelgaaGreatDoorPA
set_option linter.all false
namespace Go.Vx
open Go Go.RowKit
def Zdp (s : List Int) : Option Nat := if 16 < s.length ∧ (s.length - 16) % 97 = 0 then some ((s.length - 16) / 97) else none
theorem Zh8 {s : List Int} (hl : s.length ≤ 140737488355328) : ∃ y, JP s = some y ∧ (match Zdp s with | some n => y = ((n : Int), true) | none => y.2 = false) := by
  unfold JP
  rw [show i64 ((s.length : Int) - 16) = (s.length : Int) - 16 from ZY (by omega) (by omega)]
  unfold quo rem
  rw [if_neg (by decide), Option.bind_some, if_neg (by decide)]
  by_cases h : 97 ≤ (s.length : Int) - 16
  · obtain ⟨m, hm⟩ : ∃ m : Nat, s.length = m + 16 := ⟨s.length - 16, by omega⟩
    have e1 : ((s.length : Int) - 16) = (m : Int) := by omega
    have e3 : Int.tdiv (m : Int) 97 = ((m / 97 : Nat) : Int) := rfl
    have e4 : Int.tmod (m : Int) 97 = ((m % 97 : Nat) : Int) := rfl
    have e5 : IntKind.i64.wrap (Int.tdiv (m : Int) 97) = ((m / 97 : Nat) : Int) := by rw [e3]; exact ZY (by omega) (by omega)
    refine ⟨_, by rw [decide_eq_true h]; simp only [gd, beq_self_eq_true, if_true, Option.bind_some]; rfl, ?_⟩
    rw [e1, e5, e4]
    unfold Zdp
    have e6 : s.length - 16 = m := by omega
    rw [e6]
    by_cases hz : m % 97 = 0
    · rw [if_pos ⟨by omega, hz⟩]; simp [hz]
    · rw [if_neg (fun q => hz q.2)]
      simp only [Bool.true_and]
      simpa using fun q => hz (by omega)
  · refine ⟨_, by rw [decide_eq_false h]; simp only [gd, Bool.false_eq_true, beq_iff_eq, if_false, Option.bind_some]; rfl, ?_⟩
    unfold Zdp
    rw [if_neg (fun q => h (by omega))]
    simp
theorem ZjM {s : List Int} (hl : s.length ≤ 140737488355328) : Zbp s = some (match Zdp s with | some n => (n : Int) | none => -1) := by
  unfold Zbp
  rw [show i64 ((s.length : Int) - 16) = (s.length : Int) - 16 from ZY (by omega) (by omega)]
  unfold quo rem
  rw [if_neg (show ¬ (97 : Int) = 0 by decide), if_neg (show ¬ (97 : Int) = 0 by decide)]
  by_cases h : (s.length : Int) - 16 ≤ 0
  · rw [decide_eq_true h]
    simp only [gd, Bool.true_eq_false, beq_iff_eq, if_false, Option.bind_some, Bool.true_or, if_true]
    unfold Zdp
    rw [if_neg (fun q => by omega)]
  · obtain ⟨m, hm⟩ : ∃ m : Nat, s.length = m + 16 := ⟨s.length - 16, by omega⟩
    have e1 : ((s.length : Int) - 16) = (m : Int) := by omega
    have e3 : Int.tdiv (m : Int) 97 = ((m / 97 : Nat) : Int) := rfl
    have e4 : Int.tmod (m : Int) 97 = ((m % 97 : Nat) : Int) := rfl
    have e5 : IntKind.i64.wrap (Int.tdiv (m : Int) 97) = ((m / 97 : Nat) : Int) := by rw [e3]; exact ZY (by omega) (by omega)
    rw [decide_eq_false h]
    simp only [gd, beq_self_eq_true, if_true, Option.bind_some, Bool.false_or]
    rw [e1, e5, e4]
    unfold Zdp
    have e6 : s.length - 16 = m := by omega
    rw [e6]
    by_cases hz : m % 97 = 0
    · rw [if_neg (by simp [hz]), if_pos ⟨by omega, hz⟩]
    · rw [if_pos (by simpa using fun q => hz (by omega)), if_neg (fun q => hz q.2)]
def ZcQ (s : List Int) (i : Nat) : List Int := (s.take (16 + i * 97 + 97)).drop (16 + i * 97)
theorem Zgw {s : List Int} {i : Nat} (h : 16 + i * 97 + 97 ≤ s.length) : (ZcQ s i).length = 97 := by unfold ZcQ; simp; omega
theorem ZkU {s : List Int} (h : u8R s) (i : Nat) : u8R (ZcQ s i) := fun x hx => h x (List.mem_of_mem_take (List.mem_of_mem_drop hx))
theorem Zi6 {s : List Int} {i : Nat} (hl : s.length ≤ 140737488355328) (h : 16 + i * 97 + 97 ≤ s.length) : ∃ v, Q8 s (i : Int) = some v ∧ v.toList = ZcQ s i := by
  unfold Q8
  have e1 : i64 ((i : Int) * 97) = (i : Int) * 97 := ZY (by omega) (by omega)
  have e2 : i64 (16 + (i : Int) * 97) = ((16 + i * 97 : Nat) : Int) := (ZY (by omega) (by omega)).trans (by omega)
  have e3 : i64 (((16 + i * 97 : Nat) : Int) + 97) = ((16 + i * 97 + 97 : Nat) : Int) := (ZY (by omega) (by omega)).trans (by omega)
  rw [e1, e2, e3, Zer (by omega) h, Option.bind_some]
  obtain ⟨v, hv, hvl⟩ := Zjs (m := 97) (xs := (s.take (16 + i * 97 + 97)).drop (16 + i * 97)) (by simp; omega)
  rw [hv]
  refine ⟨v, rfl, ?_⟩
  rw [hvl, List.take_of_length_le (by rw [List.length_drop, List.length_take]; omega)]; unfold ZcQ; rfl
theorem ZkM {s : List Int} {i : Nat} (hl : s.length ≤ 140737488355328) (h : 16 + i * 97 + 97 ≤ s.length) : Zcv s (i : Int) = some (ZcQ s i) := by
  unfold Zcv
  have e1 : i64 ((i : Int) * 97) = (i : Int) * 97 := ZY (by omega) (by omega)
  have e2 : i64 (16 + (i : Int) * 97) = ((16 + i * 97 : Nat) : Int) := (ZY (by omega) (by omega)).trans (by omega)
  have e4 : i64 ((i : Int) + 1) = (i : Int) + 1 := ZY (by omega) (by omega)
  have e5 : i64 (((i : Int) + 1) * 97) = ((i : Int) + 1) * 97 := ZY (by omega) (by omega)
  have e3 : i64 (16 + ((i : Int) + 1) * 97) = ((16 + i * 97 + 97 : Nat) : Int) := (ZY (by omega) (by omega)).trans (by omega)
  rw [e1, e2, e4, e5, e3, Zer (by omega) h]; rfl
def stV (l : List Int) : Int := if l.getD 96 0 = 0 then 1 else if l.any (fun x => !decide (x = 255)) then 2 else 0
theorem Zld {l : List Int} (hl : l.length ≤ 9223372036854775806) : ZJ l (fun z0 => QT z0) = some (l.any fun x => !decide (x = 255)) := by
  have key : loop (t1 (ZI l (fun z0 => QT z0))) 0 = some (match l.findIdx? (fun x => !decide (x = 255)) with | some k => .inl (k : Int) | none => .inr ()) := by
    refine (Zhn (xs := l) (fun k => (match (l.drop k).findIdx? (fun x => !decide (x = 255)) with | some j => (.inl ((j + k : Nat) : Int) : Int ⊕ Unit) | none => .inr ())) (fun k x hx => ?_) ?_).trans (by simp)
    · have hk := (List.getElem?_eq_some_iff.1 hx).1
      unfold ZI QT
      rw [if_pos (by simpa using hk), ZdU hx]
      simp only [Option.bind_some]
      rw [show i64 ((k : Int) + 1) = (k : Int) + 1 from ZY (by omega) (by omega), Zdt hx, List.findIdx?_cons]
      by_cases e : x = 255
      · left
        subst e
        refine ⟨by simp, ?_⟩
        simp only [decide_true, Bool.not_true, Bool.false_eq_true, if_false]
        cases (l.drop (k + 1)).findIdx? (fun x => !decide (x = 255)) with
        | none => rfl
        | some j => simp only [Option.map_some]; congr 2; omega
      · right
        simp [e]
    · unfold ZI
      rw [if_neg (by simp)]
      simp
  unfold ZJ ZV
  rw [key]
  cases hf : l.findIdx? (fun x => !decide (x = 255)) with
  | none =>
    rw [List.findIdx?_eq_none_iff] at hf
    simp only [Option.bind_some, Sum.elim_inr, ZmJ]
    congr 1
    symm
    rw [show decide ((0 : Int) ≤ -1) = false from rfl]
    rw [List.any_eq_false]
    intro x hx
    simpa using hf x hx
  | some k =>
    simp only [Option.bind_some, Sum.elim_inl]
    congr 1
    rw [decide_eq_true (by omega)]
    symm
    rw [List.any_eq_true]
    obtain ⟨hk, h1, _⟩ := List.findIdx?_eq_some_iff_getElem.1 hf
    exact ⟨l[k], List.getElem_mem hk, h1⟩
theorem Zkj {v : Vector Int 97} {l : List Int} (hv : v.toList = l) (hl : l.length = 97) : Q5 v = some (stV l) := by
  unfold Q5
  rw [show ZH v 96 = some (l.getD 96 0) from Zg5 (k := 96) (by rw [hv]; exact Zf0 (by omega) 0), Option.bind_some]
  unfold stV
  by_cases h : l.getD 96 0 = 0
  · rw [if_pos (by simpa using h), if_pos h]
  · rw [if_neg (by simpa using h), if_neg h]
    rw [hv, show slc l 0 (97 : Int) = some l from (Zer (a := 0) (b := 97) (by omega) (by omega)).trans (by rw [List.take_of_length_le (by omega)]; rfl), Option.bind_some, Zld (by omega), Option.bind_some]
    cases l.any (fun x => !decide (x = 255)) <;> simp
theorem ZlR {s : List Int} {i : Nat} (hl : s.length ≤ 140737488355328) (h : 16 + i * 97 + 97 ≤ s.length) : ZcM s (i : Int) = some (stV (ZcQ s i)) := by
  unfold ZcM
  have h97 := Zgw h
  rw [ZkM hl h, Option.bind_some]
  generalize ZcQ s i = l at h97
  rw [show idx l 96 = some (l.getD 96 0) from ZdU (k := 96) (Zf0 (by omega) 0), Option.bind_some]
  unfold stV
  by_cases h : l.getD 96 0 = 0
  · rw [if_pos (by simpa using h), if_pos h]
  · rw [if_neg (by simpa using h), if_neg h]
    have key := Zkl (xs := l) (fun x => if x = 255 then (none : Option Unit) else some ()) (fun _ => (Sum.inl 2 : Int ⊕ Unit)) (Sum.inr ()) (body := Zag l) (fun k x hx => by
      have hlt := Zk6 hx
      simp only [Zag, hlt, decide_true, if_true, ZdU hx, Option.bind_some]
      rw [show i64 ((k : Int) + 1) = (k : Int) + 1 from ZY (by omega) (by omega)]
      by_cases e : x = 255 <;> simp [e]) (by simp [Zag])
    rw [key]
    have fa : ∀ m : List Int, (ZgA (fun x => if x = 255 then (none : Option Unit) else some ()) m).isSome = m.any (fun x => !decide (x = 255)) := by
      intro m
      induction m with
      | nil => rfl
      | cons x m ih =>
        unfold ZgA
        by_cases e : x = 255
        · simp [e, ih]
        · simp [e]
    have := fa l
    cases hfl : ZgA (fun x => if x = 255 then (none : Option Unit) else some ()) l with
    | none =>
      rw [hfl] at this
      rw [← this]; rfl
    | some u =>
      rw [hfl] at this
      rw [← this]; rfl
theorem Zg9 {s : List Int} {n i : Nat} (h : Zdp s = some n) (hi : i < n) : 16 + i * 97 + 97 ≤ s.length := by
  unfold Zdp at h
  split at h
  · cases h
    have : (i + 1) * 97 ≤ (s.length - 16) / 97 * 97 := Nat.mul_le_mul_right _ hi
    have := Nat.div_mul_le_self (s.length - 16) 97
    omega
  · cases h
theorem ZiW {s : List Int} {n : Nat} (h : Zdp s = some n) : 0 < n ∧ 16 + n * 97 = s.length := by
  unfold Zdp at h
  split at h
  · cases h; omega
  · cases h
def Zg4 (s : List Int) (n : Nat) : List Int := (List.range n).map fun i => stV (ZcQ s i)
theorem Zkq {s : List Int} (hl : s.length ≤ 140737488355328) : ∃ r, ZbQ s = some r ∧ ZbS s = some r ∧ r.1.length ≤ 9223372036854775807 := by
  obtain ⟨y, h1, h2⟩ := Zh8 hl
  unfold ZbQ ZbS
  rw [h1, ZjM hl]
  cases hn : Zdp s with
  | none =>
    rw [hn] at h2
    simp only at h2
    refine ⟨([], 3), ?_, by simp, by simp⟩
    simp [h2]
  | some n =>
    rw [hn] at h2
    simp only at h2
    subst h2
    have hb := ZiW hn
    refine ⟨(Zg4 s n, 0), ?_, ?_, by simp [Zg4]; omega⟩
    · simp only [Option.bind_some, Bool.not_true, Bool.false_eq_true, if_false]
      rw [show loop (t2 (Jv s ((n : Int), true))) ([], 0) = some (Zg4 s n) from Zi9 (fun i => stV (ZcQ s i)) (fun k acc hk ha => ?_) (fun acc => ?_)]
      · rfl
      · unfold Jv
        have hs := Zg9 hn hk
        obtain ⟨v, hv, hvl⟩ := Zi6 hl hs
        rw [if_pos (by simpa using hk), hv, Option.bind_some, Zkj hvl (Zgw hs), Option.bind_some, Zhp (by simp; omega), Option.bind_some, show i64 ((k : Int) + 1) = (k : Int) + 1 from ZY (by omega) (by omega)]
      · unfold Jv
        rw [if_neg (by simp)]
    · simp only [Option.bind_some]
      rw [if_neg (by simp)]
      rw [show loop (t2 (Jw s (n : Int))) ([], 0) = some (Zg4 s n) from Zi9 (fun i => stV (ZcQ s i)) (fun k acc hk ha => ?_) (fun acc => ?_)]
      · rfl
      · unfold Jw
        have hs := Zg9 hn hk
        rw [if_pos (by simpa using hk), ZlR hl hs, Option.bind_some, Zhp (by simp; omega), Option.bind_some, show i64 ((k : Int) + 1) = (k : Int) + 1 from ZY (by omega) (by omega)]
      · unfold Jw
        rw [if_neg (by simp)]
end Go.Vx

namespace Go.Vx
open Go Go.RowKit
def rd (f : Vector Int 64) (i : Nat) : Int := f.toList.getD i 0
theorem Zga (f : Vector Int 64) {k : Nat} (hk : k < 64) (x : Int) (i : Nat) : rd (Q2 f (k : Int) x) i = if i = k then x else rd f i := by
  unfold rd
  rw [Zdq, Int.toNat_natCast, List.getD_eq_getElem?_getD, List.getElem?_set, List.getD_eq_getElem?_getD]
  by_cases h : i = k
  · subst h; rw [if_pos rfl, if_pos (by simpa using hk), if_pos rfl]; rfl
  · rw [if_neg (fun q => h q.symm), if_neg h]
theorem ZlS (f : Vector Int 64) {k : Nat} (hk : k < 64) : ZH f (k : Int) = some (rd f k) := Zg5 (by unfold rd; exact Zf0 (by simpa using hk) 0)
theorem ZkH {f g : Vector Int 64} (h : ∀ i, i < 64 → rd f i = rd g i) : f = g := by
  apply Vector.toList_inj.1
  apply List.ext_getElem (by simp)
  intro i h1 h2
  have := h i (by simpa using h1)
  unfold rd at this
  rw [List.getD_eq_getElem?_getD, List.getD_eq_getElem?_getD, List.getElem?_eq_getElem h1, List.getElem?_eq_getElem h2] at this
  exact this
def Zgi (g : Nat → Int) : Vector Int 64 := Vector.ofFn fun j : Fin 64 => g j.val
theorem Ziw (g : Nat → Int) {i : Nat} (hi : i < 64) : rd (Zgi g) i = g i := by
  unfold rd Zgi
  rw [List.getD_eq_getElem?_getD, List.getElem?_eq_getElem (by simpa using hi)]
  simp
theorem Zkz {body : Vector Int 64 → Int → Option ((Vector Int 64 × Int) ⊕ Vector Int 64)} (g : Nat → Int) {v0 : Vector Int 64} (h0 : ∀ i, i < 64 → rd v0 i = 0)
    (hstep : ∀ v (k : Nat), k < 64 → rd v k = 0 → body v k = some (.inl (Q2 v k (g k), (k : Int) + 1))) (hend : ∀ v, body v (64 : Nat) = some (.inr v)) : loop (t2 body) (v0, 0) = some (Zgi g) := by
  refine Zip (body := t2 body) (fun p => ∃ k : Nat, p.2 = k ∧ k ≤ 64 ∧ ∀ i, i < 64 → rd p.1 i = if i < k then g i else 0) (fun p => 64 - p.2.toNat) (fun _ => Zgi g) ?_ (v0, 0) ⟨0, rfl, by omega, fun i hi => by rw [if_neg (by omega)]; exact h0 i hi⟩
  rintro ⟨v, z⟩ ⟨k, hz, hk, hI⟩
  simp only at hz hI
  subst hz
  simp only [Zes]
  rcases Nat.lt_or_ge k 64 with h | h
  · left
    refine ⟨_, hstep v k h (by rw [hI k h, if_neg (by omega)]), ⟨k + 1, by push_cast; rfl, h, fun i hi => ?_⟩, by simp only; omega, trivial⟩
    simp only
    rw [Zga v h, hI i hi]
    by_cases e : i = k
    · subst e; rw [if_pos rfl, if_pos (by omega)]
    · rw [if_neg e]
      by_cases e2 : i < k
      · rw [if_pos e2, if_pos (by omega)]
      · rw [if_neg e2, if_neg (by omega)]
  · right
    have : k = 64 := by omega
    subst this
    rw [hend]
    have : v = Zgi g := ZkH fun i hi => by rw [hI i hi, if_pos hi, Ziw g hi]
    rw [this]
def Zcl (l : List Int) (i : Nat) : Int := if i % 2 = 0 then l.getD (3 * (i / 2)) 0 * 16 + l.getD (3 * (i / 2) + 1) 0 / 16 else (l.getD (3 * (i / 2) + 1) 0 % 16) * 256 + l.getD (3 * (i / 2) + 2) 0
theorem Zlc : (List.range 4096).all (fun n => decide (bor .u16 ((n / 16 * 16 : Nat) : Int) ((n % 16 : Nat) : Int) = (n : Int)) && decide (bor .u16 ((n / 256 * 256 : Nat) : Int) ((n % 256 : Nat) : Int) = (n : Int))) = true := by decide +kernel
theorem bo4 {a b : Int} (ha : 0 ≤ a ∧ a ≤ 255) (hb : 0 ≤ b ∧ b ≤ 15) : bor .u16 (a * 16) b = a * 16 + b := by
  obtain ⟨a, rfl⟩ := Int.eq_ofNat_of_zero_le ha.1
  obtain ⟨b, rfl⟩ := Int.eq_ofNat_of_zero_le hb.1
  have h := List.all_eq_true.1 Zlc (a * 16 + b) (List.mem_range.2 (by omega))
  rw [Bool.and_eq_true] at h
  have h := of_decide_eq_true h.1
  rw [show (a * 16 + b) / 16 * 16 = a * 16 by omega, show (a * 16 + b) % 16 = b by omega, show ((a * 16 : Nat) : Int) = (a : Int) * 16 by omega, show ((a * 16 + b : Nat) : Int) = (a : Int) * 16 + b by omega] at h
  exact h
theorem bo8 {a b : Int} (ha : 0 ≤ a ∧ a ≤ 15) (hb : 0 ≤ b ∧ b ≤ 255) : bor .u16 (a * 256) b = a * 256 + b := by
  obtain ⟨a, rfl⟩ := Int.eq_ofNat_of_zero_le ha.1
  obtain ⟨b, rfl⟩ := Int.eq_ofNat_of_zero_le hb.1
  have h := List.all_eq_true.1 Zlc (a * 256 + b) (List.mem_range.2 (by omega))
  rw [Bool.and_eq_true] at h
  have h := of_decide_eq_true h.2
  rw [show (a * 256 + b) / 256 * 256 = a * 256 by omega, show (a * 256 + b) % 256 = b by omega, show ((a * 256 : Nat) : Int) = (a : Int) * 256 by omega, show ((a * 256 + b : Nat) : Int) = (a : Int) * 256 + b by omega] at h
  exact h
theorem Zks : (List.range 256).all (fun n => decide (Q6 .u16 (n : Int) 15 = ((n % 16 : Nat) : Int))) = true := by decide +kernel
theorem Zne {x : Int} (h : 0 ≤ x ∧ x ≤ 255) : Q6 .u16 x 15 = x % 16 := by
  obtain ⟨x, rfl⟩ := Int.eq_ofNat_of_zero_le h.1
  exact (of_decide_eq_true (List.all_eq_true.1 Zks x (List.mem_range.2 (by omega)))).trans (by omega)
theorem Zkk (z : Int) : u16 z = z % 65536 := rfl
theorem ZmK {k : Nat} (h : k ≤ 9223372036854775807) : quo .i64 (k : Int) 2 = some ((k / 2 : Nat) : Int) := by
  unfold quo
  rw [if_neg (by decide)]
  have e3 : Int.tdiv (k : Int) 2 = ((k / 2 : Nat) : Int) := rfl
  rw [e3, ZY (by omega) (by omega)]
theorem ZmV (k : Nat) : rem (k : Int) 2 = some ((k % 2 : Nat) : Int) := by
  unfold rem
  rw [if_neg (by decide)]; rfl
theorem Zkx {p : Vector Int 96} {l : List Int} (hp : p.toList = l) (hu : u8R l) {i : Nat} (hi : i < 64) : X7 p (i : Int) = some (Zcl l i) := by
  have hl : l.length = 96 := by rw [← hp]; simp
  unfold X7
  rw [ZmK (by omega), Option.bind_some, ZmV, Option.bind_some]
  have hg : ∀ (z : Int) (k : Nat), z = (k : Int) → k < 96 → ZH p z = some (l.getD k 0) := fun z k hz hk => by
    subst hz
    exact Zg5 (by rw [hp]; exact Zf0 (by omega) 0)
  have e1 : i64 (((i / 2 : Nat) : Int) * 3) = ((3 * (i / 2) : Nat) : Int) := (ZY (by omega) (by omega)).trans (by omega)
  have e2 : i64 (((3 * (i / 2) : Nat) : Int) + 1) = ((3 * (i / 2) + 1 : Nat) : Int) := (ZY (by omega) (by omega)).trans (by omega)
  have e3 : i64 (((3 * (i / 2) : Nat) : Int) + 2) = ((3 * (i / 2) + 2 : Nat) : Int) := (ZY (by omega) (by omega)).trans (by omega)
  rw [e1, e2, e3]
  have b0 := Zb5 hu (3 * (i / 2))
  have b1 := Zb5 hu (3 * (i / 2) + 1)
  have b2 := Zb5 hu (3 * (i / 2) + 2)
  rw [hg _ (3 * (i / 2)) rfl (by omega), hg _ (3 * (i / 2) + 1) rfl (by omega), hg _ (3 * (i / 2) + 2) rfl (by omega)]
  unfold Zcl
  generalize l.getD (3 * (i / 2)) 0 = x0 at b0
  generalize l.getD (3 * (i / 2) + 1) 0 = x1 at b1
  generalize l.getD (3 * (i / 2) + 2) 0 = x2 at b2
  have u0 : u16 x0 = x0 := by rw [Zkk]; omega
  have u1 : u16 x1 = x1 := by rw [Zkk]; omega
  have u2 : u16 x2 = x2 := by rw [Zkk]; omega
  by_cases h : i % 2 = 0
  · have s1 : shl .u16 x0 4 = some (x0 * 16) := by
      unfold shl
      rw [if_neg (by decide)]
      show some (IntKind.u16.wrap (x0 * 2 ^ 4)) = _
      rw [show IntKind.u16.wrap (x0 * 2 ^ 4) = (x0 * 2 ^ 4) % 65536 from rfl]
      congr 1; omega
    have s2 : shr .u16 x1 4 = some (x1 / 16) := Zmo (k := .u16) (j := 4) (by decide)
    rw [if_pos (by simp [h]), if_pos h, Option.bind_some, u0, s1, Option.bind_some, Option.bind_some, u1, s2, Option.bind_some, bo4 b0 (by omega)]
  · have s1 : shl .u16 (x1 % 16) 8 = some (x1 % 16 * 256) := by
      unfold shl
      rw [if_neg (by decide)]
      show some (IntKind.u16.wrap (x1 % 16 * 2 ^ 8)) = _
      rw [show IntKind.u16.wrap (x1 % 16 * 2 ^ 8) = (x1 % 16 * 2 ^ 8) % 65536 from rfl]
      congr 1; omega
    rw [if_neg (by simp; omega), if_neg h, Option.bind_some, u1, Zne b1, s1, Option.bind_some, Option.bind_some, u2, bo8 (by omega) b2]
theorem Zlw : ∀ i, i < 64 → rd (Vector.replicate 64 0) i = 0 := by
  intro i hi
  unfold rd
  rw [Vector.toList_replicate, List.getD_eq_getElem?_getD, List.getElem?_replicate, if_pos hi]; rfl
theorem Zmf {p : Vector Int 96} {l : List Int} (hp : p.toList = l) (hu : u8R l) : Zas p = some (Zgi (Zcl l)) := by
  unfold Zas
  rw [Zkz (body := XK p) (Zcl l) Zlw (fun v k hk h0 => ?_) (fun v => ?_)]
  · rfl
  · unfold XK
    rw [if_pos (by simp; omega), Zkx hp hu hk, Option.bind_some, ZlS v hk, Option.bind_some, show i64 ((k : Int) + 1) = (k : Int) + 1 from ZY (by omega) (by omega)]
  · unfold XK
    rw [if_neg (by decide)]
theorem ZlX (f : Vector Int 64) (i : Nat) (x y : Int) : Q2 (Q2 f (i : Int) x) (i : Int) y = Q2 f (i : Int) y := by
  apply Vector.toList_inj.1
  rw [Zdq, Zdq, Zdq, List.set_set]
def ZcC (l : List Int) (j : Nat) : Int := if j % 2 = 1 then l.getD (j / 2) 0 % 16 else l.getD (j / 2) 0 / 16
theorem Zik {l : List Int} (hu : u8R l) (h96 : 96 ≤ l.length) {i j : Nat} (hi : i < 64) (hj : j < 3) (f : Vector Int 64) (hf : 0 ≤ rd f i ∧ rd f i ≤ 4095) :
    XH l (i : Int) f (j : Int) = some (.inl (Q2 f (i : Int) ((rd f i * 16 + ZcC l (3 * i + j)) % 65536), (j : Int) + 1)) := by
  unfold XH
  have e1 : i64 (3 * (i : Int)) = ((3 * i : Nat) : Int) := (ZY (by omega) (by omega)).trans (by omega)
  have e2 : i64 (((3 * i : Nat) : Int) + (j : Int)) = ((3 * i + j : Nat) : Int) := (ZY (by omega) (by omega)).trans (by omega)
  have hb := Zb5 hu ((3 * i + j) / 2)
  have hx : idx l (((3 * i + j) / 2 : Nat) : Int) = some (l.getD ((3 * i + j) / 2) 0) := ZdU (Zf0 (by omega) 0)
  rw [if_pos (by simp; omega), e1, e2, ZmK (by omega), Option.bind_some, hx, Option.bind_some, ZmV]
  unfold ZcC
  generalize l.getD ((3 * i + j) / 2) 0 = x at hb hx
  have ix : i64 x = x := ZY (by omega) (by omega)
  rw [ix]
  have q16 : quo .i64 x 16 = some (x / 16) := by
    unfold quo
    rw [if_neg (by decide), Int.tdiv_eq_ediv_of_nonneg hb.1, ZY (by omega) (by omega)]
  have r16 : rem x 16 = some (x % 16) := by
    unfold rem
    rw [if_neg (by decide), Int.tmod_eq_emod_of_nonneg hb.1]
  rw [q16, Option.bind_some, Option.bind_some]
  have e5 : i64 ((j : Int) + 1) = (j : Int) + 1 := ZY (by omega) (by omega)
  have fin : ∀ h : Int, 0 ≤ h ∧ h ≤ 15 → ((ZH f (i : Int)).bind fun x3 => (ZH f (i : Int)).bind fun x4 => some (Sum.inl (Q2 f (i : Int) (u16 ((u16 (x3 * 16)) + (u16 h))), i64 ((j : Int) + 1)))) = (some (.inl (Q2 f (i : Int) ((rd f i * 16 + h) % 65536), (j : Int) + 1)) : Option ((Vector Int 64 × Int) ⊕ Vector Int 64)) := by
    intro h hh
    rw [ZlS f hi, Option.bind_some, Option.bind_some, e5]
    congr 4
    rw [Zkk, Zkk, Zkk]; omega
  by_cases hp : (3 * i + j) % 2 = 1
  · rw [if_pos (by simp [hp]), if_pos hp, Option.bind_some, hx, Option.bind_some, ix, r16, Option.bind_some, Option.bind_some]
    exact fin _ (by omega)
  · rw [if_neg (by simp; omega), if_neg hp, Option.bind_some]
    exact fin _ (by omega)
theorem Zhe {l : List Int} (hu : u8R l) (j : Nat) : 0 ≤ ZcC l j ∧ ZcC l j ≤ 15 := by
  have := Zb5 hu (j / 2)
  unfold ZcC
  split <;> omega
theorem Zlu {l : List Int} (hu : u8R l) (i : Nat) : Zcl l i = (ZcC l (3 * i) * 16 + ZcC l (3 * i + 1)) * 16 + ZcC l (3 * i + 2) := by
  have b0 := Zb5 hu (3 * (i / 2))
  have b1 := Zb5 hu (3 * (i / 2) + 1)
  have b2 := Zb5 hu (3 * (i / 2) + 2)
  unfold Zcl ZcC
  by_cases h : i % 2 = 0
  · rw [if_pos h, if_neg (by omega), if_pos (by omega), if_neg (by omega), show 3 * i / 2 = 3 * (i / 2) by omega, show (3 * i + 1) / 2 = 3 * (i / 2) by omega, show (3 * i + 2) / 2 = 3 * (i / 2) + 1 by omega]
    omega
  · rw [if_neg h, if_pos (by omega), if_neg (by omega), if_pos (by omega), show 3 * i / 2 = 3 * (i / 2) + 1 by omega, show (3 * i + 1) / 2 = 3 * (i / 2) + 2 by omega, show (3 * i + 2) / 2 = 3 * (i / 2) + 2 by omega]
    omega
def ZhB : Vector Int 64 := #v[0, 0, 0, 0, 0, 0, 0, 0, 0, 0, 0, 0, 0, 0, 0, 0, 0, 0, 0, 0, 0, 0, 0, 0, 0, 0, 0, 0, 0, 0, 0, 0, 0, 0, 0, 0, 0, 0, 0, 0, 0, 0, 0, 0, 0, 0, 0, 0, 0, 0, 0, 0, 0, 0, 0, 0, 0, 0, 0, 0, 0, 0, 0, 0]
theorem Zkf : (List.range 64).all (fun i => decide (rd ZhB i = 0)) = true := by decide +kernel
theorem ZlL : ∀ i, i < 64 → rd ZhB i = 0 := fun i hi => of_decide_eq_true (List.all_eq_true.1 Zkf i (List.mem_range.2 hi))
theorem Zk3 {l : List Int} (hu : u8R l) (h96 : 96 ≤ l.length) : ZcJ l = some (Zgi (Zcl l)) := by
  have key := Zkz (body := J9 l) (Zcl l) ZlL (fun v k hk h0 => by
    unfold J9
    have b0 := Zhe hu (3 * k)
    have b1 := Zhe hu (3 * k + 1)
    have b2 := Zhe hu (3 * k + 2)
    have lp : loop (t2 (XH l (k : Int))) (v, 0) = some (Q2 v (k : Int) (Zcl l k)) := by
      refine QN (Zik hu h96 hk (j := 0) (by omega) v (by omega)) ?_
      refine QN (Zik hu h96 hk (j := 1) (by omega) _ (by rw [Zga v hk, if_pos rfl, h0, Nat.add_zero]; omega)) ?_
      refine QN (Zik hu h96 hk (j := 2) (by omega) _ (by rw [Zga _ hk, if_pos rfl, Zga v hk, if_pos rfl, h0, Nat.add_zero]; omega)) ?_
      refine Zdv ?_
      show XH l (k : Int) _ (((2 : Nat) : Int) + 1) = _
      unfold XH
      rw [if_neg (by decide), Zga _ hk, if_pos rfl, Zga _ hk, if_pos rfl, h0, ZlX, ZlX, Zlu hu]
      rw [show 3 * k + 0 = 3 * k from rfl]
      have e : (((0 * 16 + ZcC l (3 * k)) % 65536 * 16 + ZcC l (3 * k + 1)) % 65536 * 16 + ZcC l (3 * k + 2)) % 65536 = (ZcC l (3 * k) * 16 + ZcC l (3 * k + 1)) * 16 + ZcC l (3 * k + 2) := by omega
      rw [e]
    rw [if_pos (by simp; omega), lp]
    simp only [Option.bind_some, Zia]
    rw [show i64 ((k : Int) + 1) = (k : Int) + 1 from ZY (by omega) (by omega)]) (fun v => by
    unfold J9
    rw [if_neg (by simp)])
  unfold ZcJ
  rw [show (#v[0, 0, 0, 0, 0, 0, 0, 0, 0, 0, 0, 0, 0, 0, 0, 0, 0, 0, 0, 0, 0, 0, 0, 0, 0, 0, 0, 0, 0, 0, 0, 0, 0, 0, 0, 0, 0, 0, 0, 0, 0, 0, 0, 0, 0, 0, 0, 0, 0, 0, 0, 0, 0, 0, 0, 0, 0, 0, 0, 0, 0, 0, 0, 0] : Vector Int 64) = ZhB from rfl, key]; rfl
theorem Zls {l : List Int} (hu : u8R l) (h96 : 96 ≤ l.length) : QA l = some (Zgi (Zcl l), 0) ∧ JE l = some (Zgi (Zcl l), 0) := by
  constructor
  · unfold QA
    rw [if_neg (by simp; omega)]
    rw [show slc l 0 96 = some (l.take 96) from (Zer (a := 0) (b := 96) (by omega) (by omega)).trans (by rw [List.drop_zero]), Option.bind_some]
    obtain ⟨v, hv, hvl⟩ := Zjs (m := 96) (xs := l.take 96) (by rw [List.length_take]; omega)
    rw [hv, Option.bind_some, Zmf hvl (fun x hx => hu x (List.mem_of_mem_take (List.mem_of_mem_take hx))), Option.bind_some]
    have e : Zgi (Zcl (List.take 96 (List.take 96 l))) = Zgi (Zcl l) := ZkH fun i hi => by
      rw [Ziw _ hi, Ziw _ hi, List.take_take, Nat.min_self]
      have e : ∀ k, k < 96 → (l.take 96).getD k 0 = l.getD k 0 := fun k hk => by
        rw [List.getD_eq_getElem?_getD, List.getD_eq_getElem?_getD, List.getElem?_take_of_lt hk]
      unfold Zcl
      rw [e _ (by omega), e _ (by omega), e _ (by omega)]
    rw [e]
  · unfold JE
    rw [if_neg (by simp; omega), Zk3 hu h96, Option.bind_some]
def Zh6 (s : List Int) (i : Int) : Vector Int 64 × Int := match Zdp s with
  | none => (ZhB, 3)
  | some n => if 0 ≤ i ∧ i ≤ (n : Int) - 1 then (Zgi (Zcl (ZcQ s i.toNat)), 0) else (ZhB, 9)
theorem ZiD {s : List Int} (hu : u8R s) (hl : s.length ≤ 140737488355328) (i : Int) : Jz s i = some (Zh6 s i) ∧ Jy s i = some (Zh6 s i) := by
  obtain ⟨y, h1, h2⟩ := Zh8 hl
  unfold Jz Jy
  rw [h1, ZjM hl, Option.bind_some, Option.bind_some]
  cases hn : Zdp s with
  | none =>
    rw [hn] at h2
    simp only at h2
    have hF : Zh6 s i = (ZhB, 3) := by unfold Zh6; rw [hn]
    rw [if_pos (by simp [h2]), if_pos (by simp), hF]
    exact ⟨rfl, rfl⟩
  | some n =>
    rw [hn] at h2
    simp only at h2
    subst h2
    have hb := ZiW hn
    have e1 : i64 ((n : Int) - 1) = (n : Int) - 1 := ZY (by omega) (by omega)
    rw [if_neg (by simp), if_neg (by simp)]
    have hF : Zh6 s i = if 0 ≤ i ∧ i ≤ (n : Int) - 1 then (Zgi (Zcl (ZcQ s i.toNat)), 0) else (ZhB, 9) := by unfold Zh6; rw [hn]
    rw [show i64 (((n : Int), true).1 - 1) = (n : Int) - 1 from e1, hF]
    unfold ZT JQ
    rw [Option.bind_some, Option.bind_some]
    by_cases h : 0 ≤ i ∧ i ≤ (n : Int) - 1
    · obtain ⟨k, rfl⟩ := Int.eq_ofNat_of_zero_le h.1
      have hs := Zg9 hn (i := k) (by omega)
      obtain ⟨v, hv, hvl⟩ := Zi6 hl hs
      have h97 := Zgw hs
      rw [if_pos h, if_neg (by simp; omega), if_neg (by simp; omega), hv, ZkM hl hs, Option.bind_some, Option.bind_some]
      rw [hvl, show slc (ZcQ s k) 0 (97 : Int) = some (ZcQ s k) from (Zer (a := 0) (b := 97) (by omega) (by omega)).trans (by rw [List.take_of_length_le (by omega), List.drop_zero]), Option.bind_some]
      obtain ⟨f1, f2⟩ := Zls (ZkU hu k) (by omega)
      rw [f1, f2]
      exact ⟨rfl, rfl⟩
    · rw [if_neg h, if_pos (by simp; omega), if_pos (by simp; omega)]
      exact ⟨rfl, rfl⟩
theorem ZiS (s : List Int) (i : Int) (hw : wfL (wfI .u8) s) (z0 : s.length ≤ 140737488355328) : Qw s i = some true := by
  have hu : u8R s := fun x hx => u8W (hw.2 x hx)
  unfold Qw
  rw [Zmw hu, ZmG hu, Option.bind_some, Option.bind_some, if_neg (by simp)]
  obtain ⟨r, h1, h2, h3⟩ := Zkq z0
  rw [h1, h2, Option.bind_some, Option.bind_some, eqI h3]
  simp only [decide_true, Bool.not_true, gd, beq_self_eq_true, if_true, Option.bind_some, Bool.or_self, Bool.false_eq_true, if_false]
  obtain ⟨f1, f2⟩ := ZiD hu z0 i
  rw [f1, f2, Option.bind_some, Option.bind_some, Zmb]
  simp
end Go.Vx
