/- A text of the proof: a verified executor of the program form, or the contracts of the functions that the law reaches. -/
import Derived.Test.YtailpehcgelmdaaGreatDoorPA
set_option linter.all false
namespace Go.Vx
open Go Go.RowKit
def cutN : Str := [97, 98, 99, 100, 101, 102, 103, 104, 105, 106, 107, 108, 109, 110, 111, 112, 113, 114, 115, 116, 117, 118, 119, 120, 121, 122, 48, 49, 50, 51, 52, 53, 54, 55, 56, 57, 45]
def setN : List Bool := (List.range 256).map fun (i : Nat) => nbI (i : Int)
theorem Zo1 : (Xa cutN).map (fun r => (r.1.toList, r.2)) = some (setN, true) := by decide +kernel
theorem mkA : ∃ v, QX cutN = some (v, true) ∧ v.toList = setN := by
  have h := Zo1
  cases hc : Xa cutN with
  | none => rw [hc] at h; cases h
  | some r =>
    rw [hc] at h
    simp only [Option.map_some, Option.some.injEq, Prod.mk.injEq] at h
    refine ⟨r.1, ?_, h.1⟩
    rw [ZbP cutN r hc, ← h.2]
theorem inA {v : Vector Bool 256} (hv : v.toList = setN) (b : UInt8) : Z6 v ((b.toNat : Nat) : Int) = some (nbB b) := by
  have hb : b.toNat < 256 := b.toNat_lt
  have : ZhP v ((b.toNat : Nat) : Int) = some (nbB b) := by
    unfold ZhP
    rw [if_pos (by omega), hv]
    simp only [setN, Int.toNat_natCast, List.getElem?_map, List.getElem?_range hb, Option.map_some]
    rfl
  unfold Z6
  rw [this]; rfl
theorem ZoU {v : Vector Bool 256} (hv : v.toList = setN) (s : Str) (hs : s.length ≤ 30) : Qt s v = some (s.reverse.dropWhile nbB).reverse := by
  have h : loop (t1 (Z7 v)) s = some (s.reverse.dropWhile nbB).reverse := by
    refine ZeU (body := t1 (Z7 v)) (fun s => s.length ≤ 30) (fun s => s.length) (fun s => (s.reverse.dropWhile nbB).reverse) ?_ s hs
    intro s hs
    rcases List.eq_nil_or_concat s with rfl | ⟨t, c, rfl⟩
    · right; simp [Z7]
    · simp only [List.concat_eq_append] at hs ⊢
      have hl : (t ++ [c]).length = t.length + 1 := by simp
      have e1 : i64 (((t ++ [c]).length : Int) - 1) = (t.length : Int) := by
        rw [hl]; rw [show (((t.length + 1 : Nat) : Int) - 1) = (t.length : Int) by omega]; exact ZO (by omega) (by omega)
      have e2 : JQ (t ++ [c]) (t.length : Int) = some ((c.toNat : Nat) : Int) := Zf1 (by simp)
      have e3 : slc (t ++ [c]) 0 (t.length : Int) = some t := by rw [Zna (by omega)]; simp
      have e0 : decide ((0 : Int) < ((t ++ [c]).length : Int)) = true := decide_eq_true (by omega)
      simp only [JU, Z7, e0, if_true, e1, e2, e3, inA hv, Option.bind_some]
      cases hc : nbB c with
      | true => left; exact ⟨t, by simp, by omega, by omega, by simp [hc]⟩
      | false => right; simp [hc]
  unfold Qt
  rw [h]; rfl
theorem ZoS {v : Vector Bool 256} (hv : v.toList = setN) (s : Str) (hs : s.length ≤ 30) : Qy s v = some (s.dropWhile nbB) := by
  have h : loop (t1 (Z9 v)) s = some (s.dropWhile nbB) := by
    refine ZeU (body := t1 (Z9 v)) (fun s => s.length ≤ 30) (fun s => s.length) (fun s => s.dropWhile nbB) ?_ s hs
    intro s hs
    cases s with
    | nil => right; simp [Z9]
    | cons c t =>
      have e2 : JQ (c :: t) 0 = some ((c.toNat : Nat) : Int) := Zf1 (k := 0) rfl
      have e3 : slc (c :: t) 1 ((c :: t).length : Int) = some t := by rw [Zom (by simp)]; simp
      have e0 : decide ((0 : Int) < ((c :: t).length : Int)) = true := decide_eq_true (by simp only [List.length_cons]; omega)
      simp only [JU, Z9, e0, if_true, e2, e3, inA hv, Option.bind_some]
      cases hc : nbB c with
      | true => left; exact ⟨t, by simp, by simp at hs; omega, by simp, by simp [hc]⟩
      | false => right; simp [hc]
  unfold Qy
  rw [h]; rfl
theorem ZjQ {α : Type} {p : α → Bool} : ∀ {l : List α}, l.dropWhile p = [] ↔ ∀ x ∈ l, p x = true
  | [] => by simp
  | a :: l => by
    cases h : p a with
    | true => rw [List.dropWhile_cons_of_pos h, ZjQ]; simp [h]
    | false => rw [List.dropWhile_cons_of_neg (by simp [h])]; simp [h]
theorem ZmU (s : Str) : ((s.reverse.dropWhile nbB).reverse.dropWhile nbB = []) ↔ s.all nbB = true := by
  rw [ZjQ]
  constructor
  · intro h
    rw [List.all_eq_true]
    intro x hx
    have hx' : x ∈ s.reverse := List.mem_reverse.2 hx
    rw [← List.takeWhile_append_dropWhile (p := nbB) (l := s.reverse)] at hx'
    rcases List.mem_append.1 hx' with h1 | h1
    · exact List.all_eq_true.1 (List.all_takeWhile (p := nbB) (l := s.reverse)) x h1
    · exact h x (List.mem_reverse.2 h1)
  · intro h x hx
    have h1 := List.mem_reverse.1 hx
    exact List.all_eq_true.1 h x (List.mem_reverse.1 ((List.dropWhile_sublist nbB).subset h1))
theorem Zop (s : Str) (h0 : s ≠ []) (hs : s.length ≤ 30) : ∃ r, JK s cutN = some r ∧ (r = [] ↔ s.all nbB = true) := by
  obtain ⟨v, hv1, hv2⟩ := mkA
  have hr : (s.reverse.dropWhile nbB).reverse.length ≤ 30 := by
    rw [List.length_reverse]
    have := (List.dropWhile_sublist nbB (l := s.reverse)).length_le
    rw [List.length_reverse] at this; omega
  refine ⟨_, ?_, ZmU s⟩
  unfold JK
  have e1 : (decide (s = []) || decide (cutN = [])) = false := by simp [h0, cutN]
  have e2 : decide ((cutN.length : Int) = 1) = false := by decide
  rw [if_neg (by rw [e1]; simp), e2, hv1]
  simp [gd, ZoU hv2 s hs, ZoS hv2 _ hr]
def pn (s : Str) : Bool := wi (s.length : Int) 1 30 && s.all nbB
theorem ZlP (s : Str) : JF s = some (pn s) := by
  unfold JF
  have hw : ZV (s.length : Int) 1 30 = some (wi (s.length : Int) 1 30) := rfl
  rw [hw]
  cases h : wi (s.length : Int) 1 30 with
  | false => simp [pn, h, gd]
  | true =>
    obtain ⟨h1, h2⟩ := Jp.1 h
    obtain ⟨r, hr1, hr2⟩ := Zop s (by rintro rfl; simp at h1) (by omega)
    have hr1' : JK s [97, 98, 99, 100, 101, 102, 103, 104, 105, 106, 107, 108, 109, 110, 111, 112, 113, 114, 115, 116, 117, 118, 119, 120, 121, 122, 48, 49, 50, 51, 52, 53, 54, 55, 56, 57, 45] = some r := hr1
    rw [Option.bind_some, hr1']
    simp only [beq_self_eq_true, Zlf, Option.bind_some, Bool.true_and, pn, h]
    congr 1
    rw [Bool.eq_iff_iff, decide_eq_true_iff]
    exact hr2
theorem ZkY (s : Str) (hs : s.length ≤ 9223372036854775807) : ZbR s = some (pn s) := by
  unfold ZbR
  have hloop : loop (t1 (Zab s)) 0 = some (XG (fun _ => Sum.inl false) (Sum.inr ()) (if s.all nbB then none else some ())) := by
    rw [← Zf6 0]
    refine Z4 (xs := s) (body := Zab s) _ _ _ (fun k x hx => ?_) (by simp [Zab])
    have hlt := Q6 hx
    have e1 : i64 ((k : Int) + 1) = (k : Int) + 1 := ZdI (n := s.length) (by omega) hs
    simp only [Zab, hlt, decide_true, if_true, Zf1 hx, Option.bind_some, e1]
    have e2 : nbB x = ((((decide (97 ≤ ((x.toNat : Nat) : Int))) && (decide (((x.toNat : Nat) : Int) ≤ 122))) || ((decide (48 ≤ ((x.toNat : Nat) : Int))) && (decide (((x.toNat : Nat) : Int) ≤ 57)))) || (decide (((x.toNat : Nat) : Int) = 45))) := rfl
    rw [← e2]
    cases nbB x <;> simp
  rw [hloop]
  cases ha : s.all nbB with
  | false => simp [pn, ha]
  | true =>
    simp only [if_true, ZgO, Option.bind_some, Sum.elim_inr, Zm2, pn, ha, Bool.and_true]
    rfl
end Go.Vx

namespace Go.Vx
open Go Go.RowKit
theorem Zlt {g v : Bool} : gd g false (some v) = some (g && v) := by cases g <;> rfl
theorem ZkE {l : List Int} (hl : l.length ≤ 9) (v : Int) : Qp l v = some (l.any fun x => decide (v = x)) := by
  have h : loop (t1 (Qc l v)) 0 = some (XG Sum.inl (Sum.inr ()) (ZL (fun k x => if decide (v = x) = true then some (k : Int) else none) 0 l)) := by
    refine Z4 (xs := l) (body := Qc l v) _ _ _ (fun k x hx => ?_) (by simp [Qc])
    have hlt := Q6 hx
    have e1 : i64 ((k : Int) + 1) = (k : Int) + 1 := ZdI (n := l.length) (by omega) (by omega)
    simp only [Qc, hlt, decide_true, if_true, ZX hx, Option.bind_some, e1]
    cases decide (v = x) <;> rfl
  unfold Qp QZ
  rw [h]
  rcases Zeu (p := fun x => decide (v = x)) 0 l with ⟨h1, h2⟩ | ⟨m, h1, h2⟩
  · rw [h1, h2]; simp
  · rw [h1, h2]; simp
theorem ZmH {l : List Int} (hl : l.length ≤ 9) (v : Int) : ZcV v l = some (l.any fun x => decide (v = x)) := by
  have h : loop (t1 (ZbS v l)) 0 = some (XG Sum.inl (Sum.inr ()) (ZL (fun _ x => if decide (v = x) = true then some true else none) 0 l)) := by
    refine Z4 (xs := l) (body := ZbS v l) _ _ _ (fun k x hx => ?_) (by simp [ZbS])
    have hlt := Q6 hx
    have e1 : i64 ((k : Int) + 1) = (k : Int) + 1 := ZdI (n := l.length) (by omega) (by omega)
    have e2 : decide (x = v) = decide (v = x) := by rw [decide_eq_decide]; exact eq_comm
    simp only [ZbS, hlt, decide_true, if_true, ZX hx, Option.bind_some, e1, e2]
    cases decide (v = x) <;> rfl
  unfold ZcV
  rw [h, ZeJ]
  cases l.any (fun x => decide (v = x)) <;> rfl
def unV (i : api_Instrument) : Bool :=
  (!decide (i.Places = 0) && !(decide (i.Kind = 1) || decide (i.Kind = 4) || decide (i.Kind = 6))) ||
  ((!decide (i.Low = 0) || !decide (i.High = 0) || !decide (i.Steps = 0) || decide (0 < (i.Zones.length : Int))) && !decide (i.Kind = 2)) ||
  ((!decide (i.Op = 0) || !decide (i.N = 0)) && !(decide (i.Kind = 3) || decide (i.Kind = 5))) ||
  (i.Latch && !decide (i.Kind = 3)) || (!decide (i.Size = 0) && !decide (i.Kind = 6))
theorem ZnN : ∀ p k1 q k2 r k3 l k4 z k5 : Bool,
    ((p && !(p && k1)) || (q && !(!(p && !(p && k1)) && q && k2)) || (r && !(!((p && !(p && k1)) || (q && !(!(p && !(p && k1)) && q && k2))) && r && k3)) ||
      (l && !(!((p && !(p && k1)) || (q && !(!(p && !(p && k1)) && q && k2)) || (r && !(!((p && !(p && k1)) || (q && !(!(p && !(p && k1)) && q && k2))) && r && k3))) && l && k4)) ||
      (z && !(!((p && !(p && k1)) || (q && !(!(p && !(p && k1)) && q && k2)) || (r && !(!((p && !(p && k1)) || (q && !(!(p && !(p && k1)) && q && k2))) && r && k3)) ||
      (l && !(!((p && !(p && k1)) || (q && !(!(p && !(p && k1)) && q && k2)) || (r && !(!((p && !(p && k1)) || (q && !(!(p && !(p && k1)) && q && k2))) && r && k3))) && l && k4))) && z && k5))) =
    ((p && !k1) || (q && !k2) || (r && !k3) || (l && !k4) || (z && !k5)) := by decide +kernel
theorem ZlS (i : api_Instrument) : Zan i = some (unV i) := by
  have h1 : ZT [1, 4, 6] i = some (decide (i.Kind = 1) || decide (i.Kind = 4) || decide (i.Kind = 6)) := by
    unfold ZT; rw [ZkE (by decide)]; simp [Bool.or_assoc]
  have h2 : ZT [2] i = some (decide (i.Kind = 2)) := by unfold ZT; rw [ZkE (by decide)]; simp
  have h3 : ZT [3, 5] i = some (decide (i.Kind = 3) || decide (i.Kind = 5)) := by unfold ZT; rw [ZkE (by decide)]; simp
  have h4 : ZT [3] i = some (decide (i.Kind = 3)) := by unfold ZT; rw [ZkE (by decide)]; simp
  have h5 : ZT [6] i = some (decide (i.Kind = 6)) := by unfold ZT; rw [ZkE (by decide)]; simp
  unfold Zan
  rw [h1, h2, h3, h4, h5]
  simp only [Zlt, Option.bind_some, unV]
  congr 1
  generalize (decide (i.Kind = 1) || decide (i.Kind = 4) || decide (i.Kind = 6)) = k1
  generalize (!decide (i.Low = 0) || !decide (i.High = 0) || !decide (i.Steps = 0) || decide (0 < (i.Zones.length : Int))) = q
  generalize (decide (i.Kind = 3) || decide (i.Kind = 5)) = k3
  generalize (!decide (i.Op = 0) || !decide (i.N = 0)) = r
  generalize (!decide (i.Places = 0)) = p
  generalize (!decide (i.Size = 0)) = z
  generalize decide (i.Kind = 2) = k2
  generalize decide (i.Kind = 3) = k4
  generalize decide (i.Kind = 6) = k5
  generalize i.Latch = l
  have := ZnN p k1 q k2 r k3 l k4 z k5
  rw [← this]
  revert p k1 q k2 r k3 l k4 z k5
  decide +kernel
theorem ZlT (i : api_Instrument) : ZcX i = some (unV i) := by
  unfold ZcX
  rw [ZmH (by decide), ZmH (by decide)]
  have e1 : ([1, 4, 6].any fun x => decide (i.Kind = x)) = (decide (i.Kind = 1) || decide (i.Kind = 4) || decide (i.Kind = 6)) := by simp [Bool.or_assoc]
  have e2 : ([3, 5].any fun x => decide (i.Kind = x)) = (decide (i.Kind = 3) || decide (i.Kind = 5)) := by simp
  simp only [e1, e2, Zlt, Option.bind_some, unV]
  generalize (decide (i.Kind = 1) || decide (i.Kind = 4) || decide (i.Kind = 6)) = k1
  generalize (!decide (i.Low = 0) || !decide (i.High = 0) || !decide (i.Steps = 0) || decide (0 < (i.Zones.length : Int))) = q
  generalize (decide (i.Kind = 3) || decide (i.Kind = 5)) = k3
  generalize (!decide (i.Op = 0) || !decide (i.N = 0)) = r
  generalize (!decide (i.Places = 0)) = p
  generalize (!decide (i.Size = 0)) = z
  generalize decide (i.Kind = 2) = k2
  generalize decide (i.Kind = 3) = k4
  generalize decide (i.Kind = 6) = k5
  generalize i.Latch = l
  cases p <;> cases k1 <;> cases q <;> cases k2 <;> simp <;> cases r <;> cases k3 <;> simp <;> cases l <;> cases k4 <;> simp
end Go.Vx

namespace Go.Vx
open Go Go.RowKit
def nb50 (z : Int) : Bool := wi z (-1125899906842624) 1125899906842624
def Zfz (zs : List api_Zone) (k : Nat) (x : api_Zone) : Option Int :=
  if pn x.Name = false then some 8 else if decide (x.To < x.From) = true then some 9 else if (decide (0 < (k : Int)) && (zs[k - 1]?).elim false fun y => decide (x.From ≤ y.To)) = true then some 10 else none
def ZhZ (i : api_Instrument) : Int :=
  if (decide (i.High ≤ i.Low) || !nb50 i.Low || !nb50 i.High || !wi i.Steps 1 1000) = true then 9 else if 10 < (i.Zones.length : Int) then 3 else XG id 0 (ZL (Zfz i.Zones) 0 i.Zones)
theorem Zn3 {zs : List api_Zone} {k : Nat} {x : api_Zone} (hx : zs[k]? = some x) (hl : zs.length ≤ 10) :
    ∃ y, gd (decide (0 < (k : Int)) == true) (api_Zone.mk 0 0 []) (idx zs (i64 ((k : Int) - 1))) = some y ∧ (decide (0 < (k : Int)) && decide (x.From ≤ y.To)) = (decide (0 < (k : Int)) && (zs[k - 1]?).elim false fun y => decide (x.From ≤ y.To)) := by
  have hlt := Q6 hx
  by_cases h0 : 0 < (k : Int)
  · obtain ⟨y, hy⟩ := X1 (xs := zs) (k := k - 1) (by omega)
    have e : i64 ((k : Int) - 1) = ((k - 1 : Nat) : Int) := by rw [show ((k : Int) - 1) = ((k - 1 : Nat) : Int) by omega]; exact ZO (by omega) (by omega)
    refine ⟨y, ?_, ?_⟩
    · rw [decide_eq_true h0, e, ZX hy]; rfl
    · rw [hy]; rfl
  · have h0' : decide (0 < (k : Int)) = false := decide_eq_false h0
    rw [h0']
    exact ⟨_, rfl, rfl⟩
theorem Znu (i : api_Instrument) : XV i = some (ZhZ i) := by
  unfold XV ZhZ
  have e1 : QL i.Low = some (nb50 i.Low) := rfl
  have e2 : QL i.High = some (nb50 i.High) := rfl
  have e3 : ZV i.Steps 1 1000 = some (wi i.Steps 1 1000) := rfl
  rw [e1, e2, e3]
  simp only [Zlt, Option.bind_some]
  have hb : ∀ h a b c : Bool, (h || !(h == false && a) || !((h || !(h == false && a)) == false && b) || !((h || !(h == false && a) || !((h || !(h == false && a)) == false && b)) == false && c)) = (h || !a || !b || !c) := by decide
  rw [hb]
  cases hc : (decide (i.High ≤ i.Low) || !nb50 i.Low || !nb50 i.High || !wi i.Steps 1 1000) with
  | true => simp
  | false =>
    by_cases h10 : 10 < (i.Zones.length : Int)
    · simp [h10]
    · have h : loop (t1 (QH i)) 0 = some (XG Sum.inl (Sum.inr ()) (ZL (Zfz i.Zones) 0 i.Zones)) := by
        refine Z4 (xs := i.Zones) (body := QH i) _ _ _ (fun k x hx => ?_) (by simp [QH])
        have hlt := Q6 hx
        have e1 : i64 ((k : Int) + 1) = (k : Int) + 1 := ZdI (n := i.Zones.length) (by omega) (by omega)
        obtain ⟨y, hy1, hy2⟩ := Zn3 hx (by omega)
        simp only [QH, hlt, decide_true, if_true, ZX hx, Option.bind_some, e1, ZlP, hy1, hy2, Zfz]
        cases pn x.Name with
        | false => simp
        | true => cases decide (x.To < x.From) with
          | true => simp
          | false => cases (decide (0 < (k : Int)) && (i.Zones[k - 1]?).elim false fun y => decide (x.From ≤ y.To)) <;> simp
      simp only [Bool.false_eq_true, if_false, h10, decide_false, h]
      cases ZL (Zfz i.Zones) 0 i.Zones <;> simp
theorem ZnB (i : api_Instrument) (hz : ∀ z ∈ i.Zones, wfS z.Name) : Zbb i = some (ZhZ i) := by
  unfold Zbb ZhZ
  have e0 : ∀ z a b, Z1 z a b = some (!wi z a b) := fun z a b => ZaO z a b
  simp only [e0, Zlt, Option.bind_some]
  have hb : ∀ h a b c : Bool, (h || (h == false && !a) || ((h || (h == false && !a)) == false && !b) || ((h || (h == false && !a) || ((h || (h == false && !a)) == false && !b)) == false && !c)) = (h || !a || !b || !c) := by decide
  rw [hb]
  show (if (decide (i.High ≤ i.Low) || !nb50 i.Low || !nb50 i.High || !wi i.Steps 1 1000) = true then _ else _) = _
  cases hc : (decide (i.High ≤ i.Low) || !nb50 i.Low || !nb50 i.High || !wi i.Steps 1 1000) with
  | true => simp
  | false =>
    by_cases h10 : 10 < (i.Zones.length : Int)
    · simp [h10]
    · have h : loop (t1 (XS i)) 0 = some (XG Sum.inl (Sum.inr ()) (ZL (Zfz i.Zones) 0 i.Zones)) := by
        refine Z4 (xs := i.Zones) (body := XS i) _ _ _ (fun k x hx => ?_) (by simp [XS])
        have hlt := Q6 hx
        have e1 : i64 ((k : Int) + 1) = (k : Int) + 1 := ZdI (n := i.Zones.length) (by omega) (by omega)
        obtain ⟨y, hy1, hy2⟩ := Zn3 hx (by omega)
        simp only [XS, hlt, decide_true, if_true, ZX hx, Option.bind_some, e1, ZkY x.Name (hz x (List.mem_of_getElem? hx)), hy1, hy2, Zfz]
        cases pn x.Name with
        | false => simp
        | true => cases decide (x.To < x.From) with
          | true => simp
          | false => cases (decide (0 < (k : Int)) && (i.Zones[k - 1]?).elim false fun y => decide (x.From ≤ y.To)) <;> simp
      simp only [Bool.false_eq_true, if_false, h10, decide_false, h]
      cases ZL (Zfz i.Zones) 0 i.Zones <;> simp
def JV (i : api_Instrument) : Int :=
  if wi i.Kind 1 6 = false then 7 else if (!pn i.Name || !wi (i.Track.length : Int) 1 30) = true then 8 else if unV i = true then 2 else if wi i.Places 0 6 = false then 9 else
  if i.Kind = 2 then ZhZ i else if i.Kind = 3 ∨ i.Kind = 5 then (if wi i.Op 1 6 = false then 7 else if nb50 i.N = false then 9 else 0) else if i.Kind = 6 then (if wi i.Size 1 50 = false then 9 else 0) else 0
theorem Znn (i : api_Instrument) : Qz i = some (JV i) := by
  unfold Qz JV
  have e0 : ∀ z a b, ZV z a b = some (wi z a b) := fun z a b => rfl
  have e1 : QL i.N = some (nb50 i.N) := rfl
  simp only [e0, e1, ZlP, ZlS, Znu, Zlt, Option.bind_some]
  cases wi i.Kind 1 6 with
  | false => simp
  | true => cases pn i.Name with
    | false => simp
    | true => cases wi (i.Track.length : Int) 1 30 with
      | false => simp
      | true => cases unV i with
        | true => simp
        | false => cases wi i.Places 0 6 with
          | false => simp
          | true =>
            by_cases h2 : i.Kind = 2
            · simp [h2]
            · by_cases h3 : i.Kind = 3
              · cases wi i.Op 1 6 <;> cases nb50 i.N <;> simp [h3]
              · by_cases h5 : i.Kind = 5
                · cases wi i.Op 1 6 <;> cases nb50 i.N <;> simp [h5]
                · by_cases h6 : i.Kind = 6
                  · cases wi i.Size 1 50 <;> simp [h6]
                  · simp [h2, h3, h5, h6]
theorem ZoN (s : Str) : (decide (s = []) || decide (30 < (s.length : Int))) = !wi (s.length : Int) 1 30 := by
  cases s with
  | nil => rfl
  | cons a t =>
    have e : decide (a :: t = []) = false := by simp
    rw [e, Bool.false_or, Bool.eq_iff_iff]
    simp only [Bool.not_eq_true', decide_eq_true_iff, wi, Bool.and_eq_false_iff, decide_eq_false_iff_not, List.length_cons]
    omega
def Zia (i : api_Instrument) : Prop := wfS i.Name ∧ ∀ z ∈ i.Zones, wfS z.Name
theorem Znb (i : api_Instrument) (hi : Zia i) : XL i = some (JV i) := by
  unfold XL JV
  have e0 : ∀ z a b, Z1 z a b = some (!wi z a b) := fun z a b => ZaO z a b
  have e1 : wi i.N (-1125899906842624) 1125899906842624 = nb50 i.N := rfl
  simp only [e0, e1, ZkY i.Name hi.1, ZlT, ZnB i hi.2, Option.bind_some, Bool.or_assoc, ZoN]
  cases wi i.Kind 1 6 with
  | false => simp
  | true => cases pn i.Name with
    | false => simp
    | true => cases wi (i.Track.length : Int) 1 30 with
      | false => simp
      | true => cases unV i with
        | true => simp
        | false => cases wi i.Places 0 6 with
          | false => simp
          | true =>
            by_cases h2 : i.Kind = 2
            · simp [h2]
            · by_cases h3 : i.Kind = 3
              · cases wi i.Op 1 6 <;> cases nb50 i.N <;> simp [h3]
              · by_cases h5 : i.Kind = 5
                · cases wi i.Op 1 6 <;> cases nb50 i.N <;> simp [h5]
                · by_cases h6 : i.Kind = 6
                  · cases wi i.Size 1 50 <;> simp [h6]
                  · simp [h2, h3, h5, h6]
def ZmQ (i : api_Instrument) (n : Int) : Int := if JV i ≠ 0 then JV i else if i.Kind ≠ 2 then 7 else if nb50 n = false then 9 else 0
structure DialOK (i : api_Instrument) : Prop where
  lt : i.Low < i.High
  low : -1125899906842624 ≤ i.Low ∧ i.Low ≤ 1125899906842624
  high : -1125899906842624 ≤ i.High ∧ i.High ≤ 1125899906842624
  steps : 1 ≤ i.Steps ∧ i.Steps ≤ 1000
  zones : i.Zones.length ≤ 10
theorem ZnI {i : api_Instrument} {n : Int} (h : ZmQ i n = 0) : DialOK i ∧ (-1125899906842624 ≤ n ∧ n ≤ 1125899906842624) := by
  unfold ZmQ at h
  split at h
  · rename_i h0; exact absurd h h0
  · rename_i h0
    split at h
    · cases h
    · rename_i h2
      have h2 : i.Kind = 2 := by omega
      split at h
      · cases h
      · rename_i hn
        have hn : nb50 n = true := by simpa using hn
        have hI : JV i = 0 := by omega
        unfold JV at hI
        split at hI
        · cases hI
        split at hI
        · cases hI
        split at hI
        · cases hI
        split at hI
        · cases hI
        try rw [if_pos h2] at hI
        unfold ZhZ at hI
        split at hI
        · cases hI
        rename_i hc
        split at hI
        · cases hI
        rename_i h10
        have hc : (decide (i.High ≤ i.Low) || !nb50 i.Low || !nb50 i.High || !wi i.Steps 1 1000) = false := by simpa using hc
        simp only [Bool.or_eq_false_iff, decide_eq_false_iff_not, Bool.not_eq_false'] at hc
        obtain ⟨⟨⟨c1, c2⟩, c3⟩, c4⟩ := hc
        exact ⟨⟨by omega, Jp.1 c2, Jp.1 c3, Jp.1 c4, by omega⟩, Jp.1 hn⟩
def ndl (i : api_Instrument) (n : Int) : Int := if n ≤ i.Low then 0 else if i.High ≤ n then i.Steps else ((n - i.Low) * i.Steps) / (i.High - i.Low)
theorem Znw {i : api_Instrument} (hi : DialOK i) {n : Int} (h1 : i.Low < n) (h2 : n < i.High) : 0 ≤ (n - i.Low) * i.Steps ∧ (n - i.Low) * i.Steps ≤ 2251799813685248000 := by
  have := hi.low; have := hi.high; have := hi.steps
  exact ⟨Int.mul_nonneg (by omega) (by omega), by
    have : (n - i.Low) * i.Steps ≤ 2251799813685248 * 1000 := Int.mul_le_mul (by omega) (by omega) (by omega) (by omega)
    omega⟩
theorem Zj4 {i : api_Instrument} (hi : DialOK i) {n : Int} (hn : -1125899906842624 ≤ n ∧ n ≤ 1125899906842624) : Zai i n = some (ndl i n) := by
  unfold Zai ndl
  by_cases h1 : n ≤ i.Low
  · simp [h1]
  · by_cases h2 : i.High ≤ n
    · simp [h1, h2]
    · have := hi.low; have := hi.high; have hlt := hi.lt
      obtain ⟨m1, m2⟩ := Znw hi (n := n) (by omega) (by omega)
      have e1 : i64 (n - i.Low) = n - i.Low := ZO (by omega) (by omega)
      have e2 : i64 ((n - i.Low) * i.Steps) = (n - i.Low) * i.Steps := ZO (by omega) (by omega)
      have e3 : i64 (i.High - i.Low) = i.High - i.Low := ZO (by omega) (by omega)
      have q1 : 0 ≤ (n - i.Low) * i.Steps / (i.High - i.Low) := Int.ediv_nonneg m1 (by omega)
      have q2 : (n - i.Low) * i.Steps / (i.High - i.Low) ≤ (n - i.Low) * i.Steps := Int.ediv_le_self _ m1
      have e4 : quo .i64 ((n - i.Low) * i.Steps) (i.High - i.Low) = some ((n - i.Low) * i.Steps / (i.High - i.Low)) := by
        unfold quo
        rw [if_neg (by omega), Int.tdiv_eq_ediv_of_nonneg m1, ZO (by omega) (by omega)]
      rw [if_neg (by simpa using h1), if_neg (by simpa using h2), if_neg h1, if_neg h2, e1, e2, e3, e4]; rfl
theorem ZoG {i : api_Instrument} (hz : i.Zones.length ≤ 10) (n : Int) : ∃ s, XA i n = some s ∧ ZeS i n = some s := by
  have e : ZeS i n = XA i n := rfl
  rw [e]
  have h : loop (t1 (Qo i n)) 0 = some (XG Sum.inl (Sum.inr ()) (ZL (fun _ x => if wi n x.From x.To = true then some x.Name else none) 0 i.Zones)) := by
    refine Z4 (xs := i.Zones) (body := Qo i n) _ _ _ (fun k x hx => ?_) (by simp [Qo])
    have hlt := Q6 hx
    have e1 : i64 ((k : Int) + 1) = (k : Int) + 1 := ZdI (n := i.Zones.length) (by omega) (by omega)
    have e0 : ZV n x.From x.To = some (wi n x.From x.To) := rfl
    simp only [Qo, hlt, decide_true, if_true, ZX hx, Option.bind_some, e1, e0]
    cases wi n x.From x.To <;> rfl
  unfold XA
  rw [h]
  cases ZL (fun _ x => if wi n x.From x.To = true then some x.Name else none) 0 i.Zones with
  | none => exact ⟨[], rfl, rfl⟩
  | some v => exact ⟨v, rfl, rfl⟩
end Go.Vx

namespace Go.Vx
open Go Go.RowKit
theorem Zlw {l : List api_Instrument} (hl : l.length ≤ 9223372036854775807) {f : api_Instrument → Option Bool} {p : api_Instrument → Bool} (hf : ∀ x, f x = some (p x)) : Zp l f = some (l.any p) := by
  have h : loop (t1 (Zv l f)) 0 = some (XG Sum.inl (Sum.inr ()) (ZL (fun k x => if p x = true then some (k : Int) else none) 0 l)) := by
    refine Z4 (xs := l) (body := Zv l f) _ _ _ (fun k x hx => ?_) (by simp [Zv])
    have hlt := Q6 hx
    have e1 : i64 ((k : Int) + 1) = (k : Int) + 1 := ZdI (n := l.length) (by omega) hl
    simp only [Zv, hlt, decide_true, if_true, ZX hx, Option.bind_some, e1, hf]
    cases p x <;> rfl
  unfold Zp ZG
  rw [h]
  rcases Zeu (p := p) 0 l with ⟨h1, h2⟩ | ⟨m, h1, h2⟩
  · rw [h1, h2]; simp
  · rw [h1, h2]; simp
def Zio (xs : List api_Instrument) (k : Nat) (x : api_Instrument) : Option Int :=
  if JV x ≠ 0 then some (JV x) else if (xs.take k).any (fun z => decide (z.Name = x.Name)) = true then some 5 else none
def Zcq (p : api_Panel) : Int := if 100 < (p.Instruments.length : Int) then 3 else XG id 0 (ZL (Zio p.Instruments) 0 p.Instruments)
theorem Zi6 (p : api_Panel) : JH p = some (Zcq p) := by
  unfold JH Zcq
  by_cases h50 : 100 < (p.Instruments.length : Int)
  · simp [h50]
  · have h : loop (t1 (XN p)) 0 = some (XG Sum.inl (Sum.inr ()) (ZL (Zio p.Instruments) 0 p.Instruments)) := by
      refine Z4 (xs := p.Instruments) (body := XN p) _ _ _ (fun k x hx => ?_) (by simp [XN])
      have hlt := Q6 hx
      have e1 : i64 ((k : Int) + 1) = (k : Int) + 1 := ZdI (n := p.Instruments.length) (by omega) (by omega)
      have hc : Zp (p.Instruments.take k) (fun z0 => ZaQ z0 x) = some ((p.Instruments.take k).any fun z => decide (z.Name = x.Name)) :=
        Zlw (by rw [List.length_take]; omega) (fun _ => rfl)
      simp only [XN, hlt, decide_true, if_true, ZX hx, Option.bind_some, e1, Znn, Zna (show k ≤ p.Instruments.length by omega), hc, Zio]
      by_cases h0 : JV x = 0
      · cases (p.Instruments.take k).any (fun z => decide (z.Name = x.Name)) <;> simp [h0]
      · simp [h0]
    simp only [h50, decide_false, Bool.false_eq_true, if_false, h]
    cases ZL (Zio p.Instruments) 0 p.Instruments <;> simp
theorem Zpi {l : List api_Instrument} {x : api_Instrument} (hl : l.length ≤ 100) : loop (t1 (JP x l)) 0 = some (if l.any (fun z => decide (z.Name = x.Name)) = true then .inl 5 else .inr ()) := by
  have h : loop (t1 (JP x l)) 0 = some (XG (fun _ => Sum.inl 5) (Sum.inr ()) (ZL (fun _ z => if decide (z.Name = x.Name) = true then some () else none) 0 l)) := by
    refine Z4 (xs := l) (body := JP x l) _ _ _ (fun k z hz => ?_) (by simp [JP])
    have hlt := Q6 hz
    have e1 : i64 ((k : Int) + 1) = (k : Int) + 1 := ZO (by omega) (by omega)
    simp only [JP, hlt, decide_true, if_true, ZX hz, Option.bind_some, e1]
    by_cases hn : z.Name = x.Name <;> simp [hn]
  rw [h, ZeJ]
  cases l.any (fun z => decide (z.Name = x.Name)) <;> rfl
theorem Zht (p : api_Panel) (hw : ∀ x ∈ p.Instruments, Zia x) : ZbK p = some (Zcq p) := by
  unfold ZbK Zcq
  by_cases h50 : 100 < (p.Instruments.length : Int)
  · simp [h50]
  · have h : loop (t1 (ZaU p)) 0 = some (XG Sum.inl (Sum.inr ()) (ZL (Zio p.Instruments) 0 p.Instruments)) := by
      refine Z4 (xs := p.Instruments) (body := ZaU p) _ _ _ (fun k x hx => ?_) (by simp [ZaU])
      have hlt := Q6 hx
      have e1 : i64 ((k : Int) + 1) = (k : Int) + 1 := ZdI (n := p.Instruments.length) (by omega) (by omega)
      simp only [ZaU, hlt, decide_true, if_true, ZX hx, Option.bind_some, e1, Znb x (hw x (List.mem_of_getElem? hx)), Zna (show k ≤ p.Instruments.length by omega), Zpi (x := x) (l := p.Instruments.take k) (by rw [List.length_take]; omega), Zio]
      by_cases h0 : JV x = 0
      · cases (p.Instruments.take k).any (fun z => decide (z.Name = x.Name)) <;> simp [h0]
      · simp [h0]
    simp only [h50, decide_false, Bool.false_eq_true, if_false, h]
    cases ZL (Zio p.Instruments) 0 p.Instruments <;> simp
theorem ZdN {p : api_Panel} (h : Zcq p = 0) : p.Instruments.length ≤ 100 := by
  unfold Zcq at h
  split at h
  · cases h
  · omega
end Go.Vx

namespace Go.Vx
open Go Go.RowKit
def vV (t : api_Track) (f : Int) : api_Sample × Bool := ((Zf9 (Zb2 t.Series.Samples (64 * f + 63) t.Long)).1, (Zf9 (Zb2 t.Series.Samples (64 * f + 63) t.Long)).2)
theorem Zmr {t : api_Track} (hc : (chk t.Series).2 = 0) (hl : wi t.Long 0 1099511627776 = true) {frame : Int} (f1 : 0 ≤ frame) (f2 : frame ≤ 4194303) : JB t frame = some (vV t frame) ∧ Zay t frame = some (vV t frame) := by
  have e1 : i64 (64 * frame) = 64 * frame := ZO (by omega) (by omega)
  have e2 : i64 (64 * frame + 64) = 64 * frame + 64 := ZO (by omega) (by omega)
  have e3 : i64 (64 * frame + 64 - 1) = 64 * frame + 63 := by rw [show 64 * frame + 64 - 1 = 64 * frame + 63 by omega]; exact ZO (by omega) (by omega)
  have e4 : i64 (64 * frame + 63) = 64 * frame + 63 := ZO (by omega) (by omega)
  have ht : (0 : Int) ≤ 64 * frame + 63 ∧ 64 * frame + 63 ≤ 1099511627776 := by omega
  constructor
  · unfold JB ZbQ
    rw [e1, e2, e3, Zn8 (ZiV hc) _ _ ht]; rfl
  · unfold Zay
    rw [e1, e4, ZnJ]
    have hwi : wi (64 * frame + 63) 0 1099511627776 = true := Jp.2 ht
    simp [Zj8, hc, hwi, hl, vV]
theorem ZjN {α : Type} {p : α → Bool} : ∀ (k : Nat) (xs : List α), (ZL (fun j x => if p x = true then some (j : Int) else none) k xs = none ∧ ZL (fun _ x => if p x = true then some x else none) k xs = none) ∨
    (∃ (m : Nat) (x : α), ZL (fun j x => if p x = true then some (j : Int) else none) k xs = some ((k + m : Nat) : Int) ∧ ZL (fun _ x => if p x = true then some x else none) k xs = some x ∧ xs[m]? = some x)
  | _, [] => .inl ⟨rfl, rfl⟩
  | k, x :: tl => by
    have ih := ZjN (p := p) (k + 1) tl
    simp only [ZL]
    by_cases hp : p x = true
    · exact .inr ⟨0, x, by simp [hp], by simp [hp], rfl⟩
    · have hp' : p x = false := by simpa using hp
      simp only [hp', Bool.false_eq_true, if_false]
      rcases ih with h | ⟨m, y, h1, h2, h3⟩
      · exact .inl h
      · exact .inr ⟨m + 1, y, by rw [h1]; congr 2; omega, h2, by simpa using h3⟩
def tkI (l : List api_Track) (nm : Str) : Option Int := ZL (fun j x => if decide (x.Name = nm) = true then some (j : Int) else none) 0 l
def tkT (l : List api_Track) (nm : Str) : Option api_Track := ZL (fun _ x => if decide (x.Name = nm) = true then some x else none) 0 l
theorem Zln (l : List api_Track) (nm : Str) : (tkI l nm = none ∧ tkT l nm = none) ∨ (∃ (m : Nat) (x : api_Track), tkI l nm = some (m : Int) ∧ tkT l nm = some x ∧ l[m]? = some x) := by
  rcases ZjN (p := fun x : api_Track => decide (x.Name = nm)) 0 l with h | ⟨m, x, h1, h2, h3⟩
  · exact .inl h
  · exact .inr ⟨m, x, by rw [Nat.zero_add] at h1; exact h1, h2, h3⟩
theorem Zhw {l : List api_Track} (hl : l.length ≤ 50) (i : api_Instrument) : QI l i = some (XG id (-1) (tkI l i.Track)) := by
  have h : loop (t1 (Zs l (fun z0 => X3 z0 i))) 0 = some (XG Sum.inl (Sum.inr ()) (tkI l i.Track)) := by
    refine Z4 (xs := l) (body := Zs l _) _ _ _ (fun k x hx => ?_) (by simp [Zs])
    have hlt := Q6 hx
    have e1 : i64 ((k : Int) + 1) = (k : Int) + 1 := ZdI (n := l.length) (by omega) (by omega)
    simp only [Zs, hlt, decide_true, if_true, ZX hx, Option.bind_some, e1, X3]
    cases decide (x.Name = i.Track) <;> rfl
  unfold QI ZH
  rw [h]
  cases tkI l i.Track <;> rfl
theorem Zi9 {l : List api_Track} (hl : l.length ≤ 50) (nm : Str) : JO l nm = some (XG (fun x => (x, true)) (api_Track.mk [] (api_Series.mk 0 []) 0, false) (tkT l nm)) := by
  have h : loop (t1 (ZaN l nm)) 0 = some (XG (fun x => Sum.inl (x, true)) (Sum.inr ()) (tkT l nm)) := by
    refine Z4 (xs := l) (body := ZaN l nm) _ _ _ (fun k x hx => ?_) (by simp [ZaN])
    have hlt := Q6 hx
    have e1 : i64 ((k : Int) + 1) = (k : Int) + 1 := ZdI (n := l.length) (by omega) (by omega)
    simp only [ZaN, hlt, decide_true, if_true, ZX hx, Option.bind_some, e1]
    cases decide (x.Name = nm) <;> rfl
  unfold JO
  rw [h]
  cases tkT l nm <;> rfl
theorem Zhb {l : List api_Track} (h : ckT l = 0) : l.length ≤ 50 := by
  unfold ckT at h
  split at h
  · cases h
  · omega
def Zko (l : List api_Track) (i : api_Instrument) : Bool := (tkT l i.Track).isNone
def Zbv (p : api_Panel) (l : List api_Track) : Int := if Zcq p ≠ 0 then Zcq p else if ckT l ≠ 0 then ckT l else if p.Instruments.any (Zko l) = true then 4 else 0
theorem ZlR (p : api_Panel) (l : List api_Track) : QU p l = some (Zbv p l) := by
  unfold QU Zbv
  rw [Zi6, Zlp]
  simp only [Option.bind_some]
  by_cases h0 : Zcq p = 0
  · by_cases h1 : ckT l = 0
    · have hl := Zhb h1
      have hp := ZdN h0
      have hc : Zp p.Instruments (fun z0 => Xd z0 l) = some (p.Instruments.any (Zko l)) := by
        refine Zlw (by omega) fun x => ?_
        unfold Xd
        rw [Zhw hl, Option.bind_some]
        unfold Zko
        rcases Zln l x.Track with ⟨a, b⟩ | ⟨m, y, a, b, _⟩
        · rw [a, b]; rfl
        · rw [a, b]
          have : decide (((m : Nat) : Int) < 0) = false := decide_eq_false (by omega)
          show some (decide (((m : Nat) : Int) < 0)) = _
          rw [this]; rfl
      rw [hc]
      cases p.Instruments.any (Zko l) <;> simp [h0, h1]
    · simp [h0, h1]
  · simp [h0]
theorem ZlQ (p : api_Panel) (l : List api_Track) (hw : ∀ x ∈ p.Instruments, Zia x) (hs : ∀ x ∈ l, wfS x.Name) : Zcr p l = some (Zbv p l) := by
  unfold Zcr Zbv
  rw [Zht p hw, Zlk l hs]
  simp only [Option.bind_some]
  by_cases h0 : Zcq p = 0
  · by_cases h1 : ckT l = 0
    · have hl := Zhb h1
      have hp := ZdN h0
      have h : loop (t1 (ZaR p l)) 0 = some (XG Sum.inl (Sum.inr ()) (ZL (fun _ x => if Zko l x = true then some 4 else none) 0 p.Instruments)) := by
        refine Z4 (xs := p.Instruments) (body := ZaR p l) _ _ _ (fun k x hx => ?_) (by simp [ZaR])
        have hlt := Q6 hx
        have e1 : i64 ((k : Int) + 1) = (k : Int) + 1 := ZdI (n := p.Instruments.length) (by omega) (by omega)
        simp only [ZaR, hlt, decide_true, if_true, ZX hx, Option.bind_some, e1, Zi9 hl, Zko]
        rcases Zln l x.Track with ⟨_, b⟩ | ⟨m, t, _, b, _⟩ <;> simp [b]
      rw [h, ZeJ]
      cases p.Instruments.any (Zko l) <;> simp [h0, h1]
    · simp [h0, h1]
  · simp [h0]
end Go.Vx

namespace Go.Vx
open Go Go.RowKit
theorem ZkQ {α : Type} {l : List α} (h : l.length ≤ 4294967296) : ZaG l = some l := by unfold ZaG; rw [Zeq (by simpa using h)]; rfl
def shk (l : List Int) (k : Nat) : List Int := (l.drop 1).take k ++ l.drop k
theorem ZlC {l : List Int} {k : Nat} (h : k + 1 ≤ l.length) : (shk l k).length = l.length := by
  unfold shk
  rw [List.length_append, List.length_take, List.length_drop, List.length_drop]; omega
theorem ZlL {l : List Int} {k j : Nat} (h : k + 1 ≤ l.length) (hj : k ≤ j) : (shk l k)[j]? = l[j]? := by
  unfold shk
  have e : ((l.drop 1).take k).length = k := by rw [List.length_take, List.length_drop]; omega
  rw [List.getElem?_append_right (by omega), e, List.getElem?_drop]
  congr 1; omega
theorem ZnF {l : List Int} {k : Nat} {x : Int} (h : k + 2 ≤ l.length) (hx : l[k + 1]? = some x) : (shk l k).set k x = shk l (k + 1) := by
  unfold shk
  have e : ((l.drop 1).take k).length = k := by rw [List.length_take, List.length_drop]; omega
  rw [List.set_append_right _ _ (by omega), e, Nat.sub_self]
  have h1 : k < l.length := by omega
  rw [List.drop_eq_getElem_cons h1, List.set_cons_zero]
  have h2 : (l.drop 1)[k]? = some x := by rw [List.getElem?_drop, Nat.add_comm]; exact hx
  rw [List.take_add_one, h2]
  simp
theorem Zlg {l : List Int} (h0 : 1 ≤ l.length) (hl : l.length ≤ 1000) : loop (t2 Q1) (l, 0) = some (shk l (l.length - 1)) := by
  refine ZeU (body := t2 Q1) (fun p => ∃ k : Nat, p = (shk l k, (k : Int)) ∧ k + 1 ≤ l.length) (fun p => l.length - p.2.toNat) (fun _ => shk l (l.length - 1)) ?_ (l, 0) ⟨0, by simp [shk], h0⟩
  rintro ⟨o, i⟩ ⟨k, he, hk⟩
  obtain ⟨rfl, rfl⟩ := Prod.mk.inj he
  simp only [ZhW]
  have hlen := ZlC hk
  have e2 : i64 ((k : Int) + 2) = (k : Int) + 2 := ZO (by omega) (by omega)
  have e1 : i64 ((k : Int) + 1) = (k : Int) + 1 := ZO (by omega) (by omega)
  by_cases h : k + 2 ≤ l.length
  · obtain ⟨x, hx⟩ := X1 (xs := l) (k := k + 1) (by omega)
    obtain ⟨y, hy⟩ := X1 (xs := l) (k := k) (by omega)
    have hlt : decide ((k : Int) + 2 ≤ ((shk l k).length : Int)) = true := decide_eq_true (by rw [hlen]; omega)
    have hs : slp (shk l k) (k : Int) ((k : Int) + 2) = some () := by
      unfold slp
      have a : decide ((0 : Int) ≤ k) = true := decide_eq_true (by omega)
      have b : decide ((k : Int) < (k : Int) + 2) = true := decide_eq_true (by omega)
      rw [a, b, hlt]; rfl
    have hc : ck (decide (2 ≤ Int.toNat ((k : Int) + 2 - (k : Int)))) = some () := by
      have : Int.toNat ((k : Int) + 2 - (k : Int)) = 2 := by omega
      rw [this]; rfl
    have ix1 : idx (shk l k) ((k : Int) + 1) = some x := by
      have := ZX (xs := shk l k) (k := k + 1) (x := x) (by rw [ZlL hk (by omega)]; exact hx)
      exact this
    have ix0 : idx (shk l k) ((k : Int) + 0) = some y := by
      rw [Int.add_zero]; exact ZX (by rw [ZlL hk (Nat.le_refl _)]; exact hy)
    have hst : (shk l k).set (((k : Int) + 0).toNat) x = shk l (k + 1) := by
      rw [Int.add_zero, Int.toNat_natCast]; exact ZnF h hx
    left
    refine ⟨(shk l (k + 1), (k : Int) + 1), ?_, ⟨k + 1, rfl, by omega⟩, ?_, trivial⟩
    · simp only [Q1, e2, hlt, if_true, hs, Option.bind_some, hc, ix1, ix0, hst, e1]
      rfl
    · simp only; omega
  · right
    have hlt : decide ((k : Int) + 2 ≤ ((shk l k).length : Int)) = false := decide_eq_false (by rw [hlen]; omega)
    obtain rfl : k = l.length - 1 := by omega
    simp only [Q1, e2, hlt, Bool.false_eq_true, if_false]
def shV (tape : List Int) (size n : Int) : List Int := if ((tape.length + 1 : Nat) : Int) ≤ size then tape ++ [n] else (tape ++ [n]).drop 1
theorem Zl1 {tape : List Int} (ht : tape.length ≤ 100) (size n : Int) : JS tape size n = some (shV tape size n) := by
  unfold JS shV
  have hl : (tape ++ [n]).length = tape.length + 1 := by simp
  rw [ZkQ (by omega), Option.bind_some, Zeq (by simp; omega), Option.bind_some, hl]
  by_cases h : ((tape.length + 1 : Nat) : Int) ≤ size
  · simp only [h, decide_true, if_true]
  · simp only [h, decide_false, Bool.false_eq_true, if_false]
    rw [Zlg (by omega) (by omega), hl, Nat.add_sub_cancel]
    have hk := ZlC (l := tape ++ [n]) (k := tape.length) (by omega)
    simp only [Option.bind_some, JU, hk, hl]
    have e : i64 (((tape.length + 1 : Nat) : Int) - 1) = (tape.length : Int) := by
      rw [show (((tape.length + 1 : Nat) : Int) - 1) = (tape.length : Int) by omega]; exact ZO (by omega) (by omega)
    rw [e, Zna (by omega), Option.bind_some]
    congr 1
    unfold shk
    have e2 : ((tape ++ [n]).drop 1).length = tape.length := by rw [List.length_drop]; omega
    rw [List.take_append, List.length_take, e2, Nat.min_self, Nat.sub_self, List.take_zero, List.append_nil, List.take_take, Nat.min_self]
    exact List.take_of_length_le (by omega)
end Go.Vx

namespace Go.Vx
open Go Go.RowKit
def ZhU (op a b : Int) : Bool := if op = 1 then decide (a < b) else if op = 2 then decide (a ≤ b) else if op = 3 then decide (a = b) else if op = 4 then !decide (a = b) else if op = 5 then decide (b ≤ a) else decide (b < a)
theorem ZkW (op a b : Int) : Zah op a b = some (ZhU op a b) := by
  unfold Zah ZhU
  by_cases h1 : op = 1
  · simp [h1]
  · by_cases h2 : op = 2
    · simp [h2]
    · by_cases h3 : op = 3
      · simp [h3]
      · by_cases h4 : op = 4
        · simp [h4]
        · by_cases h5 : op = 5
          · simp [h5]
          · simp [h1, h2, h3, h4, h5]
def isV (i : api_Instrument) (n : Int) (known : Bool) : Bool := (known && (decide (i.Kind = 3) || decide (i.Kind = 5))) && ZhU i.Op n i.N
def ZjG (i : api_Instrument) (m : api_Memo) (n : Int) (known : Bool) : api_Memo :=
  if i.Kind = 3 then api_Memo.mk (isV i n known || (i.Latch && m.Lit)) m.Some m.N m.Count m.Tape
  else if i.Kind = 5 then (if (isV i n known && !m.Lit) = true then api_Memo.mk (isV i n known) m.Some m.N (i64 (m.Count + 1)) m.Tape else api_Memo.mk (isV i n known) m.Some m.N m.Count m.Tape)
  else if (decide (i.Kind = 4) && known) = true then api_Memo.mk m.Lit true (if m.Some = true then max n m.N else n) m.Count m.Tape
  else if (decide (i.Kind = 6) && known) = true then api_Memo.mk m.Lit m.Some m.N m.Count (shV m.Tape i.Size n) else m
theorem Zoh (i : api_Instrument) (m : api_Memo) (n : Int) (known : Bool) (ht : m.Tape.length ≤ 100) : QW i m n known = some (ZjG i m n known) := by
  unfold QW ZjG
  rw [ZkW, Zlt, Zl1 ht]
  simp only [Option.bind_some]
  have e : ((known && (decide (i.Kind = 3) || decide (i.Kind = 5))) && ((known && (decide (i.Kind = 3) || decide (i.Kind = 5))) == true && ZhU i.Op n i.N)) = isV i n known := by
    unfold isV
    cases (known && (decide (i.Kind = 3) || decide (i.Kind = 5))) <;> simp
  simp only [e]
  by_cases h3 : i.Kind = 3
  · simp [h3]
  · by_cases h5 : i.Kind = 5
    · simp only [h5, decide_true, if_true]
      cases isV i n known <;> cases m.Lit <;> simp
    · by_cases h4 : i.Kind = 4
      · cases known <;> cases m.Some <;> simp [h4]
      · by_cases h6 : i.Kind = 6
        · cases known <;> simp [h6]
        · simp [h3, h4, h5, h6]
def Zkf (i : api_Instrument) (m : api_Memo) : Bool :=
  ((((m.Lit && (!((decide (i.Kind = 3)) || (decide (i.Kind = 5))))) || ((m.Some || (!decide (m.N = 0))) && (!(decide (i.Kind = 4))))) || ((!decide (m.Count = 0)) && (!(decide (i.Kind = 5))))) || ((decide (0 < (m.Tape.length : Int))) && (!(decide (i.Kind = 6))))) || ((!decide (m.N = 0)) && (!m.Some))
def Zgj (i : api_Instrument) (m : api_Memo) : Int :=
  if Zkf i m = true then 2 else if (!wi m.Count 0 20000 || !nb50 m.N) = true then 9 else if i.Size < (m.Tape.length : Int) then 3 else if m.Tape.any (fun z => !nb50 z) = true then 9 else 0
theorem ZoX {l : List Int} (hl : l.length ≤ 9223372036854775807) {f : Int → Option Bool} {p : Int → Bool} (hf : ∀ x, f x = some (p x)) : Qj l f = some (l.any p) := by
  have h : loop (t1 (Qi l f)) 0 = some (XG Sum.inl (Sum.inr ()) (ZL (fun k x => if p x = true then some (k : Int) else none) 0 l)) := by
    refine Z4 (xs := l) (body := Qi l f) _ _ _ (fun k x hx => ?_) (by simp [Qi])
    have hlt := Q6 hx
    have e1 : i64 ((k : Int) + 1) = (k : Int) + 1 := ZdI (n := l.length) (by omega) hl
    simp only [Qi, hlt, decide_true, if_true, ZX hx, Option.bind_some, e1, hf]
    cases p x <;> rfl
  unfold Qj XD
  rw [h]
  rcases Zeu (p := p) 0 l with ⟨h1, h2⟩ | ⟨m, h1, h2⟩
  · rw [h1, h2]; simp
  · rw [h1, h2]; simp
theorem Zoi (i : api_Instrument) (m : api_Memo) (ht : m.Tape.length ≤ 9223372036854775807) : ZaL i m = some (Zgj i m) := by
  unfold ZaL Zgj
  have e0 : ZV m.Count 0 20000 = some (wi m.Count 0 20000) := rfl
  have e1 : QL m.N = some (nb50 m.N) := rfl
  have ec : Qj m.Tape (fun z0 => Za0 z0) = some (m.Tape.any fun z => !nb50 z) := ZoX ht (fun _ => rfl)
  rw [e0, e1, ec]
  show (if Zkf i m = true then _ else _) = _
  cases Zkf i m with
  | true => simp
  | false => cases wi m.Count 0 20000 with
    | false => simp
    | true => cases nb50 m.N with
      | false => simp
      | true =>
        by_cases h : i.Size < (m.Tape.length : Int)
        · simp [h]
        · cases m.Tape.any (fun z => !nb50 z) <;> simp [h]
structure MemoOK (i : api_Instrument) (m : api_Memo) : Prop where
  lit : m.Lit = true → i.Kind = 3 ∨ i.Kind = 5
  some : m.Some = true → i.Kind = 4
  num : m.N ≠ 0 → i.Kind = 4 ∧ m.Some = true
  cnt : m.Count ≠ 0 → i.Kind = 5
  tape : 0 < m.Tape.length → i.Kind = 6
  cr : 0 ≤ m.Count ∧ m.Count ≤ 20000
  nr : nb50 m.N = true
  len : (m.Tape.length : Int) ≤ i.Size
  all : ∀ z ∈ m.Tape, nb50 z = true
theorem ZlD {i : api_Instrument} {m : api_Memo} : Zgj i m = 0 ↔ MemoOK i m := by
  unfold Zgj
  constructor
  · intro h
    split at h
    · cases h
    rename_i hb
    split at h
    · cases h
    rename_i hc
    split at h
    · cases h
    rename_i hl
    split at h
    · cases h
    rename_i ha
    simp only [Zkf, Bool.or_eq_true, Bool.and_eq_true, Bool.not_eq_true', Bool.or_eq_false_iff, decide_eq_true_eq, decide_eq_false_iff_not, not_or, not_and, Classical.not_not, Bool.not_eq_false] at hb hc ha
    obtain ⟨⟨⟨⟨b1, b2⟩, b3⟩, b4⟩, b5⟩ := hb
    obtain ⟨c1, c2⟩ := hc
    refine ⟨fun h => ?_, fun h => b2 (.inl h), fun h => ⟨b2 (.inr h), b5 h⟩, fun h => b3 h, fun h => b4 (by omega), Jp.1 c1, c2, by omega, fun z hz => ?_⟩
    · have := b1 h
      by_cases h3 : i.Kind = 3
      · exact .inl h3
      · exact .inr (this h3)
    · have := ha
      simp only [List.any_eq_true, not_exists, not_and, Bool.not_eq_true', Bool.not_eq_false] at this
      exact this z hz
  · intro h
    have hb : Zkf i m = false := by
      simp only [Zkf, Bool.or_eq_false_iff, Bool.and_eq_false_iff, Bool.not_eq_false', Bool.or_eq_true, decide_eq_true_eq, decide_eq_false_iff_not]
      refine ⟨⟨⟨⟨?_, ?_⟩, ?_⟩, ?_⟩, ?_⟩
      · cases hl : m.Lit with
        | false => exact .inl rfl
        | true => exact .inr (h.lit hl)
      · by_cases h4 : i.Kind = 4
        · exact .inr h4
        · left
          constructor
          · cases hs : m.Some with
            | false => rfl
            | true => exact absurd (h.some hs) h4
          · by_cases hn : m.N = 0
            · exact hn
            · exact absurd (h.num hn).1 h4
      · by_cases hc : m.Count = 0
        · exact .inl hc
        · exact .inr (h.cnt hc)
      · by_cases ht : 0 < m.Tape.length
        · exact .inr (h.tape ht)
        · left; omega
      · by_cases hn : m.N = 0
        · exact .inl hn
        · exact .inr (h.num hn).2
    have hc : (!wi m.Count 0 20000 || !nb50 m.N) = false := by rw [Jp.2 h.cr, h.nr]; rfl
    have ha : m.Tape.any (fun z => !nb50 z) = false := by
      rw [List.any_eq_false]; intro z hz; rw [h.all z hz]; simp
    have hl := h.len
    rw [if_neg (by rw [hb]; simp), if_neg (by rw [hc]; simp), if_neg (by omega), if_neg (by rw [ha]; simp)]
end Go.Vx

namespace Go.Vx
open Go Go.RowKit
def stG (p : api_Panel) (k : Nat) (m : api_Memo) : Option Int := match p.Instruments[k]? with | some i => if Zgj i m ≠ 0 then some (Zgj i m) else none | none => none
def stateV (p : api_Panel) (s : api_PanelState) : Int :=
  if wi s.Frame (-1) 19999 = false then 9 else if ¬ (s.Memos.length : Int) = (p.Instruments.length : Int) then 2 else XG id 0 (ZL (stG p) 0 s.Memos)
theorem Zks (p : api_Panel) (s : api_PanelState) (hl : s.Memos.length ≤ 9223372036854775807) (ht : ∀ m ∈ s.Memos, m.Tape.length ≤ 9223372036854775807) : Xu p s = some (stateV p s) := by
  unfold Xu stateV
  have e0 : ZV s.Frame (-1) 19999 = some (wi s.Frame (-1) 19999) := rfl
  rw [e0]
  simp only [Option.bind_some]
  cases wi s.Frame (-1) 19999 with
  | false => simp
  | true =>
    by_cases hn : (s.Memos.length : Int) = (p.Instruments.length : Int)
    · have h : loop (t1 (Xi p s)) 0 = some (XG Sum.inl (Sum.inr ()) (ZL (stG p) 0 s.Memos)) := by
        refine Z4 (xs := s.Memos) (body := Xi p s) _ _ _ (fun k x hx => ?_) (by simp [Xi])
        have hlt := Q6 hx
        have e1 : i64 ((k : Int) + 1) = (k : Int) + 1 := ZdI (n := s.Memos.length) (by omega) hl
        obtain ⟨i, hi⟩ := X1 (xs := p.Instruments) (k := k) (by omega)
        simp only [Xi, hlt, decide_true, if_true, ZX hx, ZX hi, Option.bind_some, e1, Zoi i x (ht x (List.mem_of_getElem? hx)), stG, hi]
        by_cases h0 : Zgj i x = 0 <;> simp [h0]
      simp only [hn, decide_true, Bool.not_true, Bool.false_eq_true, if_false, h, not_true]
      cases ZL (stG p) 0 s.Memos <;> simp
    · simp [hn]
theorem Zgm {α ε : Type} {g : Nat → α → Option ε} : ∀ (k : Nat) (xs : List α), (∀ (j : Nat) x, xs[j]? = some x → g (k + j) x = none) → ZL g k xs = none
  | _, [], _ => rfl
  | k, x :: tl, h => by
    simp only [ZL]
    have h0 := h 0 x rfl
    rw [Nat.add_zero] at h0
    rw [h0]
    exact Zgm (k + 1) tl fun j y hy => by
      have := h (j + 1) y (by simpa using hy)
      rwa [show k + (j + 1) = k + 1 + j by omega] at this
theorem ZfU {p : api_Panel} {s : api_PanelState} : stateV p s = 0 ↔ ((-1 ≤ s.Frame ∧ s.Frame ≤ 19999) ∧ s.Memos.length = p.Instruments.length ∧ ∀ (k : Nat) i m, p.Instruments[k]? = some i → s.Memos[k]? = some m → MemoOK i m) := by
  unfold stateV
  constructor
  · intro h
    split at h
    · cases h
    rename_i hf
    split at h
    · cases h
    rename_i hl
    have hl' : s.Memos.length = p.Instruments.length := by omega
    refine ⟨Jp.1 (by simpa using hf), hl', fun k i m hi hm => ?_⟩
    have hnone : ZL (stG p) 0 s.Memos = none := by
      cases hh : ZL (stG p) 0 s.Memos with
      | none => rfl
      | some e =>
        exfalso
        rw [hh] at h
        have he : e = 0 := h
        subst he
        have key : ∀ (k : Nat) (xs : List api_Memo), ZL (stG p) k xs ≠ some 0 := by
          intro k xs
          induction xs generalizing k with
          | nil => intro e; cases e
          | cons x tl ih =>
            intro e
            simp only [ZL] at e
            cases hg : stG p k x with
            | none => rw [hg] at e; exact ih _ e
            | some v =>
              rw [hg] at e
              cases e
              unfold stG at hg
              split at hg
              · split at hg
                · rename_i h0; exact h0 (Option.some.inj hg)
                · cases hg
              · cases hg
        exact key 0 _ hh
    have := Zfb 0 s.Memos hnone k m hm
    rw [Nat.zero_add] at this
    unfold stG at this
    rw [hi] at this
    simp only at this
    split at this
    · cases this
    · rename_i h0; exact ZlD.1 (by omega)
  · rintro ⟨hf, hl, h⟩
    rw [if_neg (by rw [Jp.2 hf]; simp), if_neg (by omega)]
    rw [Zgm 0 s.Memos fun j m hm => ?_]
    · rfl
    · rw [Nat.zero_add]
      obtain ⟨i, hi⟩ := X1 (xs := p.Instruments) (k := j) (by have := (List.getElem?_eq_some_iff.1 hm).1; omega)
      unfold stG
      rw [hi]
      simp only
      rw [if_neg (by simp [ZlD.2 (h j i m hi hm)])]
theorem Zct {p : api_Panel} (h : Zcq p = 0) {i : api_Instrument} (hi : i ∈ p.Instruments) : JV i = 0 := by
  unfold Zcq at h
  split at h
  · cases h
  · obtain ⟨j, hj⟩ := List.mem_iff_getElem?.1 hi
    cases hf : ZL (Zio p.Instruments) 0 p.Instruments with
    | none =>
      have := Zfb 0 _ hf j i hj
      unfold Zio at this
      split at this
      · cases this
      · rename_i h0; omega
    | some e =>
      rw [hf] at h
      have he : e = 0 := h
      subst he
      exfalso
      have key : ∀ (k : Nat) (xs : List api_Instrument), ZL (Zio p.Instruments) k xs ≠ some 0 := by
        intro k xs
        induction xs generalizing k with
        | nil => intro e; cases e
        | cons x tl ih =>
          intro e
          simp only [ZL] at e
          cases hg : Zio p.Instruments k x with
          | none => rw [hg] at e; exact ih _ e
          | some v =>
            rw [hg] at e
            cases e
            unfold Zio at hg
            split at hg
            · rename_i h0; exact h0 (Option.some.inj hg)
            · split at hg <;> cases hg
      exact key 0 _ hf
theorem Zl4 {i : api_Instrument} (h : JV i = 0) : (i.Kind = 6 → 1 ≤ i.Size) ∧ i.Size ≤ 50 := by
  unfold JV at h
  split at h
  · cases h
  split at h
  · cases h
  split at h
  · cases h
  rename_i hu
  split at h
  · cases h
  by_cases h6 : i.Kind = 6
  · rw [if_neg (by omega), if_neg (by omega), if_pos h6] at h
    split at h
    · cases h
    · rename_i hs
      have := Jp.1 (show wi i.Size 1 50 = true by simpa using hs)
      exact ⟨fun _ => this.1, this.2⟩
  · refine ⟨fun e => absurd e h6, ?_⟩
    have : i.Size = 0 := by
      have hu : unV i = false := by simpa using hu
      unfold unV at hu
      simp only [Bool.or_eq_false_iff] at hu
      have h1 := hu.2
      simp only [h6, decide_false, Bool.not_false, Bool.and_true, Bool.not_eq_false', decide_eq_true_eq] at h1
      exact h1
    omega
end Go.Vx

namespace Go.Vx
open Go Go.RowKit
theorem ZnC {xs : List Smp} {t long : Int} {x : Smp} (h : Zb2 xs t long = some x) : ∃ k : Nat, xs[k]? = some x := by
  simp only [Zb2, Option.bind_eq_some_iff] at h
  obtain ⟨y, h1, h2⟩ := h
  split at h2
  · cases h2
    unfold ZhV at h1
    split at h1
    · cases h1
    · exact ⟨_, h1⟩
  · cases h2
theorem Zmq {t : api_Track} (hc : (chk t.Series).2 = 0) (f : Int) : nb50 (vV t f).1.N = true := by
  have hs := ZiV hc
  unfold vV
  cases hh : Zb2 t.Series.Samples (64 * f + 63) t.Long with
  | none => simp only [Zf9]; decide
  | some x =>
    obtain ⟨k, hk⟩ := ZnC hh
    exact Jp.2 (hs.at' k x hk).2.1
def nxt (p : api_Panel) (l : List api_Track) (s : api_PanelState) (k : Nat) : api_Memo :=
  match p.Instruments[k]?, s.Memos[k]? with
  | some i, some m => match tkT l i.Track with
    | some t => ZjG i m (vV t (s.Frame + 1)).1.N (vV t (s.Frame + 1)).2
    | none => m
  | _, _ => api_Memo.mk false false 0 0 []
theorem ZeF {p : api_Panel} {l : List api_Track} (h : Zbv p l = 0) : Zcq p = 0 ∧ ckT l = 0 ∧ ∀ i ∈ p.Instruments, ∃ (m : Nat) (t : api_Track), tkI l i.Track = some (m : Int) ∧ tkT l i.Track = some t ∧ l[m]? = some t := by
  unfold Zbv at h
  split at h
  · rename_i h'; exact absurd h h'
  rename_i h1
  split at h
  · rename_i h'; exact absurd h h'
  rename_i h2
  split at h
  · cases h
  rename_i h3
  refine ⟨by omega, by omega, fun i hi => ?_⟩
  have h3 : p.Instruments.any (Zko l) = false := by simpa using h3
  rw [List.any_eq_false] at h3
  have hno := h3 i hi
  rcases Zln l i.Track with ⟨_, b⟩ | h
  · exact absurd (by unfold Zko; rw [b]; rfl) hno
  · exact h
theorem ZeG {i : api_Instrument} {m : api_Memo} (hm : MemoOK i m) (hi : JV i = 0) : m.Tape.length ≤ 100 := by
  have := hm.len; have := (Zl4 hi).2; omega
theorem Zl3 {p : api_Panel} {l : List api_Track} {s : api_PanelState} (hb : Zbv p l = 0) (hs : stateV p s = 0) (hf : s.Frame ≠ 19999) :
    Q8 p l s = some (api_PanelState.mk (s.Frame + 1) ((List.range p.Instruments.length).map (nxt p l s))) := by
  obtain ⟨b1, b2, b3⟩ := ZeF hb
  obtain ⟨s1, s2, s3⟩ := ZfU.1 hs
  have hp := ZdN b1
  have hl := Zhb b2
  have e0 : i64 (s.Frame + 1) = s.Frame + 1 := ZO (by omega) (by omega)
  have h : loop (t2 (QK p l s)) ([], 0) = some ((List.range p.Instruments.length).map (nxt p l s)) := by
    refine ZcR (xs := p.Instruments) (body := QK p l s) (fun a k => a = (List.range k).map (nxt p l s)) (fun _ _ => (List.range p.Instruments.length).map (nxt p l s)) (fun a k i ha hi => ?_) (fun a ha => ?_) (by simp)
    · have hlt := Q6 hi
      have him := List.mem_of_getElem? hi
      obtain ⟨j, t, t1', t2', t3'⟩ := b3 i him
      obtain ⟨m, hm⟩ := X1 (xs := s.Memos) (k := k) (by omega)
      have hmo := s3 k i m hi hm
      have hin := Zct b1 him
      have htl := ZeG hmo hin
      obtain ⟨c1, c2⟩ := Zji b2 (List.mem_of_getElem? t3')
      have e1 : i64 ((k : Int) + 1) = (k : Int) + 1 := ZO (by omega) (by omega)
      have a1 : QI l i = some (j : Int) := by rw [Zhw hl, t1']; rfl
      have a2 := (Zmr c1 c2 (frame := s.Frame + 1) (by omega) (by omega)).1
      have hn : nxt p l s k = ZjG i m (vV t (s.Frame + 1)).1.N (vV t (s.Frame + 1)).2 := by
        unfold nxt; rw [hi, hm]; simp only; rw [t2']
      have hal : a.length = k := by rw [ha]; simp
      left
      refine ⟨a ++ [nxt p l s k], ?_, ?_, rfl⟩
      · simp only [QK, hlt, decide_true, if_true, ZX hi, Option.bind_some, a1, ZX t3', e0, a2, ZX hm, ZkQ (show m.Tape.length ≤ 4294967296 by omega)]
        rw [Zoh i (api_Memo.mk m.Lit m.Some m.N m.Count m.Tape) _ _ htl]
        simp only [Option.bind_some]
        rw [show api_Memo.mk m.Lit m.Some m.N m.Count m.Tape = m from rfl, ← hn, Zeq (by simp; omega)]
        simp only [Option.bind_some, e1]
      · rw [ha, List.range_succ, List.map_append]; rfl
    · rw [ha]; simp [QK]
  unfold Q8
  rw [h]
  simp only [Option.bind_some, JU, e0]
theorem Zm9 (i : api_Instrument) (m : api_Memo) (n : Int) (known : Bool) (ht : m.Tape.length ≤ 100) : (ZjG i m n known).Tape.length ≤ 101 := by
  unfold ZjG
  split
  · simp only; omega
  · split
    · split
      · simp only; omega
      · simp only; omega
    · split
      · simp only; omega
      · split
        · simp only [shV]
          split
          · simp; omega
          · simp; omega
        · omega
end Go.Vx

namespace Go.Vx
open Go Go.RowKit
theorem ZmP (op a b : Int) : ZcE op a b = some (ZhU op a b) := by
  have e : ZcE op a b = Zah op a b := rfl
  rw [e, ZkW]
theorem ZnG {l : List Int} (h : 1 ≤ l.length) : slc l 1 (l.length : Int) = some (l.drop 1) := by
  unfold slc
  rw [if_pos ⟨by omega, by omega, Int.le_refl _⟩]
  simp
theorem Zld (i : api_Instrument) (m : api_Memo) (x : api_Sample) (known : Bool) (ht : m.Tape.length ≤ 100) : ZbC i m x known = some (ZjG i m x.N known) := by
  unfold ZbC ZjG
  rw [Zeq (show ([] : List Int).length + m.Tape.length ≤ 4294967296 by simp; omega), ZmP]
  simp only [Option.bind_some, List.nil_append, isV]
  by_cases h3 : i.Kind = 3
  · cases known <;> cases hl : m.Lit <;> cases hla : i.Latch <;> simp [h3, hl, hla]
  · by_cases h5 : i.Kind = 5
    · cases known
      · simp [h5]
      · rcases Bool.eq_false_or_eq_true (ZhU i.Op x.N i.N) with hh | hh <;> rcases Bool.eq_false_or_eq_true m.Lit with hl | hl <;> simp [h5, hh, hl]
    · by_cases h4 : i.Kind = 4
      · cases known
        · simp [h4]
        · cases hs : m.Some with
          | false => simp [h4, hs]
          | true =>
            by_cases hn : m.N < x.N
            · have : max x.N m.N = x.N := by omega
              simp [h4, hs, hn, this]
            · have : max x.N m.N = m.N := by omega
              simp [h4, hs, hn, this]
      · by_cases h6 : i.Kind = 6
        · cases known
          · simp [h6]
          · have hl : (m.Tape ++ [x.N]).length = m.Tape.length + 1 := by simp
            have hsl := ZnG (l := m.Tape ++ [x.N]) (by rw [hl]; omega)
            rw [hl] at hsl
            rw [Zeq (show m.Tape.length + [x.N].length ≤ 4294967296 by simp; omega)]
            simp only [Option.bind_some, hl, hsl]
            by_cases hz : ((m.Tape.length + 1 : Nat) : Int) ≤ i.Size
            · have hz' : ¬ i.Size < ((m.Tape.length + 1 : Nat) : Int) := by omega
              simp only [h6, shV, hz, hz', decide_true, decide_false]
              simp
            · have hz' : i.Size < ((m.Tape.length + 1 : Nat) : Int) := by omega
              simp only [h6, shV, hz, hz', decide_true, decide_false]
              simp
        · simp [h3, h4, h5, h6]
theorem Zlh {p : api_Panel} {l : List api_Track} {s : api_PanelState} (hb : Zbv p l = 0) (hs : stateV p s = 0) (hf : s.Frame ≠ 19999) :
    Zck p l s = some (api_PanelState.mk (s.Frame + 1) ((List.range p.Instruments.length).map (nxt p l s))) := by
  obtain ⟨b1, b2, b3⟩ := ZeF hb
  obtain ⟨s1, s2, s3⟩ := ZfU.1 hs
  have hp := ZdN b1
  have hl := Zhb b2
  have e0 : i64 (s.Frame + 1) = s.Frame + 1 := ZO (by omega) (by omega)
  have h : loop (t2 (Jx p l s)) ([], 0) = some ((List.range p.Instruments.length).map (nxt p l s)) := by
    refine ZcR (xs := p.Instruments) (body := Jx p l s) (fun a k => a = (List.range k).map (nxt p l s)) (fun _ _ => (List.range p.Instruments.length).map (nxt p l s)) (fun a k i ha hi => ?_) (fun a ha => ?_) (by simp)
    · have hlt := Q6 hi
      have him := List.mem_of_getElem? hi
      obtain ⟨j, t, t1', t2', t3'⟩ := b3 i him
      obtain ⟨m, hm⟩ := X1 (xs := s.Memos) (k := k) (by omega)
      have hmo := s3 k i m hi hm
      have hin := Zct b1 him
      have htl := ZeG hmo hin
      obtain ⟨c1, c2⟩ := Zji b2 (List.mem_of_getElem? t3')
      have e1 : i64 ((k : Int) + 1) = (k : Int) + 1 := ZO (by omega) (by omega)
      have a1 : JO l i.Track = some (t, true) := by rw [Zi9 hl, t2']; rfl
      have a2 := (Zmr c1 c2 (frame := s.Frame + 1) (by omega) (by omega)).2
      have hn : nxt p l s k = ZjG i m (vV t (s.Frame + 1)).1.N (vV t (s.Frame + 1)).2 := by
        unfold nxt; rw [hi, hm]; simp only; rw [t2']
      have hal : a.length = k := by rw [ha]; simp
      left
      refine ⟨a ++ [nxt p l s k], ?_, ?_, rfl⟩
      · simp only [Jx, hlt, decide_true, if_true, ZX hi, Option.bind_some, a1, e0, a2, ZX hm]
        rw [Zld i m _ _ htl]
        simp only [Option.bind_some]
        rw [← hn, Zeq (by simp; omega)]
        simp only [Option.bind_some, e1]
      · rw [ha, List.range_succ, List.map_append]; rfl
    · rw [ha]; simp [Jx]
  unfold Zck
  rw [h]
  simp only [Option.bind_some, JU, e0]
end Go.Vx

namespace Go.Vx
open Go Go.RowKit
theorem ZlV {xs : List Str} (h : xs ≠ []) (y sep : Str) : Go.Lib.join (xs ++ [y]) sep = Go.Lib.join xs sep ++ (sep ++ y) := by
  cases xs with
  | nil => exact absurd rfl h
  | cons a r =>
    rw [List.cons_append, Go.Lib.join_cons, Go.Lib.join_cons]
    simp [Go.Lib.joinTail, List.append_assoc]
noncomputable def dgV (den pl z : Int) : Str := (Q9 z den pl).getD []
theorem Zlv {den pl z : Int} (hd : 1 ≤ den ∧ den ≤ 1000000) (hp : 0 ≤ pl ∧ pl ≤ 6) (hz : nb50 z = true) : Q9 z den pl = some (dgV den pl z) ∧ JG z den pl = some (dgV den pl z) ∧ (dgV den pl z).length ≤ 41 := by
  obtain ⟨z1, z2⟩ := Jp.1 hz
  obtain ⟨s, h1, h2, h3⟩ := ZmY z1 z2 hd.1 hd.2 hp.1 hp.2
  have e : dgV den pl z = s := by unfold dgV; rw [h1]; rfl
  rw [e]; exact ⟨h1, h2, h3⟩
noncomputable def tpV (den pl : Int) (tape : List Int) (k : Nat) : Str := if k = 0 then [45, 45, 45] else Go.Lib.join ((tape.take k).map (dgV den pl)) [32]
theorem ZjW {α : Type} {l : List α} {k : Nat} {x : α} (h : l[k]? = some x) : l.take (k + 1) = l.take k ++ [x] := by rw [List.take_add_one, h]; rfl
theorem ZkC {den pl : Int} {tape : List Int} {k : Nat} {x : Int} (hx : tape[k]? = some x) : tpV den pl tape (k + 1) = if k = 0 then dgV den pl x else tpV den pl tape k ++ ([32] ++ dgV den pl x) := by
  unfold tpV
  rw [if_neg (by omega), ZjW hx, List.map_append]
  by_cases h : k = 0
  · subst h; simp [Go.Lib.join_one]
  · have hk := (List.getElem?_eq_some_iff.1 hx).1
    rw [if_neg h, if_neg h]
    exact ZlV (by
      intro e
      have := congrArg List.length e
      simp at this
      rcases this with h1 | h1
      · exact h h1
      · subst h1; simp at hk) _ _
theorem ZiG {den pl : Int} (hd : 1 ≤ den ∧ den ≤ 1000000) (hp : 0 ≤ pl ∧ pl ≤ 6) {tape : List Int} (ha : ∀ z ∈ tape, nb50 z = true) : ∀ (k : Nat), k ≤ tape.length → (tpV den pl tape k).length ≤ 3 + 42 * k
  | 0, _ => by simp [tpV]
  | k + 1, h => by
    obtain ⟨x, hx⟩ := X1 (xs := tape) (k := k) (by omega)
    have ih := ZiG hd hp ha k (by omega)
    have hl := (Zlv hd hp (ha x (List.mem_of_getElem? hx))).2.2
    rw [ZkC hx]
    split
    · omega
    · simp only [List.length_append, List.length_cons, List.length_nil]; omega
theorem ZlO {i : api_Instrument} {m : api_Memo} {den : Int} (hd : 1 ≤ den ∧ den ≤ 1000000) (hp : 0 ≤ i.Places ∧ i.Places ≤ 6) (ha : ∀ z ∈ m.Tape, nb50 z = true) (hl : m.Tape.length ≤ 100) :
    loop (t2 (Jb i m den)) ([], 0) = some (m.Tape.map (dgV den i.Places)) := by
  refine ZcR (xs := m.Tape) (body := Jb i m den) (fun a k => a = (m.Tape.take k).map (dgV den i.Places)) (fun _ _ => m.Tape.map (dgV den i.Places)) (fun a k x hA hx => ?_) (fun a hA => ?_) (by simp)
  · have hlt := Q6 hx
    have e1 : i64 ((k : Int) + 1) = (k : Int) + 1 := ZO (by omega) (by omega)
    have hdg := (Zlv hd hp (ha x (List.mem_of_getElem? hx))).1
    have hal : a.length ≤ 100 := by rw [hA, List.length_map, List.length_take]; omega
    left
    refine ⟨a ++ [dgV den i.Places x], ?_, ?_, rfl⟩
    · simp only [Jb, hlt, decide_true, if_true, ZX hx, Option.bind_some, hdg, Zeq (show a.length + [dgV den i.Places x].length ≤ 4294967296 by simp; omega), e1]
    · rw [hA, ZjW hx, List.map_append]; rfl
  · rw [hA]; simp [Jb]
theorem Znd {i : api_Instrument} {m : api_Memo} {den mk : Int} (hd : 1 ≤ den ∧ den ≤ 1000000) (hp : 0 ≤ i.Places ∧ i.Places ≤ 6) (ha : ∀ z ∈ m.Tape, nb50 z = true) (hl : m.Tape.length ≤ 100) :
    loop (t2 (Zaq i den m mk)) ([45, 45, 45], 0) = some (api_Face.mk (tpV den i.Places m.Tape m.Tape.length) 0 false mk) := by
  refine ZcR (xs := m.Tape) (body := Zaq i den m mk) (fun a k => a = tpV den i.Places m.Tape k ∧ k ≤ m.Tape.length) (fun _ _ => api_Face.mk (tpV den i.Places m.Tape m.Tape.length) 0 false mk) (fun a k x hA hx => ?_) (fun a hA => ?_) ⟨rfl, Nat.zero_le _⟩
  · have hlt := Q6 hx
    have e1 : i64 ((k : Int) + 1) = (k : Int) + 1 := ZO (by omega) (by omega)
    obtain ⟨_, hdg, hdl⟩ := Zlv hd hp (ha x (List.mem_of_getElem? hx))
    have htl := ZiG hd hp ha k hA.2
    left
    refine ⟨tpV den i.Places m.Tape (k + 1), ?_, ⟨rfl, by omega⟩, rfl⟩
    rw [ZkC hx]
    by_cases h : k = 0
    · subst h
      simp [Zaq, show (0 : Nat) < m.Tape.length by omega, ZX hx, hdg, show idx m.Tape 0 = some x from ZX (k := 0) hx, ZO]
    · have h' : decide ((k : Int) = 0) = false := decide_eq_false (by omega)
      have c1 : cat [32] (dgV den i.Places x) = some ([32] ++ dgV den i.Places x) := ZhT (by simp; omega)
      have c2 : cat a ([32] ++ dgV den i.Places x) = some (a ++ ([32] ++ dgV den i.Places x)) := ZhT (by rw [hA.1]; simp; omega)
      simp only [Zaq, hlt, decide_true, if_true, ZX hx, Option.bind_some, h', Bool.false_eq_true, if_false, hdg, c1, c2, e1, if_neg h, hA.1]
      rw [hA.1] at c2
      have c3 : cat (tpV den i.Places m.Tape k) (32 :: dgV den i.Places x) = some (tpV den i.Places m.Tape k ++ 32 :: dgV den i.Places x) := c2
      simp [c3]
  · rw [hA.1]; simp [Zaq]
end Go.Vx

namespace Go.Vx
open Go Go.RowKit
theorem Zi8 {i : api_Instrument} (h : JV i = 0) : (1 ≤ i.Kind ∧ i.Kind ≤ 6) ∧ (0 ≤ i.Places ∧ i.Places ≤ 6) ∧ (i.Kind = 2 → DialOK i) := by
  have h0 := h
  unfold JV at h
  split at h
  · cases h
  rename_i hk
  split at h
  · cases h
  split at h
  · cases h
  split at h
  · cases h
  rename_i hp
  refine ⟨Jp.1 (by simpa using hk), Jp.1 (by simpa using hp), fun h2 => ?_⟩
  exact (ZnI (n := 0) (by unfold ZmQ; rw [if_neg (by omega), if_neg (by omega), if_neg (by decide)])).1
theorem Zml {i : api_Instrument} {m : api_Memo} (hi : JV i = 0) (hm : MemoOK i m) {den : Int} (hd : 1 ≤ den ∧ den ≤ 1000000) {x : api_Sample} {known : Bool} (hx : nb50 x.N = true) (hk : known = false → x.Mark = 0) :
    ∃ fc, Je i m den x known = some fc ∧ Zdm i den m x known = some fc := by
  obtain ⟨⟨k1, k6⟩, hp, hdial⟩ := Zi8 hi
  have hl := ZeG hm hi
  have hmk : (if known = true then some x.Mark else some 0) = some x.Mark := by
    cases known with
    | false => simp [hk rfl]
    | true => rfl
  have nlit : i.Kind ≠ 3 → i.Kind ≠ 5 → m.Lit = false := fun h3 h5 => by
    cases h : m.Lit with
    | false => rfl
    | true => rcases hm.lit h with e | e
              · exact absurd e h3
              · exact absurd e h5
  obtain ⟨d1, d2, _⟩ := Zlv hd hp hx
  obtain ⟨d3, d4, _⟩ := Zlv hd hp hm.nr
  unfold Je Zdm
  rw [hmk]
  simp only [Option.bind_some, JU]
  have hK : i.Kind = 1 ∨ i.Kind = 2 ∨ i.Kind = 3 ∨ i.Kind = 4 ∨ i.Kind = 5 ∨ i.Kind = 6 := by omega
  rcases hK with e | e | e | e | e | e
  · have := nlit (by omega) (by omega)
    cases known
    · exact ⟨_, by simp [e, this]; rfl, by simp [e]⟩
    · exact ⟨_, by simp [e, this, d1]; rfl, by simp [e, d2]⟩
  · have := nlit (by omega) (by omega)
    have hD := hdial e
    have n1 := Zj4 hD (Jp.1 hx)
    have n2 : Zd0 i x.N = some (ndl i x.N) := n1
    obtain ⟨s, z1, z2⟩ := ZoG hD.zones x.N
    cases known
    · exact ⟨_, by simp [e, this]; rfl, by simp [e]⟩
    · exact ⟨_, by simp [e, this, n1, z1]; rfl, by simp [e, n2, z2]⟩
  · cases h : m.Lit
    · cases known
      · exact ⟨_, by simp [e, h]; rfl, by simp [e, h]⟩
      · exact ⟨_, by simp [e, h]; rfl, by simp [e, h]⟩
    · exact ⟨_, by simp [e, h]; rfl, by simp [e, h]⟩
  · have := nlit (by omega) (by omega)
    cases h : m.Some
    · exact ⟨_, by simp [e, this, h]; rfl, by simp [e, h]⟩
    · exact ⟨_, by simp [e, this, h, d3]; rfl, by simp [e, h, d4]⟩
  · obtain ⟨d, hd', _, _⟩ := Zky (z := m.Count) hm.cr.1 (by have := hm.cr.2; omega)
    exact ⟨_, by simp [e, hd']; rfl, by simp [e, hd']⟩
  · have := nlit (by omega) (by omega)
    have p1 := ZlO (m := m) (den := den) hd hp hm.all hl
    have p2 := Znd (m := m) (den := den) (mk := x.Mark) hd hp hm.all hl
    have hlen := ZiG hd hp hm.all m.Tape.length (Nat.le_refl _)
    by_cases h0 : m.Tape.length = 0
    · have ht : m.Tape = [] := List.length_eq_zero_iff.1 h0
      refine ⟨api_Face.mk [45, 45, 45] 0 false x.Mark, ?_, ?_⟩
      · simp [e, p1, ht, this]
      · simp [e, p2, ht, tpV]
    · have hj : Zhq (m.Tape.map (dgV den i.Places)) [32] = some (tpV den i.Places m.Tape m.Tape.length) := by
        have et : tpV den i.Places m.Tape m.Tape.length = Go.Lib.join (m.Tape.map (dgV den i.Places)) [32] := by unfold tpV; rw [if_neg h0, List.take_length]
        unfold Zhq
        rw [if_pos ⟨by simp; omega, by rw [← et]; omega⟩, et]
      have hg : decide ((0 : Int) < (m.Tape.length : Int)) = true := decide_eq_true (by omega)
      refine ⟨api_Face.mk (tpV den i.Places m.Tape m.Tape.length) 0 false x.Mark, ?_, ?_⟩
      · simp only [e, p1, this, Option.bind_some, JU, List.length_map, hg, if_true, hj]
        simp
      · simp [e, p2]
end Go.Vx

namespace Go.Vx
open Go Go.RowKit
noncomputable def fcV (p : api_Panel) (l : List api_Track) (s : api_PanelState) (k : Nat) : api_Face :=
  match p.Instruments[k]?, s.Memos[k]? with
  | some i, some m => match tkT l i.Track with
    | some t => (Je i m t.Series.Den (if 0 ≤ s.Frame then (vV t s.Frame).1 else api_Sample.mk 0 0 0) (if 0 ≤ s.Frame then (vV t s.Frame).2 else false)).getD (api_Face.mk [] 0 false 0)
    | none => api_Face.mk [] 0 false 0
  | _, _ => api_Face.mk [] 0 false 0
theorem ZnD {t : api_Track} {f : Int} (h : (vV t f).2 = false) : (vV t f).1.Mark = 0 := by
  unfold vV at h ⊢
  cases hh : Zb2 t.Series.Samples (64 * f + 63) t.Long with
  | none => rfl
  | some x => rw [hh] at h; simp only [Zf9] at h; cases h
theorem ZlK {p : api_Panel} {l : List api_Track} {s : api_PanelState} (hb : Zbv p l = 0) (hs : stateV p s = 0) :
    Zag p l s = some ((List.range p.Instruments.length).map (fcV p l s)) ∧ ZdB p l s = some ((List.range p.Instruments.length).map (fcV p l s)) := by
  obtain ⟨b1, b2, b3⟩ := ZeF hb
  obtain ⟨s1, s2, s3⟩ := ZfU.1 hs
  have hp := ZdN b1
  have hl := Zhb b2
  have step : ∀ (k : Nat) i, p.Instruments[k]? = some i → ∃ (j : Nat) (t : api_Track) (m : api_Memo) (x : api_Sample) (known : Bool),
      QI l i = some (j : Int) ∧ JO l i.Track = some (t, true) ∧ l[j]? = some t ∧ s.Memos[k]? = some m ∧
      (if decide (0 ≤ s.Frame) = true then (JB t s.Frame).bind fun y2 => some (y2.1, y2.2) else some (api_Sample.mk 0 0 0, false)) = some (x, known) ∧
      (if decide (0 ≤ s.Frame) = true then (Zay t s.Frame).bind fun y2 => some (y2.1, y2.2) else some (api_Sample.mk 0 0 0, false)) = some (x, known) ∧
      Je i m t.Series.Den x known = some (fcV p l s k) ∧ Zdm i t.Series.Den m x known = some (fcV p l s k) := fun k i hi => by
    have him := List.mem_of_getElem? hi
    obtain ⟨j, t, t1', t2', t3'⟩ := b3 i him
    obtain ⟨m, hm⟩ := X1 (xs := s.Memos) (k := k) (by have := (List.getElem?_eq_some_iff.1 hi).1; omega)
    have hmo := s3 k i m hi hm
    have hin := Zct b1 him
    obtain ⟨c1, c2⟩ := Zji b2 (List.mem_of_getElem? t3')
    have hden := (ZiV c1).den
    have a1 : QI l i = some (j : Int) := by rw [Zhw hl, t1']; rfl
    have a2 : JO l i.Track = some (t, true) := by rw [Zi9 hl, t2']; rfl
    by_cases hf : 0 ≤ s.Frame
    · obtain ⟨v1, v2⟩ := Zmr c1 c2 (frame := s.Frame) hf (by omega)
      obtain ⟨fc, f1, f2⟩ := Zml hin hmo hden (x := (vV t s.Frame).1) (known := (vV t s.Frame).2) (Zmq c1 _) ZnD
      have e : fcV p l s k = fc := by unfold fcV; rw [hi, hm]; simp only; rw [t2']; simp only [if_pos hf, f1, Option.getD_some]
      exact ⟨j, t, m, _, _, a1, a2, t3', hm, by rw [if_pos (decide_eq_true hf), v1]; rfl, by rw [if_pos (decide_eq_true hf), v2]; rfl, by rw [e]; exact f1, by rw [e]; exact f2⟩
    · obtain ⟨fc, f1, f2⟩ := Zml hin hmo hden (x := api_Sample.mk 0 0 0) (known := false) (by decide) (fun _ => rfl)
      have e : fcV p l s k = fc := by unfold fcV; rw [hi, hm]; simp only; rw [t2']; simp only [if_neg hf, f1, Option.getD_some]
      exact ⟨j, t, m, _, _, a1, a2, t3', hm, by rw [if_neg (by simpa using hf)], by rw [if_neg (by simpa using hf)], by rw [e]; exact f1, by rw [e]; exact f2⟩
  constructor
  · have h : loop (t2 (XI p l s)) ([], 0) = some ((List.range p.Instruments.length).map (fcV p l s)) := by
      refine ZcR (xs := p.Instruments) (body := XI p l s) (fun a k => a = (List.range k).map (fcV p l s)) (fun _ _ => (List.range p.Instruments.length).map (fcV p l s)) (fun a k i ha hi => ?_) (fun a ha => ?_) (by simp)
      · have hlt := Q6 hi
        obtain ⟨j, t, m, x, known, a1, a2, a3, a4, a5, a6, a7, a8⟩ := step k i hi
        have e1 : i64 ((k : Int) + 1) = (k : Int) + 1 := ZO (by omega) (by omega)
        have hal : a.length = k := by rw [ha]; simp
        left
        refine ⟨a ++ [fcV p l s k], ?_, ?_, rfl⟩
        · simp only [XI, hlt, decide_true, if_true, ZX hi, Option.bind_some, a1, ZX a3, a5, ZhW, ZX a4, a7, Zeq (show a.length + [fcV p l s k].length ≤ 4294967296 by simp; omega), e1]
        · rw [ha, List.range_succ, List.map_append]; rfl
      · rw [ha]; simp [XI]
    unfold Zag
    rw [h]; rfl
  · have h : loop (t2 (ZaP p l s)) ([], 0) = some ((List.range p.Instruments.length).map (fcV p l s)) := by
      refine ZcR (xs := p.Instruments) (body := ZaP p l s) (fun a k => a = (List.range k).map (fcV p l s)) (fun _ _ => (List.range p.Instruments.length).map (fcV p l s)) (fun a k i ha hi => ?_) (fun a ha => ?_) (by simp)
      · have hlt := Q6 hi
        obtain ⟨j, t, m, x, known, a1, a2, a3, a4, a5, a6, a7, a8⟩ := step k i hi
        have e1 : i64 ((k : Int) + 1) = (k : Int) + 1 := ZO (by omega) (by omega)
        have hal : a.length = k := by rw [ha]; simp
        left
        refine ⟨a ++ [fcV p l s k], ?_, ?_, rfl⟩
        · simp only [ZaP, hlt, decide_true, if_true, ZX hi, Option.bind_some, a2, a6, ZhW, ZX a4, a8, Zeq (show a.length + [fcV p l s k].length ≤ 4294967296 by simp; omega), e1]
        · rw [ha, List.range_succ, List.map_append]; rfl
      · rw [ha]; simp [ZaP]
    unfold ZdB
    rw [h]; rfl
end Go.Vx

namespace Go.Vx
open Go Go.RowKit
def ZmJ (p : api_Panel) (l : List api_Track) (s : api_PanelState) : api_PanelState := api_PanelState.mk (s.Frame + 1) ((List.range p.Instruments.length).map (nxt p l s))
structure Inv (p : api_Panel) (s : api_PanelState) (n : Nat) : Prop where
  fr : s.Frame = (n : Int) - 1
  ok : stateV p s = 0
  cnt : ∀ m ∈ s.Memos, m.Count ≤ (n : Int)
theorem Zo2 {p : api_Panel} {l : List api_Track} {s : api_PanelState} (hb : Zbv p l = 0) (hs : stateV p s = 0) {k : Nat} {i : api_Instrument} (hi : p.Instruments[k]? = some i) :
    ∃ m t, s.Memos[k]? = some m ∧ (chk t.Series).2 = 0 ∧ MemoOK i m ∧ JV i = 0 ∧ nxt p l s k = ZjG i m (vV t (s.Frame + 1)).1.N (vV t (s.Frame + 1)).2 := by
  obtain ⟨b1, b2, b3⟩ := ZeF hb
  obtain ⟨s1, s2, s3⟩ := ZfU.1 hs
  have him := List.mem_of_getElem? hi
  obtain ⟨j, t, t1', t2', t3'⟩ := b3 i him
  obtain ⟨m, hm⟩ := X1 (xs := s.Memos) (k := k) (by have := (List.getElem?_eq_some_iff.1 hi).1; omega)
  exact ⟨m, t, hm, (Zji b2 (List.mem_of_getElem? t3')).1, s3 k i m hi hm, Zct b1 him, by unfold nxt; rw [hi, hm]; simp only; rw [t2']⟩
end Go.Vx

namespace Go.Vx
open Go Go.RowKit
end Go.Vx

namespace Go.Vx
open Go Go.RowKit Go.Lib
set_option maxHeartbeats 1000000
theorem Zmv : ∀ L k3 k5 S n0 k4 c0 T k6 : Bool,
    (((((L && (!((L == true) && (k3 || k5)))) || (S && (!k4))) || ((!n0) && (!S))) || ((!c0) && (!k5))) || (T && (!k6))) =
    (((((L && (!(k3 || k5))) || ((S || (!n0)) && (!k4))) || ((!c0) && (!k5))) || (T && (!k6))) || ((!n0) && (!S))) := by decide
theorem ZjZ {α ε : Type} {p : α → Bool} {c : ε} : ∀ (k : Nat) (xs : List α), ZL (fun _ x => if p x = true then some c else none) k xs = if xs.any p = true then some c else none
  | _, [] => rfl
  | k, x :: tl => by
    by_cases h : p x = true
    · simp [ZL, h]
    · have h' : p x = false := by simpa using h
      simp only [ZL, if_neg h, List.any_cons, h', Bool.false_or]
      exact ZjZ (k + 1) tl
theorem Zlc {i : api_Instrument} (h : JV i = 0) (hk : i.Kind ≠ 6) : i.Size = 0 := by
  unfold JV at h
  split at h
  · cases h
  split at h
  · cases h
  split at h
  · cases h
  rename_i hu
  simp only [unV, Bool.or_eq_true, Bool.and_eq_true, not_or] at hu
  have := hu.2
  by_cases e : i.Size = 0
  · exact e
  · exact absurd ⟨by simp [e], by simp [hk]⟩ this
theorem Zma {i : api_Instrument} (h : JV i = 0) : i.Name.length ≤ 30 := by
  unfold JV at h
  split at h
  · cases h
  split at h
  · cases h
  rename_i hu
  simp only [Bool.or_eq_true, not_or, Bool.not_eq_true', Bool.not_eq_false] at hu
  have := hu.1
  unfold pn at this
  rw [Bool.and_eq_true] at this
  have := Jp.1 this.1
  omega
theorem Znp {i : api_Instrument} {m : api_Memo} (hi : JV i = 0) (ht : m.Tape.length ≤ 9223372036854775807) : Za6 i m = some (Zgj i m) := by
  unfold Za6 Zgj
  have e0 : ∀ z a b, Z1 z a b = some (!wi z a b) := fun z a b => ZaO z a b
  have eb : ∀ L : Bool, gd (L == true) false (ZcV i.Kind [3, 5]) = some ((L == true) && ((decide (i.Kind = 3)) || (decide (i.Kind = 5)))) := fun L => by
    rw [ZmH (by decide), Zlt]
    simp
  rw [eb, Option.bind_some, Zmv]
  show (if Zkf i m = true then _ else _) = _
  cases hb : Zkf i m with
  | true => simp
  | false =>
    rw [if_neg Bool.false_ne_true, if_neg Bool.false_ne_true, show Z1 m.Count 0 20000 = some (!wi m.Count 0 20000) from e0 _ _ _, Option.bind_some]
    cases hc : wi m.Count 0 20000 with
    | false => simp
    | true =>
      have hl : loop (t1 (XU m)) 0 = some (XG Sum.inl (Sum.inr ()) (ZL (fun _ z => if (!nb50 z) = true then some (9 : Int) else none) 0 m.Tape)) := by
        refine Z4 (xs := m.Tape) (body := XU m) _ _ _ (fun k x hx => ?_) (by simp [XU])
        have hlt := Q6 hx
        have e1 : i64 ((k : Int) + 1) = (k : Int) + 1 := ZdI (n := m.Tape.length) (by omega) ht
        have e2 : Z1 x (-1125899906842624) 1125899906842624 = some (!nb50 x) := ZaO _ _ _
        simp only [XU, hlt, decide_true, if_true, ZX hx, Option.bind_some, e1, e2]
        cases nb50 x <;> rfl
      have en : Z1 m.N (-1125899906842624) 1125899906842624 = some (!nb50 m.N) := ZaO _ _ _
      rw [hl, ZjZ, en]
      cases hn : nb50 m.N with
      | true =>
        by_cases h : i.Size < (m.Tape.length : Int)
        · simp [h]
        · cases m.Tape.any (fun z => !nb50 z) <;> simp [h]
      | false =>
        have hN : m.N ≠ 0 := fun h => by rw [h] at hn; exact absurd hn (by decide)
        simp only [Zkf, Bool.or_eq_false_iff, Bool.and_eq_false_iff, Bool.not_eq_false', Bool.or_eq_true, decide_eq_true_eq, decide_eq_false_iff_not] at hb
        obtain ⟨⟨⟨⟨_, h2⟩, _⟩, h4⟩, _⟩ := hb
        have k4 : i.Kind = 4 := by
          rcases h2 with h2 | h2
          · exact absurd h2.2 hN
          · exact h2
        have hT : m.Tape.length = 0 := by
          rcases h4 with h4 | h4
          · omega
          · omega
        have hz := Zlc hi (by omega)
        have h : ¬ i.Size < (m.Tape.length : Int) := by omega
        simp [h]
theorem ZiL {p : api_Panel} {s : api_PanelState} (hw : ∀ x ∈ p.Instruments, Zia x) (hl : s.Memos.length ≤ 9223372036854775807) (ht : ∀ m ∈ s.Memos, m.Tape.length ≤ 9223372036854775807) :
    XW p s = some (if Zcq p ≠ 0 then Zcq p else stateV p s) := by
  unfold XW
  rw [Zht p hw, Option.bind_some]
  by_cases hp : Zcq p = 0
  · have hR : (if Zcq p ≠ 0 then Zcq p else stateV p s) = stateV p s := if_neg (by simp [hp])
    rw [if_neg (by simp [hp]), hR]
    have e0 : Z1 s.Frame (-1) 19999 = some (!wi s.Frame (-1) 19999) := ZaO _ _ _
    rw [e0, Option.bind_some]
    unfold stateV
    cases wi s.Frame (-1) 19999 with
    | false => simp
    | true =>
      by_cases hn : (s.Memos.length : Int) = (p.Instruments.length : Int)
      · have h : loop (t1 (Xv p s)) 0 = some (XG Sum.inl (Sum.inr ()) (ZL (stG p) 0 s.Memos)) := by
          refine Z4 (xs := s.Memos) (body := Xv p s) _ _ _ (fun k x hx => ?_) (by simp [Xv])
          have hlt := Q6 hx
          have e1 : i64 ((k : Int) + 1) = (k : Int) + 1 := ZdI (n := s.Memos.length) (by omega) hl
          obtain ⟨i, hi⟩ := X1 (xs := p.Instruments) (k := k) (by omega)
          simp only [Xv, hlt, decide_true, if_true, ZX hx, ZX hi, Option.bind_some, e1, Znp (Zct hp (List.mem_of_getElem? hi)) (ht x (List.mem_of_getElem? hx)), stG, hi]
          by_cases h0 : Zgj i x = 0 <;> simp [h0]
        simp only [hn, decide_true, Bool.not_true, Bool.false_eq_true, if_false, h, not_true]
        cases ZL (stG p) 0 s.Memos <;> simp
      · simp [hn]
  · rw [if_pos (by simpa using hp), if_pos hp]
theorem Zmy {p : api_Panel} {s : api_PanelState} (hl : s.Memos.length ≤ 9223372036854775807) (ht : ∀ m ∈ s.Memos, m.Tape.length ≤ 9223372036854775807) :
    J4 p s = some (if Zcq p ≠ 0 then Zcq p else stateV p s) := by
  unfold J4
  rw [Zi6, Option.bind_some]
  by_cases hp : Zcq p = 0
  · have hR : (if Zcq p ≠ 0 then Zcq p else stateV p s) = stateV p s := if_neg (by simp [hp])
    rw [if_neg (by simp [hp]), hR, Zks p s hl ht, Option.bind_some]
  · rw [if_pos (by simpa using hp), if_pos hp]
def Zli (p : api_Panel) (l : List api_Track) (s : api_PanelState) : api_PanelState × Int := if Zbv p l ≠ 0 then (api_PanelState.mk 0 [], Zbv p l) else if stateV p s ≠ 0 then (api_PanelState.mk 0 [], stateV p s) else if s.Frame = 19999 then (api_PanelState.mk 0 [], 9) else (ZmJ p l s, 0)
theorem Zhh {p : api_Panel} {l : List api_Track} (h : Zbv p l = 0) : Zcq p = 0 := (ZeF h).1
theorem ZoD {p : api_Panel} {l : List api_Track} {s : api_PanelState} (hl : s.Memos.length ≤ 9223372036854775807) (ht : ∀ m ∈ s.Memos, m.Tape.length ≤ 9223372036854775807) : ZbA p l s = some (Zli p l s) := by
  unfold ZbA Zli
  rw [ZlR, Zks p s hl ht]
  simp only [Option.bind_some]
  by_cases h0 : Zbv p l = 0
  · by_cases h1 : stateV p s = 0
    · by_cases h2 : s.Frame = 19999
      · simp [h0, h1, h2]
      · rw [Zl3 h0 h1 h2]; simp [h0, h1, h2, ZmJ]
    · simp [h0, h1]
  · simp [h0]
theorem Zob {p : api_Panel} {l : List api_Track} {s : api_PanelState} (hw : ∀ x ∈ p.Instruments, Zia x) (hs : ∀ x ∈ l, wfS x.Name) (hl : s.Memos.length ≤ 9223372036854775807) (ht : ∀ m ∈ s.Memos, m.Tape.length ≤ 9223372036854775807) : Zcb p l s = some (Zli p l s) := by
  unfold Zcb Zli
  rw [ZlQ p l hw hs, ZiL hw hl ht]
  simp only [Option.bind_some]
  by_cases h0 : Zbv p l = 0
  · have hp := Zhh h0
    by_cases h1 : stateV p s = 0
    · by_cases h2 : s.Frame = 19999
      · simp [h0, h1, h2, hp]
      · rw [Zlh h0 h1 h2]; simp [h0, h1, h2, hp, ZmJ]
    · simp [h0, h1, hp]
  · simp [h0]
theorem Zm6 {l : List Int} (hl : l.length ≤ 1000000) : XF l l = some true := by
  have h : loop (t1 (QE l l)) 0 = some (Sum.inr ()) := by
    refine ZeN (xs := l) (body := QE l l) (fun _ => Sum.inr ()) (fun k x hx => .inl ⟨?_, rfl⟩) (by simp [QE])
    have hlt := Q6 hx
    have e1 : i64 ((k : Int) + 1) = (k : Int) + 1 := ZO (by omega) (by omega)
    simp [QE, hlt, ZX hx, e1]
  unfold XF
  rw [h]; simp
theorem Zl6 {s : api_PanelState} (hl : s.Memos.length ≤ 1000) (ht : ∀ m ∈ s.Memos, m.Tape.length ≤ 1000) : Zbh s s = some true := by
  have h : loop (t1 (Zz s.Memos s.Memos (fun z0 z1 => ZaT z0 z1))) 0 = some (Sum.inr ()) := by
    refine ZeN (xs := s.Memos) (body := Zz _ _ _) (fun _ => Sum.inr ()) (fun k x hx => .inl ⟨?_, rfl⟩) (by simp [Zz])
    have hlt := Q6 hx
    have e1 : i64 ((k : Int) + 1) = (k : Int) + 1 := ZO (by omega) (by omega)
    have hm : ZaT x x = some true := by
      have := Zm6 (l := x.Tape) (by have := ht x (List.mem_of_getElem? hx); omega)
      simp [ZaT, this]
    simp only [Zz, hlt, decide_true, if_true, ZX hx, Option.bind_some, e1, hm]
    rfl
  unfold Zbh ZN
  simp only [h]
  simp
theorem Zne {p : api_Panel} {l : List api_Track} {s : api_PanelState} : (Zli p l s).1.Memos.length ≤ 1000 ∧ ∀ m ∈ (Zli p l s).1.Memos, m.Tape.length ≤ 1000 := by
  unfold Zli
  split
  · exact ⟨by simp, fun m hm => by cases hm⟩
  rename_i h0
  split
  · exact ⟨by simp, fun m hm => by cases hm⟩
  rename_i h1
  split
  · exact ⟨by simp, fun m hm => by cases hm⟩
  have h0 : Zbv p l = 0 := by simpa using h0
  have h1 : stateV p s = 0 := by simpa using h1
  have hp := ZdN (Zhh h0)
  refine ⟨by simp [ZmJ]; omega, fun m hm => ?_⟩
  simp only [ZmJ, List.mem_map, List.mem_range] at hm
  obtain ⟨k, hk, rfl⟩ := hm
  obtain ⟨i, hi⟩ := X1 (xs := p.Instruments) (k := k) hk
  obtain ⟨m, t, _, _, hmo, hin, e⟩ := Zo2 h0 h1 hi
  rw [e]
  have := Zm9 i m (vV t (s.Frame + 1)).1.N (vV t (s.Frame + 1)).2 (ZeG hmo hin)
  omega
theorem ZhB {α ε : Type} {g : Nat → α → Option ε} {e : ε} : ∀ {k : Nat} {xs : List α}, ZL g k xs = some e → ∃ (j : Nat) (x : α), x ∈ xs ∧ g j x = some e
  | _, [], h => by cases h
  | k, y :: tl, h => by
    simp only [ZL] at h
    cases hg : g k y with
    | some e' => rw [hg] at h; cases h; exact ⟨k, y, by simp, hg⟩
    | none =>
      rw [hg] at h
      obtain ⟨j, x, h1, h2⟩ := ZhB h
      exact ⟨j, x, by simp [h1], h2⟩
theorem ZjM {α ε : Type} {g : Nat → α → Option ε} : ∀ {k : Nat} {xs : List α}, ZL g k xs = none → ∀ x ∈ xs, ∃ j, g j x = none
  | _, [], _, x, hx => by cases hx
  | k, y :: tl, h, x, hx => by
    simp only [ZL] at h
    cases hg : g k y with
    | some e' => rw [hg] at h; cases h
    | none =>
      rw [hg] at h
      rcases List.mem_cons.1 hx with rfl | hx
      · exact ⟨k, hg⟩
      · exact ZjM h x hx
theorem Zlo {i : api_Instrument} (h : JV i = 0) (h2 : i.Kind = 2) : ∀ z ∈ i.Zones, z.Name.length ≤ 30 := by
  have hd : ZhZ i = 0 := by
    unfold JV at h
    split at h
    · cases h
    split at h
    · cases h
    split at h
    · cases h
    split at h
    · cases h
    first
    | exact h
    | (rw [if_pos h2] at h; exact h)
  unfold ZhZ at hd
  split at hd
  · cases hd
  split at hd
  · cases hd
  have hn : ZL (Zfz i.Zones) 0 i.Zones = none := by
    cases hf : ZL (Zfz i.Zones) 0 i.Zones with
    | none => rfl
    | some e =>
      obtain ⟨j, x, _, hg⟩ := ZhB hf
      rw [hf] at hd
      have hd : e = 0 := hd
      subst hd
      unfold Zfz at hg
      split at hg
      · cases hg
      split at hg
      · cases hg
      split at hg
      · cases hg
      · cases hg
  intro z hz
  obtain ⟨j, hj⟩ := ZjM hn z hz
  unfold Zfz at hj
  split at hj
  · cases hj
  rename_i hp
  have hp : pn z.Name = true := by simpa using hp
  unfold pn at hp
  rw [Bool.and_eq_true] at hp
  have := Jp.1 hp.1
  omega
theorem ZmT {i : api_Instrument} (hz : i.Zones.length ≤ 10) (hn : ∀ z ∈ i.Zones, z.Name.length ≤ 30) (n : Int) : ∃ s, XA i n = some s ∧ s.length ≤ 30 := by
  have h : loop (t1 (Qo i n)) 0 = some (XG Sum.inl (Sum.inr ()) (ZL (fun _ x => if wi n x.From x.To = true then some x.Name else none) 0 i.Zones)) := by
    refine Z4 (xs := i.Zones) (body := Qo i n) _ _ _ (fun k x hx => ?_) (by simp [Qo])
    have hlt := Q6 hx
    have e1 : i64 ((k : Int) + 1) = (k : Int) + 1 := ZdI (n := i.Zones.length) (by omega) (by omega)
    have e0 : ZV n x.From x.To = some (wi n x.From x.To) := rfl
    simp only [Qo, hlt, decide_true, if_true, ZX hx, Option.bind_some, e1, e0]
    cases wi n x.From x.To <;> rfl
  unfold XA
  rw [h]
  cases hf : ZL (fun _ x => if wi n x.From x.To = true then some x.Name else none) 0 i.Zones with
  | none => exact ⟨[], rfl, by simp⟩
  | some v =>
    refine ⟨v, rfl, ?_⟩
    obtain ⟨j, x, hx, hg⟩ := ZhB hf
    split at hg
    · cases hg; exact hn x hx
    · cases hg
theorem Zm7 {i : api_Instrument} {m : api_Memo} (hi : JV i = 0) (hm : MemoOK i m) {den : Int} (hd : 1 ≤ den ∧ den ≤ 1000000) {x : api_Sample} {known : Bool} (hx : nb50 x.N = true) :
    ∃ fc, Je i m den x known = some fc ∧ fc.Text.length ≤ 5000 := by
  obtain ⟨⟨k1, k6⟩, hp, hdial⟩ := Zi8 hi
  have hl := ZeG hm hi
  obtain ⟨d1, _, l1⟩ := Zlv hd hp hx
  obtain ⟨d3, _, l3⟩ := Zlv hd hp hm.nr
  unfold Je
  have hK : i.Kind = 1 ∨ i.Kind = 2 ∨ i.Kind = 3 ∨ i.Kind = 4 ∨ i.Kind = 5 ∨ i.Kind = 6 := by omega
  rcases hK with e | e | e | e | e | e
  · cases known
    · exact ⟨_, by simp [e]; rfl, by simp⟩
    · exact ⟨_, by simp [e, d1]; rfl, by dsimp only; omega⟩
  · have hD := hdial e
    have n1 := Zj4 hD (Jp.1 hx)
    obtain ⟨s, z1, z2⟩ := ZmT hD.zones (Zlo hi e) x.N
    cases known
    · exact ⟨_, by simp [e]; rfl, by simp⟩
    · exact ⟨_, by simp [e, n1, z1]; rfl, by dsimp only; omega⟩
  · cases h : m.Lit
    · cases known
      · exact ⟨_, by simp [e]; rfl, by simp⟩
      · exact ⟨_, by simp [e]; rfl, by simp⟩
    · exact ⟨_, by simp [e]; rfl, by simp⟩
  · cases h : m.Some
    · exact ⟨_, by simp [e]; rfl, by simp⟩
    · exact ⟨_, by simp [e, d3]; rfl, by dsimp only; omega⟩
  · obtain ⟨d, hd', _, l5⟩ := Zky (z := m.Count) hm.cr.1 (by have := hm.cr.2; omega)
    exact ⟨_, by simp [e, hd']; rfl, by dsimp only; omega⟩
  · have p1 := ZlO (m := m) (den := den) hd hp hm.all hl
    have hlen := ZiG hd hp hm.all m.Tape.length (Nat.le_refl _)
    by_cases h0 : m.Tape.length = 0
    · have ht : m.Tape = [] := List.length_eq_zero_iff.1 h0
      exact ⟨api_Face.mk [45, 45, 45] 0 m.Lit x.Mark, by simp [e, p1, ht], by simp⟩
    · have et : tpV den i.Places m.Tape m.Tape.length = Go.Lib.join (m.Tape.map (dgV den i.Places)) [32] := by unfold tpV; rw [if_neg h0, List.take_length]
      have hj : Zhq (m.Tape.map (dgV den i.Places)) [32] = some (tpV den i.Places m.Tape m.Tape.length) := by
        unfold Zhq
        rw [if_pos ⟨by simp; omega, by rw [← et]; omega⟩, et]
      have hg : decide ((0 : Int) < (m.Tape.length : Int)) = true := decide_eq_true (by omega)
      refine ⟨api_Face.mk (tpV den i.Places m.Tape m.Tape.length) 0 m.Lit x.Mark, ?_, by dsimp only; omega⟩
      simp only [e, p1, Option.bind_some, JU, List.length_map, hg, if_true, hj]
      simp
theorem Zno {p : api_Panel} {l : List api_Track} {s : api_PanelState} (hb : Zbv p l = 0) (hs : stateV p s = 0) (k : Nat) : (fcV p l s k).Text.length ≤ 5000 := by
  obtain ⟨b1, b2, b3⟩ := ZeF hb
  obtain ⟨s1, s2, s3⟩ := ZfU.1 hs
  unfold fcV
  cases hi : p.Instruments[k]? with
  | none => simp
  | some i =>
    cases hm : s.Memos[k]? with
    | none => simp
    | some m =>
      have him := List.mem_of_getElem? hi
      obtain ⟨j, t, t1', t2', t3'⟩ := b3 i him
      obtain ⟨c1, c2⟩ := Zji b2 (List.mem_of_getElem? t3')
      have hden := (ZiV c1).den
      simp only
      rw [t2']
      simp only
      obtain ⟨fc, f1, f2⟩ := Zm7 (Zct b1 him) (s3 k i m hi hm) hden (x := if 0 ≤ s.Frame then (vV t s.Frame).1 else api_Sample.mk 0 0 0) (known := if 0 ≤ s.Frame then (vV t s.Frame).2 else false) (by
        split
        · exact Zmq c1 _
        · decide)
      rw [f1]
      exact f2
noncomputable def fcO (p : api_Panel) (l : List api_Track) (s : api_PanelState) : List api_Face × Int := if Zbv p l ≠ 0 then ([], Zbv p l) else if stateV p s ≠ 0 then ([], stateV p s) else ((List.range p.Instruments.length).map (fcV p l s), 0)
theorem Zmn {p : api_Panel} {l : List api_Track} {s : api_PanelState} (hl : s.Memos.length ≤ 9223372036854775807) (ht : ∀ m ∈ s.Memos, m.Tape.length ≤ 9223372036854775807) : ZcY p l s = some (fcO p l s) := by
  unfold ZcY fcO
  rw [ZlR, Zks p s hl ht]
  simp only [Option.bind_some]
  by_cases h0 : Zbv p l = 0
  · by_cases h1 : stateV p s = 0
    · rw [(ZlK h0 h1).1]; simp [h0, h1]
    · simp [h0, h1]
  · simp [h0]
theorem ZmW {p : api_Panel} {l : List api_Track} {s : api_PanelState} (hw : ∀ x ∈ p.Instruments, Zia x) (hs : ∀ x ∈ l, wfS x.Name) (hl : s.Memos.length ≤ 9223372036854775807) (ht : ∀ m ∈ s.Memos, m.Tape.length ≤ 9223372036854775807) : ZdC p l s = some (fcO p l s) := by
  unfold ZdC fcO
  rw [ZlQ p l hw hs, ZiL hw hl ht]
  simp only [Option.bind_some]
  by_cases h0 : Zbv p l = 0
  · have hp := Zhh h0
    by_cases h1 : stateV p s = 0
    · rw [(ZlK h0 h1).2]; simp [h0, h1, hp]
    · simp [h0, h1, hp]
  · simp [h0]
theorem Zoa {p : api_Panel} {l : List api_Track} {s : api_PanelState} : (fcO p l s).1.length ≤ 100 ∧ ∀ f ∈ (fcO p l s).1, f.Text.length ≤ 5000 := by
  unfold fcO
  split
  · exact ⟨by simp, fun m hm => by cases hm⟩
  rename_i h0
  split
  · exact ⟨by simp, fun m hm => by cases hm⟩
  rename_i h1
  have h0 : Zbv p l = 0 := by simpa using h0
  have h1 : stateV p s = 0 := by simpa using h1
  have hp := ZdN (Zhh h0)
  refine ⟨by simp; omega, fun f hf => ?_⟩
  simp only [List.mem_map, List.mem_range] at hf
  obtain ⟨k, _, rfl⟩ := hf
  exact Zno h0 h1 k
theorem Zl0 {l : List api_Face} (hl : l.length ≤ 1000000) : Qq l l = some true := by
  have h : loop (t1 (Z2 l l)) 0 = some (Sum.inr ()) := by
    refine ZeN (xs := l) (body := Z2 l l) (fun _ => Sum.inr ()) (fun k x hx => .inl ⟨?_, rfl⟩) (by simp [Z2])
    have hlt := Q6 hx
    have e1 : i64 ((k : Int) + 1) = (k : Int) + 1 := ZO (by omega) (by omega)
    simp [Z2, hlt, ZX hx, e1]
  unfold Qq
  rw [h]; simp
def lnT (i : api_Instrument) (f : api_Face) : Str := ((i.Name ++ [58, 32] ++ f.Text) ++ (if f.Lit = true then [32, 42] else [])) ++ (if f.Mark = 4 then [] else [32, 63]) ++ [10]
def Zhg (p : api_Panel) (fs : List api_Face) : Nat → Str
  | 0 => []
  | k + 1 => Zhg p fs k ++ (match p.Instruments[k]?, fs[k]? with | some i, some f => lnT i f | _, _ => [])
theorem Zl7 (a b : Str) : bytes (a ++ b) = bytes a ++ bytes b := by simp [bytes]
theorem Zj1 (a : Str) : (bytes a).length = a.length := by simp [bytes]
theorem ZhM {s t : Str} (h : s.length + t.length ≤ 9223372036854775807) : cat s t = some (s ++ t) := by unfold cat; rw [if_pos h]
theorem ZnA {i : api_Instrument} {f : api_Face} (h1 : i.Name.length ≤ 30) (h2 : f.Text.length ≤ 5000) : (lnT i f).length ≤ 5037 := by
  unfold lnT
  cases f.Lit <;> by_cases h : f.Mark = 4 <;> simp [h] <;> omega
theorem Zi1 {p : api_Panel} {fs : List api_Face} (h1 : ∀ i ∈ p.Instruments, i.Name.length ≤ 30) (h2 : ∀ f ∈ fs, f.Text.length ≤ 5000) : ∀ k, (Zhg p fs k).length ≤ 5037 * k
  | 0 => by simp [Zhg]
  | k + 1 => by
    have ih := Zi1 h1 h2 k
    simp only [Zhg, List.length_append]
    split
    · rename_i i f hi hf
      have := ZnA (h1 i (List.mem_of_getElem? hi)) (h2 f (List.mem_of_getElem? hf))
      omega
    · simp; omega
theorem ZnK {p : api_Panel} {fs : List api_Face} (hw : ∀ x ∈ p.Instruments, Zia x) (hl : fs.length ≤ 100) (ht : ∀ f ∈ fs, f.Text.length ≤ 5000) : ∃ r, ZcN p fs = some r ∧ ZdD p fs = some r := by
  unfold ZcN ZdD
  rw [Zi6, Zht p hw, Option.bind_some, Option.bind_some]
  by_cases hp : Zcq p = 0
  · have dp : (!decide (Zcq p = 0)) = false := by simp [hp]
    rw [dp, if_neg Bool.false_ne_true, if_neg Bool.false_ne_true]
    by_cases hn : (fs.length : Int) = (p.Instruments.length : Int)
    · have dn : (!decide ((fs.length : Int) = (p.Instruments.length : Int))) = false := by simp [hn]
      rw [dn, if_neg Bool.false_ne_true, if_neg Bool.false_ne_true]
      have h1 : ∀ i ∈ p.Instruments, i.Name.length ≤ 30 := fun i hi => Zma (Zct hp hi)
      have hacc : ∀ k, Zhg p fs (k + 1) = Zhg p fs k ++ (match p.Instruments[k]?, fs[k]? with | some i, some f => lnT i f | _, _ => []) := fun _ => rfl
      have A : loop (t2 (J3 p fs)) ([], 0) = some (bytes (Zhg p fs fs.length)) := by
        refine ZcR (xs := fs) (body := J3 p fs) (fun a k => a = bytes (Zhg p fs k)) (fun _ _ => bytes (Zhg p fs fs.length)) (fun a k f ha hf => ?_) (fun a ha => ?_) rfl
        · have hlt := Q6 hf
          have hlt' := (List.getElem?_eq_some_iff.1 hf).1
          obtain ⟨i, hi⟩ := X1 (xs := p.Instruments) (k := k) (by omega)
          have l1 := h1 i (List.mem_of_getElem? hi)
          have l2 := ht f (List.mem_of_getElem? hf)
          have l3 := Zi1 h1 ht k
          have e1 : i64 ((k : Int) + 1) = (k : Int) + 1 := ZO (by omega) (by omega)
          subst ha
          left
          refine ⟨bytes (Zhg p fs (k + 1)), ?_, rfl, rfl⟩
          have ap : ∀ (a b : Str), a.length + b.length ≤ 4294967296 → app (bytes a) (bytes b) = some (bytes (a ++ b)) := fun a b h => by rw [Zeq (by rw [Zj1, Zj1]; omega), Zl7]
          rw [hacc, hi, hf]
          unfold J3 lnT
          rw [if_pos (by simpa using hlt), ZX hf, Option.bind_some, ZX hi, Option.bind_some, ZhM (by simp; omega), Option.bind_some, ZhM (by simp; omega), Option.bind_some, ap _ _ (by simp; omega), Option.bind_some, e1]
          cases hL : f.Lit <;> by_cases hM : f.Mark = 4
          · simp only [hL, hM, Bool.false_eq_true, if_false, Option.bind_some, JU, decide_true, Bool.not_true, if_true, List.append_nil]
            rw [ap _ _ (by simp; omega), Option.bind_some, List.append_assoc]
          · simp only [hL, hM, Bool.false_eq_true, if_false, Option.bind_some, JU, decide_false, Bool.not_false, if_true, List.append_nil]
            rw [ap _ _ (by simp; omega), Option.bind_some, ap _ _ (by simp; omega), Option.bind_some]
            simp only [List.append_assoc]
          · simp only [hL, hM, if_true, JU, decide_true, Bool.not_true, Bool.false_eq_true, if_false, List.append_nil]
            rw [ap _ _ (by simp; omega), Option.bind_some, Option.bind_some, JU, ap _ _ (by simp; omega), Option.bind_some]
            simp only [List.append_assoc]
          · simp only [hL, hM, if_true, JU, decide_false, Bool.not_false, Bool.false_eq_true, if_false]
            rw [ap _ _ (by simp; omega), Option.bind_some, Option.bind_some, JU, ap _ _ (by simp; omega), Option.bind_some, ap _ _ (by simp; omega), Option.bind_some]
            simp only [List.append_assoc]
        · subst ha; simp [J3]
      have B : loop (t2 (ZaS p fs)) ([], 0) = some (Zhg p fs fs.length) := by
        refine ZcR (xs := fs) (body := ZaS p fs) (fun a k => a = Zhg p fs k) (fun _ _ => Zhg p fs fs.length) (fun a k f ha hf => ?_) (fun a ha => ?_) rfl
        · have hlt := Q6 hf
          have hlt' := (List.getElem?_eq_some_iff.1 hf).1
          obtain ⟨i, hi⟩ := X1 (xs := p.Instruments) (k := k) (by omega)
          have l1 := h1 i (List.mem_of_getElem? hi)
          have l2 := ht f (List.mem_of_getElem? hf)
          have l3 := Zi1 h1 ht k
          have e1 : i64 ((k : Int) + 1) = (k : Int) + 1 := ZO (by omega) (by omega)
          subst ha
          left
          refine ⟨Zhg p fs (k + 1), ?_, rfl, rfl⟩
          rw [hacc, hi, hf]
          unfold ZaS lnT
          rw [if_pos (by simpa using hlt), ZX hf, Option.bind_some, ZX hi, Option.bind_some, ZhM (by simp; omega), Option.bind_some, ZhM (by simp; omega), Option.bind_some, ZhM (by simp; omega), Option.bind_some, e1]
          cases hL : f.Lit <;> by_cases hM : f.Mark = 4
          · simp only [hL, hM, Bool.false_eq_true, if_false, Option.bind_some, JU, decide_true, Bool.not_true, if_true, List.append_nil]
            rw [ZhM (by simp; omega), Option.bind_some, List.append_assoc]
          · simp only [hL, hM, Bool.false_eq_true, if_false, Option.bind_some, JU, decide_false, Bool.not_false, if_true, List.append_nil]
            rw [ZhM (by simp; omega), Option.bind_some, ZhM (by simp; omega), Option.bind_some]
            simp only [List.append_assoc]
          · simp only [hL, hM, if_true, JU, decide_true, Bool.not_true, Bool.false_eq_true, if_false, List.append_nil]
            rw [ZhM (by simp; omega), Option.bind_some, Option.bind_some, JU, ZhM (by simp; omega), Option.bind_some]
            simp only [List.append_assoc]
          · simp only [hL, hM, if_true, JU, decide_false, Bool.not_false, Bool.false_eq_true, if_false]
            rw [ZhM (by simp; omega), Option.bind_some, Option.bind_some, JU, ZhM (by simp; omega), Option.bind_some, ZhM (by simp; omega), Option.bind_some]
            simp only [List.append_assoc]
        · subst ha; simp [ZaS]
      rw [A, B, Option.bind_some, Option.bind_some, JU, JU, ZlW, Option.bind_some]
      exact ⟨_, rfl, rfl⟩
    · have dn : (!decide ((fs.length : Int) = (p.Instruments.length : Int))) = true := by simp [hn]
      rw [dn, if_pos rfl, if_pos rfl]
      exact ⟨_, rfl, rfl⟩
  · have dp : (!decide (Zcq p = 0)) = true := by simp [hp]
    rw [dp, if_pos rfl, if_pos rfl]
    exact ⟨_, rfl, rfl⟩
theorem Zkw (p : api_Panel) (l : List api_Track) (s : api_PanelState) (hp : Zhj p) (hlw : wfL Ze1 l) (hs : ZdZ s) : QV p l s = some true := by
  have hw : ∀ x ∈ p.Instruments, Zia x := fun x hx => by
    have := hp.1.2 x hx
    exact ⟨this.2.1, fun z hz => (this.2.2.2.2.2.2.2.1.2 z hz).2.2.1⟩
  have hn : ∀ x ∈ l, wfS x.Name := fun x hx => (hlw.2 x hx).1
  have hml := hs.2.1.1
  have hmt : ∀ m ∈ s.Memos, m.Tape.length ≤ 9223372036854775807 := fun m hm => (hs.2.1.2 m hm).2.2.2.2.1.1
  unfold QV
  rw [ZoD hml hmt, Zob hw hn hml hmt, Zmy hml hmt, ZiL hw hml hmt, Option.bind_some, Option.bind_some, Option.bind_some, Option.bind_some, decide_eq_true rfl, decide_eq_true rfl]
  simp only [Bool.not_true, Bool.or_self, show (false == false) = true from rfl, Zlf]
  obtain ⟨a1, a2⟩ := Zne (p := p) (l := l) (s := s)
  rw [Zl6 a1 a2, Option.bind_some, if_neg (by decide), Zmn hml hmt, ZmW hw hn hml hmt, Option.bind_some, Option.bind_some, decide_eq_true rfl]
  obtain ⟨f1, f2⟩ := Zoa (p := p) (l := l) (s := s)
  simp only [Bool.not_true, show (false == false) = true from rfl, Zlf]
  rw [Zl0 (by omega), Option.bind_some, if_neg (by decide)]
  obtain ⟨r, r1, r2⟩ := ZnK hw f1 f2
  rw [r1, r2, Option.bind_some, Option.bind_some, decide_eq_true rfl, decide_eq_true rfl]
  simp only [Bool.and_self, show (true == true) = true from rfl, Zlf, Znc, Option.bind_some]
end Go.Vx
