/- A text of the proof: a verified executor of the program form, or the contracts of the functions that the law reaches. -/
import Derived.Test.YtafmdjdjabifjaaGreatDoorPV
import Derived.Test.YtafmdjdjabifjaaGreatDoorPuPD
set_option linter.all false
namespace Go.Vx
open Go Go.RowKit
def cutN : Str := [97, 98, 99, 100, 101, 102, 103, 104, 105, 106, 107, 108, 109, 110, 111, 112, 113, 114, 115, 116, 117, 118, 119, 120, 121, 122, 48, 49, 50, 51, 52, 53, 54, 55, 56, 57, 45]
def setN : List Bool := (List.range 256).map fun (i : Nat) => nbI (i : Int)
theorem mkA_c : (strings_makeASCIISet_c cutN).map (fun r => (r.1.toList, r.2)) = some (setN, true) := by decide +kernel
theorem mkA : ∃ v, strings_makeASCIISet cutN = some (v, true) ∧ v.toList = setN := by
  have h := mkA_c
  cases hc : strings_makeASCIISet_c cutN with
  | none => rw [hc] at h; cases h
  | some r =>
    rw [hc] at h
    simp only [Option.map_some, Option.some.injEq, Prod.mk.injEq] at h
    refine ⟨r.1, ?_, h.1⟩
    rw [le_strings_makeASCIISet cutN r hc, ← h.2]
theorem inA {v : Vector Bool 256} (hv : v.toList = setN) (b : UInt8) : strings_asciiSet_contains v ((b.toNat : Nat) : Int) = some (nbB b) := by
  have hb : b.toNat < 256 := b.toNat_lt
  have : vidx v ((b.toNat : Nat) : Int) = some (nbB b) := by
    unfold vidx
    rw [if_pos (by omega), hv]
    simp only [setN, Int.toNat_natCast, List.getElem?_map, List.getElem?_range hb, Option.map_some]
    rfl
  unfold strings_asciiSet_contains
  rw [this]; rfl
theorem trimR {v : Vector Bool 256} (hv : v.toList = setN) (s : Str) (hs : s.length ≤ 30) : strings_trimRightASCII s v = some (s.reverse.dropWhile nbB).reverse := by
  have h : loop (t1 (strings_trimRightASCII_L1 v)) s = some (s.reverse.dropWhile nbB).reverse := by
    refine loop_to (body := t1 (strings_trimRightASCII_L1 v)) (fun s => s.length ≤ 30) (fun s => s.length) (fun s => (s.reverse.dropWhile nbB).reverse) ?_ s hs
    intro s hs
    rcases List.eq_nil_or_concat s with rfl | ⟨t, c, rfl⟩
    · right; simp [strings_trimRightASCII_L1]
    · simp only [List.concat_eq_append] at hs ⊢
      have hl : (t ++ [c]).length = t.length + 1 := by simp
      have e1 : i64 (((t ++ [c]).length : Int) - 1) = (t.length : Int) := by
        rw [hl]; rw [show (((t.length + 1 : Nat) : Int) - 1) = (t.length : Int) by omega]; exact i64_id (by omega) (by omega)
      have e2 : sidx (t ++ [c]) (t.length : Int) = some ((c.toNat : Nat) : Int) := sidx_of (by simp)
      have e3 : slc (t ++ [c]) 0 (t.length : Int) = some t := by rw [slc0 (by omega)]; simp
      have e0 : decide ((0 : Int) < ((t ++ [c]).length : Int)) = true := decide_eq_true (by omega)
      simp only [t1_mk, strings_trimRightASCII_L1, e0, if_true, e1, e2, e3, inA hv, Option.bind_some]
      cases hc : nbB c with
      | true => left; exact ⟨t, by simp, by omega, by omega, by simp [hc]⟩
      | false => right; simp [hc]
  unfold strings_trimRightASCII
  rw [h]; rfl
theorem trimL {v : Vector Bool 256} (hv : v.toList = setN) (s : Str) (hs : s.length ≤ 30) : strings_trimLeftASCII s v = some (s.dropWhile nbB) := by
  have h : loop (t1 (strings_trimLeftASCII_L1 v)) s = some (s.dropWhile nbB) := by
    refine loop_to (body := t1 (strings_trimLeftASCII_L1 v)) (fun s => s.length ≤ 30) (fun s => s.length) (fun s => s.dropWhile nbB) ?_ s hs
    intro s hs
    cases s with
    | nil => right; simp [strings_trimLeftASCII_L1]
    | cons c t =>
      have e2 : sidx (c :: t) 0 = some ((c.toNat : Nat) : Int) := sidx_of (k := 0) rfl
      have e3 : slc (c :: t) 1 ((c :: t).length : Int) = some t := by rw [slc1 (by simp)]; simp
      have e0 : decide ((0 : Int) < ((c :: t).length : Int)) = true := decide_eq_true (by simp only [List.length_cons]; omega)
      simp only [t1_mk, strings_trimLeftASCII_L1, e0, if_true, e2, e3, inA hv, Option.bind_some]
      cases hc : nbB c with
      | true => left; exact ⟨t, by simp, by simp at hs; omega, by simp, by simp [hc]⟩
      | false => right; simp [hc]
  unfold strings_trimLeftASCII
  rw [h]; rfl
theorem dropW_nil {α : Type} {p : α → Bool} : ∀ {l : List α}, l.dropWhile p = [] ↔ ∀ x ∈ l, p x = true
  | [] => by simp
  | a :: l => by
    cases h : p a with
    | true => rw [List.dropWhile_cons_of_pos h, dropW_nil]; simp [h]
    | false => rw [List.dropWhile_cons_of_neg (by simp [h])]; simp [h]
theorem trim_nil (s : Str) : ((s.reverse.dropWhile nbB).reverse.dropWhile nbB = []) ↔ s.all nbB = true := by
  rw [dropW_nil]
  constructor
  · intro h
    rw [List.all_eq_true]
    intro x hx
    have hx' : x ∈ s.reverse := List.mem_reverse.2 hx
    rw [← List.takeWhile_append_dropWhile (p := nbB) (l := s.reverse)] at hx'
    rcases List.mem_append.1 hx' with h1 | h1
    · exact List.all_eq_true.1 (List.all_takeWhile (p := nbB) (l := s.reverse)) x h1
    · exact h x (List.mem_reverse.2 h1)
  · intro h x hx
    have h1 := List.mem_reverse.1 hx
    exact List.all_eq_true.1 h x (List.mem_reverse.1 ((List.dropWhile_sublist nbB).subset h1))
theorem Trim_s (s : Str) (h0 : s ≠ []) (hs : s.length ≤ 30) : ∃ r, strings_Trim s cutN = some r ∧ (r = [] ↔ s.all nbB = true) := by
  obtain ⟨v, hv1, hv2⟩ := mkA
  have hr : (s.reverse.dropWhile nbB).reverse.length ≤ 30 := by
    rw [List.length_reverse]
    have := (List.dropWhile_sublist nbB (l := s.reverse)).length_le
    rw [List.length_reverse] at this; omega
  refine ⟨_, ?_, trim_nil s⟩
  unfold strings_Trim
  have e1 : (decide (s = []) || decide (cutN = [])) = false := by simp [h0, cutN]
  have e2 : decide ((cutN.length : Int) = 1) = false := by decide
  rw [if_neg (by rw [e1]; simp), e2, hv1]
  simp [gd, trimR hv2 s hs, trimL hv2 _ hr]
def pn (s : Str) : Bool := wi (s.length : Int) 1 30 && s.all nbB
theorem pName_s (s : Str) : panel_isName s = some (pn s) := by
  unfold panel_isName
  have hw : panel_within (s.length : Int) 1 30 = some (wi (s.length : Int) 1 30) := rfl
  rw [hw]
  cases h : wi (s.length : Int) 1 30 with
  | false => simp [pn, h, gd]
  | true =>
    obtain ⟨h1, h2⟩ := wi_iff.1 h
    obtain ⟨r, hr1, hr2⟩ := Trim_s s (by rintro rfl; simp at h1) (by omega)
    have hr1' : strings_Trim s [97, 98, 99, 100, 101, 102, 103, 104, 105, 106, 107, 108, 109, 110, 111, 112, 113, 114, 115, 116, 117, 118, 119, 120, 121, 122, 48, 49, 50, 51, 52, 53, 54, 55, 56, 57, 45] = some r := hr1
    rw [Option.bind_some, hr1']
    simp only [beq_self_eq_true, gd_t, Option.bind_some, Bool.true_and, pn, h]
    congr 1
    rw [Bool.eq_iff_iff, decide_eq_true_iff]
    exact hr2
theorem rName8_s (s : Str) (hs : s.length ≤ 9223372036854775807) : ref8_isName s = some (pn s) := by
  unfold ref8_isName
  have hloop : loop (t1 (ref8_isName_L1 s)) 0 = some (elimO (fun _ => Sum.inl false) (Sum.inr ()) (if s.all nbB then none else some ())) := by
    rw [← findI_all 0]
    refine loop_findI (xs := s) (body := ref8_isName_L1 s) _ _ _ (fun k x hx => ?_) (by simp [ref8_isName_L1])
    have hlt := lt_of hx
    have e1 : i64 ((k : Int) + 1) = (k : Int) + 1 := i64K (n := s.length) (by omega) hs
    simp only [ref8_isName_L1, hlt, decide_true, if_true, sidx_of hx, Option.bind_some, e1]
    have e2 : nbB x = ((((decide (97 ≤ ((x.toNat : Nat) : Int))) && (decide (((x.toNat : Nat) : Int) ≤ 122))) || ((decide (48 ≤ ((x.toNat : Nat) : Int))) && (decide (((x.toNat : Nat) : Int) ≤ 57)))) || (decide (((x.toNat : Nat) : Int) = 45))) := rfl
    rw [← e2]
    cases nbB x <;> simp
  rw [hloop]
  cases ha : s.all nbB with
  | false => simp [pn, ha]
  | true =>
    simp only [if_true, elimO_none, Option.bind_some, Sum.elim_inr, t0_mk, pn, ha, Bool.and_true]
    rfl
end Go.Vx

namespace Go.Vx
open Go Go.RowKit
theorem gd_b {g v : Bool} : gd g false (some v) = some (g && v) := by cases g <;> rfl
theorem contI {l : List Int} (hl : l.length ≤ 9) (v : Int) : slices_Contains_int_int l v = some (l.any fun x => decide (v = x)) := by
  have h : loop (t1 (slices_Index_int_int_L1 l v)) 0 = some (elimO Sum.inl (Sum.inr ()) (findI (fun k x => if decide (v = x) = true then some (k : Int) else none) 0 l)) := by
    refine loop_findI (xs := l) (body := slices_Index_int_int_L1 l v) _ _ _ (fun k x hx => ?_) (by simp [slices_Index_int_int_L1])
    have hlt := lt_of hx
    have e1 : i64 ((k : Int) + 1) = (k : Int) + 1 := i64K (n := l.length) (by omega) (by omega)
    simp only [slices_Index_int_int_L1, hlt, decide_true, if_true, idx_of hx, Option.bind_some, e1]
    cases decide (v = x) <;> rfl
  unfold slices_Contains_int_int slices_Index_int_int
  rw [h]
  rcases findI_idx (p := fun x => decide (v = x)) 0 l with ⟨h1, h2⟩ | ⟨m, h1, h2⟩
  · rw [h1, h2]; simp
  · rw [h1, h2]; simp
theorem has_s {l : List Int} (hl : l.length ≤ 9) (v : Int) : ref8_has v l = some (l.any fun x => decide (v = x)) := by
  have h : loop (t1 (ref8_has_L1 v l)) 0 = some (elimO Sum.inl (Sum.inr ()) (findI (fun _ x => if decide (v = x) = true then some true else none) 0 l)) := by
    refine loop_findI (xs := l) (body := ref8_has_L1 v l) _ _ _ (fun k x hx => ?_) (by simp [ref8_has_L1])
    have hlt := lt_of hx
    have e1 : i64 ((k : Int) + 1) = (k : Int) + 1 := i64K (n := l.length) (by omega) (by omega)
    have e2 : decide (x = v) = decide (v = x) := by rw [decide_eq_decide]; exact eq_comm
    simp only [ref8_has_L1, hlt, decide_true, if_true, idx_of hx, Option.bind_some, e1, e2]
    cases decide (v = x) <;> rfl
  unfold ref8_has
  rw [h, findI_any]
  cases l.any (fun x => decide (v = x)) <;> rfl
def unV (i : api_Instrument) : Bool :=
  (!decide (i.Places = 0) && !(decide (i.Kind = 1) || decide (i.Kind = 4) || decide (i.Kind = 6))) ||
  ((!decide (i.Low = 0) || !decide (i.High = 0) || !decide (i.Steps = 0) || decide (0 < (i.Zones.length : Int))) && !decide (i.Kind = 2)) ||
  ((!decide (i.Op = 0) || !decide (i.N = 0)) && !(decide (i.Kind = 3) || decide (i.Kind = 5))) ||
  (i.Latch && !decide (i.Kind = 3)) || (!decide (i.Size = 0) && !decide (i.Kind = 6))
theorem un_bool : ∀ p k1 q k2 r k3 l k4 z k5 : Bool,
    ((p && !(p && k1)) || (q && !(!(p && !(p && k1)) && q && k2)) || (r && !(!((p && !(p && k1)) || (q && !(!(p && !(p && k1)) && q && k2))) && r && k3)) ||
      (l && !(!((p && !(p && k1)) || (q && !(!(p && !(p && k1)) && q && k2)) || (r && !(!((p && !(p && k1)) || (q && !(!(p && !(p && k1)) && q && k2))) && r && k3))) && l && k4)) ||
      (z && !(!((p && !(p && k1)) || (q && !(!(p && !(p && k1)) && q && k2)) || (r && !(!((p && !(p && k1)) || (q && !(!(p && !(p && k1)) && q && k2))) && r && k3)) ||
      (l && !(!((p && !(p && k1)) || (q && !(!(p && !(p && k1)) && q && k2)) || (r && !(!((p && !(p && k1)) || (q && !(!(p && !(p && k1)) && q && k2))) && r && k3))) && l && k4))) && z && k5))) =
    ((p && !k1) || (q && !k2) || (r && !k3) || (l && !k4) || (z && !k5)) := by decide +kernel
theorem pUnused_s (i : api_Instrument) : panel_unused i = some (unV i) := by
  have h1 : panel_unused_1 [1, 4, 6] i = some (decide (i.Kind = 1) || decide (i.Kind = 4) || decide (i.Kind = 6)) := by
    unfold panel_unused_1; rw [contI (by decide)]; simp [Bool.or_assoc]
  have h2 : panel_unused_1 [2] i = some (decide (i.Kind = 2)) := by unfold panel_unused_1; rw [contI (by decide)]; simp
  have h3 : panel_unused_1 [3, 5] i = some (decide (i.Kind = 3) || decide (i.Kind = 5)) := by unfold panel_unused_1; rw [contI (by decide)]; simp
  have h4 : panel_unused_1 [3] i = some (decide (i.Kind = 3)) := by unfold panel_unused_1; rw [contI (by decide)]; simp
  have h5 : panel_unused_1 [6] i = some (decide (i.Kind = 6)) := by unfold panel_unused_1; rw [contI (by decide)]; simp
  unfold panel_unused
  rw [h1, h2, h3, h4, h5]
  simp only [gd_b, Option.bind_some, unV]
  congr 1
  generalize (decide (i.Kind = 1) || decide (i.Kind = 4) || decide (i.Kind = 6)) = k1
  generalize (!decide (i.Low = 0) || !decide (i.High = 0) || !decide (i.Steps = 0) || decide (0 < (i.Zones.length : Int))) = q
  generalize (decide (i.Kind = 3) || decide (i.Kind = 5)) = k3
  generalize (!decide (i.Op = 0) || !decide (i.N = 0)) = r
  generalize (!decide (i.Places = 0)) = p
  generalize (!decide (i.Size = 0)) = z
  generalize decide (i.Kind = 2) = k2
  generalize decide (i.Kind = 3) = k4
  generalize decide (i.Kind = 6) = k5
  generalize i.Latch = l
  have := un_bool p k1 q k2 r k3 l k4 z k5
  rw [← this]
  revert p k1 q k2 r k3 l k4 z k5
  decide +kernel
theorem rUnused_s (i : api_Instrument) : ref8_unused i = some (unV i) := by
  unfold ref8_unused
  rw [has_s (by decide), has_s (by decide)]
  have e1 : ([1, 4, 6].any fun x => decide (i.Kind = x)) = (decide (i.Kind = 1) || decide (i.Kind = 4) || decide (i.Kind = 6)) := by simp [Bool.or_assoc]
  have e2 : ([3, 5].any fun x => decide (i.Kind = x)) = (decide (i.Kind = 3) || decide (i.Kind = 5)) := by simp
  simp only [e1, e2, gd_b, Option.bind_some, unV]
  generalize (decide (i.Kind = 1) || decide (i.Kind = 4) || decide (i.Kind = 6)) = k1
  generalize (!decide (i.Low = 0) || !decide (i.High = 0) || !decide (i.Steps = 0) || decide (0 < (i.Zones.length : Int))) = q
  generalize (decide (i.Kind = 3) || decide (i.Kind = 5)) = k3
  generalize (!decide (i.Op = 0) || !decide (i.N = 0)) = r
  generalize (!decide (i.Places = 0)) = p
  generalize (!decide (i.Size = 0)) = z
  generalize decide (i.Kind = 2) = k2
  generalize decide (i.Kind = 3) = k4
  generalize decide (i.Kind = 6) = k5
  generalize i.Latch = l
  cases p <;> cases k1 <;> cases q <;> cases k2 <;> simp <;> cases r <;> cases k3 <;> simp <;> cases l <;> cases k4 <;> simp
end Go.Vx

namespace Go.Vx
open Go Go.RowKit
def nb50 (z : Int) : Bool := wi z (-1125899906842624) 1125899906842624
def zoneG (zs : List api_Zone) (k : Nat) (x : api_Zone) : Option Int :=
  if pn x.Name = false then some 8 else if decide (x.To < x.From) = true then some 9 else if (decide (0 < (k : Int)) && (zs[k - 1]?).elim false fun y => decide (x.From ≤ y.To)) = true then some 10 else none
def dialV (i : api_Instrument) : Int :=
  if (decide (i.High ≤ i.Low) || !nb50 i.Low || !nb50 i.High || !wi i.Steps 1 1000) = true then 9 else if 10 < (i.Zones.length : Int) then 3 else elimO id 0 (findI (zoneG i.Zones) 0 i.Zones)
theorem prevZ {zs : List api_Zone} {k : Nat} {x : api_Zone} (hx : zs[k]? = some x) (hl : zs.length ≤ 10) :
    ∃ y, gd (decide (0 < (k : Int)) == true) (api_Zone.mk 0 0 []) (idx zs (i64 ((k : Int) - 1))) = some y ∧ (decide (0 < (k : Int)) && decide (x.From ≤ y.To)) = (decide (0 < (k : Int)) && (zs[k - 1]?).elim false fun y => decide (x.From ≤ y.To)) := by
  have hlt := lt_of hx
  by_cases h0 : 0 < (k : Int)
  · obtain ⟨y, hy⟩ := get_ex (xs := zs) (k := k - 1) (by omega)
    have e : i64 ((k : Int) - 1) = ((k - 1 : Nat) : Int) := by rw [show ((k : Int) - 1) = ((k - 1 : Nat) : Int) by omega]; exact i64_id (by omega) (by omega)
    refine ⟨y, ?_, ?_⟩
    · rw [decide_eq_true h0, e, idx_of hy]; rfl
    · rw [hy]; rfl
  · have h0' : decide (0 < (k : Int)) = false := decide_eq_false h0
    rw [h0']
    exact ⟨_, rfl, rfl⟩
theorem pDial_s (i : api_Instrument) : panel_checkDial i = some (dialV i) := by
  unfold panel_checkDial dialV
  have e1 : panel_number i.Low = some (nb50 i.Low) := rfl
  have e2 : panel_number i.High = some (nb50 i.High) := rfl
  have e3 : panel_within i.Steps 1 1000 = some (wi i.Steps 1 1000) := rfl
  rw [e1, e2, e3]
  simp only [gd_b, Option.bind_some]
  have hb : ∀ h a b c : Bool, (h || !(h == false && a) || !((h || !(h == false && a)) == false && b) || !((h || !(h == false && a) || !((h || !(h == false && a)) == false && b)) == false && c)) = (h || !a || !b || !c) := by decide
  rw [hb]
  cases hc : (decide (i.High ≤ i.Low) || !nb50 i.Low || !nb50 i.High || !wi i.Steps 1 1000) with
  | true => simp
  | false =>
    by_cases h10 : 10 < (i.Zones.length : Int)
    · simp [h10]
    · have h : loop (t1 (panel_checkDial_L1 i)) 0 = some (elimO Sum.inl (Sum.inr ()) (findI (zoneG i.Zones) 0 i.Zones)) := by
        refine loop_findI (xs := i.Zones) (body := panel_checkDial_L1 i) _ _ _ (fun k x hx => ?_) (by simp [panel_checkDial_L1])
        have hlt := lt_of hx
        have e1 : i64 ((k : Int) + 1) = (k : Int) + 1 := i64K (n := i.Zones.length) (by omega) (by omega)
        obtain ⟨y, hy1, hy2⟩ := prevZ hx (by omega)
        simp only [panel_checkDial_L1, hlt, decide_true, if_true, idx_of hx, Option.bind_some, e1, pName_s, hy1, hy2, zoneG]
        cases pn x.Name with
        | false => simp
        | true => cases decide (x.To < x.From) with
          | true => simp
          | false => cases (decide (0 < (k : Int)) && (i.Zones[k - 1]?).elim false fun y => decide (x.From ≤ y.To)) <;> simp
      simp only [Bool.false_eq_true, if_false, h10, decide_false, h]
      cases findI (zoneG i.Zones) 0 i.Zones <;> simp
theorem rDial_s (i : api_Instrument) (hz : ∀ z ∈ i.Zones, wfS z.Name) : ref8_dialFault i = some (dialV i) := by
  unfold ref8_dialFault dialV
  have e0 : ∀ z a b, ref8_outside z a b = some (!wi z a b) := fun z a b => outside_s z a b
  simp only [e0, gd_b, Option.bind_some]
  have hb : ∀ h a b c : Bool, (h || (h == false && !a) || ((h || (h == false && !a)) == false && !b) || ((h || (h == false && !a) || ((h || (h == false && !a)) == false && !b)) == false && !c)) = (h || !a || !b || !c) := by decide
  rw [hb]
  show (if (decide (i.High ≤ i.Low) || !nb50 i.Low || !nb50 i.High || !wi i.Steps 1 1000) = true then _ else _) = _
  cases hc : (decide (i.High ≤ i.Low) || !nb50 i.Low || !nb50 i.High || !wi i.Steps 1 1000) with
  | true => simp
  | false =>
    by_cases h10 : 10 < (i.Zones.length : Int)
    · simp [h10]
    · have h : loop (t1 (ref8_dialFault_L1 i)) 0 = some (elimO Sum.inl (Sum.inr ()) (findI (zoneG i.Zones) 0 i.Zones)) := by
        refine loop_findI (xs := i.Zones) (body := ref8_dialFault_L1 i) _ _ _ (fun k x hx => ?_) (by simp [ref8_dialFault_L1])
        have hlt := lt_of hx
        have e1 : i64 ((k : Int) + 1) = (k : Int) + 1 := i64K (n := i.Zones.length) (by omega) (by omega)
        obtain ⟨y, hy1, hy2⟩ := prevZ hx (by omega)
        simp only [ref8_dialFault_L1, hlt, decide_true, if_true, idx_of hx, Option.bind_some, e1, rName8_s x.Name (hz x (List.mem_of_getElem? hx)), hy1, hy2, zoneG]
        cases pn x.Name with
        | false => simp
        | true => cases decide (x.To < x.From) with
          | true => simp
          | false => cases (decide (0 < (k : Int)) && (i.Zones[k - 1]?).elim false fun y => decide (x.From ≤ y.To)) <;> simp
      simp only [Bool.false_eq_true, if_false, h10, decide_false, h]
      cases findI (zoneG i.Zones) 0 i.Zones <;> simp
def instV (i : api_Instrument) : Int :=
  if wi i.Kind 1 6 = false then 7 else if (!pn i.Name || !wi (i.Track.length : Int) 1 30) = true then 8 else if unV i = true then 2 else if wi i.Places 0 6 = false then 9 else
  if i.Kind = 2 then dialV i else if i.Kind = 3 ∨ i.Kind = 5 then (if wi i.Op 1 6 = false then 7 else if nb50 i.N = false then 9 else 0) else if i.Kind = 6 then (if wi i.Size 1 50 = false then 9 else 0) else 0
theorem pInst_s (i : api_Instrument) : panel_CheckInstrument i = some (instV i) := by
  unfold panel_CheckInstrument instV
  have e0 : ∀ z a b, panel_within z a b = some (wi z a b) := fun z a b => rfl
  have e1 : panel_number i.N = some (nb50 i.N) := rfl
  simp only [e0, e1, pName_s, pUnused_s, pDial_s, gd_b, Option.bind_some]
  cases wi i.Kind 1 6 with
  | false => simp
  | true => cases pn i.Name with
    | false => simp
    | true => cases wi (i.Track.length : Int) 1 30 with
      | false => simp
      | true => cases unV i with
        | true => simp
        | false => cases wi i.Places 0 6 with
          | false => simp
          | true =>
            by_cases h2 : i.Kind = 2
            · simp [h2]
            · by_cases h3 : i.Kind = 3
              · cases wi i.Op 1 6 <;> cases nb50 i.N <;> simp [h3]
              · by_cases h5 : i.Kind = 5
                · cases wi i.Op 1 6 <;> cases nb50 i.N <;> simp [h5]
                · by_cases h6 : i.Kind = 6
                  · cases wi i.Size 1 50 <;> simp [h6]
                  · simp [h2, h3, h5, h6]
theorem trk_b (s : Str) : (decide (s = []) || decide (30 < (s.length : Int))) = !wi (s.length : Int) 1 30 := by
  cases s with
  | nil => rfl
  | cons a t =>
    have e : decide (a :: t = []) = false := by simp
    rw [e, Bool.false_or, Bool.eq_iff_iff]
    simp only [Bool.not_eq_true', decide_eq_true_iff, wi, Bool.and_eq_false_iff, decide_eq_false_iff_not, List.length_cons]
    omega
def wfIns (i : api_Instrument) : Prop := wfS i.Name ∧ ∀ z ∈ i.Zones, wfS z.Name
theorem rInst_s (i : api_Instrument) (hi : wfIns i) : ref8_CheckInstrument i = some (instV i) := by
  unfold ref8_CheckInstrument instV
  have e0 : ∀ z a b, ref8_outside z a b = some (!wi z a b) := fun z a b => outside_s z a b
  have e1 : wi i.N (-1125899906842624) 1125899906842624 = nb50 i.N := rfl
  simp only [e0, e1, rName8_s i.Name hi.1, rUnused_s, rDial_s i hi.2, Option.bind_some, Bool.or_assoc, trk_b]
  cases wi i.Kind 1 6 with
  | false => simp
  | true => cases pn i.Name with
    | false => simp
    | true => cases wi (i.Track.length : Int) 1 30 with
      | false => simp
      | true => cases unV i with
        | true => simp
        | false => cases wi i.Places 0 6 with
          | false => simp
          | true =>
            by_cases h2 : i.Kind = 2
            · simp [h2]
            · by_cases h3 : i.Kind = 3
              · cases wi i.Op 1 6 <;> cases nb50 i.N <;> simp [h3]
              · by_cases h5 : i.Kind = 5
                · cases wi i.Op 1 6 <;> cases nb50 i.N <;> simp [h5]
                · by_cases h6 : i.Kind = 6
                  · cases wi i.Size 1 50 <;> simp [h6]
                  · simp [h2, h3, h5, h6]
def needV (i : api_Instrument) (n : Int) : Int := if instV i ≠ 0 then instV i else if i.Kind ≠ 2 then 7 else if nb50 n = false then 9 else 0
structure DialOK (i : api_Instrument) : Prop where
  lt : i.Low < i.High
  low : -1125899906842624 ≤ i.Low ∧ i.Low ≤ 1125899906842624
  high : -1125899906842624 ≤ i.High ∧ i.High ≤ 1125899906842624
  steps : 1 ≤ i.Steps ∧ i.Steps ≤ 1000
  zones : i.Zones.length ≤ 10
theorem need_ok {i : api_Instrument} {n : Int} (h : needV i n = 0) : DialOK i ∧ (-1125899906842624 ≤ n ∧ n ≤ 1125899906842624) := by
  unfold needV at h
  split at h
  · rename_i h0; exact absurd h h0
  · rename_i h0
    split at h
    · cases h
    · rename_i h2
      have h2 : i.Kind = 2 := by omega
      split at h
      · cases h
      · rename_i hn
        have hn : nb50 n = true := by simpa using hn
        have hI : instV i = 0 := by omega
        unfold instV at hI
        split at hI
        · cases hI
        split at hI
        · cases hI
        split at hI
        · cases hI
        split at hI
        · cases hI
        try rw [if_pos h2] at hI
        unfold dialV at hI
        split at hI
        · cases hI
        rename_i hc
        split at hI
        · cases hI
        rename_i h10
        have hc : (decide (i.High ≤ i.Low) || !nb50 i.Low || !nb50 i.High || !wi i.Steps 1 1000) = false := by simpa using hc
        simp only [Bool.or_eq_false_iff, decide_eq_false_iff_not, Bool.not_eq_false'] at hc
        obtain ⟨⟨⟨c1, c2⟩, c3⟩, c4⟩ := hc
        exact ⟨⟨by omega, wi_iff.1 c2, wi_iff.1 c3, wi_iff.1 c4, by omega⟩, wi_iff.1 hn⟩
def ndl (i : api_Instrument) (n : Int) : Int := if n ≤ i.Low then 0 else if i.High ≤ n then i.Steps else ((n - i.Low) * i.Steps) / (i.High - i.Low)
theorem ndl_mul {i : api_Instrument} (hi : DialOK i) {n : Int} (h1 : i.Low < n) (h2 : n < i.High) : 0 ≤ (n - i.Low) * i.Steps ∧ (n - i.Low) * i.Steps ≤ 2251799813685248000 := by
  have := hi.low; have := hi.high; have := hi.steps
  exact ⟨Int.mul_nonneg (by omega) (by omega), by
    have : (n - i.Low) * i.Steps ≤ 2251799813685248 * 1000 := Int.mul_le_mul (by omega) (by omega) (by omega) (by omega)
    omega⟩
theorem pNeedle_s {i : api_Instrument} (hi : DialOK i) {n : Int} (hn : -1125899906842624 ≤ n ∧ n ≤ 1125899906842624) : panel_needle i n = some (ndl i n) := by
  unfold panel_needle ndl
  by_cases h1 : n ≤ i.Low
  · simp [h1]
  · by_cases h2 : i.High ≤ n
    · simp [h1, h2]
    · have := hi.low; have := hi.high; have hlt := hi.lt
      obtain ⟨m1, m2⟩ := ndl_mul hi (n := n) (by omega) (by omega)
      have e1 : i64 (n - i.Low) = n - i.Low := i64_id (by omega) (by omega)
      have e2 : i64 ((n - i.Low) * i.Steps) = (n - i.Low) * i.Steps := i64_id (by omega) (by omega)
      have e3 : i64 (i.High - i.Low) = i.High - i.Low := i64_id (by omega) (by omega)
      have q1 : 0 ≤ (n - i.Low) * i.Steps / (i.High - i.Low) := Int.ediv_nonneg m1 (by omega)
      have q2 : (n - i.Low) * i.Steps / (i.High - i.Low) ≤ (n - i.Low) * i.Steps := Int.ediv_le_self _ m1
      have e4 : quo .i64 ((n - i.Low) * i.Steps) (i.High - i.Low) = some ((n - i.Low) * i.Steps / (i.High - i.Low)) := by
        unfold quo
        rw [if_neg (by omega), Int.tdiv_eq_ediv_of_nonneg m1, i64_id (by omega) (by omega)]
      rw [if_neg (by simpa using h1), if_neg (by simpa using h2), if_neg h1, if_neg h2, e1, e2, e3, e4]; rfl
theorem zone_t {i : api_Instrument} (hz : i.Zones.length ≤ 10) (n : Int) : ∃ s, panel_zoneOf i n = some s ∧ ref8_zone i n = some s := by
  have e : ref8_zone i n = panel_zoneOf i n := rfl
  rw [e]
  have h : loop (t1 (panel_zoneOf_L1 i n)) 0 = some (elimO Sum.inl (Sum.inr ()) (findI (fun _ x => if wi n x.From x.To = true then some x.Name else none) 0 i.Zones)) := by
    refine loop_findI (xs := i.Zones) (body := panel_zoneOf_L1 i n) _ _ _ (fun k x hx => ?_) (by simp [panel_zoneOf_L1])
    have hlt := lt_of hx
    have e1 : i64 ((k : Int) + 1) = (k : Int) + 1 := i64K (n := i.Zones.length) (by omega) (by omega)
    have e0 : panel_within n x.From x.To = some (wi n x.From x.To) := rfl
    simp only [panel_zoneOf_L1, hlt, decide_true, if_true, idx_of hx, Option.bind_some, e1, e0]
    cases wi n x.From x.To <;> rfl
  unfold panel_zoneOf
  rw [h]
  cases findI (fun _ x => if wi n x.From x.To = true then some x.Name else none) 0 i.Zones with
  | none => exact ⟨[], rfl, rfl⟩
  | some v => exact ⟨v, rfl, rfl⟩
end Go.Vx
