/- A text of the proof: a verified executor of the program form, or the contracts of the functions that the law reaches. -/
import Derived.Test.YtafmdjdjabifjaaGreatDoorPB
import Derived.Test.YtafmdjdjabifjaaGreatDoorPA
import Derived.Test.YtafmdjdjabifjaaGreatDoorFP
import Derived.Test.YtafmdjdjabifjaaGreatDoorWF
set_option linter.all false
namespace Go.Vx
open Go Go.RowKit
section
variable {α ε : Type}
def findI (g : Nat → α → Option ε) : Nat → List α → Option ε
  | _, [] => none
  | k, x :: tl => match g k x with | some e => some e | none => findI g (k + 1) tl
theorem loop_findI {ρ : Type} {xs : List α} (g : Nat → α → Option ε) (A : ε → ρ) (Z : ρ) {body : Int → Option (Int ⊕ ρ)}
    (h : ∀ (k : Nat) x, xs[k]? = some x → body k = elimO (fun e => some (.inr (A e))) (some (.inl ((k : Int) + 1))) (g k x))
    (hend : body xs.length = some (.inr Z)) : loop (t1 body) 0 = some (elimO A Z (findI g 0 xs)) := by
  refine loop_ix1 (xs := xs) (fun k => elimO A Z (findI g k (xs.drop k))) (fun k x hx => ?_) ?_
  · rw [h k x hx, drop_cons hx]
    simp only [findI]
    cases hg : g k x with
    | some e => right; rfl
    | none => left; exact ⟨rfl, rfl⟩
  · rw [hend]; simp [findI]
theorem findI_congr {g g' : Nat → α → Option ε} : ∀ (k : Nat) (xs : List α), (∀ (j : Nat) x, xs[j]? = some x → g (k + j) x = g' (k + j) x) → findI g k xs = findI g' k xs
  | _, [], _ => rfl
  | k, x :: tl, h => by
    have h0 := h 0 x rfl
    rw [Nat.add_zero] at h0
    have ih := findI_congr (g := g) (g' := g') (k + 1) tl fun j y hy => by
      have := h (j + 1) y (by simpa using hy)
      rwa [show k + (j + 1) = k + 1 + j by omega] at this
    simp only [findI, h0]
    rw [ih]
theorem findI_none {g : Nat → α → Option ε} : ∀ (k : Nat) (xs : List α), findI g k xs = none → ∀ (j : Nat) x, xs[j]? = some x → g (k + j) x = none
  | _, [], _, j, x, hx => by simp at hx
  | k, y :: tl, h, j, x, hx => by
    simp only [findI] at h
    cases hy : g k y with
    | some e => rw [hy] at h; cases h
    | none =>
      rw [hy] at h
      cases j with
      | zero => simp at hx; subst hx; simpa using hy
      | succ j =>
        have := findI_none (k + 1) tl h j x (by simpa using hx)
        rwa [show k + 1 + j = k + (j + 1) by omega] at this
theorem findI_all {p : α → Bool} : ∀ (k : Nat) (xs : List α), findI (fun _ x => if p x then none else some ()) k xs = if xs.all p then none else some ()
  | _, [] => rfl
  | k, x :: tl => by
    have ih := findI_all (p := p) (k + 1) tl
    simp only [findI, List.all_cons]
    by_cases hp : p x = true
    · simp only [hp, if_true, Bool.true_and]; exact ih
    · have hp' : p x = false := by simpa using hp
      simp [hp']
end
theorem i64K {k : Nat} {n : Nat} (h : k < n) (hn : n ≤ 9223372036854775807) : i64 ((k : Int) + 1) = (k : Int) + 1 := i64_id (by omega) (by omega)
theorem sidx_of {s : Str} {k : Nat} {b : UInt8} (h : s[k]? = some b) : sidx s (k : Int) = some ((b.toNat : Nat) : Int) := by simp [sidx, h]
def lcI (z : Int) : Bool := decide (97 ≤ z) && decide (z ≤ 122)
def nbI (z : Int) : Bool := (lcI z || (decide (48 ≤ z) && decide (z ≤ 57))) || decide (z = 45)
def lcB (b : UInt8) : Bool := lcI (b.toNat : Int)
def nbB (b : UInt8) : Bool := nbI (b.toNat : Int)
theorem lc_nb {z : Int} (h : lcI z = true) : nbI z = true := by simp [nbI, h]
def resW : List Str := [[112, 104, 97, 115, 101], [109, 111, 118, 101], [114, 117, 108, 101], [105, 102], [111, 114], [97, 110, 100], [116, 114, 117, 101], [102, 97, 108, 115, 101], [115, 116, 101, 97, 100, 121], [110, 111, 116], [102, 111, 114], [119, 105, 116, 104, 105, 110], [99, 111, 117, 110, 116], [111, 102], [114, 105, 115, 101, 115], [115, 105, 110, 99, 101]]
theorem words_s : ref6_words = some resW := rfl
theorem mem_find {s : Str} : ∀ (k : Nat) (l : List Str), findI (fun _ x => if decide (x = s) = true then some true else none) k l = if s ∈ l then some true else none
  | _, [] => rfl
  | k, x :: tl => by
    have ih := mem_find (s := s) (k + 1) tl
    simp only [findI]
    by_cases h : x = s
    · subst h; simp
    · have h' : ¬ s = x := fun e => h e.symm
      rw [if_neg (by simpa using h)]
      simp only [ih, List.mem_cons, h', false_or]
theorem reserved_s (s : Str) : ref6_Reserved s = some (decide (s ∈ resW)) := by
  unfold ref6_Reserved
  rw [words_s, Option.bind_some]
  rw [loop_findI (xs := resW) (body := ref6_Reserved_L1 s resW) (fun _ x => if decide (x = s) = true then some true else none) Sum.inl (Sum.inr ()) (fun k x hx => ?_) (by simp [ref6_Reserved_L1]), mem_find]
  · by_cases h : s ∈ resW <;> simp [h]
  · have hlt := lt_of hx
    have e1 : i64 ((k : Int) + 1) = (k : Int) + 1 := i64K (n := 16) (by have := hlt; have e : resW.length = 16 := rfl; omega) (by omega)
    simp only [ref6_Reserved_L1, hlt, decide_true, if_true, idx_of hx, Option.bind_some, e1]
    by_cases h : x = s <;> simp [h]
theorem orW {a b : Prop} [Decidable a] [Decidable b] {o : Option Bool} (h : o = some (decide b)) : (if decide a = true then some (decide a) else o) = some (decide (a ∨ b)) := by
  by_cases h1 : a
  · simp [h1]
  · simp [h1, h]
theorem isWord_s (s : Str) : event_isWord s = some (decide (s ∈ resW)) := by
  have key : ∀ {o : Option Bool} {t : Bool}, o = some t → (o.bind (t1 fun (v : Bool) => if v = true then some true else some false)) = some t := by
    intro o t h; subst h; cases t <;> rfl
  unfold event_isWord
  refine key ?_
  simp only [resW, List.mem_cons, List.not_mem_nil, or_false]
  repeat (first | exact rfl | refine orW ?_)
def nmE : Str → Bool
  | [] => false
  | c :: tl => (lcB c && tl.all nbB) && (decide ((c :: tl).length ≤ 30) && !decide ((c :: tl) ∈ resW))
theorem evName_s (s : Str) : event_isName s = some (nmE s) := by
  unfold event_isName event_within
  rw [Option.bind_some]
  cases s with
  | nil => simp [nmE, gd]
  | cons c tl =>
    by_cases hl : (c :: tl).length ≤ 30
    · have hw : (decide (1 ≤ (((c :: tl).length : Nat) : Int)) && decide ((((c :: tl).length : Nat) : Int) ≤ 30)) = true := by
        simp only [Bool.and_eq_true, decide_eq_true_iff]; simp only [List.length_cons] at hl ⊢; omega
      have h0 : sidx (c :: tl) 0 = some ((c.toNat : Nat) : Int) := sidx_of (k := 0) rfl
      have hloop : loop (t1 (event_isName_L1 (c :: tl))) 0 = some (elimO (fun _ => Sum.inl false) (Sum.inr ()) (if (c :: tl).all nbB then none else some ())) := by
        rw [← findI_all 0]
        refine loop_findI (xs := c :: tl) (body := event_isName_L1 (c :: tl)) _ _ _ (fun k x hx => ?_) (by simp [event_isName_L1])
        have hlt := lt_of hx
        have e1 : i64 ((k : Int) + 1) = (k : Int) + 1 := i64K (n := (c :: tl).length) (by omega) (by omega)
        simp only [event_isName_L1, hlt, decide_true, if_true, sidx_of hx, Option.bind_some, e1, event_nameByte]
        have e2 : nbB x = ((((decide (97 ≤ ((x.toNat : Nat) : Int))) && (decide (((x.toNat : Nat) : Int) ≤ 122))) || ((decide (48 ≤ ((x.toNat : Nat) : Int))) && (decide (((x.toNat : Nat) : Int) ≤ 57)))) || (decide (((x.toNat : Nat) : Int) = 45))) := rfl
        rw [← e2]
        cases nbB x <;> simp
      rw [hw, h0, isWord_s, hloop]
      simp only [nmE, hl, decide_true, Bool.true_and, List.all_cons]
      by_cases hlc : lcB c = true
      · have hnb : nbB c = true := lc_nb hlc
        simp only [lcB, lcI, Bool.and_eq_true, decide_eq_true_iff] at hlc
        have h1 : ¬ ((c.toNat : Nat) : Int) < 97 := by omega
        have h2 : ¬ 122 < ((c.toNat : Nat) : Int) := by omega
        have h3 : lcB c = true := by simp only [lcB, lcI, Bool.and_eq_true, decide_eq_true_iff]; exact hlc
        simp only [Bool.not_true, beq_self_eq_true, gd_t, Option.bind_some, h1, h2, decide_false, Bool.or_self, Bool.false_or, h3, hnb, Bool.true_and]
        by_cases hr : (c :: tl) ∈ resW
        · simp [hr]
        · cases ha : tl.all nbB <;> simp [hr]
      · have h3 : lcB c = false := by simpa using hlc
        simp only [h3, Bool.false_and, Bool.not_true, beq_self_eq_true, gd_t, Option.bind_some, Bool.false_or]
        simp only [lcB, lcI, Bool.and_eq_false_iff, decide_eq_false_iff_not] at h3
        by_cases h1 : ((c.toNat : Nat) : Int) < 97
        · simp [h1, gd]
        · have h2 : 122 < ((c.toNat : Nat) : Int) := by omega
          have h2' : ¬ ((c.toNat : Nat) : Int) ≤ 122 := by omega
          simp [h1, h2, h2', gd]
    · have hw : (decide (1 ≤ (((c :: tl).length : Nat) : Int)) && decide ((((c :: tl).length : Nat) : Int) ≤ 30)) = false := by
        simp only [Bool.and_eq_false_iff, decide_eq_false_iff_not]; right; omega
      rw [hw]
      simp only [nmE, hl, decide_false, Bool.false_and, Bool.and_false]
      simp [gd]
theorem rfName_s (s : Str) (hs : s.length ≤ 9223372036854775807) : ref6_IsName s = some (nmE s) := by
  unfold ref6_IsName
  have hloop : loop (t1 (ref6_IsName_L1 s)) 0 = some (elimO (fun _ => Sum.inl false) (Sum.inr ()) (findI (fun k b => if (lcB b || (decide (0 < k) && nbB b)) = true then none else some ()) 0 s)) := by
    refine loop_findI (xs := s) (body := ref6_IsName_L1 s) _ _ _ (fun k x hx => ?_) (by simp [ref6_IsName_L1])
    have hlt := lt_of hx
    have e1 : i64 ((k : Int) + 1) = (k : Int) + 1 := i64K (n := s.length) (by omega) hs
    simp only [ref6_IsName_L1, hlt, decide_true, if_true, sidx_of hx, Option.bind_some, e1]
    have e2 : (((decide (97 ≤ ((x.toNat : Nat) : Int))) && (decide (((x.toNat : Nat) : Int) ≤ 122))) || ((decide (0 < (k : Int))) && (((decide (48 ≤ ((x.toNat : Nat) : Int))) && (decide (((x.toNat : Nat) : Int) ≤ 57))) || (decide (((x.toNat : Nat) : Int) = 45))))) = (lcB x || (decide (0 < k) && nbB x)) := by
      show (lcB x || (_ && _)) = _
      have ek : decide (0 < (k : Int)) = decide (0 < k) := by rw [decide_eq_decide]; omega
      rw [ek]
      unfold nbB nbI
      show _ = (lcB x || (_ && ((lcB x || _) || _)))
      cases lcB x <;> simp
    rw [e2]
    cases (lcB x || (decide (0 < k) && nbB x)) <;> simp
  rw [hloop]
  cases s with
  | nil => simp [nmE, findI, gd]
  | cons c tl =>
    have htl : findI (fun k b => if (lcB b || (decide (0 < k) && nbB b)) = true then none else some ()) 1 tl = if tl.all nbB then none else some () := by
      rw [← findI_all 1]
      refine findI_congr 1 tl fun j x _ => ?_
      have : decide (0 < 1 + j) = true := decide_eq_true (by omega)
      rw [this, Bool.true_and]
      cases h : lcB x with
      | false => simp
      | true => have : nbB x = true := lc_nb h; simp [this]
    simp only [findI, htl, nmE]
    cases hc : lcB c with
    | false => simp
    | true =>
      cases ha : tl.all nbB with
      | false => simp
      | true =>
        by_cases hl : (c :: tl).length ≤ 30
        · have hl' : (((c :: tl).length : Nat) : Int) ≤ 30 := by omega
          have hg : ((!decide (c :: tl = [])) && decide ((((c :: tl).length : Nat) : Int) ≤ 30)) = true := by simp [hl']; simpa using hl'
          simp only [Bool.true_or, if_true, elimO_none, Option.bind_some, Sum.elim_inr, t0_mk, hg, beq_self_eq_true, gd_t, reserved_s, hl, decide_true, Bool.true_and]
        · have hl' : ¬ (((c :: tl).length : Nat) : Int) ≤ 30 := by omega
          simp only [Bool.true_or, if_true, elimO_none, Option.bind_some, Sum.elim_inr, t0_mk, hl', hl, decide_false, Bool.and_false, Bool.false_and, Bool.true_and]
          simp [gd]
end Go.Vx

namespace Go.Vx
open Go Go.RowKit
section
variable {α ε : Type}
theorem findI_any {p : α → Bool} {e : ε} : ∀ (k : Nat) (xs : List α), findI (fun _ x => if p x = true then some e else none) k xs = if xs.any p = true then some e else none
  | _, [] => rfl
  | k, x :: tl => by
    have ih := findI_any (p := p) (e := e) (k + 1) tl
    simp only [findI, List.any_cons]
    by_cases hp : p x = true
    · simp [hp]
    · have hp' : p x = false := by simpa using hp
      simp only [hp', Bool.false_eq_true, if_false, Bool.false_or]; exact ih
theorem findI_idx {p : α → Bool} : ∀ (k : Nat) (xs : List α), (findI (fun j x => if p x = true then some (j : Int) else none) k xs = none ∧ xs.any p = false) ∨ (∃ m : Nat, findI (fun j x => if p x = true then some (j : Int) else none) k xs = some (m : Int) ∧ xs.any p = true)
  | _, [] => .inl ⟨rfl, rfl⟩
  | k, x :: tl => by
    have ih := findI_idx (p := p) (k + 1) tl
    simp only [findI, List.any_cons]
    by_cases hp : p x = true
    · exact .inr ⟨k, by simp [hp], by simp [hp]⟩
    · have hp' : p x = false := by simpa using hp
      simp only [hp', Bool.false_eq_true, if_false, Bool.false_or]; exact ih
end
theorem contT {l : List api_Track} (hl : l.length ≤ 9223372036854775807) {f : api_Track → Option Bool} {p : api_Track → Bool} (hf : ∀ x, f x = some (p x)) : slices_ContainsFunc_api_Track_api_Track l f = some (l.any p) := by
  have h : loop (t1 (slices_IndexFunc_api_Track_api_Track_L1 l f)) 0 = some (elimO Sum.inl (Sum.inr ()) (findI (fun k x => if p x = true then some (k : Int) else none) 0 l)) := by
    refine loop_findI (xs := l) (body := slices_IndexFunc_api_Track_api_Track_L1 l f) _ _ _ (fun k x hx => ?_) (by simp [slices_IndexFunc_api_Track_api_Track_L1])
    have hlt := lt_of hx
    have e1 : i64 ((k : Int) + 1) = (k : Int) + 1 := i64K (n := l.length) (by omega) hl
    simp only [slices_IndexFunc_api_Track_api_Track_L1, hlt, decide_true, if_true, idx_of hx, Option.bind_some, e1, hf]
    cases p x <;> rfl
  unfold slices_ContainsFunc_api_Track_api_Track slices_IndexFunc_api_Track_api_Track
  rw [h]
  rcases findI_idx (p := p) 0 l with ⟨h1, h2⟩ | ⟨m, h1, h2⟩
  · rw [h1, h2]; simp
  · rw [h1, h2]; simp
def trkG (l : List api_Track) (k : Nat) (x : api_Track) : Option Int :=
  if nmE x.Name = false then some 8 else if (l.take k).any (fun z => decide (z.Name = x.Name)) = true then some 5 else if (chk x.Series).2 ≠ 0 then some (chk x.Series).2 else if wi x.Long 0 1099511627776 = false then some 9 else none
def ckT (l : List api_Track) : Int := if 50 < (l.length : Int) then 3 else elimO id 0 (findI (trkG l) 0 l)
theorem slc0 {α : Type} {l : List α} {k : Nat} (h : k ≤ l.length) : slc l 0 (k : Int) = some (l.take k) := by
  unfold slc
  rw [if_pos ⟨by omega, by omega, by omega⟩]
  simp
theorem evTracks_s (l : List api_Track) : event_CheckTracks l = some (ckT l) := by
  unfold event_CheckTracks ckT
  by_cases h50 : 50 < (l.length : Int)
  · simp [h50]
  · have h : loop (t1 (event_CheckTracks_L1 l)) 0 = some (elimO Sum.inl (Sum.inr ()) (findI (trkG l) 0 l)) := by
      refine loop_findI (xs := l) (body := event_CheckTracks_L1 l) _ _ _ (fun k x hx => ?_) (by simp [event_CheckTracks_L1])
      have hlt := lt_of hx
      have e1 : i64 ((k : Int) + 1) = (k : Int) + 1 := i64K (n := l.length) (by omega) (by omega)
      have hc : slices_ContainsFunc_api_Track_api_Track (l.take k) (fun z0 => event_CheckTracks_1 z0 x) = some ((l.take k).any fun z => decide (z.Name = x.Name)) :=
        contT (by rw [List.length_take]; omega) (fun _ => rfl)
      have hw : event_within x.Long 0 1099511627776 = some (wi x.Long 0 1099511627776) := rfl
      simp only [event_CheckTracks_L1, hlt, decide_true, if_true, idx_of hx, Option.bind_some, e1, evName_s, slc0 (show k ≤ l.length by omega), hc, Check_s, hw, trkG]
      cases nmE x.Name with
      | false => simp
      | true => cases (l.take k).any (fun z => decide (z.Name = x.Name)) with
        | true => simp
        | false =>
          by_cases h0 : (chk x.Series).2 = 0
          · cases wi x.Long 0 1099511627776 <;> simp [h0]
          · simp [h0]
    rw [if_neg (by simpa using h50), if_neg h50, h]
    cases findI (trkG l) 0 l <;> simp
theorem dupR {l : List api_Track} {i : Nat} {x : api_Track} (hx : l[i]? = some x) (hl : l.length ≤ 50) : loop (t1 (ref6_CheckTracks_L2 l i)) 0 = some (if (l.take i).any (fun z => decide (z.Name = x.Name)) = true then .inl 5 else .inr ()) := by
  have hlt := lt_of hx
  have hlen : (l.take i).length = i := by rw [List.length_take]; omega
  have h : loop (t1 (ref6_CheckTracks_L2 l i)) 0 = some (elimO (fun _ => Sum.inl 5) (Sum.inr ()) (findI (fun _ z => if decide (z.Name = x.Name) = true then some () else none) 0 (l.take i))) := by
    refine loop_findI (xs := l.take i) (body := ref6_CheckTracks_L2 l i) _ _ _ (fun k z hz => ?_) (by rw [hlen]; simp [ref6_CheckTracks_L2])
    have hk : (k : Int) < (i : Int) := by have := lt_of hz; rw [hlen] at this; exact this
    have hz' : l[k]? = some z := by rw [List.getElem?_take_of_lt (by omega)] at hz; exact hz
    have e1 : i64 ((k : Int) + 1) = (k : Int) + 1 := i64_id (by omega) (by omega)
    simp only [ref6_CheckTracks_L2, hk, decide_true, if_true, idx_of hz', idx_of hx, Option.bind_some, e1]
    by_cases hn : z.Name = x.Name <;> simp [hn]
  rw [h, findI_any]
  cases (l.take i).any (fun z => decide (z.Name = x.Name)) <;> rfl
theorem rfTracks_s (l : List api_Track) (hs : ∀ x ∈ l, x.Name.length ≤ 9223372036854775807) : ref6_CheckTracks l = some (ckT l) := by
  unfold ref6_CheckTracks ckT
  by_cases h50 : 50 < (l.length : Int)
  · simp [h50]
  · have h : loop (t1 (ref6_CheckTracks_L1 l)) 0 = some (elimO Sum.inl (Sum.inr ()) (findI (trkG l) 0 l)) := by
      refine loop_findI (xs := l) (body := ref6_CheckTracks_L1 l) _ _ _ (fun k x hx => ?_) (by simp [ref6_CheckTracks_L1])
      have hlt := lt_of hx
      have e1 : i64 ((k : Int) + 1) = (k : Int) + 1 := i64K (n := l.length) (by omega) (by omega)
      have hw : ref6_outside x.Long 0 1099511627776 = some (!wi x.Long 0 1099511627776) := outside_s _ _ _
      simp only [ref6_CheckTracks_L1, hlt, decide_true, if_true, idx_of hx, Option.bind_some, e1, rfName_s x.Name (hs x (List.mem_of_getElem? hx)), dupR hx (by omega), rCheck_s, hw, trkG]
      cases nmE x.Name with
      | false => simp
      | true => cases (l.take k).any (fun z => decide (z.Name = x.Name)) with
        | true => simp
        | false =>
          by_cases h0 : (chk x.Series).2 = 0
          · cases wi x.Long 0 1099511627776 <;> simp [h0]
          · simp [h0]
    rw [if_neg (by simpa using h50), if_neg h50, h]
    cases findI (trkG l) 0 l <;> simp
theorem ckT_ok {t : api_Track} {l : List api_Track} (h : ckT l = 0) (ht : t ∈ l) : (chk t.Series).2 = 0 ∧ wi t.Long 0 1099511627776 = true := by
  unfold ckT at h
  split at h
  · cases h
  · obtain ⟨j, hj⟩ := List.mem_iff_getElem?.1 ht
    cases hf : findI (trkG l) 0 l with
    | none =>
      have := findI_none 0 l hf j t hj
      unfold trkG at this
      split at this
      · cases this
      · split at this
        · cases this
        · split at this
          · cases this
          · rename_i h0
            split at this
            · cases this
            · rename_i h1
              exact ⟨by simpa using h0, by simpa using h1⟩
    | some e =>
      rw [hf] at h
      have he : e = 0 := h
      subst he
      exfalso
      have key : ∀ (k : Nat) (xs : List api_Track) , findI (trkG l) k xs ≠ some 0 := by
        intro k xs
        induction xs generalizing k with
        | nil => intro e; cases e
        | cons x tl ih =>
          intro e
          simp only [findI] at e
          cases hg : trkG l k x with
          | none => rw [hg] at e; exact ih _ e
          | some v =>
            rw [hg] at e
            cases e
            unfold trkG at hg
            repeat' split at hg
            all_goals first | (cases hg; done) | simp_all
      exact key 0 l hf
end Go.Vx
