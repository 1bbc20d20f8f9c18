/- A text of the proof: a verified executor of the program form, or the contracts of the functions that the law reaches. -/
import Derived.Test.YtafmdjdjabifjaaGreatDoorPU
set_option linter.all false
namespace Go.Vx
open Go Go.RowKit
/-! ## Panels checked; the law of checks -/
theorem contIns {l : List api_Instrument} (hl : l.length ≤ 9223372036854775807) {f : api_Instrument → Option Bool} {p : api_Instrument → Bool} (hf : ∀ x, f x = some (p x)) : slices_ContainsFunc_api_Instrument_api_Instrument l f = some (l.any p) := by
  have h : loop (t1 (slices_IndexFunc_api_Instrument_api_Instrument_L1 l f)) 0 = some (elimO Sum.inl (Sum.inr ()) (findI (fun k x => if p x = true then some (k : Int) else none) 0 l)) := by
    refine loop_findI (xs := l) (body := slices_IndexFunc_api_Instrument_api_Instrument_L1 l f) _ _ _ (fun k x hx => ?_) (by simp [slices_IndexFunc_api_Instrument_api_Instrument_L1])
    have hlt := lt_of hx
    have e1 : i64 ((k : Int) + 1) = (k : Int) + 1 := i64K (n := l.length) (by omega) hl
    simp only [slices_IndexFunc_api_Instrument_api_Instrument_L1, hlt, decide_true, if_true, idx_of hx, Option.bind_some, e1, hf]
    cases p x <;> rfl
  unfold slices_ContainsFunc_api_Instrument_api_Instrument slices_IndexFunc_api_Instrument_api_Instrument
  rw [h]
  rcases findI_idx (p := p) 0 l with ⟨h1, h2⟩ | ⟨m, h1, h2⟩
  · rw [h1, h2]; simp
  · rw [h1, h2]; simp
def panG (xs : List api_Instrument) (k : Nat) (x : api_Instrument) : Option Int :=
  if instV x ≠ 0 then some (instV x) else if (xs.take k).any (fun z => decide (z.Name = x.Name)) = true then some 5 else none
def panV (p : api_Panel) : Int := if 100 < (p.Instruments.length : Int) then 3 else elimO id 0 (findI (panG p.Instruments) 0 p.Instruments)
theorem pCheck_s (p : api_Panel) : panel_Check p = some (panV p) := by
  unfold panel_Check panV
  by_cases h50 : 100 < (p.Instruments.length : Int)
  · simp [h50]
  · have h : loop (t1 (panel_Check_L1 p)) 0 = some (elimO Sum.inl (Sum.inr ()) (findI (panG p.Instruments) 0 p.Instruments)) := by
      refine loop_findI (xs := p.Instruments) (body := panel_Check_L1 p) _ _ _ (fun k x hx => ?_) (by simp [panel_Check_L1])
      have hlt := lt_of hx
      have e1 : i64 ((k : Int) + 1) = (k : Int) + 1 := i64K (n := p.Instruments.length) (by omega) (by omega)
      have hc : slices_ContainsFunc_api_Instrument_api_Instrument (p.Instruments.take k) (fun z0 => panel_Check_1 z0 x) = some ((p.Instruments.take k).any fun z => decide (z.Name = x.Name)) :=
        contIns (by rw [List.length_take]; omega) (fun _ => rfl)
      simp only [panel_Check_L1, hlt, decide_true, if_true, idx_of hx, Option.bind_some, e1, pInst_s, slc0 (show k ≤ p.Instruments.length by omega), hc, panG]
      by_cases h0 : instV x = 0
      · cases (p.Instruments.take k).any (fun z => decide (z.Name = x.Name)) <;> simp [h0]
      · simp [h0]
    simp only [h50, decide_false, Bool.false_eq_true, if_false, h]
    cases findI (panG p.Instruments) 0 p.Instruments <;> simp
theorem dupI {l : List api_Instrument} {x : api_Instrument} (hl : l.length ≤ 100) : loop (t1 (ref8_Check_L2 x l)) 0 = some (if l.any (fun z => decide (z.Name = x.Name)) = true then .inl 5 else .inr ()) := by
  have h : loop (t1 (ref8_Check_L2 x l)) 0 = some (elimO (fun _ => Sum.inl 5) (Sum.inr ()) (findI (fun _ z => if decide (z.Name = x.Name) = true then some () else none) 0 l)) := by
    refine loop_findI (xs := l) (body := ref8_Check_L2 x l) _ _ _ (fun k z hz => ?_) (by simp [ref8_Check_L2])
    have hlt := lt_of hz
    have e1 : i64 ((k : Int) + 1) = (k : Int) + 1 := i64_id (by omega) (by omega)
    simp only [ref8_Check_L2, hlt, decide_true, if_true, idx_of hz, Option.bind_some, e1]
    by_cases hn : z.Name = x.Name <;> simp [hn]
  rw [h, findI_any]
  cases l.any (fun z => decide (z.Name = x.Name)) <;> rfl
theorem rCheckP_s (p : api_Panel) (hw : ∀ x ∈ p.Instruments, wfIns x) : ref8_Check p = some (panV p) := by
  unfold ref8_Check panV
  by_cases h50 : 100 < (p.Instruments.length : Int)
  · simp [h50]
  · have h : loop (t1 (ref8_Check_L1 p)) 0 = some (elimO Sum.inl (Sum.inr ()) (findI (panG p.Instruments) 0 p.Instruments)) := by
      refine loop_findI (xs := p.Instruments) (body := ref8_Check_L1 p) _ _ _ (fun k x hx => ?_) (by simp [ref8_Check_L1])
      have hlt := lt_of hx
      have e1 : i64 ((k : Int) + 1) = (k : Int) + 1 := i64K (n := p.Instruments.length) (by omega) (by omega)
      simp only [ref8_Check_L1, hlt, decide_true, if_true, idx_of hx, Option.bind_some, e1, rInst_s x (hw x (List.mem_of_getElem? hx)), slc0 (show k ≤ p.Instruments.length by omega), dupI (x := x) (l := p.Instruments.take k) (by rw [List.length_take]; omega), panG]
      by_cases h0 : instV x = 0
      · cases (p.Instruments.take k).any (fun z => decide (z.Name = x.Name)) <;> simp [h0]
      · simp [h0]
    simp only [h50, decide_false, Bool.false_eq_true, if_false, h]
    cases findI (panG p.Instruments) 0 p.Instruments <;> simp
theorem panV_len {p : api_Panel} (h : panV p = 0) : p.Instruments.length ≤ 100 := by
  unfold panV at h
  split at h
  · cases h
  · omega
theorem mks_of {α : Type} {n : Nat} (h : n ≤ 4294967296) (z : α) : mks (n : Int) z = some (List.replicate n z) := by
  unfold mks
  rw [if_pos ⟨by omega, by omega⟩, Int.toNat_natCast]
def firstV (p : api_Panel) : api_PanelState × Int := if panV p ≠ 0 then (api_PanelState.mk 0 [], panV p) else (api_PanelState.mk (-1) (List.replicate p.Instruments.length (api_Memo.mk false false 0 0 [])), 0)
theorem pFirst_s (p : api_Panel) : panel_First p = some (firstV p) := by
  unfold panel_First panel_first firstV
  rw [pCheck_s, Option.bind_some]
  by_cases h : panV p = 0
  · have := panV_len h
    rw [mks_of (by omega)]; simp [h]
  · simp [h]
theorem rFirst_s (p : api_Panel) (hw : ∀ x ∈ p.Instruments, wfIns x) : ref8_First p = some (firstV p) := by
  unfold ref8_First firstV
  rw [rCheckP_s p hw, Option.bind_some]
  by_cases h : panV p = 0
  · have := panV_len h
    rw [mks_of (by omega)]; simp [h]
  · simp [h]
theorem eqTape0 : slices_Equal_int_int [] [] = some true := by
  have h : loop (t1 (slices_Equal_int_int_L1 [] [])) 0 = some (Sum.inr ()) :=
    loop_ix1 (xs := ([] : List Int)) (body := slices_Equal_int_int_L1 [] []) (fun _ => Sum.inr ()) (fun k x hx => by simp at hx) (by simp [slices_Equal_int_int_L1])
  unfold slices_Equal_int_int
  rw [h]; rfl
theorem same0 (f : Int) {n : Nat} (hn : n ≤ 100) : law8_sameState (api_PanelState.mk f (List.replicate n (api_Memo.mk false false 0 0 []))) (api_PanelState.mk f (List.replicate n (api_Memo.mk false false 0 0 []))) = some true := by
  have hm : law8_sameMemo (api_Memo.mk false false 0 0 []) (api_Memo.mk false false 0 0 []) = some true := by simp [law8_sameMemo, eqTape0]
  have h : loop (t1 (slices_EqualFunc_api_Memo_api_Memo_api_Memo_api_Memo_L1 (List.replicate n (api_Memo.mk false false 0 0 [])) (List.replicate n (api_Memo.mk false false 0 0 [])) (fun z0 z1 => law8_sameMemo z0 z1))) 0 = some (Sum.inr ()) := by
    refine loop_ix1 (xs := List.replicate n (api_Memo.mk false false 0 0 [])) (body := slices_EqualFunc_api_Memo_api_Memo_api_Memo_api_Memo_L1 _ _ _) (fun _ => Sum.inr ()) (fun k x hx => .inl ⟨?_, rfl⟩) (by simp [slices_EqualFunc_api_Memo_api_Memo_api_Memo_api_Memo_L1])
    have hlt := lt_of hx
    have hx' : x = api_Memo.mk false false 0 0 [] := by
      have := List.mem_of_getElem? hx
      exact (List.mem_replicate.1 this).2
    have hl : ((List.replicate n (api_Memo.mk false false 0 0 [])).length : Int) = n := by simp
    have e1 : i64 ((k : Int) + 1) = (k : Int) + 1 := i64_id (by omega) (by omega)
    subst hx'
    simp only [slices_EqualFunc_api_Memo_api_Memo_api_Memo_api_Memo_L1, hlt, decide_true, if_true, idx_of hx, Option.bind_some, e1, hm]
    rfl
  unfold law8_sameState slices_EqualFunc_api_Memo_api_Memo_api_Memo_api_Memo
  simp only [h]
  simp
theorem law_PCheck (p : api_Panel) (hw : wf_api_Panel p) : law8_PanelCheckMatchesSpec p = some true := by
  have hi : ∀ x ∈ p.Instruments, wfIns x := fun x hx => by
    have := hw.1.2 x hx
    exact ⟨this.2.1, fun z hz => (this.2.2.2.2.2.2.2.1.2 z hz).2.2.1⟩
  have h : loop (t1 (law8_PanelCheckMatchesSpec_L1 p)) 0 = some (Sum.inr ()) := by
    refine loop_ix1 (xs := p.Instruments) (body := law8_PanelCheckMatchesSpec_L1 p) (fun _ => Sum.inr ()) (fun k x hx => .inl ⟨?_, rfl⟩) (by simp [law8_PanelCheckMatchesSpec_L1])
    have hlt := lt_of hx
    have e1 : i64 ((k : Int) + 1) = (k : Int) + 1 := i64K (n := p.Instruments.length) (by omega) hw.1.1
    simp only [law8_PanelCheckMatchesSpec_L1, hlt, decide_true, if_true, idx_of hx, Option.bind_some, e1, pInst_s, rInst_s x (hi x (List.mem_of_getElem? hx))]
    simp
  have hs : law8_sameState (firstV p).1 (firstV p).1 = some true := by
    unfold firstV
    by_cases h0 : panV p = 0
    · rw [if_neg (by simpa using h0)]; exact same0 _ (panV_len h0)
    · rw [if_pos (by simpa using h0)]; exact same0 0 (n := 0) (by omega)
  unfold law8_PanelCheckMatchesSpec
  rw [h]
  simp [pFirst_s, rFirst_s p hi, pCheck_s, rCheckP_s p hi, hs, shown_s]
end Go.Vx

namespace Go.Vx
open Go Go.RowKit
/-! ## What is shown; its law -/
def vV (t : api_Track) (f : Int) : api_Sample × Bool := ((outH (heldAt t.Series.Samples (64 * f + 63) t.Long)).1, (outH (heldAt t.Series.Samples (64 * f + 63) t.Long)).2)
theorem val_s {t : api_Track} (hc : (chk t.Series).2 = 0) (hl : wi t.Long 0 1099511627776 = true) {frame : Int} (f1 : 0 ≤ frame) (f2 : frame ≤ 4194303) : panel_value t frame = some (vV t frame) ∧ ref8_valueAt t frame = some (vV t frame) := by
  have e1 : i64 (64 * frame) = 64 * frame := i64_id (by omega) (by omega)
  have e2 : i64 (64 * frame + 64) = 64 * frame + 64 := i64_id (by omega) (by omega)
  have e3 : i64 (64 * frame + 64 - 1) = 64 * frame + 63 := by rw [show 64 * frame + 64 - 1 = 64 * frame + 63 by omega]; exact i64_id (by omega) (by omega)
  have e4 : i64 (64 * frame + 63) = 64 * frame + 63 := i64_id (by omega) (by omega)
  have ht : (0 : Int) ≤ 64 * frame + 63 ∧ 64 * frame + 63 ≤ 1099511627776 := by omega
  constructor
  · unfold panel_value series_Held
    rw [e1, e2, e3, hold_s (ser_ok hc) _ _ ht]; rfl
  · unfold ref8_valueAt
    rw [e1, e4, rHold_s]
    have hwi : wi (64 * frame + 63) 0 1099511627776 = true := wi_iff.2 ht
    simp [outHold, hc, hwi, hl, vV]
/-! the track of a name -/
theorem findI_two {α : Type} {p : α → Bool} : ∀ (k : Nat) (xs : List α), (findI (fun j x => if p x = true then some (j : Int) else none) k xs = none ∧ findI (fun _ x => if p x = true then some x else none) k xs = none) ∨
    (∃ (m : Nat) (x : α), findI (fun j x => if p x = true then some (j : Int) else none) k xs = some ((k + m : Nat) : Int) ∧ findI (fun _ x => if p x = true then some x else none) k xs = some x ∧ xs[m]? = some x)
  | _, [] => .inl ⟨rfl, rfl⟩
  | k, x :: tl => by
    have ih := findI_two (p := p) (k + 1) tl
    simp only [findI]
    by_cases hp : p x = true
    · exact .inr ⟨0, x, by simp [hp], by simp [hp], rfl⟩
    · have hp' : p x = false := by simpa using hp
      simp only [hp', Bool.false_eq_true, if_false]
      rcases ih with h | ⟨m, y, h1, h2, h3⟩
      · exact .inl h
      · exact .inr ⟨m + 1, y, by rw [h1]; congr 2; omega, h2, by simpa using h3⟩
def tkI (l : List api_Track) (nm : Str) : Option Int := findI (fun j x => if decide (x.Name = nm) = true then some (j : Int) else none) 0 l
def tkT (l : List api_Track) (nm : Str) : Option api_Track := findI (fun _ x => if decide (x.Name = nm) = true then some x else none) 0 l
theorem tk_two (l : List api_Track) (nm : Str) : (tkI l nm = none ∧ tkT l nm = none) ∨ (∃ (m : Nat) (x : api_Track), tkI l nm = some (m : Int) ∧ tkT l nm = some x ∧ l[m]? = some x) := by
  rcases findI_two (p := fun x : api_Track => decide (x.Name = nm)) 0 l with h | ⟨m, x, h1, h2, h3⟩
  · exact .inl h
  · exact .inr ⟨m, x, by rw [Nat.zero_add] at h1; exact h1, h2, h3⟩
theorem trackOf_s {l : List api_Track} (hl : l.length ≤ 50) (i : api_Instrument) : panel_trackOf l i = some (elimO id (-1) (tkI l i.Track)) := by
  have h : loop (t1 (slices_IndexFunc_api_Track_api_Track_L1 l (fun z0 => panel_trackOf_1 z0 i))) 0 = some (elimO Sum.inl (Sum.inr ()) (tkI l i.Track)) := by
    refine loop_findI (xs := l) (body := slices_IndexFunc_api_Track_api_Track_L1 l _) _ _ _ (fun k x hx => ?_) (by simp [slices_IndexFunc_api_Track_api_Track_L1])
    have hlt := lt_of hx
    have e1 : i64 ((k : Int) + 1) = (k : Int) + 1 := i64K (n := l.length) (by omega) (by omega)
    simp only [slices_IndexFunc_api_Track_api_Track_L1, hlt, decide_true, if_true, idx_of hx, Option.bind_some, e1, panel_trackOf_1]
    cases decide (x.Name = i.Track) <;> rfl
  unfold panel_trackOf slices_IndexFunc_api_Track_api_Track
  rw [h]
  cases tkI l i.Track <;> rfl
theorem track8_s {l : List api_Track} (hl : l.length ≤ 50) (nm : Str) : ref8_track l nm = some (elimO (fun x => (x, true)) (api_Track.mk [] (api_Series.mk 0 []) 0, false) (tkT l nm)) := by
  have h : loop (t1 (ref8_track_L1 l nm)) 0 = some (elimO (fun x => Sum.inl (x, true)) (Sum.inr ()) (tkT l nm)) := by
    refine loop_findI (xs := l) (body := ref8_track_L1 l nm) _ _ _ (fun k x hx => ?_) (by simp [ref8_track_L1])
    have hlt := lt_of hx
    have e1 : i64 ((k : Int) + 1) = (k : Int) + 1 := i64K (n := l.length) (by omega) (by omega)
    simp only [ref8_track_L1, hlt, decide_true, if_true, idx_of hx, Option.bind_some, e1]
    cases decide (x.Name = nm) <;> rfl
  unfold ref8_track
  rw [h]
  cases tkT l nm <;> rfl
theorem ckT_len {l : List api_Track} (h : ckT l = 0) : l.length ≤ 50 := by
  unfold ckT at h
  split at h
  · cases h
  · omega
def noTk (l : List api_Track) (i : api_Instrument) : Bool := (tkT l i.Track).isNone
def bothV (p : api_Panel) (l : List api_Track) : Int := if panV p ≠ 0 then panV p else if ckT l ≠ 0 then ckT l else if p.Instruments.any (noTk l) = true then 4 else 0
theorem pBoth_s (p : api_Panel) (l : List api_Track) : panel_checkBoth p l = some (bothV p l) := by
  unfold panel_checkBoth bothV
  rw [pCheck_s, evTracks_s]
  simp only [Option.bind_some]
  by_cases h0 : panV p = 0
  · by_cases h1 : ckT l = 0
    · have hl := ckT_len h1
      have hp := panV_len h0
      have hc : slices_ContainsFunc_api_Instrument_api_Instrument p.Instruments (fun z0 => panel_checkBoth_1 z0 l) = some (p.Instruments.any (noTk l)) := by
        refine contIns (by omega) fun x => ?_
        unfold panel_checkBoth_1
        rw [trackOf_s hl, Option.bind_some]
        unfold noTk
        rcases tk_two l x.Track with ⟨a, b⟩ | ⟨m, y, a, b, _⟩
        · rw [a, b]; rfl
        · rw [a, b]
          have : decide (((m : Nat) : Int) < 0) = false := decide_eq_false (by omega)
          show some (decide (((m : Nat) : Int) < 0)) = _
          rw [this]; rfl
      rw [hc]
      cases p.Instruments.any (noTk l) <;> simp [h0, h1]
    · simp [h0, h1]
  · simp [h0]
theorem rBoth_s (p : api_Panel) (l : List api_Track) (hw : ∀ x ∈ p.Instruments, wfIns x) (hs : ∀ x ∈ l, wfS x.Name) : ref8_Fault p l = some (bothV p l) := by
  unfold ref8_Fault bothV
  rw [rCheckP_s p hw, rfTracks_s l hs]
  simp only [Option.bind_some]
  by_cases h0 : panV p = 0
  · by_cases h1 : ckT l = 0
    · have hl := ckT_len h1
      have hp := panV_len h0
      have h : loop (t1 (ref8_Fault_L1 p l)) 0 = some (elimO Sum.inl (Sum.inr ()) (findI (fun _ x => if noTk l x = true then some 4 else none) 0 p.Instruments)) := by
        refine loop_findI (xs := p.Instruments) (body := ref8_Fault_L1 p l) _ _ _ (fun k x hx => ?_) (by simp [ref8_Fault_L1])
        have hlt := lt_of hx
        have e1 : i64 ((k : Int) + 1) = (k : Int) + 1 := i64K (n := p.Instruments.length) (by omega) (by omega)
        simp only [ref8_Fault_L1, hlt, decide_true, if_true, idx_of hx, Option.bind_some, e1, track8_s hl, noTk]
        rcases tk_two l x.Track with ⟨_, b⟩ | ⟨m, t, _, b, _⟩ <;> simp [b]
      rw [h, findI_any]
      cases p.Instruments.any (noTk l) <;> simp [h0, h1]
    · simp [h0, h1]
  · simp [h0]
/-! the loop over frames -/
def runS (stp : Nat → List api_Extent → List api_Extent) : Nat → Nat → List api_Extent → List api_Extent
  | 0, _, out => out
  | m + 1, n, out => runS stp m (n + 1) (stp n out)
theorem runS_len {stp : Nat → List api_Extent → List api_Extent} (hs : ∀ n out, out.length ≤ n → (stp n out).length ≤ n + 1) : ∀ (m n : Nat) (out : List api_Extent), out.length ≤ n → (runS stp m n out).length ≤ n + m
  | 0, _, _, h => h
  | m + 1, n, out, h => by
    have := runS_len hs m (n + 1) (stp n out) (hs n out h)
    show (runS stp m (n + 1) (stp n out)).length ≤ _
    omega
theorem loop_for {to : Nat} (stp : Nat → List api_Extent → List api_Extent) (hs : ∀ n out, out.length ≤ n → (stp n out).length ≤ n + 1) {body : List api_Extent → Int → Option ((List api_Extent × Int) ⊕ List api_Extent)}
    (hb : ∀ (n : Nat) out, n ≤ to → out.length ≤ n → body out n = some (.inl (stp n out, (n : Int) + 1))) (he : ∀ out, body out ((to : Int) + 1) = some (.inr out)) :
    loop (t2 body) ([], 0) = some (runS stp (to + 1) 0 []) := by
  refine loop_to (body := t2 body) (fun p => ∃ n : Nat, p.2 = (n : Int) ∧ n ≤ to + 1 ∧ p.1.length ≤ n) (fun p => to + 1 - p.2.toNat) (fun p => runS stp (to + 1 - p.2.toNat) p.2.toNat p.1) ?_ ([], 0) ⟨0, rfl, by omega, Nat.le_refl _⟩
  rintro ⟨out, i⟩ ⟨n, hi, hn, hl⟩
  simp only at hi hl
  subst hi
  simp only [t2_mk, Int.toNat_natCast]
  by_cases h : n ≤ to
  · left
    refine ⟨(stp n out, (n : Int) + 1), hb n out h hl, ⟨n + 1, by push_cast; rfl, by omega, hs n out hl⟩, ?_, ?_⟩
    · simp only; omega
    · simp only
      have e : ((n : Int) + 1).toNat = n + 1 := by omega
      rw [e, show to + 1 - n = (to + 1 - (n + 1)) + 1 by omega]
      rfl
  · right
    obtain rfl : n = to + 1 := by omega
    rw [show ((to + 1 : Nat) : Int) = (to : Int) + 1 by push_cast; rfl, he]
    simp [runS]
def stepS (t : api_Track) (n : Nat) (out : List api_Extent) : List api_Extent :=
  if (vV t n).2 = false then out else match out[out.length - 1]? with
    | some x => if decide (0 < (out.length : Int)) = true ∧ x.To = (n : Int) - 1 then out.set (out.length - 1) (api_Extent.mk x.From n) else out ++ [api_Extent.mk n n]
    | none => out ++ [api_Extent.mk n n]
theorem stepS_len (t : api_Track) (n : Nat) (out : List api_Extent) (h : out.length ≤ n) : (stepS t n out).length ≤ n + 1 := by
  unfold stepS
  split
  · omega
  · split
    · split
      · rw [List.length_set]; omega
      · rw [List.length_append]; simp; omega
    · rw [List.length_append]; simp; omega
theorem app1 {out : List api_Extent} {n : Nat} (h : out.length ≤ n) (hn : n ≤ 19999) (x : api_Extent) : app out [x] = some (out ++ [x]) := app_of (by simp; omega)
theorem last_s {out : List api_Extent} (h : out.length ≤ 19999) : (out = []) ∨ (∃ x, out[out.length - 1]? = some x ∧ i64 ((out.length : Int) - 1) = ((out.length - 1 : Nat) : Int) ∧ 0 < (out.length : Int)) := by
  cases out with
  | nil => exact .inl rfl
  | cons a tl =>
    right
    obtain ⟨x, hx⟩ := get_ex (xs := a :: tl) (k := (a :: tl).length - 1) (by simp)
    refine ⟨x, hx, ?_, by simp only [List.length_cons]; omega⟩
    have e : (((a :: tl).length : Int) - 1) = (((a :: tl).length - 1 : Nat) : Int) := by simp only [List.length_cons]; omega
    rw [e]; exact i64_id (by omega) (by omega)
theorem shown_L {t : api_Track} (hc : (chk t.Series).2 = 0) (hl : wi t.Long 0 1099511627776 = true) {to : Nat} (hto : to ≤ 19999) :
    ∃ r, r.length ≤ 20000 ∧ loop (t2 (panel_Shown_L1 to t)) ([], 0) = some r ∧ loop (t2 (ref8_Shown_L1 to (t, true))) ([], 0) = some r := by
  refine ⟨runS (stepS t) (to + 1) 0 [], ?_, ?_, ?_⟩
  · have := runS_len (stepS_len t) (to + 1) 0 [] (Nat.le_refl _); omega
  · have e0 : i64 ((to : Int) + 1) = (to : Int) + 1 := i64_id (by omega) (by omega)
    refine loop_for (stepS t) (stepS_len t) (fun n out hn ho => ?_) (fun out => ?_)
    · have hlt : decide ((n : Int) < (to : Int) + 1) = true := decide_eq_true (by omega)
      have e1 : i64 ((n : Int) + 1) = (n : Int) + 1 := i64_id (by omega) (by omega)
      have e2 : i64 ((n : Int) - 1) = (n : Int) - 1 := i64_id (by omega) (by omega)
      simp only [panel_Shown_L1, e0, hlt, if_true, (val_s hc hl (frame := n) (by omega) (by omega)).1, Option.bind_some, e1, e2, stepS]
      cases (vV t n).2 with
      | false => simp
      | true =>
        rcases last_s (show out.length ≤ 19999 by omega) with rfl | ⟨x, hx, h1, h2⟩
        · simp [gd, app1 (out := []) (n := n) (by simp) (by omega)]
        · simp only [h1, decide_eq_true h2, beq_self_eq_true, gd_t, idx_of hx, Option.bind_some, Bool.true_and, hx]
          by_cases ht : x.To = (n : Int) - 1
          · simp [ht]
          · simp [ht, app1 ho (show n ≤ 19999 by omega)]
    · have hlt : decide ((to : Int) + 1 < (to : Int) + 1) = false := decide_eq_false (by omega)
      simp only [panel_Shown_L1, e0, hlt, Bool.false_eq_true, if_false]
  · refine loop_for (stepS t) (stepS_len t) (fun n out hn ho => ?_) (fun out => ?_)
    · have hlt : decide ((n : Int) ≤ (to : Int)) = true := decide_eq_true (by omega)
      have e1 : i64 ((n : Int) + 1) = (n : Int) + 1 := i64_id (by omega) (by omega)
      have e2 : i64 ((n : Int) - 1) = (n : Int) - 1 := i64_id (by omega) (by omega)
      simp only [ref8_Shown_L1, hlt, if_true, (val_s hc hl (frame := n) (by omega) (by omega)).2, Option.bind_some, e1, e2, stepS]
      cases (vV t n).2 with
      | false => simp
      | true =>
        rcases last_s (show out.length ≤ 19999 by omega) with rfl | ⟨x, hx, h1, h2⟩
        · simp [gd, app1 (out := []) (n := n) (by simp) (by omega)]
        · simp only [h1, decide_eq_true h2, beq_self_eq_true, gd_t, idx_of hx, Option.bind_some, Bool.true_and, hx]
          by_cases ht : x.To = (n : Int) - 1
          · simp [ht]
          · simp [ht, app1 ho (show n ≤ 19999 by omega)]
    · have hlt : decide ((to : Int) + 1 ≤ (to : Int)) = false := decide_eq_false (by omega)
      simp only [ref8_Shown_L1, hlt, Bool.false_eq_true, if_false]
theorem Shown_t (p : api_Panel) (l : List api_Track) (k to : Int) (hw : ∀ x ∈ p.Instruments, wfIns x) (hs : ∀ x ∈ l, wfS x.Name) : ∃ r e, r.length ≤ 20000 ∧ panel_Shown p l k to = some (r, e) ∧ ref8_Shown p l k to = some (r, e) := by
  unfold panel_Shown ref8_Shown
  rw [pBoth_s, rBoth_s p l hw hs]
  simp only [Option.bind_some]
  by_cases h0 : bothV p l = 0
  · have hv : panV p = 0 ∧ ckT l = 0 ∧ p.Instruments.any (noTk l) = false := by
      unfold bothV at h0
      split at h0
      · rename_i h; exact absurd h0 h
      · rename_i h
        split at h0
        · rename_i h'; exact absurd h0 h'
        · rename_i h'
          split at h0
          · cases h0
          · rename_i h''
            exact ⟨by omega, by omega, by simpa using h''⟩
    obtain ⟨v1, v2, v3⟩ := hv
    have hp := panV_len v1
    have hl := ckT_len v2
    have e1 : i64 ((p.Instruments.length : Int) - 1) = (p.Instruments.length : Int) - 1 := i64_id (by omega) (by omega)
    have w1 : panel_within k 0 ((p.Instruments.length : Int) - 1) = some (wi k 0 ((p.Instruments.length : Int) - 1)) := rfl
    have w2 : panel_within to 0 19999 = some (wi to 0 19999) := rfl
    have w3 : ref8_outside k 0 ((p.Instruments.length : Int) - 1) = some (!wi k 0 ((p.Instruments.length : Int) - 1)) := outside_s _ _ _
    have w4 : ref8_outside to 0 19999 = some (!wi to 0 19999) := outside_s _ _ _
    simp only [e1, w1, w2, w3, w4, Option.bind_some]
    cases hk : wi k 0 ((p.Instruments.length : Int) - 1) with
    | false => exact ⟨[], 9, by simp, by simp [h0], by simp [h0]⟩
    | true => cases ht : wi to 0 19999 with
      | false => exact ⟨[], 9, by simp, by simp [h0], by simp [h0]⟩
      | true =>
        obtain ⟨k1, k2⟩ := wi_iff.1 hk
        obtain ⟨t1, t2⟩ := wi_iff.1 ht
        obtain ⟨kn, rfl⟩ := Int.eq_ofNat_of_zero_le k1
        obtain ⟨tn, rfl⟩ := Int.eq_ofNat_of_zero_le t1
        obtain ⟨x, hx⟩ := get_ex (xs := p.Instruments) (k := kn) (by omega)
        have hxm := List.mem_of_getElem? hx
        have hno : noTk l x = false := by
          cases h : noTk l x with
          | false => rfl
          | true => rw [List.any_eq_false] at v3; exact absurd h (v3 x hxm)
        rcases tk_two l x.Track with ⟨_, b⟩ | ⟨m, t, a, b, c⟩
        · unfold noTk at hno; rw [b] at hno; cases hno
        · have htm := List.mem_of_getElem? c
          obtain ⟨c1, c2⟩ := ckT_ok v2 htm
          obtain ⟨r, hr0, hr1, hr2⟩ := shown_L c1 c2 (to := tn) (by omega)
          have a1 : panel_trackOf l x = some (m : Int) := by rw [trackOf_s hl, a]; rfl
          have a2 : ref8_track l x.Track = some (t, true) := by rw [track8_s hl, b]; rfl
          have ix : idx p.Instruments ((kn : Nat) : Int) = some x := idx_of hx
          have il : idx l ((m : Nat) : Int) = some t := idx_of c
          exact ⟨r, 0, hr0, by simp [h0, ix, a1, il, hr1], by simp [h0, ix, a2, hr2]⟩
  · exact ⟨[], bothV p l, by simp, by simp [h0], by simp [h0]⟩
theorem eqExt {r : List api_Extent} (h : r.length ≤ 20000) : slices_Equal_api_Extent_api_Extent r r = some true := by
  have hh : loop (t1 (slices_Equal_api_Extent_api_Extent_L1 r r)) 0 = some (Sum.inr ()) := by
    refine loop_ix1 (xs := r) (body := slices_Equal_api_Extent_api_Extent_L1 r r) (fun _ => Sum.inr ()) (fun k x hx => .inl ⟨?_, rfl⟩) (by simp [slices_Equal_api_Extent_api_Extent_L1])
    have hlt := lt_of hx
    have e1 : i64 ((k : Int) + 1) = (k : Int) + 1 := i64_id (by omega) (by omega)
    simp only [slices_Equal_api_Extent_api_Extent_L1, hlt, decide_true, if_true, idx_of hx, Option.bind_some, e1]
    simp
  unfold slices_Equal_api_Extent_api_Extent
  rw [hh]; simp
theorem law_PShown (p : api_Panel) (l : List api_Track) (instrument to : Int) (hp : wf_api_Panel p) (hl : wfL wf_api_Track l) : law8_PanelShownMatchesSpec p l instrument to = some true := by
  have hi : ∀ x ∈ p.Instruments, wfIns x := fun x hx => by
    have := hp.1.2 x hx
    exact ⟨this.2.1, fun z hz => (this.2.2.2.2.2.2.2.1.2 z hz).2.2.1⟩
  obtain ⟨r, e, h0, h1, h2⟩ := Shown_t p l instrument to hi (fun x hx => (hl.2 x hx).1)
  simp [law8_PanelShownMatchesSpec, h1, h2, eqExt h0, shown_s]
end Go.Vx
