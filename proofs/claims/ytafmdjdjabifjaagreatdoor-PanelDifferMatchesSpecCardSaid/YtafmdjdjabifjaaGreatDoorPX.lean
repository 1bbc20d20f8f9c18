/- A text of the proof: a verified executor of the program form, or the contracts of the functions that the law reaches. -/
import Derived.Test.YtafmdjdjabifjaaGreatDoorPU
set_option linter.all false
namespace Go.Vx
open Go Go.RowKit
theorem contIns {l : List api_Instrument} (hl : l.length ≤ 9223372036854775807) {f : api_Instrument → Option Bool} {p : api_Instrument → Bool} (hf : ∀ x, f x = some (p x)) : slices_ContainsFunc_api_Instrument_api_Instrument l f = some (l.any p) := by
  have h : loop (t1 (slices_IndexFunc_api_Instrument_api_Instrument_L1 l f)) 0 = some (elimO Sum.inl (Sum.inr ()) (findI (fun k x => if p x = true then some (k : Int) else none) 0 l)) := by
    refine loop_findI (xs := l) (body := slices_IndexFunc_api_Instrument_api_Instrument_L1 l f) _ _ _ (fun k x hx => ?_) (by simp [slices_IndexFunc_api_Instrument_api_Instrument_L1])
    have hlt := lt_of hx
    have e1 : i64 ((k : Int) + 1) = (k : Int) + 1 := i64K (n := l.length) (by omega) hl
    simp only [slices_IndexFunc_api_Instrument_api_Instrument_L1, hlt, decide_true, if_true, idx_of hx, Option.bind_some, e1, hf]
    cases p x <;> rfl
  unfold slices_ContainsFunc_api_Instrument_api_Instrument slices_IndexFunc_api_Instrument_api_Instrument
  rw [h]
  rcases findI_idx (p := p) 0 l with ⟨h1, h2⟩ | ⟨m, h1, h2⟩
  · rw [h1, h2]; simp
  · rw [h1, h2]; simp
def panG (xs : List api_Instrument) (k : Nat) (x : api_Instrument) : Option Int :=
  if instV x ≠ 0 then some (instV x) else if (xs.take k).any (fun z => decide (z.Name = x.Name)) = true then some 5 else none
def panV (p : api_Panel) : Int := if 100 < (p.Instruments.length : Int) then 3 else elimO id 0 (findI (panG p.Instruments) 0 p.Instruments)
theorem pCheck_s (p : api_Panel) : panel_Check p = some (panV p) := by
  unfold panel_Check panV
  by_cases h50 : 100 < (p.Instruments.length : Int)
  · simp [h50]
  · have h : loop (t1 (panel_Check_L1 p)) 0 = some (elimO Sum.inl (Sum.inr ()) (findI (panG p.Instruments) 0 p.Instruments)) := by
      refine loop_findI (xs := p.Instruments) (body := panel_Check_L1 p) _ _ _ (fun k x hx => ?_) (by simp [panel_Check_L1])
      have hlt := lt_of hx
      have e1 : i64 ((k : Int) + 1) = (k : Int) + 1 := i64K (n := p.Instruments.length) (by omega) (by omega)
      have hc : slices_ContainsFunc_api_Instrument_api_Instrument (p.Instruments.take k) (fun z0 => panel_Check_1 z0 x) = some ((p.Instruments.take k).any fun z => decide (z.Name = x.Name)) :=
        contIns (by rw [List.length_take]; omega) (fun _ => rfl)
      simp only [panel_Check_L1, hlt, decide_true, if_true, idx_of hx, Option.bind_some, e1, pInst_s, slc0 (show k ≤ p.Instruments.length by omega), hc, panG]
      by_cases h0 : instV x = 0
      · cases (p.Instruments.take k).any (fun z => decide (z.Name = x.Name)) <;> simp [h0]
      · simp [h0]
    simp only [h50, decide_false, Bool.false_eq_true, if_false, h]
    cases findI (panG p.Instruments) 0 p.Instruments <;> simp
theorem dupI {l : List api_Instrument} {x : api_Instrument} (hl : l.length ≤ 100) : loop (t1 (ref8_Check_L2 x l)) 0 = some (if l.any (fun z => decide (z.Name = x.Name)) = true then .inl 5 else .inr ()) := by
  have h : loop (t1 (ref8_Check_L2 x l)) 0 = some (elimO (fun _ => Sum.inl 5) (Sum.inr ()) (findI (fun _ z => if decide (z.Name = x.Name) = true then some () else none) 0 l)) := by
    refine loop_findI (xs := l) (body := ref8_Check_L2 x l) _ _ _ (fun k z hz => ?_) (by simp [ref8_Check_L2])
    have hlt := lt_of hz
    have e1 : i64 ((k : Int) + 1) = (k : Int) + 1 := i64_id (by omega) (by omega)
    simp only [ref8_Check_L2, hlt, decide_true, if_true, idx_of hz, Option.bind_some, e1]
    by_cases hn : z.Name = x.Name <;> simp [hn]
  rw [h, findI_any]
  cases l.any (fun z => decide (z.Name = x.Name)) <;> rfl
theorem rCheckP_s (p : api_Panel) (hw : ∀ x ∈ p.Instruments, wfIns x) : ref8_Check p = some (panV p) := by
  unfold ref8_Check panV
  by_cases h50 : 100 < (p.Instruments.length : Int)
  · simp [h50]
  · have h : loop (t1 (ref8_Check_L1 p)) 0 = some (elimO Sum.inl (Sum.inr ()) (findI (panG p.Instruments) 0 p.Instruments)) := by
      refine loop_findI (xs := p.Instruments) (body := ref8_Check_L1 p) _ _ _ (fun k x hx => ?_) (by simp [ref8_Check_L1])
      have hlt := lt_of hx
      have e1 : i64 ((k : Int) + 1) = (k : Int) + 1 := i64K (n := p.Instruments.length) (by omega) (by omega)
      simp only [ref8_Check_L1, hlt, decide_true, if_true, idx_of hx, Option.bind_some, e1, rInst_s x (hw x (List.mem_of_getElem? hx)), slc0 (show k ≤ p.Instruments.length by omega), dupI (x := x) (l := p.Instruments.take k) (by rw [List.length_take]; omega), panG]
      by_cases h0 : instV x = 0
      · cases (p.Instruments.take k).any (fun z => decide (z.Name = x.Name)) <;> simp [h0]
      · simp [h0]
    simp only [h50, decide_false, Bool.false_eq_true, if_false, h]
    cases findI (panG p.Instruments) 0 p.Instruments <;> simp
theorem panV_len {p : api_Panel} (h : panV p = 0) : p.Instruments.length ≤ 100 := by
  unfold panV at h
  split at h
  · cases h
  · omega
theorem mks_of {α : Type} {n : Nat} (h : n ≤ 4294967296) (z : α) : mks (n : Int) z = some (List.replicate n z) := by
  unfold mks
  rw [if_pos ⟨by omega, by omega⟩, Int.toNat_natCast]
def firstV (p : api_Panel) : api_PanelState × Int := if panV p ≠ 0 then (api_PanelState.mk 0 [], panV p) else (api_PanelState.mk (-1) (List.replicate p.Instruments.length (api_Memo.mk false false 0 0 [])), 0)
theorem rFirst_s (p : api_Panel) (hw : ∀ x ∈ p.Instruments, wfIns x) : ref8_First p = some (firstV p) := by
  unfold ref8_First firstV
  rw [rCheckP_s p hw, Option.bind_some]
  by_cases h : panV p = 0
  · have := panV_len h
    rw [mks_of (by omega)]; simp [h]
  · simp [h]
end Go.Vx

namespace Go.Vx
open Go Go.RowKit
def vV (t : api_Track) (f : Int) : api_Sample × Bool := ((outH (heldAt t.Series.Samples (64 * f + 63) t.Long)).1, (outH (heldAt t.Series.Samples (64 * f + 63) t.Long)).2)
theorem val_s {t : api_Track} (hc : (chk t.Series).2 = 0) (hl : wi t.Long 0 1099511627776 = true) {frame : Int} (f1 : 0 ≤ frame) (f2 : frame ≤ 4194303) : panel_value t frame = some (vV t frame) ∧ ref8_valueAt t frame = some (vV t frame) := by
  have e1 : i64 (64 * frame) = 64 * frame := i64_id (by omega) (by omega)
  have e2 : i64 (64 * frame + 64) = 64 * frame + 64 := i64_id (by omega) (by omega)
  have e3 : i64 (64 * frame + 64 - 1) = 64 * frame + 63 := by rw [show 64 * frame + 64 - 1 = 64 * frame + 63 by omega]; exact i64_id (by omega) (by omega)
  have e4 : i64 (64 * frame + 63) = 64 * frame + 63 := i64_id (by omega) (by omega)
  have ht : (0 : Int) ≤ 64 * frame + 63 ∧ 64 * frame + 63 ≤ 1099511627776 := by omega
  constructor
  · unfold panel_value series_Held
    rw [e1, e2, e3, hold_s (ser_ok hc) _ _ ht]; rfl
  · unfold ref8_valueAt
    rw [e1, e4, rHold_s]
    have hwi : wi (64 * frame + 63) 0 1099511627776 = true := wi_iff.2 ht
    simp [outHold, hc, hwi, hl, vV]
theorem findI_two {α : Type} {p : α → Bool} : ∀ (k : Nat) (xs : List α), (findI (fun j x => if p x = true then some (j : Int) else none) k xs = none ∧ findI (fun _ x => if p x = true then some x else none) k xs = none) ∨
    (∃ (m : Nat) (x : α), findI (fun j x => if p x = true then some (j : Int) else none) k xs = some ((k + m : Nat) : Int) ∧ findI (fun _ x => if p x = true then some x else none) k xs = some x ∧ xs[m]? = some x)
  | _, [] => .inl ⟨rfl, rfl⟩
  | k, x :: tl => by
    have ih := findI_two (p := p) (k + 1) tl
    simp only [findI]
    by_cases hp : p x = true
    · exact .inr ⟨0, x, by simp [hp], by simp [hp], rfl⟩
    · have hp' : p x = false := by simpa using hp
      simp only [hp', Bool.false_eq_true, if_false]
      rcases ih with h | ⟨m, y, h1, h2, h3⟩
      · exact .inl h
      · exact .inr ⟨m + 1, y, by rw [h1]; congr 2; omega, h2, by simpa using h3⟩
def tkI (l : List api_Track) (nm : Str) : Option Int := findI (fun j x => if decide (x.Name = nm) = true then some (j : Int) else none) 0 l
def tkT (l : List api_Track) (nm : Str) : Option api_Track := findI (fun _ x => if decide (x.Name = nm) = true then some x else none) 0 l
theorem tk_two (l : List api_Track) (nm : Str) : (tkI l nm = none ∧ tkT l nm = none) ∨ (∃ (m : Nat) (x : api_Track), tkI l nm = some (m : Int) ∧ tkT l nm = some x ∧ l[m]? = some x) := by
  rcases findI_two (p := fun x : api_Track => decide (x.Name = nm)) 0 l with h | ⟨m, x, h1, h2, h3⟩
  · exact .inl h
  · exact .inr ⟨m, x, by rw [Nat.zero_add] at h1; exact h1, h2, h3⟩
theorem trackOf_s {l : List api_Track} (hl : l.length ≤ 50) (i : api_Instrument) : panel_trackOf l i = some (elimO id (-1) (tkI l i.Track)) := by
  have h : loop (t1 (slices_IndexFunc_api_Track_api_Track_L1 l (fun z0 => panel_trackOf_1 z0 i))) 0 = some (elimO Sum.inl (Sum.inr ()) (tkI l i.Track)) := by
    refine loop_findI (xs := l) (body := slices_IndexFunc_api_Track_api_Track_L1 l _) _ _ _ (fun k x hx => ?_) (by simp [slices_IndexFunc_api_Track_api_Track_L1])
    have hlt := lt_of hx
    have e1 : i64 ((k : Int) + 1) = (k : Int) + 1 := i64K (n := l.length) (by omega) (by omega)
    simp only [slices_IndexFunc_api_Track_api_Track_L1, hlt, decide_true, if_true, idx_of hx, Option.bind_some, e1, panel_trackOf_1]
    cases decide (x.Name = i.Track) <;> rfl
  unfold panel_trackOf slices_IndexFunc_api_Track_api_Track
  rw [h]
  cases tkI l i.Track <;> rfl
theorem track8_s {l : List api_Track} (hl : l.length ≤ 50) (nm : Str) : ref8_track l nm = some (elimO (fun x => (x, true)) (api_Track.mk [] (api_Series.mk 0 []) 0, false) (tkT l nm)) := by
  have h : loop (t1 (ref8_track_L1 l nm)) 0 = some (elimO (fun x => Sum.inl (x, true)) (Sum.inr ()) (tkT l nm)) := by
    refine loop_findI (xs := l) (body := ref8_track_L1 l nm) _ _ _ (fun k x hx => ?_) (by simp [ref8_track_L1])
    have hlt := lt_of hx
    have e1 : i64 ((k : Int) + 1) = (k : Int) + 1 := i64K (n := l.length) (by omega) (by omega)
    simp only [ref8_track_L1, hlt, decide_true, if_true, idx_of hx, Option.bind_some, e1]
    cases decide (x.Name = nm) <;> rfl
  unfold ref8_track
  rw [h]
  cases tkT l nm <;> rfl
theorem ckT_len {l : List api_Track} (h : ckT l = 0) : l.length ≤ 50 := by
  unfold ckT at h
  split at h
  · cases h
  · omega
def noTk (l : List api_Track) (i : api_Instrument) : Bool := (tkT l i.Track).isNone
def bothV (p : api_Panel) (l : List api_Track) : Int := if panV p ≠ 0 then panV p else if ckT l ≠ 0 then ckT l else if p.Instruments.any (noTk l) = true then 4 else 0
theorem pBoth_s (p : api_Panel) (l : List api_Track) : panel_checkBoth p l = some (bothV p l) := by
  unfold panel_checkBoth bothV
  rw [pCheck_s, evTracks_s]
  simp only [Option.bind_some]
  by_cases h0 : panV p = 0
  · by_cases h1 : ckT l = 0
    · have hl := ckT_len h1
      have hp := panV_len h0
      have hc : slices_ContainsFunc_api_Instrument_api_Instrument p.Instruments (fun z0 => panel_checkBoth_1 z0 l) = some (p.Instruments.any (noTk l)) := by
        refine contIns (by omega) fun x => ?_
        unfold panel_checkBoth_1
        rw [trackOf_s hl, Option.bind_some]
        unfold noTk
        rcases tk_two l x.Track with ⟨a, b⟩ | ⟨m, y, a, b, _⟩
        · rw [a, b]; rfl
        · rw [a, b]
          have : decide (((m : Nat) : Int) < 0) = false := decide_eq_false (by omega)
          show some (decide (((m : Nat) : Int) < 0)) = _
          rw [this]; rfl
      rw [hc]
      cases p.Instruments.any (noTk l) <;> simp [h0, h1]
    · simp [h0, h1]
  · simp [h0]
theorem rBoth_s (p : api_Panel) (l : List api_Track) (hw : ∀ x ∈ p.Instruments, wfIns x) (hs : ∀ x ∈ l, wfS x.Name) : ref8_Fault p l = some (bothV p l) := by
  unfold ref8_Fault bothV
  rw [rCheckP_s p hw, rfTracks_s l hs]
  simp only [Option.bind_some]
  by_cases h0 : panV p = 0
  · by_cases h1 : ckT l = 0
    · have hl := ckT_len h1
      have hp := panV_len h0
      have h : loop (t1 (ref8_Fault_L1 p l)) 0 = some (elimO Sum.inl (Sum.inr ()) (findI (fun _ x => if noTk l x = true then some 4 else none) 0 p.Instruments)) := by
        refine loop_findI (xs := p.Instruments) (body := ref8_Fault_L1 p l) _ _ _ (fun k x hx => ?_) (by simp [ref8_Fault_L1])
        have hlt := lt_of hx
        have e1 : i64 ((k : Int) + 1) = (k : Int) + 1 := i64K (n := p.Instruments.length) (by omega) (by omega)
        simp only [ref8_Fault_L1, hlt, decide_true, if_true, idx_of hx, Option.bind_some, e1, track8_s hl, noTk]
        rcases tk_two l x.Track with ⟨_, b⟩ | ⟨m, t, _, b, _⟩ <;> simp [b]
      rw [h, findI_any]
      cases p.Instruments.any (noTk l) <;> simp [h0, h1]
    · simp [h0, h1]
  · simp [h0]
end Go.Vx
