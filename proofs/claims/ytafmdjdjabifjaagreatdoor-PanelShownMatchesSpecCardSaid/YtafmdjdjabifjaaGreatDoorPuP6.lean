/- A text of the proof: a verified executor of the program form, or the contracts of the functions that the law reaches. -/
import Derived.Test.YtafmdjdjabifjaaGreatDoorPU
set_option linter.all false
namespace Go.Vx
open Go Go.RowKit
/-! ## Panels checked; the law of checks -/
theorem contIns {l : List api_Instrument} (hl : l.length ≤ 9223372036854775807) {f : api_Instrument → Option Bool} {p : api_Instrument → Bool} (hf : ∀ x, f x = some (p x)) : slices_ContainsFunc_api_Instrument_api_Instrument l f = some (l.any p) := by
  have h : loop (t1 (slices_IndexFunc_api_Instrument_api_Instrument_L1 l f)) 0 = some (elimO Sum.inl (Sum.inr ()) (findI (fun k x => if p x = true then some (k : Int) else none) 0 l)) := by
    refine loop_findI (xs := l) (body := slices_IndexFunc_api_Instrument_api_Instrument_L1 l f) _ _ _ (fun k x hx => ?_) (by simp [slices_IndexFunc_api_Instrument_api_Instrument_L1])
    have hlt := lt_of hx
    have e1 : i64 ((k : Int) + 1) = (k : Int) + 1 := i64K (n := l.length) (by omega) hl
    simp only [slices_IndexFunc_api_Instrument_api_Instrument_L1, hlt, decide_true, if_true, idx_of hx, Option.bind_some, e1, hf]
    cases p x <;> rfl
  unfold slices_ContainsFunc_api_Instrument_api_Instrument slices_IndexFunc_api_Instrument_api_Instrument
  rw [h]
  rcases findI_idx (p := p) 0 l with ⟨h1, h2⟩ | ⟨m, h1, h2⟩
  · rw [h1, h2]; simp
  · rw [h1, h2]; simp
def panG (xs : List api_Instrument) (k : Nat) (x : api_Instrument) : Option Int :=
  if instV x ≠ 0 then some (instV x) else if (xs.take k).any (fun z => decide (z.Name = x.Name)) = true then some 5 else none
def panV (p : api_Panel) : Int := if 100 < (p.Instruments.length : Int) then 3 else elimO id 0 (findI (panG p.Instruments) 0 p.Instruments)
theorem pCheck_s (p : api_Panel) : panel_Check p = some (panV p) := by
  unfold panel_Check panV
  by_cases h50 : 100 < (p.Instruments.length : Int)
  · simp [h50]
  · have h : loop (t1 (panel_Check_L1 p)) 0 = some (elimO Sum.inl (Sum.inr ()) (findI (panG p.Instruments) 0 p.Instruments)) := by
      refine loop_findI (xs := p.Instruments) (body := panel_Check_L1 p) _ _ _ (fun k x hx => ?_) (by simp [panel_Check_L1])
      have hlt := lt_of hx
      have e1 : i64 ((k : Int) + 1) = (k : Int) + 1 := i64K (n := p.Instruments.length) (by omega) (by omega)
      have hc : slices_ContainsFunc_api_Instrument_api_Instrument (p.Instruments.take k) (fun z0 => panel_Check_1 z0 x) = some ((p.Instruments.take k).any fun z => decide (z.Name = x.Name)) :=
        contIns (by rw [List.length_take]; omega) (fun _ => rfl)
      simp only [panel_Check_L1, hlt, decide_true, if_true, idx_of hx, Option.bind_some, e1, pInst_s, slc0 (show k ≤ p.Instruments.length by omega), hc, panG]
      by_cases h0 : instV x = 0
      · cases (p.Instruments.take k).any (fun z => decide (z.Name = x.Name)) <;> simp [h0]
      · simp [h0]
    simp only [h50, decide_false, Bool.false_eq_true, if_false, h]
    cases findI (panG p.Instruments) 0 p.Instruments <;> simp
theorem dupI {l : List api_Instrument} {x : api_Instrument} (hl : l.length ≤ 100) : loop (t1 (ref8_Check_L2 x l)) 0 = some (if l.any (fun z => decide (z.Name = x.Name)) = true then .inl 5 else .inr ()) := by
  have h : loop (t1 (ref8_Check_L2 x l)) 0 = some (elimO (fun _ => Sum.inl 5) (Sum.inr ()) (findI (fun _ z => if decide (z.Name = x.Name) = true then some () else none) 0 l)) := by
    refine loop_findI (xs := l) (body := ref8_Check_L2 x l) _ _ _ (fun k z hz => ?_) (by simp [ref8_Check_L2])
    have hlt := lt_of hz
    have e1 : i64 ((k : Int) + 1) = (k : Int) + 1 := i64_id (by omega) (by omega)
    simp only [ref8_Check_L2, hlt, decide_true, if_true, idx_of hz, Option.bind_some, e1]
    by_cases hn : z.Name = x.Name <;> simp [hn]
  rw [h, findI_any]
  cases l.any (fun z => decide (z.Name = x.Name)) <;> rfl
theorem rCheckP_s (p : api_Panel) (hw : ∀ x ∈ p.Instruments, wfIns x) : ref8_Check p = some (panV p) := by
  unfold ref8_Check panV
  by_cases h50 : 100 < (p.Instruments.length : Int)
  · simp [h50]
  · have h : loop (t1 (ref8_Check_L1 p)) 0 = some (elimO Sum.inl (Sum.inr ()) (findI (panG p.Instruments) 0 p.Instruments)) := by
      refine loop_findI (xs := p.Instruments) (body := ref8_Check_L1 p) _ _ _ (fun k x hx => ?_) (by simp [ref8_Check_L1])
      have hlt := lt_of hx
      have e1 : i64 ((k : Int) + 1) = (k : Int) + 1 := i64K (n := p.Instruments.length) (by omega) (by omega)
      simp only [ref8_Check_L1, hlt, decide_true, if_true, idx_of hx, Option.bind_some, e1, rInst_s x (hw x (List.mem_of_getElem? hx)), slc0 (show k ≤ p.Instruments.length by omega), dupI (x := x) (l := p.Instruments.take k) (by rw [List.length_take]; omega), panG]
      by_cases h0 : instV x = 0
      · cases (p.Instruments.take k).any (fun z => decide (z.Name = x.Name)) <;> simp [h0]
      · simp [h0]
    simp only [h50, decide_false, Bool.false_eq_true, if_false, h]
    cases findI (panG p.Instruments) 0 p.Instruments <;> simp
theorem panV_len {p : api_Panel} (h : panV p = 0) : p.Instruments.length ≤ 100 := by
  unfold panV at h
  split at h
  · cases h
  · omega
theorem mks_of {α : Type} {n : Nat} (h : n ≤ 4294967296) (z : α) : mks (n : Int) z = some (List.replicate n z) := by
  unfold mks
  rw [if_pos ⟨by omega, by omega⟩, Int.toNat_natCast]
def firstV (p : api_Panel) : api_PanelState × Int := if panV p ≠ 0 then (api_PanelState.mk 0 [], panV p) else (api_PanelState.mk (-1) (List.replicate p.Instruments.length (api_Memo.mk false false 0 0 [])), 0)
theorem pFirst_s (p : api_Panel) : panel_First p = some (firstV p) := by
  unfold panel_First panel_first firstV
  rw [pCheck_s, Option.bind_some]
  by_cases h : panV p = 0
  · have := panV_len h
    rw [mks_of (by omega)]; simp [h]
  · simp [h]
theorem rFirst_s (p : api_Panel) (hw : ∀ x ∈ p.Instruments, wfIns x) : ref8_First p = some (firstV p) := by
  unfold ref8_First firstV
  rw [rCheckP_s p hw, Option.bind_some]
  by_cases h : panV p = 0
  · have := panV_len h
    rw [mks_of (by omega)]; simp [h]
  · simp [h]
theorem eqTape0 : slices_Equal_int_int [] [] = some true := by
  have h : loop (t1 (slices_Equal_int_int_L1 [] [])) 0 = some (Sum.inr ()) :=
    loop_ix1 (xs := ([] : List Int)) (body := slices_Equal_int_int_L1 [] []) (fun _ => Sum.inr ()) (fun k x hx => by simp at hx) (by simp [slices_Equal_int_int_L1])
  unfold slices_Equal_int_int
  rw [h]; rfl
theorem same0 (f : Int) {n : Nat} (hn : n ≤ 100) : law8_sameState (api_PanelState.mk f (List.replicate n (api_Memo.mk false false 0 0 []))) (api_PanelState.mk f (List.replicate n (api_Memo.mk false false 0 0 []))) = some true := by
  have hm : law8_sameMemo (api_Memo.mk false false 0 0 []) (api_Memo.mk false false 0 0 []) = some true := by simp [law8_sameMemo, eqTape0]
  have h : loop (t1 (slices_EqualFunc_api_Memo_api_Memo_api_Memo_api_Memo_L1 (List.replicate n (api_Memo.mk false false 0 0 [])) (List.replicate n (api_Memo.mk false false 0 0 [])) (fun z0 z1 => law8_sameMemo z0 z1))) 0 = some (Sum.inr ()) := by
    refine loop_ix1 (xs := List.replicate n (api_Memo.mk false false 0 0 [])) (body := slices_EqualFunc_api_Memo_api_Memo_api_Memo_api_Memo_L1 _ _ _) (fun _ => Sum.inr ()) (fun k x hx => .inl ⟨?_, rfl⟩) (by simp [slices_EqualFunc_api_Memo_api_Memo_api_Memo_api_Memo_L1])
    have hlt := lt_of hx
    have hx' : x = api_Memo.mk false false 0 0 [] := by
      have := List.mem_of_getElem? hx
      exact (List.mem_replicate.1 this).2
    have hl : ((List.replicate n (api_Memo.mk false false 0 0 [])).length : Int) = n := by simp
    have e1 : i64 ((k : Int) + 1) = (k : Int) + 1 := i64_id (by omega) (by omega)
    subst hx'
    simp only [slices_EqualFunc_api_Memo_api_Memo_api_Memo_api_Memo_L1, hlt, decide_true, if_true, idx_of hx, Option.bind_some, e1, hm]
    rfl
  unfold law8_sameState slices_EqualFunc_api_Memo_api_Memo_api_Memo_api_Memo
  simp only [h]
  simp
theorem law_PCheck (p : api_Panel) (hw : wf_api_Panel p) : law8_PanelCheckMatchesSpec p = some true := by
  have hi : ∀ x ∈ p.Instruments, wfIns x := fun x hx => by
    have := hw.1.2 x hx
    exact ⟨this.2.1, fun z hz => (this.2.2.2.2.2.2.2.1.2 z hz).2.2.1⟩
  have h : loop (t1 (law8_PanelCheckMatchesSpec_L1 p)) 0 = some (Sum.inr ()) := by
    refine loop_ix1 (xs := p.Instruments) (body := law8_PanelCheckMatchesSpec_L1 p) (fun _ => Sum.inr ()) (fun k x hx => .inl ⟨?_, rfl⟩) (by simp [law8_PanelCheckMatchesSpec_L1])
    have hlt := lt_of hx
    have e1 : i64 ((k : Int) + 1) = (k : Int) + 1 := i64K (n := p.Instruments.length) (by omega) hw.1.1
    simp only [law8_PanelCheckMatchesSpec_L1, hlt, decide_true, if_true, idx_of hx, Option.bind_some, e1, pInst_s, rInst_s x (hi x (List.mem_of_getElem? hx))]
    simp
  have hs : law8_sameState (firstV p).1 (firstV p).1 = some true := by
    unfold firstV
    by_cases h0 : panV p = 0
    · rw [if_neg (by simpa using h0)]; exact same0 _ (panV_len h0)
    · rw [if_pos (by simpa using h0)]; exact same0 0 (n := 0) (by omega)
  unfold law8_PanelCheckMatchesSpec
  rw [h]
  simp [pFirst_s, rFirst_s p hi, pCheck_s, rCheckP_s p hi, hs, shown_s]
end Go.Vx
