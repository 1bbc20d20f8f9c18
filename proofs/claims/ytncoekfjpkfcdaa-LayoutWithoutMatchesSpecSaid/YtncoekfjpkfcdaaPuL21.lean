/- A text of the proof: a verified executor of the program form, or the contracts of the functions that the law reaches. -/
import Derived.Test.YtncoekfjpkfcdaaPI
import Derived.Test.YtncoekfjpkfcdaaShW2
set_option linter.all false
namespace Go.Vx
open Go Go.RowKit
theorem names_len {p : api_Param} (h : chkQ p = 0) : p.Names.length ≤ 64 := by
  unfold chkQ at h
  by_cases h1 : nmL p.Name = true
  case neg => rw [if_neg h1] at h; cases h
  rw [if_pos h1] at h
  by_cases h2 : wi p.Kind 1 6 = true
  case neg => rw [if_neg h2] at h; cases h
  rw [if_pos h2] at h
  by_cases h3 : chkF p = 0
  case neg => rw [if_neg h3] at h; exact absurd h h3
  rw [if_pos h3] at h
  by_cases h4 : chkT p = 0
  case neg => rw [if_neg h4] at h; exact absurd h h4
  rw [if_pos h4] at h
  by_cases h5 : chkN p = 0
  case neg => rw [if_neg h5] at h; exact absurd h h5
  unfold chkN at h5
  split at h5
  · cases h5
  · split at h5
    · split at h5
      · cases h5
      · split at h5
        · cases h5
        · rename_i b
          simp only [Bool.or_eq_true, decide_eq_true_eq, not_or] at b
          omega
    · split at h5
      · cases h5
      · omega
theorem par_chk {m : api_Map} (h : chkM m = 0) : ∀ x ∈ m.Params, chkQ x = 0 := by
  have hm := map_ok h
  unfold chkM at h
  by_cases h1 : wi m.Version 0 2047 = true
  case neg => rw [if_neg h1] at h; cases h
  rw [if_pos h1, if_pos hm.len] at h
  intro x hx
  obtain ⟨k, hk⟩ := List.getElem?_of_mem hx
  cases hf : findI (g1M m.Params) 0 m.Params with
  | some e =>
    exfalso
    rw [hf] at h
    have key : ∀ (l : List api_Param) (k : Nat) (tl : List api_Param) (e : Int × Int), findI (g1M l) k tl = some e → e.2 ≠ 0 := by
      intro l k tl
      induction tl generalizing k with
      | nil => intro e h; cases h
      | cons x tl ih =>
        intro e h
        simp only [findI] at h
        cases hg : g1M l k x with
        | some e' =>
          rw [hg] at h
          cases h
          unfold g1M at hg
          split at hg
          · split at hg
            · cases hg; exact (by decide : (5 : Int) ≠ 0)
            · cases hg
          · rename_i hne; cases hg; exact hne
        | none => rw [hg] at h; exact ih _ _ h
    exact key _ _ _ _ hf h
  | none =>
    have := findI_none 0 m.Params hf k x hk
    unfold g1M at this
    by_cases hc : chkQ x = 0
    · exact hc
    · rw [if_neg hc] at this; cases this
theorem copy_s {p : api_Param} (h : chkQ p = 0) : layout_copyParam p = some p := by
  have h1 := (par_ok h).len.1
  have h2 := names_len h
  unfold layout_copyParam clone
  rw [app_of (by simp; omega), app_of (by simp; omega)]
  rfl
theorem find_s {m : api_Map} (hl : m.Params.length ≤ 200) (s : Str) : ∃ r : (Unit) ⊕ (api_Param), layout_find m s = some r ∧ (r.isRight = m.Params.any fun p => decide (p.Name = s)) := by
  have hL := loop_find (xs := m.Params) (fun p => if p.Name = s then some p else none) (fun p => (Sum.inl (Sum.inr p) : ((Unit) ⊕ (api_Param)) ⊕ Unit)) (Sum.inr ()) (body := layout_find_L1 m s) (fun k x hx => by
    have hlt := lt_of hx
    simp only [layout_find_L1, hlt, decide_true, if_true, idx_of hx, Option.bind_some]
    rw [i64s (by omega) (by omega)]
    by_cases hn : x.Name = s <;> simp [hn]) (by simp [layout_find_L1])
  have fl : ∀ l : List api_Param, (∃ p, findL (fun p : api_Param => if p.Name = s then some p else none) l = some p ∧ (l.any fun p => decide (p.Name = s)) = true) ∨ (findL (fun p : api_Param => if p.Name = s then some p else none) l = none ∧ (l.any fun p => decide (p.Name = s)) = false) := by
    intro l
    induction l with
    | nil => right; exact ⟨rfl, rfl⟩
    | cons x l ih =>
      by_cases hn : x.Name = s
      · left; exact ⟨x, by simp [findL, hn], by simp [hn]⟩
      · rcases ih with ⟨p, h1, h2⟩ | ⟨h1, h2⟩
        · left; exact ⟨p, by simp [findL, hn, h1], by simp only [List.any_cons, hn, decide_false, Bool.false_or]; exact h2⟩
        · right; exact ⟨by simp [findL, hn, h1], by simp only [List.any_cons, hn, decide_false, Bool.false_or]; exact h2⟩
  unfold layout_find
  rw [hL]
  rcases fl m.Params with ⟨p, h1, h2⟩ | ⟨h1, h2⟩
  · rw [h1, h2]; exact ⟨_, rfl, rfl⟩
  · rw [h1, h2]; exact ⟨_, rfl, rfl⟩
theorem rfind_s {m : api_Map} (hl : m.Params.length ≤ 200) (s : Str) : ∃ r : api_Param × Bool, ref2_find m s = some r ∧ (r.2 = m.Params.any fun p => decide (p.Name = s)) := by
  have hL := loop_find (xs := m.Params) (fun p => if p.Name = s then some p else none) (fun p => (Sum.inl (p, true) : (api_Param × Bool) ⊕ Unit)) (Sum.inr ()) (body := ref2_find_L1 m s) (fun k x hx => by
    have hlt := lt_of hx
    simp only [ref2_find_L1, hlt, decide_true, if_true, idx_of hx, Option.bind_some]
    rw [i64s (by omega) (by omega)]
    by_cases hn : x.Name = s <;> simp [hn]) (by simp [ref2_find_L1])
  have fl : ∀ l : List api_Param, (∃ p, findL (fun p : api_Param => if p.Name = s then some p else none) l = some p ∧ (l.any fun p => decide (p.Name = s)) = true) ∨ (findL (fun p : api_Param => if p.Name = s then some p else none) l = none ∧ (l.any fun p => decide (p.Name = s)) = false) := by
    intro l
    induction l with
    | nil => right; exact ⟨rfl, rfl⟩
    | cons x l ih =>
      by_cases hn : x.Name = s
      · left; exact ⟨x, by simp [findL, hn], by simp [hn]⟩
      · rcases ih with ⟨p, h1, h2⟩ | ⟨h1, h2⟩
        · left; exact ⟨p, by simp [findL, hn, h1], by simp only [List.any_cons, hn, decide_false, Bool.false_or]; exact h2⟩
        · right; exact ⟨by simp [findL, hn, h1], by simp only [List.any_cons, hn, decide_false, Bool.false_or]; exact h2⟩
  unfold ref2_find
  rw [hL]
  rcases fl m.Params with ⟨p, h1, h2⟩ | ⟨h1, h2⟩
  · rw [h1, h2]; exact ⟨_, rfl, rfl⟩
  · rw [h1, h2]; exact ⟨_, rfl, rfl⟩
def gW (m : api_Map) (s : Str) : Option Unit := if (m.Params.any fun p => decide (p.Name = s)) = true then none else some ()
theorem w1_s {m : api_Map} {names : List Str} (hl : m.Params.length ≤ 200) (hn : names.length ≤ 9223372036854775807) : loop (t1 (layout_Without_L1 m names)) 0 = some (elimO (fun _ => .inl ((api_Map.mk 0 []), 4)) (.inr ()) (findL (gW m) names)) := by
  refine loop_find (xs := names) (gW m) _ _ (fun k x hx => ?_) (by simp [layout_Without_L1])
  have hlt := lt_of hx
  obtain ⟨r, h1, h2⟩ := find_s hl x
  simp only [layout_Without_L1, hlt, decide_true, if_true, idx_of hx, Option.bind_some, h1, gW, ← h2]
  rw [i64s (by omega) (by omega)]
  cases r <;> simp
theorem rw1_s {m : api_Map} {names : List Str} (hl : m.Params.length ≤ 200) (hn : names.length ≤ 9223372036854775807) : loop (t1 (ref2_Without_L1 m names)) 0 = some (elimO (fun _ => .inl ((api_Map.mk 0 []), 4)) (.inr ()) (findL (gW m) names)) := by
  refine loop_find (xs := names) (gW m) _ _ (fun k x hx => ?_) (by simp [ref2_Without_L1])
  have hlt := lt_of hx
  obtain ⟨r, h1, h2⟩ := rfind_s hl x
  simp only [ref2_Without_L1, hlt, decide_true, if_true, idx_of hx, Option.bind_some, h1, gW, ← h2]
  rw [i64s (by omega) (by omega)]
  cases r.2 <;> simp
def keepP (names : List Str) (p : api_Param) : Bool := !decide (p.Name ∈ names)
theorem filtP {m : api_Map} (hl : m.Params.length ≤ 200) {names : List Str} {body : List api_Param → Int → Option ((List api_Param × Int) ⊕ List api_Param)}
    (hb : ∀ (acc : List api_Param) (k : Nat) x, m.Params[k]? = some x → acc.length ≤ k → body acc k = some (.inl (if keepP names x = true then acc ++ [x] else acc, (k : Int) + 1))) (he : ∀ acc, body acc m.Params.length = some (.inr acc)) :
    loop (t2 body) ([], 0) = some (m.Params.filter (keepP names)) := by
  have := loop_ix2 (xs := m.Params) (body := body) (I := fun acc k => acc.length ≤ k) (F := fun acc k => acc ++ (m.Params.drop k).filter (keepP names))
    (fun acc k x hI hx => by
      left
      refine ⟨_, hb acc k x hx hI, ?_, ?_⟩
      · split
        · simp; omega
        · omega
      · rw [drop_cons hx, List.filter_cons]
        by_cases hk : keepP names x = true
        · simp [hk]
        · simp [hk])
    (fun acc hI => by rw [he]; simp) (a0 := []) (by simp)
  simpa using this
theorem w2_s {m : api_Map} (h : chkM m = 0) {names : List Str} (hn : names.length ≤ 9223372036854775807) : loop (t2 (layout_Without_L2 m names)) ([], 0) = some (m.Params.filter (keepP names)) := by
  have hl := (map_ok h).len
  refine filtP hl (fun acc k x hx ha => ?_) (fun acc => by simp [layout_Without_L2])
  have hlt := lt_of hx
  simp only [layout_Without_L2, hlt, decide_true, if_true, idx_of hx, Option.bind_some, contStr_s hn, copy_s (par_chk h x (List.mem_of_getElem? hx)), keepP]
  rw [i64s (by omega) (by omega), app_of (by simp; omega)]
  by_cases hm : x.Name ∈ names <;> simp [hm]
theorem gone_s {names : List Str} (hn : names.length ≤ 9223372036854775807) (x : api_Param) : loop (t2 (ref2_Without_L3 names x)) (false, 0) = some (decide (x.Name ∈ names)) := by
  have := loop_ix2 (xs := names) (body := ref2_Without_L3 names x) (I := fun _ _ => True) (F := fun b k => b || decide (x.Name ∈ names.drop k))
    (fun b k y _ hy => by
      have hlt := lt_of hy
      left
      refine ⟨b || decide (y = x.Name), ?_, trivial, ?_⟩
      · simp only [ref2_Without_L3, hlt, decide_true, if_true, idx_of hy, Option.bind_some]
        rw [i64s (by omega) (by omega)]
      · rw [drop_cons hy, Bool.or_assoc]
        congr 1
        by_cases h1 : y = x.Name
        · subst h1; simp
        · have h2 : ¬ x.Name = y := fun e => h1 e.symm
          simp [h1, h2])
    (fun b _ => by simp [ref2_Without_L3]) (a0 := false) trivial
  simpa using this
theorem rw2_s {m : api_Map} (h : chkM m = 0) {names : List Str} (hn : names.length ≤ 9223372036854775807) : loop (t2 (ref2_Without_L2 m names)) ([], 0) = some (m.Params.filter (keepP names)) := by
  have hl := (map_ok h).len
  refine filtP hl (fun acc k x hx ha => ?_) (fun acc => by simp [ref2_Without_L2])
  have hlt := lt_of hx
  simp only [ref2_Without_L2, hlt, decide_true, if_true, idx_of hx, Option.bind_some, gone_s hn, keepP, t1]
  rw [i64s (by omega) (by omega), app_of (by simp; omega)]
  by_cases hm : x.Name ∈ names <;> simp [hm]
def outWi (m : api_Map) (names : List Str) : api_Map × Int :=
  if chkM m = 0 then elimO (fun _ => ((api_Map.mk 0 []), 4)) ((api_Map.mk m.Version (m.Params.filter (keepP names))), 0) (findL (gW m) names) else ((api_Map.mk 0 []), chkM m)
theorem Without_s (m : api_Map) {names : List Str} (hn : names.length ≤ 9223372036854775807) : layout_Without m names = some (outWi m names) := by
  obtain ⟨a, hc⟩ := check_s m
  unfold layout_Without outWi
  rw [hc, Option.bind_some]
  by_cases h : chkM m = 0
  · rw [if_neg (by simp [h]), if_pos h, w1_s (map_ok h).len hn]
    cases findL (gW m) names with
    | some e => rfl
    | none =>
      simp only [elimO_none, Option.bind_some, Sum.elim_inr, t0]
      rw [w2_s h hn]; rfl
  · rw [if_pos (neq_s h), if_neg h]
theorem rWithout_s (m : api_Map) {names : List Str} (hn : names.length ≤ 9223372036854775807) (hs : wf_api_Map m) : ref2_Without m names = some (outWi m names) := by
  obtain ⟨a, hc⟩ := rcheck_s m hs
  unfold ref2_Without outWi
  rw [hc, Option.bind_some]
  by_cases h : chkM m = 0
  · rw [if_neg (by simp [h]), if_pos h, rw1_s (map_ok h).len hn]
    cases findL (gW m) names with
    | some e => rfl
    | none =>
      simp only [elimO_none, Option.bind_some, Sum.elim_inr, t0]
      rw [rw2_s h hn]; rfl
  · rw [if_pos (neq_s h), if_neg h]
theorem loop_same {α : Type} {l : List α} {body : Int → Option (Int ⊕ Bool ⊕ Unit)} (h : ∀ (k : Nat) x, l[k]? = some x → body k = some (.inl ((k : Int) + 1))) (he : body l.length = some (.inr (.inr ()))) : loop (t1 body) 0 = some (.inr ()) := by
  have hL := loop_find (xs := l) (fun _ => (none : Option Unit)) (fun _ => (Sum.inl false : Bool ⊕ Unit)) (Sum.inr ()) (body := body) (fun k x hx => h k x hx) he
  have fl : ∀ l : List α, findL (fun _ : α => (none : Option Unit)) l = none := by
    intro l
    induction l with
    | nil => rfl
    | cons x l ih => exact ih
  rw [hL, fl]; rfl
theorem sameParts_s {l : List api_Part} (hl : l.length ≤ 1000) : slices_Equal_api_Part_api_Part l l = some true := by
  unfold slices_Equal_api_Part_api_Part
  rw [if_neg (by simp), loop_same (l := l) (fun k x hx => by
    have hlt := lt_of hx
    simp only [slices_Equal_api_Part_api_Part_L1, hlt, decide_true, if_true, idx_of hx, Option.bind_some]
    rw [i64s (by omega) (by omega)]
    simp) (by simp [slices_Equal_api_Part_api_Part_L1])]
  rfl
theorem sameStrs_s {l : List Str} (hl : l.length ≤ 1000) : slices_Equal_string_string l l = some true := by
  unfold slices_Equal_string_string
  rw [if_neg (by simp), loop_same (l := l) (fun k x hx => by
    have hlt := lt_of hx
    simp only [slices_Equal_string_string_L1, hlt, decide_true, if_true, idx_of hx, Option.bind_some]
    rw [i64s (by omega) (by omega)]
    simp) (by simp [slices_Equal_string_string_L1])]
  rfl
theorem sameParam_s {p : api_Param} (h : chkQ p = 0) : law2_sameParam p p = some true := by
  unfold law2_sameParam
  rw [sameParts_s (by have := (par_ok h).len.1; omega), sameStrs_s (by have := names_len h; omega)]
  simp
theorem sameMap_s {m : api_Map} (hl : m.Params.length ≤ 200) (h : ∀ x ∈ m.Params, chkQ x = 0) : law2_sameMap m m = some true := by
  unfold law2_sameMap slices_EqualFunc_api_Param_api_Param_api_Param_api_Param
  rw [if_neg (by simp), loop_same (l := m.Params) (fun k x hx => by
    have hlt := lt_of hx
    simp only [slices_EqualFunc_api_Param_api_Param_api_Param_api_Param_L1, hlt, decide_true, if_true, idx_of hx, Option.bind_some, sameParam_s (h x (List.mem_of_getElem? hx))]
    rw [i64s (by omega) (by omega)]
    simp) (by simp [slices_EqualFunc_api_Param_api_Param_api_Param_api_Param_L1])]
  simp
theorem law_LWithout (m : api_Map) (names : List Str) (hs : wf_api_Map m) (hn : wfL wfS names) : law2_LayoutWithoutMatchesSpec m names = some true := by
  have hsame : law2_sameMap (outWi m names).1 (outWi m names).1 = some true := by
    unfold outWi
    split
    · rename_i h
      cases findL (gW m) names with
      | some e => exact sameMap_s (by simp) (fun x hx => by cases hx)
      | none =>
        refine sameMap_s ?_ (fun x hx => par_chk h x ((List.mem_filter.1 hx).1))
        have h1 := (map_ok h).len
        have h2 := List.length_filter_le (keepP names) m.Params
        simp only [elimO_none]
        omega
    · exact sameMap_s (by simp) (fun x hx => by cases hx)
  unfold law2_LayoutWithoutMatchesSpec
  rw [Without_s m hn.1, rWithout_s m hn.1 hs]
  simp only [Option.bind_some, hsame, mapped_s]
  simp
end Go.Vx
