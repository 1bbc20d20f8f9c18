/- A text of the proof: a verified executor of the program form, or the contracts of the functions that the law reaches. -/
import Derived.Test.YtncoekfjpkfcdaaPE
set_option linter.all false
namespace Go.Vx
open Go Go.RowKit
def allC : Nat → List api_Param → List api_Cell
  | _, [] => []
  | k, x :: tl => cellsN (k : Int) x ++ allC (k + 1) tl
theorem contPar_s {l : List api_Param} {f : api_Param → Option Bool} {g : api_Param → Bool} (hf : ∀ x, f x = some (g x)) (hl : l.length ≤ 1000) : slices_ContainsFunc_api_Param_api_Param l f = some (l.any g) := by
  have key : loop (t1 (slices_IndexFunc_api_Param_api_Param_L1 l f)) 0 = some (elimO Sum.inl (Sum.inr ()) (findI (fun k (x : api_Param) => if g x = true then some (k : Int) else none) 0 l)) := by
    refine loop_findI (xs := l) _ _ _ (fun k x hx => ?_) (by simp [slices_IndexFunc_api_Param_api_Param_L1])
    have hlt := lt_of hx
    have hk : i64 ((k : Int) + 1) = (k : Int) + 1 := i64s (by omega) (by omega)
    simp only [slices_IndexFunc_api_Param_api_Param_L1, hlt, decide_true, if_true, idx_of hx, Option.bind_some, hk, hf]
    by_cases hg : g x = true <;> simp [hg]
  have fnd : ∀ (k : Nat) (l : List api_Param), (l.any g = false ∧ findI (fun k (x : api_Param) => if g x = true then some (k : Int) else none) k l = none) ∨ (l.any g = true ∧ ∃ j : Nat, findI (fun k (x : api_Param) => if g x = true then some (k : Int) else none) k l = some (j : Int)) := by
    intro k l
    induction l generalizing k with
    | nil => left; exact ⟨rfl, rfl⟩
    | cons x l ih =>
      by_cases hx : g x = true
      · right; exact ⟨by simp [hx], k, by simp [findI, hx]⟩
      · have hx' : g x = false := by simpa using hx
        rcases ih (k + 1) with ⟨h1, h2⟩ | ⟨h1, j, h2⟩
        · left; exact ⟨by rw [List.any_cons, hx', Bool.false_or]; exact h1, by simp only [findI, hx', Bool.false_eq_true, if_false]; exact h2⟩
        · right; exact ⟨by rw [List.any_cons, hx', Bool.false_or]; exact h1, j, by simp only [findI, hx', Bool.false_eq_true, if_false]; exact h2⟩
  unfold slices_ContainsFunc_api_Param_api_Param slices_IndexFunc_api_Param_api_Param
  rw [key]
  rcases fnd 0 l with ⟨h1, h2⟩ | ⟨h1, j, h2⟩
  · rw [h2, h1]; rfl
  · rw [h2, h1]; simp [elimO]
def g1M (l : List api_Param) (k : Nat) (x : api_Param) : Option (Int × Int) := if chkQ x = 0 then (if ((l.take k).any fun q => decide (q.Name = x.Name)) = true then some ((k : Int), 5) else none) else some ((k : Int), chkQ x)
theorem mL1_s {m : api_Map} (hl : m.Params.length ≤ 200) : loop (t1 (layout_check_L1 m)) 0 = some (elimO Sum.inl (Sum.inr ()) (findI (g1M m.Params) 0 m.Params)) := by
  refine loop_findI (xs := m.Params) _ _ _ (fun k x hx => ?_) (by simp [layout_check_L1])
  have hlt := lt_of hx
  have hk : i64 ((k : Int) + 1) = (k : Int) + 1 := i64s (by omega) (by omega)
  simp only [layout_check_L1, hlt, decide_true, if_true, idx_of hx, Option.bind_some, hk, CheckParam_s, g1M]
  by_cases h : chkQ x = 0
  · rw [if_neg (by simp [h]), if_pos h, slc0 (by omega), Option.bind_some, contPar_s (l := m.Params.take k) (f := fun z0 => layout_check_1 z0 x) (g := fun q => decide (q.Name = x.Name)) (fun q => rfl) (by rw [List.length_take]; omega), Option.bind_some]
    by_cases ha : ((m.Params.take k).any fun q => decide (q.Name = x.Name)) = true
    · rw [if_pos ha, if_pos ha]; rfl
    · rw [if_neg ha, if_neg ha]; rfl
  · rw [if_pos (neq_s h), if_neg h]; rfl
theorem rmL1_s {m : api_Map} (hl : m.Params.length ≤ 200) (hs : wf_api_Map m) : loop (t1 (ref2_Check_L1 m)) 0 = some (elimO Sum.inl (Sum.inr ()) (findI (g1M m.Params) 0 m.Params)) := by
  refine loop_findI (xs := m.Params) _ _ _ (fun k x hx => ?_) (by simp [ref2_Check_L1])
  have hlt := lt_of hx
  have hk : i64 ((k : Int) + 1) = (k : Int) + 1 := i64s (by omega) (by omega)
  have hw : wf_api_Param x := hs.2.1.2 x (List.mem_of_getElem? hx)
  simp only [ref2_Check_L1, hlt, decide_true, if_true, idx_of hx, Option.bind_some, hk, rCheckParam_s x hw, g1M]
  by_cases h : chkQ x = 0
  · rw [if_neg (by simp [h]), if_pos h, slc0 (by omega), Option.bind_some]
    have hL := loop_find (xs := m.Params.take k) (fun y : api_Param => if y.Name = x.Name then some () else none) (fun _ => (Sum.inl ((k : Int), 5) : (Int × Int) ⊕ Unit)) (Sum.inr ()) (body := ref2_Check_L2 (k : Int) x (m.Params.take k)) (fun j y hy => by
      have hj := lt_of hy
      have hj2 : j < 200 := by have := (List.getElem?_eq_some_iff.1 hy).1; rw [List.length_take] at this; omega
      simp only [ref2_Check_L2, hj, decide_true, if_true, idx_of hy, Option.bind_some]
      rw [i64s (by omega) (by omega)]
      by_cases hxy : y.Name = x.Name <;> simp [hxy]) (by simp [ref2_Check_L2])
    rw [hL]
    have fnd : ∀ l : List api_Param, findL (fun y : api_Param => if y.Name = x.Name then some () else none) l = if (l.any fun q => decide (q.Name = x.Name)) = true then some () else none := by
      intro l
      induction l with
      | nil => rfl
      | cons y l ih => 
        by_cases hy : y.Name = x.Name
        · simp [findL, hy]
        · simp [findL, hy, ih]
    rw [fnd]
    by_cases ha : ((m.Params.take k).any fun q => decide (q.Name = x.Name)) = true
    · rw [if_pos ha, if_pos ha]; rfl
    · rw [if_neg ha, if_neg ha]; rfl
  · rw [if_pos (neq_s h), if_neg h]; rfl
theorem g1_ok {l : List api_Param} (h : findI (g1M l) 0 l = none) : ∀ x ∈ l, ParOK x := by
  intro x hx
  obtain ⟨k, hk⟩ := List.getElem?_of_mem hx
  have := findI_none 0 l h k x hk
  unfold g1M at this
  by_cases hc : chkQ x = 0
  · exact par_ok hc
  · rw [if_neg hc] at this; cases this
theorem rowC_len {number : Int} {p : api_Param} {out : List api_Cell} {f : Int} : (rowC number p out f).length = out.length + p.Times.toNat := by simp [rowC]
theorem fold_lenE {number : Int} {p : api_Param} : ∀ (fs : List Int) (out : List api_Cell), (fs.foldl (rowC number p) out).length = out.length + fs.length * p.Times.toNat
  | [], out => by simp
  | f :: fs, out => by
    rw [List.foldl_cons, fold_lenE fs, rowC_len, List.length_cons, Nat.add_mul]; omega
theorem cellsN_lenE (number : Int) (p : api_Param) : (cellsN number p).length = (startsN p).length * p.Times.toNat := by
  unfold cellsN
  rw [fold_lenE]; simp
theorem cnt_loop {m : api_Map} (hl : m.Params.length ≤ 200) (hP : ∀ x ∈ m.Params, ParOK x) : ∃ j, loop (t2 (layout_check_L2 m)) (0, 0) = some (cond (decide ((allC 0 m.Params).length ≤ 4000)) (.inr ()) (.inl (j, 3))) := by
  have key : ∀ (n k : Nat) (c : Nat), k + n = m.Params.length → c ≤ 4000 → ∃ j, loop (t2 (layout_check_L2 m)) ((c : Int), (k : Int)) = some (cond (decide (c + (allC k (m.Params.drop k)).length ≤ 4000)) (.inr ()) (.inl (j, 3))) := by
    intro n
    induction n with
    | zero =>
      intro k c hk hc
      have : k = m.Params.length := by omega
      subst this
      refine ⟨0, ?_⟩
      rw [loop_eq]
      simp [layout_check_L2, allC, hc]
    | succ n ih =>
      intro k c hk hc
      obtain ⟨x, hx⟩ := get_ex (xs := m.Params) (k := k) (by omega)
      have hlt := lt_of hx
      have hp := hP x (List.mem_of_getElem? hx)
      have hlen := cellsN_len (number := (k : Int)) hp.toPartsOK
      have hE := cellsN_lenE (k : Int) x
      obtain ⟨_, _, hT, _⟩ := timA_iff hp.tim
      have hT' : (x.Times.toNat : Int) = x.Times := by omega
      have e1 : ((startsN x).length : Int) * x.Times = ((cellsN (k : Int) x).length : Int) := by rw [hE]; push_cast; rw [hT']
      rw [drop_cons hx, loop_eq]
      simp only [t2_mk, layout_check_L2, hlt, decide_true, if_true, idx_of hx, Option.bind_some, starts_s hp.toPartsOK, e1, allC, List.length_append]
      rw [i64s (z := ((cellsN (k : Int) x).length : Int)) (by omega) (by omega), i64s (z := (c : Int) + ((cellsN (k : Int) x).length : Int)) (by omega) (by omega), i64s (z := (k : Int) + 1) (by omega) (by omega)]
      by_cases h4 : (4000 : Int) < (c : Int) + ((cellsN (k : Int) x).length : Int)
      · refine ⟨(k : Int), ?_⟩
        have : decide (c + ((cellsN (k : Int) x).length + (allC (k + 1) (m.Params.drop (k + 1))).length) ≤ 4000) = false := by rw [decide_eq_false_iff_not]; omega
        rw [this, if_pos (by simpa using h4)]; rfl
      · obtain ⟨j, hj⟩ := ih (k + 1) (c + (cellsN (k : Int) x).length) (by omega) (by omega)
        refine ⟨j, ?_⟩
        rw [if_neg (by simpa using h4)]
        rw [Nat.add_assoc] at hj
        rw [← hj]
        rfl
  have := key m.Params.length 0 0 (by omega) (by omega)
  simpa using this
theorem rcnt_loop {m : api_Map} (hl : m.Params.length ≤ 200) (hP : ∀ x ∈ m.Params, ParOK x) : ∃ j, loop (t2 (ref2_Check_L3 m)) (0, 0) = some (cond (decide ((allC 0 m.Params).length ≤ 4000)) (.inr ()) (.inl (j, 3))) := by
  have key : ∀ (n k : Nat) (c : Nat), k + n = m.Params.length → c ≤ 4000 → ∃ j, loop (t2 (ref2_Check_L3 m)) ((c : Int), (k : Int)) = some (cond (decide (c + (allC k (m.Params.drop k)).length ≤ 4000)) (.inr ()) (.inl (j, 3))) := by
    intro n
    induction n with
    | zero =>
      intro k c hk hc
      have : k = m.Params.length := by omega
      subst this
      refine ⟨0, ?_⟩
      rw [loop_eq]
      simp [ref2_Check_L3, allC, hc]
    | succ n ih =>
      intro k c hk hc
      obtain ⟨x, hx⟩ := get_ex (xs := m.Params) (k := k) (by omega)
      have hlt := lt_of hx
      have hp := hP x (List.mem_of_getElem? hx)
      have hlen := cellsN_len (number := (k : Int)) hp.toPartsOK
      rw [drop_cons hx, loop_eq]
      simp only [t2_mk, ref2_Check_L3, hlt, decide_true, if_true, idx_of hx, Option.bind_some, rcells_s hp.toPartsOK, allC, List.length_append]
      rw [i64s (z := (c : Int) + ((cellsN (k : Int) x).length : Int)) (by omega) (by omega), i64s (z := (k : Int) + 1) (by omega) (by omega)]
      by_cases h4 : (4000 : Int) < (c : Int) + ((cellsN (k : Int) x).length : Int)
      · refine ⟨(k : Int), ?_⟩
        have : decide (c + ((cellsN (k : Int) x).length + (allC (k + 1) (m.Params.drop (k + 1))).length) ≤ 4000) = false := by rw [decide_eq_false_iff_not]; omega
        rw [this, if_pos (by simpa using h4)]; rfl
      · obtain ⟨j, hj⟩ := ih (k + 1) (c + (cellsN (k : Int) x).length) (by omega) (by omega)
        refine ⟨j, ?_⟩
        rw [if_neg (by simpa using h4)]
        rw [Nat.add_assoc] at hj
        rw [← hj]
        rfl
  have := key m.Params.length 0 0 (by omega) (by omega)
  simpa using this
theorem L4_s (i3 : Int) {l : List api_Cell} (hl : cellsOK l) (o : List (layout_bit × Int)) : ∃ q, loop (t2 (layout_check_L4 i3 l)) (o, 0) = some (cond (okB (mkeys o) (bitsC l)) (.inr q) (.inl (i3, 5))) ∧ (okB (mkeys o) (bitsC l) = true → mkeys q = mkeys o ++ bitsC l) := by
  have hl0 := hl.1
  have key : ∀ (n k : Nat) (o : List (layout_bit × Int)), k + n = l.length → ∃ q, loop (t2 (layout_check_L4 i3 l)) (o, (k : Int)) = some (cond (okB (mkeys o) (bitsC (l.drop k))) (.inr q) (.inl (i3, 5))) ∧ (okB (mkeys o) (bitsC (l.drop k)) = true → mkeys q = mkeys o ++ bitsC (l.drop k)) := by
    intro n
    induction n with
    | zero =>
      intro k o hk
      have : k = l.length := by omega
      subst this
      refine ⟨o, ?_, by simp [bitsC]⟩
      rw [loop_eq]
      simp [layout_check_L4, okB, bitsC]
    | succ n ih =>
      intro k o hk
      obtain ⟨c, hc⟩ := get_ex (xs := l) (k := k) (by omega)
      have hlt := lt_of hc
      obtain ⟨hp1, hp2⟩ := hl.2 c (List.mem_of_getElem? hc)
      obtain ⟨q, h1, h2⟩ := take_s i3 hp1 hp2 o
      have e : bitsC (l.drop k) = bitsL c.Places ++ bitsC (l.drop (k + 1)) := by rw [drop_cons hc]; simp [bitsC]
      have e2 : ((k : Nat) : Int) + 1 = ((k + 1 : Nat) : Int) := by push_cast; rfl
      rw [e, okB_app, loop_eq]
      simp only [t2_mk, layout_check_L4, hlt, decide_true, if_true, idx_of hc, Option.bind_some, h1]
      rw [i64s (by omega) (by omega), e2]
      cases hok : okB (mkeys o) (bitsL c.Places) with
      | false => exact ⟨[], rfl, fun h => by cases h⟩
      | true =>
        have h3 := h2 hok
        obtain ⟨q', g1, g2⟩ := ih (k + 1) q (by omega)
        have e3 : mkeys q = mkeys o ++ bitsL c.Places := by rw [h3]; simp [mkeys, Function.comp_def]
        rw [e3] at g1 g2
        refine ⟨q', g1, fun h => ?_⟩
        rw [g2 (by simpa using h)]; simp
  exact key l.length 0 o (by omega)
theorem tk_loop {m : api_Map} (hl : m.Params.length ≤ 200) (hP : ∀ x ∈ m.Params, ParOK x) : ∃ j, loop (t2 (layout_check_L3 m)) (([] : List (layout_bit × Int)), 0) = some (cond (okB [] (bitsC (allC 0 m.Params))) (.inr ()) (.inl (j, 5))) := by
  have key : ∀ (n k : Nat) (o : List (layout_bit × Int)), k + n = m.Params.length → ∃ j, loop (t2 (layout_check_L3 m)) (o, (k : Int)) = some (cond (okB (mkeys o) (bitsC (allC k (m.Params.drop k)))) (.inr ()) (.inl (j, 5))) := by
    intro n
    induction n with
    | zero =>
      intro k o hk
      have : k = m.Params.length := by omega
      subst this
      refine ⟨0, ?_⟩
      rw [loop_eq]
      simp [layout_check_L3, allC, okB, bitsC]
    | succ n ih =>
      intro k o hk
      obtain ⟨x, hx⟩ := get_ex (xs := m.Params) (k := k) (by omega)
      have hlt := lt_of hx
      have hp := hP x (List.mem_of_getElem? hx)
      obtain ⟨q, h1, h2⟩ := L4_s (k : Int) (cellsN_ok (number := (k : Int)) hp.toPartsOK) o
      have e : bitsC (allC k (m.Params.drop k)) = bitsC (cellsN (k : Int) x) ++ bitsC (allC (k + 1) (m.Params.drop (k + 1))) := by rw [drop_cons hx]; simp [bitsC, allC]
      rw [e, okB_app, loop_eq]
      simp only [t2_mk, layout_check_L3, hlt, decide_true, if_true, idx_of hx, Option.bind_some, cells_s hp.toPartsOK, h1]
      rw [i64s (z := (k : Int) + 1) (by omega) (by omega)]
      cases hok : okB (mkeys o) (bitsC (cellsN (k : Int) x)) with
      | false => exact ⟨(k : Int), rfl⟩
      | true =>
        obtain ⟨j, hj⟩ := ih (k + 1) q (by omega)
        rw [h2 hok] at hj
        exact ⟨j, hj⟩
  exact key m.Params.length 0 [] (by omega)
theorem rtk_loop {m : api_Map} (hl : m.Params.length ≤ 200) (hP : ∀ x ∈ m.Params, ParOK x) : ∃ j, loop (t2 (ref2_Check_L4 m)) (([] : RT), 0) = some (cond (okB [] (bitsC (allC 0 m.Params))) (.inr ()) (.inl (j, 5))) := by
  have key : ∀ (n k : Nat) (o : RT) (K : List layout_bit), RK o K → k + n = m.Params.length → ∃ j, loop (t2 (ref2_Check_L4 m)) (o, (k : Int)) = some (cond (okB K (bitsC (allC k (m.Params.drop k)))) (.inr ()) (.inl (j, 5))) := by
    intro n
    induction n with
    | zero =>
      intro k o K hK hk
      have : k = m.Params.length := by omega
      subst this
      refine ⟨0, ?_⟩
      rw [loop_eq]
      simp [ref2_Check_L4, allC, okB, bitsC]
    | succ n ih =>
      intro k o K hK hk
      obtain ⟨x, hx⟩ := get_ex (xs := m.Params) (k := k) (by omega)
      have hlt := lt_of hx
      have hp := hP x (List.mem_of_getElem? hx)
      obtain ⟨o', ok', h1, h2⟩ := rtakeAll_s (cellsN_ok (number := (k : Int)) hp.toPartsOK) o
      obtain ⟨h3, h4⟩ := h2 K hK
      have e : bitsC (allC k (m.Params.drop k)) = bitsC (cellsN (k : Int) x) ++ bitsC (allC (k + 1) (m.Params.drop (k + 1))) := by rw [drop_cons hx]; simp [bitsC, allC]
      rw [e, okB_app, loop_eq]
      simp only [t2_mk, ref2_Check_L4, hlt, decide_true, if_true, idx_of hx, Option.bind_some, rcells_s hp.toPartsOK, h1]
      rw [i64s (z := (k : Int) + 1) (by omega) (by omega), ← h3]
      cases hok : ok' with
      | false => exact ⟨(k : Int), rfl⟩
      | true =>
        obtain ⟨j, hj⟩ := ih (k + 1) o' _ (h4 hok) (by omega)
        exact ⟨j, hj⟩
  exact key m.Params.length 0 [] [] ⟨rfl, fun p hp => by cases hp⟩ (by omega)
def chkM (m : api_Map) : Int := if wi m.Version 0 2047 = true then (if m.Params.length ≤ 200 then elimO (fun e => e.2) (if (allC 0 m.Params).length ≤ 4000 then (if okB [] (bitsC (allC 0 m.Params)) = true then 0 else 5) else 3) (findI (g1M m.Params) 0 m.Params) else 3) else 9
theorem check_s (m : api_Map) : ∃ a, layout_check m = some (a, chkM m) := by
  unfold layout_check chkM
  rw [within_s, Option.bind_some]
  cases hw : wi m.Version 0 2047
  · exact ⟨_, rfl⟩
  by_cases h2 : m.Params.length ≤ 200
  · have h2' : ¬ (200 : Int) < (m.Params.length : Int) := by omega
    rw [if_neg (by simp), if_neg (by simpa using h2'), if_pos rfl, if_pos h2, mL1_s h2]
    cases hf : findI (g1M m.Params) 0 m.Params with
    | some e => exact ⟨e.1, rfl⟩
    | none =>
      have hP := g1_ok hf
      obtain ⟨j, hj⟩ := cnt_loop h2 hP
      obtain ⟨i, hi⟩ := tk_loop h2 hP
      simp only [elimO_none, Option.bind_some, Sum.elim_inr, t0]
      rw [hj]
      by_cases h4 : (allC 0 m.Params).length ≤ 4000
      · rw [decide_eq_true h4, if_pos h4]
        simp only [cond_true, Option.bind_some, Sum.elim_inr]
        rw [hi]
        cases okB [] (bitsC (allC 0 m.Params))
        · exact ⟨i, rfl⟩
        · exact ⟨-1, rfl⟩
      · rw [decide_eq_false h4, if_neg h4]
        exact ⟨j, rfl⟩
  · have h2' : (200 : Int) < (m.Params.length : Int) := by omega
    rw [if_neg (by simp), if_pos (by simpa using h2'), if_pos rfl, if_neg h2]
    exact ⟨_, rfl⟩
theorem rcheck_s (m : api_Map) (hs : wf_api_Map m) : ∃ a, ref2_Check m = some (a, chkM m) := by
  unfold ref2_Check chkM
  rw [outside_s, Option.bind_some]
  cases hw : wi m.Version 0 2047
  · exact ⟨_, rfl⟩
  by_cases h2 : m.Params.length ≤ 200
  · have h2' : ¬ (200 : Int) < (m.Params.length : Int) := by omega
    rw [if_neg (by simp), if_neg (by simpa using h2'), if_pos rfl, if_pos h2, rmL1_s h2 hs]
    cases hf : findI (g1M m.Params) 0 m.Params with
    | some e => exact ⟨e.1, rfl⟩
    | none =>
      have hP := g1_ok hf
      obtain ⟨j, hj⟩ := rcnt_loop h2 hP
      obtain ⟨i, hi⟩ := rtk_loop h2 hP
      simp only [elimO_none, Option.bind_some, Sum.elim_inr, t0]
      rw [hj]
      by_cases h4 : (allC 0 m.Params).length ≤ 4000
      · rw [decide_eq_true h4, if_pos h4]
        simp only [cond_true, Option.bind_some, Sum.elim_inr]
        rw [hi]
        cases okB [] (bitsC (allC 0 m.Params))
        · exact ⟨i, rfl⟩
        · exact ⟨0, rfl⟩
      · rw [decide_eq_false h4, if_neg h4]
        exact ⟨j, rfl⟩
  · have h2' : (200 : Int) < (m.Params.length : Int) := by omega
    rw [if_neg (by simp), if_pos (by simpa using h2'), if_pos rfl, if_neg h2]
    exact ⟨_, rfl⟩
structure MapOK (m : api_Map) : Prop where
  ver : 0 ≤ m.Version ∧ m.Version ≤ 2047
  len : m.Params.length ≤ 200
  par : ∀ x ∈ m.Params, ParOK x
  cnt : (allC 0 m.Params).length ≤ 4000
  uniq : okB [] (bitsC (allC 0 m.Params)) = true
theorem map_ok {m : api_Map} (h : chkM m = 0) : MapOK m := by
  unfold chkM at h
  by_cases h1 : wi m.Version 0 2047 = true
  case neg => rw [if_neg h1] at h; cases h
  rw [if_pos h1] at h
  by_cases h2 : m.Params.length ≤ 200
  case neg => rw [if_neg h2] at h; cases h
  rw [if_pos h2] at h
  cases hf : findI (g1M m.Params) 0 m.Params with
  | some e =>
    exfalso
    rw [hf] at h
    have key : ∀ (l : List api_Param) (k : Nat) (tl : List api_Param) (e : Int × Int), findI (g1M l) k tl = some e → e.2 ≠ 0 := by
      intro l k tl
      induction tl generalizing k with
      | nil => intro e h; cases h
      | cons x tl ih =>
        intro e h
        simp only [findI] at h
        cases hg : g1M l k x with
        | some e' =>
          rw [hg] at h
          cases h
          unfold g1M at hg
          split at hg
          · split at hg
            · cases hg; exact (by decide : (5 : Int) ≠ 0)
            · cases hg
          · rename_i hne; cases hg; exact hne
        | none => rw [hg] at h; exact ih _ _ h
    exact key _ _ _ _ hf h
  | none =>
    rw [hf] at h
    simp only [elimO_none] at h
    by_cases h3 : (allC 0 m.Params).length ≤ 4000
    case neg => rw [if_neg h3] at h; cases h
    rw [if_pos h3] at h
    by_cases h4 : okB [] (bitsC (allC 0 m.Params)) = true
    case neg => rw [if_neg h4] at h; cases h
    exact ⟨wi_iff.1 h1, h2, g1_ok hf, h3, h4⟩
end Go.Vx

namespace Go.Vx
open Go Go.RowKit
def hasP (b : layout_bit) (x : api_Place) : Bool := ((decide (x.Frame = b.frame) && decide (x.Word = b.word)) && decide (x.Low ≤ b.bit)) && decide (b.bit < x.Low + x.Bits)
end Go.Vx
