/- A text of the proof: a verified executor of the program form, or the contracts of the functions that the law reaches. -/
import Derived.Test.YtacmhbfmedpkhaaGreatDoorPA
import Derived.Test.YtacmhbfmedpkhaaGreatDoorShT
import Derived.Test.YtacmhbfmedpkhaaGreatDoorShLib
set_option linter.all false
namespace Go.Vx
open Go Go.RowKit
def allC : Nat → List api_Param → List api_Cell
  | _, [] => []
  | k, x :: tl => cellsN (k : Int) x ++ allC (k + 1) tl
theorem Zns {l : List api_Param} {f : api_Param → Option Bool} {g : api_Param → Bool} (hf : ∀ x, f x = some (g x)) (hl : l.length ≤ 1000) : ZP l f = some (l.any g) := by
  have key : loop (t1 (Zz l f)) 0 = some (Jy Sum.inl (Sum.inr ()) (Z5 (fun k (x : api_Param) => if g x = true then some (k : Int) else none) 0 l)) := by
    refine JQ (xs := l) _ _ _ (fun k x hx => ?_) (by simp [Zz])
    have hlt := QU hx
    have hk : i64 ((k : Int) + 1) = (k : Int) + 1 := ZZ (by omega) (by omega)
    simp only [Zz, hlt, decide_true, if_true, ZD hx, Option.bind_some, hk, hf]
    by_cases hg : g x = true <;> simp [hg]
  have fnd : ∀ (k : Nat) (l : List api_Param), (l.any g = false ∧ Z5 (fun k (x : api_Param) => if g x = true then some (k : Int) else none) k l = none) ∨ (l.any g = true ∧ ∃ j : Nat, Z5 (fun k (x : api_Param) => if g x = true then some (k : Int) else none) k l = some (j : Int)) := by
    intro k l
    induction l generalizing k with
    | nil => left; exact ⟨rfl, rfl⟩
    | cons x l ih =>
      by_cases hx : g x = true
      · right; exact ⟨by simp [hx], k, by simp [Z5, hx]⟩
      · have hx' : g x = false := by simpa using hx
        rcases ih (k + 1) with ⟨h1, h2⟩ | ⟨h1, j, h2⟩
        · left; exact ⟨by rw [List.any_cons, hx', Bool.false_or]; exact h1, by simp only [Z5, hx', Bool.false_eq_true, if_false]; exact h2⟩
        · right; exact ⟨by rw [List.any_cons, hx', Bool.false_or]; exact h1, j, by simp only [Z5, hx', Bool.false_eq_true, if_false]; exact h2⟩
  unfold ZP ZH
  rw [key]
  rcases fnd 0 l with ⟨h1, h2⟩ | ⟨h1, j, h2⟩
  · rw [h2, h1]; rfl
  · rw [h2, h1]; simp [Jy]
def g1M (l : List api_Param) (k : Nat) (x : api_Param) : Option (Int × Int) := if ZeD x = 0 then (if ((l.take k).any fun q => decide (q.Name = x.Name)) = true then some ((k : Int), 5) else none) else some ((k : Int), ZeD x)
theorem ZrT {m : api_Map} (hl : m.Params.length ≤ 200) : loop (t1 (Zal m)) 0 = some (Jy Sum.inl (Sum.inr ()) (Z5 (g1M m.Params) 0 m.Params)) := by
  refine JQ (xs := m.Params) _ _ _ (fun k x hx => ?_) (by simp [Zal])
  have hlt := QU hx
  have hk : i64 ((k : Int) + 1) = (k : Int) + 1 := ZZ (by omega) (by omega)
  simp only [Zal, hlt, decide_true, if_true, ZD hx, Option.bind_some, hk, Zko, g1M]
  by_cases h : ZeD x = 0
  · rw [if_neg (by simp [h]), if_pos h, Zpr (by omega), Option.bind_some, Zns (l := m.Params.take k) (f := fun z0 => Zca z0 x) (g := fun q => decide (q.Name = x.Name)) (fun q => rfl) (by rw [List.length_take]; omega), Option.bind_some]
    by_cases ha : ((m.Params.take k).any fun q => decide (q.Name = x.Name)) = true
    · rw [if_pos ha, if_pos ha]; rfl
    · rw [if_neg ha, if_neg ha]; rfl
  · rw [if_pos (ZmD h), if_neg h]; rfl
theorem ZqG {m : api_Map} (hl : m.Params.length ≤ 200) (hs : ZbH m) : loop (t1 (Zbj m)) 0 = some (Jy Sum.inl (Sum.inr ()) (Z5 (g1M m.Params) 0 m.Params)) := by
  refine JQ (xs := m.Params) _ _ _ (fun k x hx => ?_) (by simp [Zbj])
  have hlt := QU hx
  have hk : i64 ((k : Int) + 1) = (k : Int) + 1 := ZZ (by omega) (by omega)
  have hw : Xg x := hs.2.1.2 x (List.mem_of_getElem? hx)
  simp only [Zbj, hlt, decide_true, if_true, ZD hx, Option.bind_some, hk, Zgl x hw, g1M]
  by_cases h : ZeD x = 0
  · rw [if_neg (by simp [h]), if_pos h, Zpr (by omega), Option.bind_some]
    have hL := Zet (xs := m.Params.take k) (fun y : api_Param => if y.Name = x.Name then some () else none) (fun _ => (Sum.inl ((k : Int), 5) : (Int × Int) ⊕ Unit)) (Sum.inr ()) (body := Zbl (k : Int) x (m.Params.take k)) (fun j y hy => by
      have hj := QU hy
      have hj2 : j < 200 := by have := (List.getElem?_eq_some_iff.1 hy).1; rw [List.length_take] at this; omega
      simp only [Zbl, hj, decide_true, if_true, ZD hy, Option.bind_some]
      rw [ZZ (by omega) (by omega)]
      by_cases hxy : y.Name = x.Name <;> simp [hxy]) (by simp [Zbl])
    rw [hL]
    have fnd : ∀ l : List api_Param, Zai (fun y : api_Param => if y.Name = x.Name then some () else none) l = if (l.any fun q => decide (q.Name = x.Name)) = true then some () else none := by
      intro l
      induction l with
      | nil => rfl
      | cons y l ih => 
        by_cases hy : y.Name = x.Name
        · simp [Zai, hy]
        · simp [Zai, hy, ih]
    rw [fnd]
    by_cases ha : ((m.Params.take k).any fun q => decide (q.Name = x.Name)) = true
    · rw [if_pos ha, if_pos ha]; rfl
    · rw [if_neg ha, if_neg ha]; rfl
  · rw [if_pos (ZmD h), if_neg h]; rfl
theorem Zov {l : List api_Param} (h : Z5 (g1M l) 0 l = none) : ∀ x ∈ l, ParOK x := by
  intro x hx
  obtain ⟨k, hk⟩ := List.getElem?_of_mem hx
  have := Zjh 0 l h k x hk
  unfold g1M at this
  by_cases hc : ZeD x = 0
  · exact ZgC hc
  · rw [if_neg hc] at this; cases this
theorem Zpe {number : Int} {p : api_Param} {out : List api_Cell} {f : Int} : (ZcW number p out f).length = out.length + p.Times.toNat := by simp [ZcW]
theorem ZjW {number : Int} {p : api_Param} : ∀ (fs : List Int) (out : List api_Cell), (fs.foldl (ZcW number p) out).length = out.length + fs.length * p.Times.toNat
  | [], out => by simp
  | f :: fs, out => by
    rw [List.foldl_cons, ZjW fs, Zpe, List.length_cons, Nat.add_mul]; omega
theorem ZkZ (number : Int) (p : api_Param) : (cellsN number p).length = (J6 p).length * p.Times.toNat := by
  unfold cellsN
  rw [ZjW]; simp
theorem ZoH {m : api_Map} (hl : m.Params.length ≤ 200) (hP : ∀ x ∈ m.Params, ParOK x) : ∃ j, loop (t2 (Jb m)) (0, 0) = some (cond (decide ((allC 0 m.Params).length ≤ 4000)) (.inr ()) (.inl (j, 3))) := by
  have key : ∀ (n k : Nat) (c : Nat), k + n = m.Params.length → c ≤ 4000 → ∃ j, loop (t2 (Jb m)) ((c : Int), (k : Int)) = some (cond (decide (c + (allC k (m.Params.drop k)).length ≤ 4000)) (.inr ()) (.inl (j, 3))) := by
    intro n
    induction n with
    | zero =>
      intro k c hk hc
      have : k = m.Params.length := by omega
      subst this
      refine ⟨0, ?_⟩
      rw [ZV]
      simp [Jb, allC, hc]
    | succ n ih =>
      intro k c hk hc
      obtain ⟨x, hx⟩ := ZU (xs := m.Params) (k := k) (by omega)
      have hlt := QU hx
      have hp := hP x (List.mem_of_getElem? hx)
      have hlen := ZaV (number := (k : Int)) hp.toPartsOK
      have hE := ZkZ (k : Int) x
      obtain ⟨_, _, hT, _⟩ := XX hp.tim
      have hT' : (x.Times.toNat : Int) = x.Times := by omega
      have e1 : ((J6 x).length : Int) * x.Times = ((cellsN (k : Int) x).length : Int) := by rw [hE]; push_cast; rw [hT']
      rw [ZN hx, ZV]
      simp only [Zaf, Jb, hlt, decide_true, if_true, ZD hx, Option.bind_some, Zlz hp.toPartsOK, e1, allC, List.length_append]
      rw [ZZ (z := ((cellsN (k : Int) x).length : Int)) (by omega) (by omega), ZZ (z := (c : Int) + ((cellsN (k : Int) x).length : Int)) (by omega) (by omega), ZZ (z := (k : Int) + 1) (by omega) (by omega)]
      by_cases h4 : (4000 : Int) < (c : Int) + ((cellsN (k : Int) x).length : Int)
      · refine ⟨(k : Int), ?_⟩
        have : decide (c + ((cellsN (k : Int) x).length + (allC (k + 1) (m.Params.drop (k + 1))).length) ≤ 4000) = false := by rw [decide_eq_false_iff_not]; omega
        rw [this, if_pos (by simpa using h4)]; rfl
      · obtain ⟨j, hj⟩ := ih (k + 1) (c + (cellsN (k : Int) x).length) (by omega) (by omega)
        refine ⟨j, ?_⟩
        rw [if_neg (by simpa using h4)]
        rw [Nat.add_assoc] at hj
        rw [← hj]
        rfl
  have := key m.Params.length 0 0 (by omega) (by omega)
  simpa using this
theorem Znj {m : api_Map} (hl : m.Params.length ≤ 200) (hP : ∀ x ∈ m.Params, ParOK x) : ∃ j, loop (t2 (Zas m)) (0, 0) = some (cond (decide ((allC 0 m.Params).length ≤ 4000)) (.inr ()) (.inl (j, 3))) := by
  have key : ∀ (n k : Nat) (c : Nat), k + n = m.Params.length → c ≤ 4000 → ∃ j, loop (t2 (Zas m)) ((c : Int), (k : Int)) = some (cond (decide (c + (allC k (m.Params.drop k)).length ≤ 4000)) (.inr ()) (.inl (j, 3))) := by
    intro n
    induction n with
    | zero =>
      intro k c hk hc
      have : k = m.Params.length := by omega
      subst this
      refine ⟨0, ?_⟩
      rw [ZV]
      simp [Zas, allC, hc]
    | succ n ih =>
      intro k c hk hc
      obtain ⟨x, hx⟩ := ZU (xs := m.Params) (k := k) (by omega)
      have hlt := QU hx
      have hp := hP x (List.mem_of_getElem? hx)
      have hlen := ZaV (number := (k : Int)) hp.toPartsOK
      rw [ZN hx, ZV]
      simp only [Zaf, Zas, hlt, decide_true, if_true, ZD hx, Option.bind_some, Zg4 hp.toPartsOK, allC, List.length_append]
      rw [ZZ (z := (c : Int) + ((cellsN (k : Int) x).length : Int)) (by omega) (by omega), ZZ (z := (k : Int) + 1) (by omega) (by omega)]
      by_cases h4 : (4000 : Int) < (c : Int) + ((cellsN (k : Int) x).length : Int)
      · refine ⟨(k : Int), ?_⟩
        have : decide (c + ((cellsN (k : Int) x).length + (allC (k + 1) (m.Params.drop (k + 1))).length) ≤ 4000) = false := by rw [decide_eq_false_iff_not]; omega
        rw [this, if_pos (by simpa using h4)]; rfl
      · obtain ⟨j, hj⟩ := ih (k + 1) (c + (cellsN (k : Int) x).length) (by omega) (by omega)
        refine ⟨j, ?_⟩
        rw [if_neg (by simpa using h4)]
        rw [Nat.add_assoc] at hj
        rw [← hj]
        rfl
  have := key m.Params.length 0 0 (by omega) (by omega)
  simpa using this
theorem ZsA (i3 : Int) {l : List api_Cell} (hl : Zit l) (o : List (layout_bit × Int)) : ∃ q, loop (t2 (Jd i3 l)) (o, 0) = some (cond (okB (mkeys o) (bitsC l)) (.inr q) (.inl (i3, 5))) ∧ (okB (mkeys o) (bitsC l) = true → mkeys q = mkeys o ++ bitsC l) := by
  have hl0 := hl.1
  have key : ∀ (n k : Nat) (o : List (layout_bit × Int)), k + n = l.length → ∃ q, loop (t2 (Jd i3 l)) (o, (k : Int)) = some (cond (okB (mkeys o) (bitsC (l.drop k))) (.inr q) (.inl (i3, 5))) ∧ (okB (mkeys o) (bitsC (l.drop k)) = true → mkeys q = mkeys o ++ bitsC (l.drop k)) := by
    intro n
    induction n with
    | zero =>
      intro k o hk
      have : k = l.length := by omega
      subst this
      refine ⟨o, ?_, by simp [bitsC]⟩
      rw [ZV]
      simp [Jd, okB, bitsC]
    | succ n ih =>
      intro k o hk
      obtain ⟨c, hc⟩ := ZU (xs := l) (k := k) (by omega)
      have hlt := QU hc
      obtain ⟨hp1, hp2⟩ := hl.2 c (List.mem_of_getElem? hc)
      obtain ⟨q, h1, h2⟩ := ZoA i3 hp1 hp2 o
      have e : bitsC (l.drop k) = JD c.Places ++ bitsC (l.drop (k + 1)) := by rw [ZN hc]; simp [bitsC]
      have e2 : ((k : Nat) : Int) + 1 = ((k + 1 : Nat) : Int) := by push_cast; rfl
      rw [e, ZdV, ZV]
      simp only [Zaf, Jd, hlt, decide_true, if_true, ZD hc, Option.bind_some, h1]
      rw [ZZ (by omega) (by omega), e2]
      cases hok : okB (mkeys o) (JD c.Places) with
      | false => exact ⟨[], rfl, fun h => by cases h⟩
      | true =>
        have h3 := h2 hok
        obtain ⟨q', g1, g2⟩ := ih (k + 1) q (by omega)
        have e3 : mkeys q = mkeys o ++ JD c.Places := by rw [h3]; simp [mkeys, Function.comp_def]
        rw [e3] at g1 g2
        refine ⟨q', g1, fun h => ?_⟩
        rw [g2 (by simpa using h)]; simp
  exact key l.length 0 o (by omega)
theorem Zp0 {m : api_Map} (hl : m.Params.length ≤ 200) (hP : ∀ x ∈ m.Params, ParOK x) : ∃ j, loop (t2 (Ja m)) (([] : List (layout_bit × Int)), 0) = some (cond (okB [] (bitsC (allC 0 m.Params))) (.inr ()) (.inl (j, 5))) := by
  have key : ∀ (n k : Nat) (o : List (layout_bit × Int)), k + n = m.Params.length → ∃ j, loop (t2 (Ja m)) (o, (k : Int)) = some (cond (okB (mkeys o) (bitsC (allC k (m.Params.drop k)))) (.inr ()) (.inl (j, 5))) := by
    intro n
    induction n with
    | zero =>
      intro k o hk
      have : k = m.Params.length := by omega
      subst this
      refine ⟨0, ?_⟩
      rw [ZV]
      simp [Ja, allC, okB, bitsC]
    | succ n ih =>
      intro k o hk
      obtain ⟨x, hx⟩ := ZU (xs := m.Params) (k := k) (by omega)
      have hlt := QU hx
      have hp := hP x (List.mem_of_getElem? hx)
      obtain ⟨q, h1, h2⟩ := ZsA (k : Int) (ZfV (number := (k : Int)) hp.toPartsOK) o
      have e : bitsC (allC k (m.Params.drop k)) = bitsC (cellsN (k : Int) x) ++ bitsC (allC (k + 1) (m.Params.drop (k + 1))) := by rw [ZN hx]; simp [bitsC, allC]
      rw [e, ZdV, ZV]
      simp only [Zaf, Ja, hlt, decide_true, if_true, ZD hx, Option.bind_some, ZkF hp.toPartsOK, h1]
      rw [ZZ (z := (k : Int) + 1) (by omega) (by omega)]
      cases hok : okB (mkeys o) (bitsC (cellsN (k : Int) x)) with
      | false => exact ⟨(k : Int), rfl⟩
      | true =>
        obtain ⟨j, hj⟩ := ih (k + 1) q (by omega)
        rw [h2 hok] at hj
        exact ⟨j, hj⟩
  exact key m.Params.length 0 [] (by omega)
theorem ZoU {m : api_Map} (hl : m.Params.length ≤ 200) (hP : ∀ x ∈ m.Params, ParOK x) : ∃ j, loop (t2 (Zan m)) (([] : RT), 0) = some (cond (okB [] (bitsC (allC 0 m.Params))) (.inr ()) (.inl (j, 5))) := by
  have key : ∀ (n k : Nat) (o : RT) (K : List layout_bit), RK o K → k + n = m.Params.length → ∃ j, loop (t2 (Zan m)) (o, (k : Int)) = some (cond (okB K (bitsC (allC k (m.Params.drop k)))) (.inr ()) (.inl (j, 5))) := by
    intro n
    induction n with
    | zero =>
      intro k o K hK hk
      have : k = m.Params.length := by omega
      subst this
      refine ⟨0, ?_⟩
      rw [ZV]
      simp [Zan, allC, okB, bitsC]
    | succ n ih =>
      intro k o K hK hk
      obtain ⟨x, hx⟩ := ZU (xs := m.Params) (k := k) (by omega)
      have hlt := QU hx
      have hp := hP x (List.mem_of_getElem? hx)
      obtain ⟨o', ok', h1, h2⟩ := Zi3 (ZfV (number := (k : Int)) hp.toPartsOK) o
      obtain ⟨h3, h4⟩ := h2 K hK
      have e : bitsC (allC k (m.Params.drop k)) = bitsC (cellsN (k : Int) x) ++ bitsC (allC (k + 1) (m.Params.drop (k + 1))) := by rw [ZN hx]; simp [bitsC, allC]
      rw [e, ZdV, ZV]
      simp only [Zaf, Zan, hlt, decide_true, if_true, ZD hx, Option.bind_some, Zg4 hp.toPartsOK, h1]
      rw [ZZ (z := (k : Int) + 1) (by omega) (by omega), ← h3]
      cases hok : ok' with
      | false => exact ⟨(k : Int), rfl⟩
      | true =>
        obtain ⟨j, hj⟩ := ih (k + 1) o' _ (h4 hok) (by omega)
        exact ⟨j, hj⟩
  exact key m.Params.length 0 [] [] ⟨rfl, fun p hp => by cases hp⟩ (by omega)
def Zd9 (m : api_Map) : Int := if wiL m.Version 0 2047 = true then (if m.Params.length ≤ 200 then Jy (fun e => e.2) (if (allC 0 m.Params).length ≤ 4000 then (if okB [] (bitsC (allC 0 m.Params)) = true then 0 else 5) else 3) (Z5 (g1M m.Params) 0 m.Params) else 3) else 9
theorem ZlI (m : api_Map) : ∃ a, Za5 m = some (a, Zd9 m) := by
  unfold Za5 Zd9
  rw [Zek, Option.bind_some]
  cases hw : wiL m.Version 0 2047
  · exact ⟨_, rfl⟩
  by_cases h2 : m.Params.length ≤ 200
  · have h2' : ¬ (200 : Int) < (m.Params.length : Int) := by omega
    rw [if_neg (by simp), if_neg (by simpa using h2'), if_pos rfl, if_pos h2, ZrT h2]
    cases hf : Z5 (g1M m.Params) 0 m.Params with
    | some e => exact ⟨e.1, rfl⟩
    | none =>
      have hP := Zov hf
      obtain ⟨j, hj⟩ := ZoH h2 hP
      obtain ⟨i, hi⟩ := Zp0 h2 hP
      simp only [ZeE, Option.bind_some, Sum.elim_inr, t0]
      rw [hj]
      by_cases h4 : (allC 0 m.Params).length ≤ 4000
      · rw [decide_eq_true h4, if_pos h4]
        simp only [cond_true, Option.bind_some, Sum.elim_inr]
        rw [hi]
        cases okB [] (bitsC (allC 0 m.Params))
        · exact ⟨i, rfl⟩
        · exact ⟨-1, rfl⟩
      · rw [decide_eq_false h4, if_neg h4]
        exact ⟨j, rfl⟩
  · have h2' : (200 : Int) < (m.Params.length : Int) := by omega
    rw [if_neg (by simp), if_pos (by simpa using h2'), if_pos rfl, if_neg h2]
    exact ⟨_, rfl⟩
theorem ZlU (m : api_Map) (hs : ZbH m) : ∃ a, Zco m = some (a, Zd9 m) := by
  unfold Zco Zd9
  rw [Zdz, Option.bind_some]
  cases hw : wiL m.Version 0 2047
  · exact ⟨_, rfl⟩
  by_cases h2 : m.Params.length ≤ 200
  · have h2' : ¬ (200 : Int) < (m.Params.length : Int) := by omega
    rw [if_neg (by simp), if_neg (by simpa using h2'), if_pos rfl, if_pos h2, ZqG h2 hs]
    cases hf : Z5 (g1M m.Params) 0 m.Params with
    | some e => exact ⟨e.1, rfl⟩
    | none =>
      have hP := Zov hf
      obtain ⟨j, hj⟩ := Znj h2 hP
      obtain ⟨i, hi⟩ := ZoU h2 hP
      simp only [ZeE, Option.bind_some, Sum.elim_inr, t0]
      rw [hj]
      by_cases h4 : (allC 0 m.Params).length ≤ 4000
      · rw [decide_eq_true h4, if_pos h4]
        simp only [cond_true, Option.bind_some, Sum.elim_inr]
        rw [hi]
        cases okB [] (bitsC (allC 0 m.Params))
        · exact ⟨i, rfl⟩
        · exact ⟨0, rfl⟩
      · rw [decide_eq_false h4, if_neg h4]
        exact ⟨j, rfl⟩
  · have h2' : (200 : Int) < (m.Params.length : Int) := by omega
    rw [if_neg (by simp), if_pos (by simpa using h2'), if_pos rfl, if_neg h2]
    exact ⟨_, rfl⟩
structure MapOK (m : api_Map) : Prop where
  ver : 0 ≤ m.Version ∧ m.Version ≤ 2047
  len : m.Params.length ≤ 200
  par : ∀ x ∈ m.Params, ParOK x
  cnt : (allC 0 m.Params).length ≤ 4000
  uniq : okB [] (bitsC (allC 0 m.Params)) = true
theorem Zkq {m : api_Map} (h : Zd9 m = 0) : MapOK m := by
  unfold Zd9 at h
  by_cases h1 : wiL m.Version 0 2047 = true
  case neg => rw [if_neg h1] at h; cases h
  rw [if_pos h1] at h
  by_cases h2 : m.Params.length ≤ 200
  case neg => rw [if_neg h2] at h; cases h
  rw [if_pos h2] at h
  cases hf : Z5 (g1M m.Params) 0 m.Params with
  | some e =>
    exfalso
    rw [hf] at h
    have key : ∀ (l : List api_Param) (k : Nat) (tl : List api_Param) (e : Int × Int), Z5 (g1M l) k tl = some e → e.2 ≠ 0 := by
      intro l k tl
      induction tl generalizing k with
      | nil => intro e h; cases h
      | cons x tl ih =>
        intro e h
        simp only [Z5] at h
        cases hg : g1M l k x with
        | some e' =>
          rw [hg] at h
          cases h
          unfold g1M at hg
          split at hg
          · split at hg
            · cases hg; exact (by decide : (5 : Int) ≠ 0)
            · cases hg
          · rename_i hne; cases hg; exact hne
        | none => rw [hg] at h; exact ih _ _ h
    exact key _ _ _ _ hf h
  | none =>
    rw [hf] at h
    simp only [ZeE] at h
    by_cases h3 : (allC 0 m.Params).length ≤ 4000
    case neg => rw [if_neg h3] at h; cases h
    rw [if_pos h3] at h
    by_cases h4 : okB [] (bitsC (allC 0 m.Params)) = true
    case neg => rw [if_neg h4] at h; cases h
    exact ⟨Zhe.1 h1, h2, Zov hf, h3, h4⟩
theorem Zgj {m : api_Map} (h : MapOK m) {body : List api_Cell → Int → Option ((List api_Cell × Int) ⊕ List api_Cell)} {f : Int → api_Param → Option (List api_Cell)} (hf : ∀ k x, PartsOK x → f k x = some (cellsN k x))
    (hb : ∀ out i, body out i = if decide (i < (m.Params.length : Int)) = true then (idx m.Params i).bind fun x => (f i x).bind fun y => (app out y).bind fun l => some (.inl (l, (i64 (i + 1)))) else some (.inr out)) : loop (t2 body) ([], 0) = some (allC 0 m.Params) := by
  have hl := h.len
  have := Zdw (xs := m.Params) (body := body) (I := fun out k => out.length + (allC k (m.Params.drop k)).length ≤ 4000) (F := fun out k => out ++ allC k (m.Params.drop k))
    (fun out k x hI hx => by
      have hlt := QU hx
      have hp := h.par x (List.mem_of_getElem? hx)
      rw [ZN hx] at hI ⊢
      simp only [allC, List.length_append] at hI ⊢
      left
      refine ⟨out ++ cellsN (k : Int) x, ?_, by rw [List.length_append]; omega, by rw [List.append_assoc]⟩
      rw [hb, if_pos (by simpa using hlt), ZD hx, Option.bind_some, hf _ _ hp.toPartsOK, Option.bind_some, XJ (by omega), ZZ (by omega) (by omega)]
      rfl)
    (fun out hI => by rw [hb, if_neg (by simp)]; simp [allC]) (a0 := []) (by simpa using h.cnt)
  simpa using this
theorem ZnX {m : api_Map} (h : MapOK m) : Zb5 m = some (allC 0 m.Params) := by
  unfold Zb5
  rw [Zgj h (body := Zdb m) (f := Xm) (fun k x hx => ZkF hx k) (fun out i => rfl)]; rfl
theorem Znd {m : api_Map} (h : MapOK m) : Zbk m = some (allC 0 m.Params) := by
  unfold Zbk
  rw [Zgj h (body := Zcw m) (f := fun k x => JV x k) (fun k x hx => Zg4 hx k) (fun out i => rfl)]; rfl
theorem Znb : ∀ (k : Nat) (l : List api_Param), (∀ x ∈ l, ParOK x) → ∀ c ∈ allC k l, ∃ (j : Nat) (x : api_Param), l[j]? = some x ∧ c ∈ cellsN ((k + j : Nat) : Int) x
  | _, [], _, c, hc => by cases hc
  | k, x :: tl, h, c, hc => by
    rcases List.mem_append.1 hc with hc | hc
    · exact ⟨0, x, rfl, hc⟩
    · obtain ⟨j, y, h1, h2⟩ := Znb (k + 1) tl (fun z hz => h z (List.mem_cons_of_mem _ hz)) c hc
      exact ⟨j + 1, y, by simpa using h1, by rwa [show k + (j + 1) = k + 1 + j by omega]⟩
theorem Zob {x : api_Param} (h : ParOK x) {f : Int} (hf : f ∈ J6 x) {t : Nat} (ht : t < x.Times.toNat) {q : api_Place} (hq : q ∈ x.Parts.map (Zdy x f t)) :
    (0 ≤ q.Frame ∧ q.Frame ≤ 15) ∧ (4 ≤ q.Word ∧ q.Word ≤ 60) ∧ (0 ≤ q.Low ∧ q.Low ≤ 10) ∧ 1 ≤ q.Bits ∧ q.Bits ≤ 11 - q.Low := by
  obtain ⟨hE, hF, hT, hS, _⟩ := XX h.tim
  obtain ⟨p, hp, rfl⟩ := List.mem_map.1 hq
  have h1 := Zbu.1 (h.len.2 p hp)
  obtain ⟨f0, _, f2⟩ := Zg1 (p := x) (by omega) 17 x.First f hF.1 hf
  have h2 := of_decide_eq_true (List.all_eq_true.1 f2 p hp)
  have h3 := h.stp p hp
  simp only [stepOK, Bool.and_eq_true, decide_eq_true_eq] at h3
  have h4 : (t : Int) * x.Step ≤ (x.Times - 1) * x.Step := Int.mul_le_mul_of_nonneg_right (by omega) hS
  have h5 : 0 ≤ (t : Int) * x.Step := Int.mul_nonneg (by omega) hS
  unfold Zdy
  simp only
  omega
theorem Zpw (m : api_Map) : Za1 m = some (if Zd9 m = 0 then (allC 0 m.Params, 0) else ([], Zd9 m)) := by
  obtain ⟨a, hc⟩ := ZlI m
  unfold Za1
  rw [hc, Option.bind_some]
  by_cases h : Zd9 m = 0
  · rw [if_neg (by simp [h]), if_pos h, ZnX (Zkq h)]; rfl
  · rw [if_pos (ZmD h), if_neg h]
end Go.Vx

namespace Go.Vx
open Go Go.RowKit
abbrev Smp := api_Sample
def wi (n lo hi : Int) : Bool := decide (lo ≤ n) && decide (n ≤ hi)
theorem Zbs (n a b : Int) : ZM n a b = some (wi n a b) := rfl
theorem Zdq (n a b : Int) : Z7 n a b = some (!wi n a b) := by
  simp only [Z7, wi, Option.some.injEq]
  rw [Bool.eq_iff_iff]; simp [Int.not_le]
theorem ZiR {n a b : Int} : wi n a b = true ↔ a ≤ n ∧ n ≤ b := by simp [wi]
def ZbM (x : Smp) : Option Int := if !(wi x.At 0 1099511627776 && wi x.N (-1125899906842624) 1125899906842624 && wi x.Mark 0 4) then some 9 else if !decide (x.N = 0) && decide (x.Mark ≤ 1) then some 2 else none
def Zly (xs : List Smp) (k : Nat) : Option Smp := if k = 0 then none else xs[k - 1]?
def Zff (p : Option Smp) (x : Smp) : Bool := match p with | none => false | some q => decide (x.At ≤ q.At)
def Zgw : Option Smp → Nat → List Smp → Int × Int
  | _, _, [] => (-1, 0)
  | p, k, x :: tl => match ZbM x with | some e => ((k : Int), e) | none => if Zff p x then ((k : Int), 10) else Zgw (some x) (k + 1) tl
def chk (s : api_Series) : Int × Int := if wi s.Den 1 1000000 then (if (s.Samples.length : Int) ≤ 20000 then Zgw none 0 s.Samples else (-1, 3)) else (-1, 9)
theorem Zke {xs : List Smp} {k : Nat} {x : Smp} (h : xs[k]? = some x) : Zly xs (k + 1) = some x := by simp [Zly, h]
theorem ZlC {xs : List Smp} {k : Nat} (hk : 0 < k) (h : k ≤ xs.length) : ∃ y, xs[k - 1]? = some y ∧ Zly xs k = some y ∧ idx xs ((k : Int) - 1) = some y := by
  obtain ⟨y, hy⟩ := ZU (xs := xs) (k := k - 1) (by omega)
  refine ⟨y, hy, by simp [Zly, hy]; omega, ?_⟩
  have : ((k : Int) - 1) = ((k - 1 : Nat) : Int) := by omega
  rw [this, ZD hy]
theorem Zmp (s : api_Series) (h : (s.Samples.length : Int) ≤ 20000) :
    loop (t1 (Zah s)) 0 = some ((fun r : Int × Int => if r.2 = 0 then Sum.inr () else Sum.inl r) (Zgw none 0 s.Samples)) := by
  refine ZfI (xs := s.Samples) (fun k => (fun r : Int × Int => if r.2 = 0 then Sum.inr () else Sum.inl r) (Zgw (Zly s.Samples k) k (s.Samples.drop k))) (fun k x hx => ?_) ?_
  · have hlt := QU hx
    rw [ZN hx, Zgw]
    simp only [Zah, ZD hx, hlt, decide_true, if_true, Option.bind_some, Zbs]
    by_cases hb : (wi x.At 0 1099511627776 && wi x.N (-1125899906842624) 1125899906842624 && wi x.Mark 0 4) = true
    · simp only [Bool.and_eq_true] at hb
      obtain ⟨⟨h1, h2⟩, h3⟩ := hb
      by_cases hh : (!decide (x.N = 0) && decide (x.Mark ≤ 1)) = true
      · right
        simp [ZbM, h1, h2, h3, hh]
      · have hs : ZbM x = none := by simp only [ZbM, h1, h2, h3]; simp [hh]
        rw [hs]
        rcases Nat.eq_zero_or_pos k with rfl | hk
        · left
          simp [h1, h2, h3, hh, Q2, Zly, Zff, hx]
        · obtain ⟨y, hy, hp, hi⟩ := ZlC (xs := s.Samples) hk (by omega)
          have hk' : (0 : Int) < k := by omega
          rw [hp]
          have hw : IntKind.i64.wrap ((k : Int) - 1) = (k : Int) - 1 := Q2 (by omega) (by omega)
          have hw2 : IntKind.i64.wrap ((k : Int) + 1) = (k : Int) + 1 := Q2 (by omega) (by omega)
          by_cases ho : x.At ≤ y.At
          · right; simp [h1, h2, h3, hh, hw, hi, hk, Zff, ho]
          · left; simp [h1, h2, h3, hh, hw, hw2, hi, hk, Zff, ho, Zke hx]
    · right
      have hs : ZbM x = some 9 := by
        simp only [ZbM]
        rw [if_pos (by cases h1 : wi x.At 0 1099511627776 <;> cases h2 : wi x.N (-1125899906842624) 1125899906842624 <;> cases h3 : wi x.Mark 0 4 <;> simp_all)]
      rw [hs]
      simp only [Bool.and_eq_true, not_and, Bool.not_eq_true] at hb
      cases h1 : wi x.At 0 1099511627776 <;> cases h2 : wi x.N (-1125899906842624) 1125899906842624 <;> cases h3 : wi x.Mark 0 4 <;> simp_all
  · simp [Zah, List.drop_length, Zgw]
theorem ZgP : ∀ (p : Option Smp) (k : Nat) (xs : List Smp), Zgw p k xs = (-1, 0) ∨ (Zgw p k xs).2 ≠ 0
  | _, _, [] => .inl rfl
  | p, k, x :: tl => by
    rw [Zgw]
    split
    · rename_i e he; right; unfold ZbM at he; split at he
      · cases he; simp
      · split at he <;> cases he; simp
    · split
      · right; simp
      · exact ZgP _ _ tl
theorem Zp7 (s : api_Series) : Zcc s = some (chk s) := by
  simp only [Zcc, Zbs, Option.bind_some, chk]
  cases hd : wi s.Den 1 1000000 with
  | false => simp
  | true =>
    by_cases hl : (s.Samples.length : Int) ≤ 20000
    · rw [Zmp s hl]
      simp only [show ¬ 20000 < (s.Samples.length : Int) by omega, hl, decide_false, if_true, if_false, Bool.not_true, Option.bind_some, Bool.false_eq_true]
      rcases ZgP none 0 s.Samples with h | h
      · simp [h]
      · simp [h]
    · simp [hl, show 20000 < (s.Samples.length : Int) by omega]
theorem Zl8 (x : Smp) : JJ x = some ((ZbM x).getD 0) := by
  simp only [JJ, Zdq, Option.bind_some, Zar, ZbM]
  cases h1 : wi x.At 0 1099511627776 <;> cases h2 : wi x.N (-1125899906842624) 1125899906842624 <;> cases h3 : wi x.Mark 0 4 <;> simp
  by_cases h4 : x.N = 0 <;> by_cases h5 : x.Mark ≤ 1 <;> simp [h4, h5] <;> omega
theorem ZiG {x : Smp} {e : Int} (h : ZbM x = some e) : e = 9 ∨ e = 2 := by
  unfold ZbM at h; split at h
  · cases h; simp
  · split at h <;> cases h; simp
theorem Zmi (s : api_Series) (h : (s.Samples.length : Int) ≤ 20000) :
    loop (t1 (Zbo s)) 0 = some ((fun r : Int × Int => if r.2 = 0 then Sum.inr () else Sum.inl r) (Zgw none 0 s.Samples)) := by
  refine ZfI (xs := s.Samples) (fun k => (fun r : Int × Int => if r.2 = 0 then Sum.inr () else Sum.inl r) (Zgw (Zly s.Samples k) k (s.Samples.drop k))) (fun k x hx => ?_) ?_
  · have hlt := QU hx
    rw [ZN hx, Zgw]
    simp only [Zbo, ZD hx, hlt, decide_true, if_true, Option.bind_some, Zl8]
    cases hs : ZbM x with
    | some e =>
      right
      rcases ZiG hs with rfl | rfl <;> simp
    | none =>
      rcases Nat.eq_zero_or_pos k with rfl | hk
      · left
        simp [Q2, Zly, Zff, hx]
      · obtain ⟨y, hy, hp, hi⟩ := ZlC (xs := s.Samples) hk (by omega)
        rw [hp]
        have hw : IntKind.i64.wrap ((k : Int) - 1) = (k : Int) - 1 := Q2 (by omega) (by omega)
        have hw2 : IntKind.i64.wrap ((k : Int) + 1) = (k : Int) + 1 := Q2 (by omega) (by omega)
        by_cases ho : x.At ≤ y.At
        · right; simp [hw, hi, hk, Zff, ho]
        · left; simp [hw, hw2, hi, hk, Zff, ho, Zke hx]
  · simp [Zbo, List.drop_length, Zgw]
theorem Zp4 (s : api_Series) : ZdL s = some (chk s) := by
  simp only [ZdL, Zdq, Option.bind_some, chk]
  cases hd : wi s.Den 1 1000000 with
  | false => simp
  | true =>
    by_cases hl : (s.Samples.length : Int) ≤ 20000
    · rw [Zmi s hl]
      simp only [show ¬ 20000 < (s.Samples.length : Int) by omega, hl, decide_false, if_true, if_false, Bool.not_true, Option.bind_some, Bool.false_eq_true]
      rcases ZgP none 0 s.Samples with h | h
      · simp [h]
      · simp [h]
    · simp [hl, show 20000 < (s.Samples.length : Int) by omega]
theorem ZmG (s : api_Series) : Zba s = some (chk s).2 := by simp [Zba, Zp7]
theorem Zoa (s : api_Series) : ZdJ s = some (chk s).2 := by simp [ZdJ, Zp4]

structure SerOK (s : api_Series) : Prop where
  den : 1 ≤ s.Den ∧ s.Den ≤ 1000000
  len : (s.Samples.length : Int) ≤ 20000
  at' : ∀ (k : Nat) x, s.Samples[k]? = some x → (0 ≤ x.At ∧ x.At ≤ 1099511627776) ∧ (-1125899906842624 ≤ x.N ∧ x.N ≤ 1125899906842624) ∧ (0 ≤ x.Mark ∧ x.Mark ≤ 4) ∧ (x.N ≠ 0 → 2 ≤ x.Mark)
  rise : ∀ (i j : Nat) x y, i < j → s.Samples[i]? = some x → s.Samples[j]? = some y → x.At < y.At
theorem Zkd : ∀ (p : Option Smp) (k : Nat) (xs : List Smp), (Zgw p k xs).2 = 0 →
    (∀ (j : Nat) x, xs[j]? = some x → ZbM x = none ∧ ∀ q, p = some q → q.At < x.At) ∧ (∀ (i j : Nat) x y, i < j → xs[i]? = some x → xs[j]? = some y → x.At < y.At)
  | _, _, [], _ => ⟨fun j x h => by simp at h, fun i j x y _ h => by simp at h⟩
  | p, k, x :: tl, h => by
    rw [Zgw] at h
    cases hs : ZbM x with
    | some e => rw [hs] at h; rcases ZiG hs with rfl | rfl <;> simp at h
    | none =>
      rw [hs] at h
      simp only at h
      split at h
      · simp at h
      · rename_i ho
        obtain ⟨h1, h2⟩ := Zkd _ _ tl h
        have hpx : ∀ q, p = some q → q.At < x.At := fun q hq => by subst hq; simpa [Zff] using ho
        refine ⟨fun j y hy => ?_, fun i j u v hij hu hv => ?_⟩
        · cases j with
          | zero => simp at hy; subst hy; exact ⟨hs, hpx⟩
          | succ j =>
            have hy' : tl[j]? = some y := by simpa using hy
            obtain ⟨g1, g2⟩ := h1 j y hy'
            exact ⟨g1, fun q hq => Int.lt_trans (hpx q hq) (g2 x rfl)⟩
        · cases j with
          | zero => omega
          | succ j =>
            have hv' : tl[j]? = some v := by simpa using hv
            cases i with
            | zero => simp at hu; subst hu; exact (h1 j v hv').2 x rfl
            | succ i => exact h2 i j u v (by omega) (by simpa using hu) hv'
theorem Ziz {s : api_Series} (h : (chk s).2 = 0) : SerOK s := by
  unfold chk at h
  split at h
  · rename_i hd
    split at h
    · rename_i hl
      obtain ⟨h1, h2⟩ := Zkd none 0 s.Samples h
      refine ⟨ZiR.1 hd, hl, fun k x hx => ?_, h2⟩
      have := (h1 k x hx).1
      unfold ZbM at this
      split at this
      · cases this
      · rename_i hb
        split at this
        · cases this
        · rename_i hh
          simp only [Bool.not_eq_true', Bool.not_eq_false, Bool.and_eq_true, ZiR] at hb
          simp only [Bool.and_eq_true, Bool.not_eq_true', decide_eq_false_iff_not, decide_eq_true_eq] at hh
          exact ⟨hb.1.1, hb.1.2, hb.2, fun h0 => by omega⟩
    · simp at h
  · simp at h
end Go.Vx

namespace Go.Vx
open Go Go.RowKit
def QE (xs : List Smp) (t : Int) : Nat := xs.countP fun x => decide (x.At ≤ t)
theorem ZfS : ∀ (xs : List Smp) (t : Int), (∀ (i j : Nat) x y, i < j → xs[i]? = some x → xs[j]? = some y → x.At < y.At) →
    (∀ (k : Nat) x, k < QE xs t → xs[k]? = some x → x.At ≤ t) ∧ (∀ (k : Nat) x, QE xs t ≤ k → xs[k]? = some x → t < x.At)
  | [], _, _ => ⟨fun k x h => by simp [QE] at h, fun k x _ h => by simp at h⟩
  | x :: tl, t, hr => by
    obtain ⟨h1, h2⟩ := ZfS tl t fun i j u v hij hu hv => hr (i + 1) (j + 1) u v (by omega) (by simpa using hu) (by simpa using hv)
    have hx : ∀ (j : Nat) y, tl[j]? = some y → x.At < y.At := fun j y hy => hr 0 (j + 1) x y (by omega) rfl (by simpa using hy)
    by_cases hc : x.At ≤ t
    · have e : QE (x :: tl) t = QE tl t + 1 := by simp [QE, hc]
      rw [e]
      refine ⟨fun k y hk hy => ?_, fun k y hk hy => ?_⟩
      · cases k with
        | zero => simp at hy; subst hy; exact hc
        | succ k => exact h1 k y (by omega) (by simpa using hy)
      · cases k with
        | zero => omega
        | succ k => exact h2 k y (by omega) (by simpa using hy)
    · have e0 : QE tl t = 0 := by
        unfold QE
        rw [List.countP_eq_zero]
        intro y hy
        obtain ⟨j, hj⟩ := List.mem_iff_getElem?.1 hy
        have := hx j y hj
        simp; omega
      have e : QE (x :: tl) t = 0 := by
        have : QE (x :: tl) t = QE tl t := by simp [QE, hc]
        rw [this, e0]
      rw [e]
      refine ⟨fun k y hk _ => by omega, fun k y _ hy => ?_⟩
      cases k with
      | zero => simp at hy; subst hy; omega
      | succ k => have := hx k y (by simpa using hy); omega
theorem ZkI (xs : List Smp) (t : Int) : QE xs t ≤ xs.length := List.countP_le_length
def Zmt (xs : List Smp) (t : Int) : Option Smp := if QE xs t = 0 then none else xs[QE xs t - 1]?
def ZiP (xs : List Smp) (t long : Int) : Option Smp := (Zmt xs t).bind fun x => if 3 ≤ x.Mark ∧ t - x.At ≤ long then some x else none
def z0 : Smp := api_Sample.mk 0 0 0
def Zmr (o : Option Smp) : Smp × Bool := match o with | some x => (x, true) | none => (z0, false)

theorem ZjB {ρ : Type} {body : Int → Int → Option ((Int × Int) ⊕ ρ)} (n c : Nat) (F : Nat → ρ) (hc : c ≤ n) (hn : n ≤ 4611686018427387904)
    (hstep : ∀ (i j m : Nat), i < j → j ≤ n → m = (i + j) / 2 → (m < c → body i j = some (.inl ((m : Int) + 1, j))) ∧ (c ≤ m → body i j = some (.inl (i, (m : Int)))))
    (hend : ∀ i : Nat, body i i = some (.inr (F i))) : loop (t2 body) (0, (n : Int)) = some (F c) := by
  refine JR (body := t2 body) (fun p => ∃ i j : Nat, p = ((i : Int), (j : Int)) ∧ i ≤ c ∧ c ≤ j ∧ j ≤ n) (fun p => (p.2 - p.1).toNat) (fun _ => F c) ?_ _ ⟨0, n, rfl, Nat.zero_le _, hc, Nat.le_refl _⟩
  rintro _ ⟨i, j, rfl, h1, h2, h3⟩
  simp only [Zaf]
  rcases Nat.lt_or_ge i j with h | h
  · obtain ⟨g1, g2⟩ := hstep i j ((i + j) / 2) h h3 rfl
    rcases Nat.lt_or_ge ((i + j) / 2) c with h4 | h4
    · exact .inl ⟨_, g1 h4, ⟨(i + j) / 2 + 1, j, by push_cast; rfl, h4, h2, h3⟩, by simp only; omega, by trivial⟩
    · exact .inl ⟨_, g2 h4, ⟨i, (i + j) / 2, rfl, h1, h4, by omega⟩, by simp only; omega, by trivial⟩
  · have e1 : i = c := by omega
    have e2 : j = c := by omega
    subst e1; subst e2
    exact .inr (hend _)

end Go.Vx

namespace Go.Vx
open Go Go.RowKit
theorem Zlj {xs : List Smp} {t : Int} {c : Nat} (hr : ∀ (i j : Nat) x y, i < j → xs[i]? = some x → xs[j]? = some y → x.At < y.At) (hc : c ≤ xs.length)
    (h1 : ∀ (k : Nat) x, k < c → xs[k]? = some x → x.At ≤ t) (h2 : ∀ (k : Nat) x, c ≤ k → xs[k]? = some x → t < x.At) : QE xs t = c := by
  obtain ⟨g1, g2⟩ := ZfS xs t hr
  have hl := ZkI xs t
  rcases Nat.lt_trichotomy (QE xs t) c with h | h | h
  · obtain ⟨x, hx⟩ := ZU (xs := xs) (k := QE xs t) (by omega)
    have := h1 _ x h hx; have := g2 _ x (Nat.le_refl _) hx; omega
  · exact h
  · obtain ⟨x, hx⟩ := ZU (xs := xs) (k := c) (by omega)
    have := g1 _ x h hx; have := h2 _ x (Nat.le_refl _) hx; omega
theorem ZrS {i j : Nat} (h : i + j < 4611686018427387904) : shr .u64 (u64 (i64 ((i : Int) + j))) 1 = some (((i + j) / 2 : Nat) : Int) := by
  rw [i64, u64, Q2 (by omega) (by omega), Zq7 (by omega) (by omega), shr, if_neg (by decide)]
  have : min (1 : Int).toNat IntKind.u64.bits = 1 := by decide
  rw [this]
  congr 1
  rw [Int.fdiv_eq_ediv_of_nonneg _ (by decide)]
  omega
theorem Zsw {xs : List Smp} {t : Int} (hlen : (xs.length : Int) ≤ 20000) (hat : ∀ (k : Nat) x, xs[k]? = some x → 0 ≤ x.At ∧ x.At ≤ 1099511627776)
    (hr : ∀ (i j : Nat) x y, i < j → xs[i]? = some x → xs[j]? = some y → x.At < y.At) (ht : 0 ≤ t ∧ t ≤ 1099511627776) :
    ZF xs t (fun z0 z1 => Xz z0 z1) = some ((QE xs (t - 1) : Int), decide (∃ x, xs[QE xs (t - 1)]? = some x ∧ x.At = t)) := by
  obtain ⟨hc1, hc2⟩ := ZfS xs (t - 1) hr
  have hcl := ZkI xs (t - 1)
  have hcmp : ∀ (k : Nat) x, xs[k]? = some x → Xz x t = some (x.At - t) := fun k x hx => by
    have := hat k x hx
    simp only [Xz, i64]
    rw [Q2 (by omega) (by omega)]
  have hl : loop (t2 (ZC xs t (fun z0 z1 => Xz z0 z1))) (0, (xs.length : Int)) = some ((QE xs (t - 1) : Nat) : Int) := by
    refine ZjB xs.length (QE xs (t - 1)) (fun k => (k : Int)) hcl (by omega) (fun i j m hij hj hm => ?_) (fun i => ?_)
    · obtain ⟨x, hx⟩ := ZU (xs := xs) (k := m) (by omega)
      have h2 : (i : Int) < j := by omega
      have hm' : shr .u64 (u64 (i64 ((i : Int) + j))) 1 = some (m : Int) := by rw [ZrS (by omega), hm]
      have hmi : i64 (m : Int) = m := Q2 (by omega) (by omega)
      simp only [ZC, h2, decide_true, if_true, hm', Option.bind_some, hmi, ZD hx, hcmp m x hx]
      refine ⟨fun h => ?_, fun h => ?_⟩
      · have := hc1 m x h hx
        simp [show x.At - t < 0 by omega, Q2 (show -9223372036854775808 ≤ (m : Int) + 1 by omega) (by omega)]
      · have := hc2 m x h hx
        simp [show ¬ x.At - t < 0 by omega]
    · simp [ZC]
  simp only [ZF, hl, Option.bind_some, t1]
  rcases Nat.lt_or_ge (QE xs (t - 1)) xs.length with h | h
  · obtain ⟨x, hx⟩ := ZU h
    have h' : ((QE xs (t - 1) : Nat) : Int) < xs.length := by omega
    simp only [h', decide_true, ZD hx, Zgk, Option.bind_some, hcmp _ x hx, hx, Bool.true_and, Option.some.injEq, exists_eq_left', Prod.mk.injEq, true_and]
    simp only [decide_eq_decide]; omega
  · have h' : ¬ ((QE xs (t - 1) : Nat) : Int) < xs.length := by omega
    simp [gd, h, List.getElem?_eq_none h, show ¬ QE xs (t - 1) < xs.length by omega]
theorem Zo0 {s : api_Series} (hs : SerOK s) {t : Int} (ht : 0 ≤ t ∧ t ≤ 1099511627776) : Zbx s t = some ((QE s.Samples t : Int) - 1) := by
  have hlen := hs.len
  obtain ⟨hc1, hc2⟩ := ZfS s.Samples (t - 1) hs.rise
  have hcl := ZkI s.Samples (t - 1)
  simp only [Zbx, Zsw hlen (fun k x hx => (hs.at' k x hx).1) hs.rise ht, Option.bind_some]
  by_cases hf : ∃ x, s.Samples[QE s.Samples (t - 1)]? = some x ∧ x.At = t
  · obtain ⟨x, hx, hxt⟩ := hf
    have hlt := (List.getElem?_eq_some_iff.1 hx).1
    have : QE s.Samples t = QE s.Samples (t - 1) + 1 := Zlj hs.rise (by omega) (fun k y hk hy => by
        rcases Nat.lt_or_ge k (QE s.Samples (t - 1)) with h | h
        · have := hc1 k y h hy; omega
        · have : k = QE s.Samples (t - 1) := by omega
          subst this; rw [hx] at hy; cases hy; omega) (fun k y hk hy => by
        have := hs.rise _ _ _ _ (show QE s.Samples (t - 1) < k by omega) hx hy; omega)
    have hd : (∃ x, s.Samples[QE s.Samples (t - 1)]? = some x ∧ x.At = t) := ⟨x, hx, hxt⟩
    simp only [hd, decide_true, if_true, this]
    congr 1; omega
  · have : QE s.Samples t = QE s.Samples (t - 1) := Zlj hs.rise hcl (fun k y hk hy => by have := hc1 k y hk hy; omega) (fun k y hk hy => by
        have h1 := hc2 k y hk hy
        rcases Nat.lt_or_ge (QE s.Samples (t - 1)) k with h | h
        · obtain ⟨x, hx⟩ := ZU (xs := s.Samples) (k := QE s.Samples (t - 1)) (by have := (List.getElem?_eq_some_iff.1 hy).1; omega)
          have := hs.rise _ _ _ _ h hx hy
          have := hc2 _ x (Nat.le_refl _) hx; omega
        · have : k = QE s.Samples (t - 1) := by omega
          subst this
          have : ¬ y.At = t := fun e => hf ⟨y, hy, e⟩
          omega)
    simp only [hf, decide_false, this, i64, Bool.false_eq_true, if_false]
    rw [Q2 (by omega) (by omega)]
theorem ZqQ {s : api_Series} (hs : SerOK s) (t long : Int) (ht : 0 ≤ t ∧ t ≤ 1099511627776) : ZcV s t long = some (Zmr (ZiP s.Samples t long)) := by
  have hlen := hs.len
  have hcl := ZkI s.Samples t
  simp only [ZcV, Zo0 hs ht, Option.bind_some]
  by_cases h0 : QE s.Samples t = 0
  · simp [h0, ZiP, Zmt, Zmr, z0, gd]
  · obtain ⟨x, hx⟩ := ZU (xs := s.Samples) (k := QE s.Samples t - 1) (by omega)
    have hi : idx s.Samples ((QE s.Samples t : Int) - 1) = some x := by
      rw [show ((QE s.Samples t : Int) - 1) = ((QE s.Samples t - 1 : Nat) : Int) by omega, ZD hx]
    obtain ⟨hx1, _, _, _⟩ := hs.at' _ _ hx
    have hw : IntKind.i64.wrap (t - x.At) = t - x.At := Q2 (by omega) (by omega)
    have hn : ¬ ((QE s.Samples t : Int) - 1 < 0) := by omega
    simp only [h0, hi, hn, Zdo, ZiP, Zmt, hx, hw, Option.bind_some, i64, decide_false, if_false, Bool.false_eq_true]
    by_cases h3 : 3 ≤ x.Mark
    · by_cases h4 : long < t - x.At
      · simp [h3, h4, Zmr, z0, show ¬ t - x.At ≤ long by omega, hw]
      · simp [h3, h4, Zmr, show t - x.At ≤ long by omega, hw]
    · simp [h3, Zmr, z0]
def Zkw (s : api_Series) (t long : Int) : Smp × Bool × Int :=
  if (chk s).2 ≠ 0 then (z0, false, (chk s).2) else if wi t 0 1099511627776 && wi long 0 1099511627776 then ((Zmr (ZiP s.Samples t long)).1, (Zmr (ZiP s.Samples t long)).2, 0) else (z0, false, 9)
end Go.Vx

namespace Go.Vx
open Go Go.RowKit
theorem ZrC (s : api_Series) (t long : Int) : Zc5 s t long = some (Zkw s t long) := by
  simp only [Zc5, ZmG, Zbs, Option.bind_some, Zkw]
  by_cases h0 : (chk s).2 = 0
  · cases h1 : wi t 0 1099511627776 with
    | false => simp [h0, z0]
    | true => cases h2 : wi long 0 1099511627776 with
      | false => simp [h0, z0]
      | true => simp [h0, ZqQ (Ziz h0) t long (ZiR.1 h1)]
  · simp [h0, z0]
theorem ZmV : ZdK = some true := by
  have hc : chk (api_Series.mk 1 [api_Sample.mk 5 7 4]) = (-1, 0) := by decide
  simp only [ZdK, ZrC, Option.bind_some, Zkw, hc]
  decide
end Go.Vx

namespace Go.Vx
open Go Go.RowKit Go.Lib
theorem Zl2 {α : Type} {xs : List α} {a b : Int} (h0 : 0 ≤ a) (h1 : a ≤ b) (h2 : b ≤ xs.length) : slc xs a b = some ((xs.take b.toNat).drop a.toNat) := by
  simp only [slc]; rw [if_pos ⟨h0, h1, h2⟩]
theorem Zqb (i : Int) (h0 : 0 ≤ i) (h1 : i < 100) : ∃ s, ZaJ i = some s ∧ s.length ≤ 2 := by
  obtain ⟨n, rfl⟩ := Int.eq_ofNat_of_zero_le h0
  unfold ZaJ
  by_cases h : (n : Int) < 10
  · have e1 : IntKind.i64.wrap ((n : Int) + 1) = (n : Int) + 1 := Q2 (by omega) (by omega)
    refine ⟨_, by simp only [h, decide_true, if_true, e1]; rw [Zl2 (by omega) (by omega) (by show _ ≤ ((36 : Nat) : Int); omega)]; rfl, ?_⟩
    simp only [List.length_drop, List.length_take]; omega
  · have e1 : IntKind.i64.wrap ((n : Int) * 2) = (n : Int) * 2 := Q2 (by omega) (by omega)
    have e2 : IntKind.i64.wrap ((n : Int) * 2 + 2) = (n : Int) * 2 + 2 := Q2 (by omega) (by omega)
    refine ⟨_, by simp only [h, decide_false, if_false, Bool.false_eq_true, e1, e2]; rw [Zl2 (by omega) (by omega) (by show _ ≤ ((200 : Nat) : Int); omega)]; rfl, ?_⟩
    simp only [List.length_drop, List.length_take]; omega
theorem Zkk (z : Int) : 0 ≤ IntKind.u64.wrap z ∧ IntKind.u64.wrap z < 18446744073709551616 := by
  simp only [IntKind.wrap]
  constructor <;> simp [IntKind.signed, IntKind.bits] <;> omega
theorem Zod (dst : List Int) (u : Int) (h0 : 0 ≤ u) (h1 : u < 18446744073709551616) (hl : dst.length ≤ 4000000000) : ∃ l, XD dst u 10 = some l ∧ l.length ≤ dst.length + 20 := by
  unfold XD
  simp only [decide_true, if_true]
  by_cases h : u < 100
  · have e : IntKind.i64.wrap u = u := Q2 (by omega) (by omega)
    obtain ⟨s, hs, hsl⟩ := Zqb u h0 h
    refine ⟨dst ++ bytes s, ?_, by simp [bytes]; omega⟩
    simp only [h, decide_true, if_true, e, hs, Option.bind_some]
    rw [XJ (by simp [bytes]; omega)]
    rfl
  · have hn : nDigits u.toNat ≤ 20 := by
      have := (numDigits_eq u.toNat (by omega) (by omega))
      have h2 := this.2; have h3 := this.1
      split at h3 <;> omega
    have hp := nDigits_pos u.toNat
    have hlt := lt_pow_nDigits u.toNat
    have hsl : ∀ {β : Type} (v : Vector β 24), slc v.toList 0 (nDigits u.toNat : Int) = some ((v.toList.take (nDigits u.toNat)).drop 0) := fun v => Zl2 (Int.le_refl _) (by omega) (by simp; omega)
    have hf : ∃ v, Zj2 (Vector.replicate 24 0) (nDigits u.toNat) u = some v := by
      refine ⟨_, by unfold Zj2; rw [if_pos ⟨by omega, by omega, h0, hlt, by omega, fun x hx => by simp at hx; subst hx; omega⟩]⟩
    obtain ⟨v, hv⟩ := hf
    refine ⟨dst ++ (v.toList.take (nDigits u.toNat)).drop 0, ?_, by simp; omega⟩
    simp only [h, decide_false, if_false, Bool.false_eq_true, Zen]
    rw [if_pos (by omega)]
    simp only [Option.bind_some, hsl, Int.sub_zero, Int.toNat_natCast, hv]
    rw [XJ (by simp; omega)]
    rfl
theorem ZrG (dst : List Int) (n : Int) (hl : dst.length ≤ 3999999999) : ∃ l, Jn dst n 10 = some l ∧ l.length ≤ dst.length + 21 := by
  unfold Jn JU
  by_cases h : n < 0
  · obtain ⟨l, h1, h2⟩ := Zod (dst ++ [45]) (IntKind.u64.wrap (-(IntKind.u64.wrap n))) (Zkk _).1 (Zkk _).2 (by simp; omega)
    refine ⟨l, ?_, by simp at h2; omega⟩
    simp only [h, decide_true, if_true]
    rw [XJ (by simp; omega)]
    simp [h1]
  · obtain ⟨l, h1, h2⟩ := Zod dst (IntKind.u64.wrap n) (Zkk _).1 (Zkk _).2 (by omega)
    refine ⟨l, ?_, by omega⟩
    simp [h, h1]
theorem ZlE (k : ref0_Ink) (n : Int) (hl : k.out.length ≤ 3999999999) : ∃ r, XK k n = some r ∧ r.out.length ≤ k.out.length + 22 := by
  obtain ⟨l, h1, h2⟩ := ZrG k.out n hl
  refine ⟨⟨l ++ [32]⟩, ?_, by simp; omega⟩
  unfold XK
  simp only [h1, Option.bind_some]
  rw [XJ (by simp; omega)]
  rfl
theorem Zrp (k : ref0_Ink) (l : List Int) (hl : k.out.length + 22 * (l.length + 1) ≤ 3999999999) (h63 : l.length < 4611686018427387904) : ∃ r, Zbn k l = some r ∧ r.out.length ≤ k.out.length + 22 * (l.length + 1) := by
  obtain ⟨k1, h1, h2⟩ := ZlE k l.length (by omega)
  unfold Zbn
  simp only [h1, Option.bind_some]
  obtain ⟨r, h3, h4⟩ := ZdD (body := t2 (Za0 l)) (fun p => ∃ j : Nat, p.2 = j ∧ j ≤ l.length ∧ p.1.length ≤ k1.out.length + 22 * j) (fun p => l.length - p.2.toNat) (fun r => r.out.length ≤ k1.out.length + 22 * l.length) (by
    rintro ⟨out, i⟩ ⟨j, hi, hj, ho⟩
    simp only at hi ho
    subst hi
    simp only [Zaf, Za0]
    rcases Nat.lt_or_ge j l.length with h | h
    · obtain ⟨x, hx⟩ := ZU h
      obtain ⟨k2, e1, e2⟩ := ZlE ⟨out⟩ x (by simp only; omega)
      left
      have e : IntKind.i64.wrap ((j : Int) + 1) = (j : Int) + 1 := Q2 (by omega) (by omega)
      refine ⟨(k2.out, (j : Int) + 1), by simp [QU hx, ZD hx, e1, e], ⟨j + 1, by push_cast; rfl, h, by simp only at e2 ⊢; omega⟩, by simp only; omega⟩
    · have : j = l.length := by omega
      subst this
      exact .inr ⟨⟨out⟩, by simp, by simpa using ho⟩) (k1.out, 0) ⟨0, rfl, Nat.zero_le _, by simp⟩
  exact ⟨r, h3, by omega⟩
theorem Zo3 (k : ref0_Ink) (x : api_Sample) (hl : k.out.length ≤ 3999999000) : ∃ r, Zab k x = some r ∧ r.out.length ≤ k.out.length + 88 := by
  obtain ⟨r, h1, h2⟩ := Zrp k [x.At, x.N, x.Mark] (by simp; omega) (by simp)
  exact ⟨r, by unfold Zab; simp [h1], by simpa using h2⟩
theorem Zn8 (k : ref0_Ink) (s : api_Series) (hk : k.out.length ≤ 1000) (hl : s.Samples.length ≤ 1048576) : ∃ r, J8 k s = some r ∧ r.out.length ≤ 200000000 := by
  obtain ⟨k1, h1, h2⟩ := ZlE k s.Den (by omega)
  obtain ⟨k2, h3, h4⟩ := ZlE k1 s.Samples.length (by omega)
  unfold J8
  simp only [h1, h3, Option.bind_some]
  obtain ⟨r, h5, h6⟩ := ZdD (body := t2 (J7 s)) (fun p => ∃ j : Nat, p.2 = j ∧ j ≤ s.Samples.length ∧ p.1.length ≤ k2.out.length + 88 * j) (fun p => s.Samples.length - p.2.toNat) (fun r => r.out.length ≤ k2.out.length + 88 * s.Samples.length) (by
    rintro ⟨out, i⟩ ⟨j, hi, hj, ho⟩
    simp only at hi ho
    subst hi
    simp only [Zaf, J7]
    rcases Nat.lt_or_ge j s.Samples.length with h | h
    · obtain ⟨x, hx⟩ := ZU h
      obtain ⟨k3, e1, e2⟩ := Zo3 ⟨out⟩ x (by simp only; omega)
      left
      have e : IntKind.i64.wrap ((j : Int) + 1) = (j : Int) + 1 := Q2 (by omega) (by omega)
      refine ⟨(k3.out, (j : Int) + 1), by simp [QU hx, ZD hx, e1, e], ⟨j + 1, by push_cast; rfl, h, by simp only at e2 ⊢; omega⟩, by simp only; omega⟩
    · have : j = s.Samples.length := by omega
      subst this
      exact .inr ⟨⟨out⟩, by simp, by simpa using ho⟩) (k2.out, 0) ⟨0, rfl, Nat.zero_le _, by simp⟩
  exact ⟨r, h5, by omega⟩
theorem Zpm (s : api_Series) (e : Int) (hl : s.Samples.length ≤ 1048576) : ∃ t, ZbV s e = some t := by
  obtain ⟨k1, h1, h2⟩ := Zn8 ⟨[]⟩ s (by simp) hl
  obtain ⟨k2, h3, h4⟩ := ZlE k1 e (by omega)
  exact ⟨Zdm k2.out, by unfold ZbV Zcg ZcG; simp [h1, h3]⟩
end Go.Vx

namespace Go.Vx
open Go Go.RowKit
theorem Zsu {a b : Int} (h0 : 0 ≤ a) (hb : 1 ≤ b) : rem a b = some (a % b) := by
  unfold rem
  rw [if_neg (by omega), Int.tmod_eq_emod_of_nonneg h0]
theorem Zr3 {a b : Int} (h0 : 0 ≤ a) (ha : a ≤ 9223372036854775807) (hb : 1 ≤ b) : quo .i64 a b = some (a / b) := by
  unfold quo
  rw [if_neg (by omega), Int.tdiv_eq_ediv_of_nonneg h0]
  have h1 : 0 ≤ a / b := Int.ediv_nonneg h0 (by omega)
  have h2 : a / b ≤ a := Int.ediv_le_self _ h0
  congr 1
  exact ZZ (by omega) (by omega)
structure TmOK (p : api_Param) (first : Int) (cells : List api_Cell) : Prop where
  len : cells.length ≤ 1000
  fr : ∀ c ∈ cells, 0 ≤ c.Frame ∧ c.Frame ≤ 15
  inv : CellInv p first [] cells
  tim : 1 ≤ p.Times ∧ p.Times ≤ 57
  fst : 0 ≤ first ∧ first ≤ 4294967296
theorem Zjz {p : api_Param} {first : Int} {cells : List api_Cell} (h : TmOK p first cells) : XZ p cells first = some (cells.map (tmN p first)) := by
  have hl := h.len
  have hT := h.tim
  have hf := h.fst
  have := Zdw (xs := cells) (body := Q5 p cells first) (I := fun acc k => acc.length = k) (F := fun acc k => acc ++ (cells.drop k).map (tmN p first))
    (fun acc k c hI hx => by
      have hlt := QU hx
      have hc := List.mem_of_getElem? hx
      have hfr := h.fr c hc
      have hp := h.inv.pos c hc
      have hb := Zkp (x := c.Index % p.Times) (T := p.Times) hT.1 (Int.emod_nonneg _ (by omega)) (Int.emod_lt_of_pos _ (by omega))
      have hm0 : 0 ≤ c.Index % p.Times := Int.emod_nonneg _ (by omega)
      have hm1 : c.Index % p.Times < p.Times := Int.emod_lt_of_pos _ (by omega)
      left
      refine ⟨acc ++ [tmN p first c], ?_, by simp [hI], by rw [ZN hx]; simp⟩
      simp only [Q5, hlt, decide_true, if_true, ZD hx, Option.bind_some]
      rw [Zsu hp hT.1, Option.bind_some, ZZ (by omega) (by omega), Zr3 (by omega) (by omega) hT.1, Option.bind_some, ZZ (z := first + c.Frame) (by omega) (by omega), ZZ (z := 64 * (first + c.Frame)) (by omega) (by omega), ZZ (by omega) (by omega), XJ (by simp; omega), Option.bind_some, ZZ (by omega) (by omega)]
      rfl)
    (fun acc hI => by simp [Q5]) (a0 := []) rfl
  unfold XZ
  rw [this]
  simp
theorem Zrw (a b : Int) : kqI a b = true ↔ a = b := by simp [kqI]
theorem ZnS {p : api_Param} {first : Int} {cells : List api_Cell} (h : TmOK p first cells) : Zb0 p cells first = some (cells.map (tmN p first)) := by
  have hl := h.len
  have hT := h.tim
  have hf := h.fst
  have := JR (body := t3 (Xx p cells first)) (fun s => ∃ k : Nat, s.2.2 = k ∧ k ≤ cells.length ∧ s.1 = (cells.take k).map (tmN p first) ∧ ∀ f, (JX kqI s.2.1 f).getD 0 = (((cells.take k).countP fun d => decide (d.Frame = f) : Nat) : Int)) (fun s => cells.length - s.2.2.toNat) (fun _ => cells.map (tmN p first)) (by
    rintro ⟨acc, had, i⟩ ⟨k, hi, hk, ha, hh⟩
    simp only at hi ha hh
    subst hi
    rcases Nat.lt_or_ge k cells.length with hlt | hge
    · obtain ⟨c, hx⟩ := ZU hlt
      have hlt' := QU hx
      have hc := List.mem_of_getElem? hx
      have hfr := h.fr c hc
      have hidx := h.inv.idx k c hx
      have hm0 : 0 ≤ c.Index % p.Times := Int.emod_nonneg _ (by omega)
      have hm1 : c.Index % p.Times < p.Times := Int.emod_lt_of_pos _ (by omega)
      have hb := Zkp (x := c.Index % p.Times) (T := p.Times) hT.1 hm0 hm1
      have hal : acc.length = k := by rw [ha]; simp; omega
      have htk : cells.take (k + 1) = cells.take k ++ [c] := by rw [List.take_add_one, hx]; rfl
      left
      refine ⟨(acc ++ [tmN p first c], Zei kqI had c.Frame (c.Index % p.Times + 1), (k : Int) + 1), ?_, ⟨k + 1, by push_cast; rfl, hlt, ?_, ?_⟩, by simp only [Int.toNat_natCast]; omega, rfl⟩
      · show Xx p cells first acc had (k : Int) = _
        simp only [Xx, hlt', decide_true, if_true, ZD hx, Option.bind_some]
        rw [hh c.Frame, ← hidx, ZZ (z := 64 * (c.Index % p.Times)) (by omega) (by omega), Zr3 (by omega) (by omega) hT.1, Option.bind_some, ZZ (z := first + c.Frame) (by omega) (by omega), ZZ (z := 64 * (first + c.Frame)) (by omega) (by omega), ZZ (by omega) (by omega), XJ (by simp; omega), Option.bind_some, ZZ (by omega) (by omega), ZZ (by omega) (by omega)]
        rfl
      · simp only; rw [ha, htk]; simp
      · intro f
        simp only
        rw [Zpb Zrw, htk, List.countP_append]
        by_cases hff : f = c.Frame
        · subst hff
          rw [if_pos rfl, Option.getD_some, hidx]
          simp
        · rw [if_neg hff, hh f]
          have : ¬ c.Frame = f := fun e => hff e.symm
          simp [this]
    · right
      have : k = cells.length := by omega
      subst this
      show Xx p cells first acc had (cells.length : Int) = _
      rw [ha]
      simp [Xx]) ([], [], 0) ⟨0, rfl, Nat.zero_le _, by simp, fun f => by simp [JX]⟩
  unfold Zb0
  rw [this]
  rfl
theorem Zn5 {p : api_Param} (h : ZeD p = 0) : Zd9 ⟨0, [p]⟩ = 0 := by
  have hp := ZgC h
  have h9 := ZaV (number := 0) hp.toPartsOK
  have e : allC 0 [p] = cellsN 0 p := by simp [allC]
  unfold Zd9
  simp only
  rw [if_pos (by decide), if_pos (by simp), e]
  have hf : Z5 (g1M [p]) 0 [p] = none := by simp [Z5, g1M, h]
  rw [hf]
  simp only [ZeE]
  rw [if_pos (by omega), if_pos hp.uniq]
theorem Zf1 {p : api_Param} (h : ParOK p) (number : Int) : ∀ c ∈ cellsN number p, (0 ≤ c.Frame ∧ c.Frame ≤ 15) ∧ c.Param = number := by
  intro c hc
  obtain ⟨hE, hF, _⟩ := XX h.tim
  obtain ⟨i, f, j, hf, hj, rfl⟩ := Zgo hc
  have := Zg1 (p := p) (by omega) 17 p.First f hF.1 hf
  exact ⟨⟨this.1, by have := this.2.1; simp only [Zci]; omega⟩, rfl⟩
theorem ZrO {p : api_Param} (h : ParOK p) (number : Int) {first : Int} (hf : 0 ≤ first ∧ first ≤ 4294967296) : TmOK p first (cellsN number p) where
  len := by have := ZaV (number := number) h.toPartsOK; omega
  fr := fun c hc => (Zf1 h number c hc).1
  inv := Zni h number first
  tim := (XX h.tim).2.2.1
  fst := hf
theorem Zpl (m : api_Map) (hs : ZbH m) : ZdB m = some (if Zd9 m = 0 then (allC 0 m.Params, 0) else ([], Zd9 m)) := by
  obtain ⟨a, hc⟩ := ZlU m hs
  unfold ZdB
  rw [hc, Option.bind_some]
  by_cases h : Zd9 m = 0
  · rw [if_neg (by simp [h]), if_pos h, Znd (Zkq h)]; rfl
  · rw [if_pos (ZmD h), if_neg h]
theorem Znp {m : api_Map} (hs : ZbH m) (h : Zd9 m = 0) (n : Int) : Za4 m n = some ((allC 0 m.Params).filter fun c => decide (c.Param = n)) := by
  have hm := Zkq h
  have hcnt := hm.cnt
  unfold Za4
  rw [Zpl m hs, if_pos h, Option.bind_some]
  have := Zdw (xs := allC 0 m.Params) (body := X9 n (allC 0 m.Params, 0)) (I := fun acc k => acc.length ≤ k) (F := fun acc k => acc ++ ((allC 0 m.Params).drop k).filter fun c => decide (c.Param = n))
    (fun acc k c hI hx => by
      have hlt := QU hx
      left
      rw [ZN hx]
      by_cases hc : c.Param = n
      · refine ⟨acc ++ [c], ?_, by simp; omega, by simp [hc]⟩
        simp only [X9, hlt, decide_true, if_true, ZD hx, Option.bind_some, hc]
        rw [XJ (by simp; omega), Option.bind_some, ZZ (by omega) (by omega)]
      · refine ⟨acc, ?_, by omega, by simp [hc]⟩
        simp only [X9, hlt, decide_true, if_true, ZD hx, Option.bind_some, hc, decide_false, Bool.false_eq_true, if_false]
        rw [ZZ (by omega) (by omega)])
    (fun acc hI => by simp [X9]) (a0 := []) (by simp)
  rw [this]
  simp
end Go.Vx

namespace Go.Vx
open Go Go.RowKit
theorem ZmU {a : Nat} (h : a < 9223372036854775808) : (BitVec.ofInt 64 (a : Int)).toNat = a := by
  rw [BitVec.ofInt_natCast, BitVec.toNat_ofNat]; exact Nat.mod_eq_of_lt (by omega)
theorem Zq4 {a b : Nat} (ha : a < 9223372036854775808) (hb : b < 9223372036854775808) : Ju .i64 (a : Int) (b : Int) = ((a &&& b : Nat) : Int) := by
  unfold Ju
  have e0 : IntKind.i64.bits = 64 := rfl
  rw [e0, BitVec.toNat_and, ZmU ha, ZmU hb]
  have := Nat.and_le_left (n := a) (m := b)
  exact ZZ (by omega) (by omega)
theorem Zo1 {a b : Nat} (ha : a < 9223372036854775808) (hb : b < 9223372036854775808) : ZiF .i64 (a : Int) (b : Int) = ((a ^^^ b : Nat) : Int) := by
  unfold ZiF
  have e0 : IntKind.i64.bits = 64 := rfl
  rw [e0, BitVec.toNat_xor, ZmU ha, ZmU hb]
  have : a ^^^ b < 2 ^ 63 := Nat.xor_lt_two_pow (by omega) (by omega)
  exact ZZ (by omega) (by omega)
def restB : BitVec 22 := 2097167#22
def zS (v : BitVec 22) : BitVec 22 := (v <<< 1) ^^^ (if v.msb then restB else 0#22)
theorem Zrm (a b : BitVec 22) : zS (a ^^^ b) = zS a ^^^ zS b := by
  have e1 : ∀ x y r : BitVec 22, (x ^^^ r) ^^^ (y ^^^ r) = x ^^^ y := fun x y r => by
    rw [BitVec.xor_assoc, BitVec.xor_comm y r, ← BitVec.xor_assoc r r y, BitVec.xor_self, BitVec.zero_xor]
  have e2 : ∀ x y r : BitVec 22, (x ^^^ r) ^^^ y = (x ^^^ y) ^^^ r := fun x y r => by
    rw [BitVec.xor_assoc, BitVec.xor_comm r y, ← BitVec.xor_assoc]
  unfold zS
  rw [BitVec.shiftLeft_xor_distrib, BitVec.msb_xor]
  cases a.msb <;> cases b.msb
  · simp
  · simp [BitVec.xor_assoc]
  · simp [e2]
  · simp [e1]
def pS (b : Nat → Bool) : Nat → BitVec 22
  | 0 => 0#22
  | k + 1 => zS (pS b k) ^^^ (if b k then restB else 0#22)
def rS (b : Nat → Bool) : Nat → BitVec 22
  | 0 => 0#22
  | k + 1 => zS (rS b k) ^^^ (if b k then 1#22 else 0#22)
def zI : Nat → BitVec 22 → BitVec 22
  | 0, v => v
  | k + 1, v => zS (zI k v)
theorem Zrc (k : Nat) (a b : BitVec 22) : zI k (a ^^^ b) = zI k a ^^^ zI k b := by
  induction k with
  | zero => rfl
  | succ k ih => simp only [zI, ih, Zrm]
theorem ZrL (k : Nat) (v : BitVec 22) : zI k (zS v) = zS (zI k v) := by
  induction k with
  | zero => rfl
  | succ k ih => simp only [zI, ih]
theorem zI_one : zI 22 1#22 = restB := by decide
theorem zI_zero : zI 22 0#22 = 0#22 := by decide
theorem Zqk (b : Nat → Bool) : ∀ k, pS b k = zI 22 (rS b k)
  | 0 => zI_zero.symm
  | k + 1 => by
    rw [pS, rS, Zrc, ZrL, Zqk b k]
    congr 1
    cases b k
    · exact zI_zero.symm
    · exact zI_one.symm
theorem ZmC {b : Nat → Bool} {n : Nat} (h : ∀ k, n ≤ k → b k = false) : ∀ j, rS b (n + j) = zI j (rS b n)
  | 0 => rfl
  | j + 1 => by
    rw [← Nat.add_assoc, rS, ZmC h j, h _ (by omega)]
    simp [zI]
theorem Zrl {b : Nat → Bool} {n : Nat} (h : ∀ k, n ≤ k → b k = false) : rS b (n + 22) = pS b n := by rw [ZmC h, Zqk]
theorem ZrU (v : BitVec 22) : decide (Ju .i64 (v.toNat : Int) 2097152 = 0) = !v.msb := by
  have := v.isLt
  rw [show (2097152 : Int) = ((2097152 : Nat) : Int) from rfl, Zq4 (by omega) (by omega)]
  rw [show (2097152 : Nat) = 2 ^ 21 from rfl]
  have e : v.msb = v.toNat.testBit 21 := by rw [BitVec.msb_eq_getLsbD_last]; rfl
  rw [e]
  have e2 : (v.toNat &&& 2 ^ 21).testBit 21 = v.toNat.testBit 21 := by rw [Nat.testBit_and, Nat.testBit_two_pow_self, Bool.and_true]
  cases hb : v.toNat.testBit 21
  · have : v.toNat &&& 2 ^ 21 = 0 := by
      refine Nat.eq_of_testBit_eq fun i => ?_
      rw [Nat.testBit_and, Nat.testBit_two_pow]
      by_cases h : 21 = i
      · subst h; rw [hb]; simp
      · simp [h]
    rw [this]; rfl
  · have : v.toNat &&& 2 ^ 21 ≠ 0 := fun h => by rw [h, Nat.zero_testBit, hb] at e2; cases e2
    have : ((v.toNat &&& 2 ^ 21 : Nat) : Int) ≠ 0 := by omega
    simp only [this, decide_false, Bool.not_true]
theorem Zsk (v : BitVec 22) : shl .i64 (v.toNat : Int) 1 = some ((v.toNat : Int) * 2) := by
  have := v.isLt
  unfold shl
  rw [if_neg (by decide)]
  congr 1
  have e : (2 : Int) ^ min (Int.toNat 1) IntKind.i64.bits = 2 := rfl
  rw [e]
  exact ZZ (by omega) (by omega)
theorem ZrH (v : BitVec 22) : Ju .i64 ((v.toNat : Int) * 2) 4194303 = ((v <<< 1).toNat : Int) := by
  have e : (4194303 : Int) = (2 : Int) ^ 22 - 1 := by decide
  rw [e, ZcX (n := 22) (by decide), BitVec.toNat_shiftLeft, Nat.shiftLeft_eq]
  rw [Int.natCast_emod, Int.natCast_mul]
  rfl
theorem Zsv (v : BitVec 22) : ZiF .i64 (v.toNat : Int) 2097167 = ((v ^^^ restB).toNat : Int) := by
  have := v.isLt
  rw [show (2097167 : Int) = ((2097167 : Nat) : Int) from rfl, Zo1 (by omega) (by omega), BitVec.toNat_xor]
  rfl
theorem Zqa (v : BitVec 22) (b : Bool) : zS v ^^^ (if b then restB else 0#22) = if (!(v.msb == b)) = true then (v <<< 1) ^^^ restB else v <<< 1 := by
  unfold zS
  cases v.msb <;> cases b
  · simp
  · simp
  · simp
  · simp [BitVec.xor_assoc]
theorem ZoJ (m : Nat) : (2 * m) ^^^ 1 = 2 * m + 1 := by
  have h1 : ((2 * m) ^^^ 1) % 2 ^ 1 = (2 * m) % 2 ^ 1 ^^^ 1 % 2 ^ 1 := Nat.xor_mod_two_pow
  have h2 : ((2 * m) ^^^ 1) / 2 ^ 1 = (2 * m) / 2 ^ 1 ^^^ 1 / 2 ^ 1 := Nat.xor_div_two_pow
  rw [show (2 * m) % 2 ^ 1 = 0 by omega, show 1 % 2 ^ 1 = 1 from rfl, Nat.zero_xor] at h1
  rw [show (2 * m) / 2 ^ 1 = m by omega, show 1 / 2 ^ 1 = 0 from rfl, Nat.xor_zero] at h2
  omega
theorem Zqg (v : BitVec 22) (b : Bool) : let R : Nat := 2 * v.toNat + b.toNat
    (if 4194304 ≤ R then R ^^^ 6291471 else R) = (zS v ^^^ (if b then 1#22 else 0#22)).toNat := by
  intro R
  have hv := v.isLt
  have hb : b.toNat ≤ 1 := by cases b <;> decide
  have hm : v.msb = decide (2097152 ≤ v.toNat) := by
    rw [BitVec.msb_eq_decide]
  have es : (v <<< 1).toNat = (2 * v.toNat) % 4194304 := by rw [BitVec.toNat_shiftLeft, Nat.shiftLeft_eq]; congr 1; omega
  obtain ⟨s, hs⟩ : ∃ s, (v <<< 1).toNat = 2 * s := ⟨(v <<< 1).toNat / 2, by omega⟩
  have e1 : ∀ u : BitVec 22, ((v <<< 1) ^^^ u ^^^ (if b then 1#22 else 0#22)).toNat = ((v <<< 1).toNat + b.toNat) ^^^ u.toNat := fun u => by
    rw [BitVec.toNat_xor, BitVec.toNat_xor, hs]
    cases b
    · simp
    · simp only [if_true, Bool.toNat_true]
      rw [← ZoJ, Nat.xor_assoc, Nat.xor_comm u.toNat, ← Nat.xor_assoc]; rfl
  unfold zS
  by_cases h : 2097152 ≤ v.toNat
  · rw [if_pos (by omega), hm, decide_eq_true h, if_pos rfl, e1]
    have h1 : (R ^^^ 6291471) % 2 ^ 22 = R % 2 ^ 22 ^^^ 6291471 % 2 ^ 22 := Nat.xor_mod_two_pow
    have h2 : (R ^^^ 6291471) / 2 ^ 22 = R / 2 ^ 22 ^^^ 6291471 / 2 ^ 22 := Nat.xor_div_two_pow
    have h3 : R / 2 ^ 22 = 1 := by omega
    have h4 : R % 2 ^ 22 = (v <<< 1).toNat + b.toNat := by omega
    rw [h3, show 6291471 / 2 ^ 22 = 1 from rfl, Nat.xor_self] at h2
    rw [h4, show 6291471 % 2 ^ 22 = restB.toNat from rfl] at h1
    omega
  · rw [if_neg (by omega), hm, decide_eq_false h, if_neg (by decide), e1]
    simp only [BitVec.toNat_ofNat, Nat.zero_mod, Nat.xor_zero]
    omega
end Go.Vx

namespace Go.Vx
open Go Go.RowKit
def ZqC {σ ρ : Type} (b : σ → Option (σ ⊕ ρ)) (s : σ) : Option ρ :=
  Nat.rec (motive := fun _ => σ → Option ρ) (fun _ => none) (fun _ ih s => match b s with | none => none | some (.inl s') => ih s' | some (.inr r) => some r) 1000000 s
def Le {α : Type} (a b : Option α) : Prop := ∀ r, a = some r → b = some r
theorem Le.refl {α : Type} (a : Option α) : Le a a := fun _ h => h
section
variable {α β γ δ ε ζ η θ ι κ σ ρ : Type}
theorem Le.bind {a b : Option α} {f g : α → Option β} (h : Le a b) (hf : ∀ x, Le (f x) (g x)) : Le (a.bind f) (b.bind g) := by
  intro r hr
  cases ha : a with
  | none => rw [ha] at hr; cases hr
  | some x => rw [ha] at hr; rw [h x ha]; exact hf x r hr
theorem Le.ite {c : Prop} [Decidable c] {a b a' b' : Option α} (h1 : Le a a') (h2 : Le b b') : Le (if c then a else b) (if c then a' else b') := by
  split
  · exact h1
  · exact h2
theorem Le.gd {g : Bool} {d : α} {a b : Option α} (h : Le a b) : Le (gd g d a) (gd g d b) := by
  cases g
  · exact fun r hr => hr
  · exact h
theorem Le.loop {b b' : σ → Option (σ ⊕ ρ)} {s : σ} (h : ∀ s, Le (b s) (b' s)) : Le (ZqC b s) (loop b' s) := by
  have key : ∀ n s r, Nat.rec (motive := fun _ => σ → Option ρ) (fun _ => none) (fun _ ih s => match b s with | none => none | some (.inl s') => ih s' | some (.inr r) => some r) n s = some r → Zcq b' n s = some r := by
    intro n
    induction n with
    | zero => intro s r hr; cases hr
    | succ n ih =>
      intro s r hr
      simp only at hr
      cases hb : b s with
      | none => rw [hb] at hr; cases hr
      | some o =>
        rw [hb] at hr
        simp only [Zcq, h s o hb, Option.bind_some]
        cases o with
        | inl s' => exact ih s' r hr
        | inr r' => exact hr
  intro r hr
  exact Ziq (key 1000000 s r hr)
theorem Le.t0 {f g : Option κ} {p : Unit} (h : Le f g) : Le (t0 f p) (t0 g p) := h
theorem Le.t1 {f g : α → Option κ} {p : α} (h : ∀ a, Le (f a) (g a)) : Le (t1 f p) (t1 g p) := h _
theorem Le.t2 {f g : α → β → Option κ} {p : α × β} (h : ∀ a b, Le (f a b) (g a b)) : Le (t2 f p) (t2 g p) := h _ _
theorem Le.t3 {f g : α → β → γ → Option κ} {p : α × β × γ} (h : ∀ a b c, Le (f a b c) (g a b c)) : Le (t3 f p) (t3 g p) := h _ _ _
theorem Le.t4 {f g : α → β → γ → δ → Option κ} {p : α × β × γ × δ} (h : ∀ a b c d, Le (f a b c d) (g a b c d)) : Le (t4 f p) (t4 g p) := h _ _ _ _
theorem Le.t5 {f g : α → β → γ → δ → ε → Option κ} {p : α × β × γ × δ × ε} (h : ∀ a b c d e, Le (f a b c d e) (g a b c d e)) : Le (t5 f p) (t5 g p) := h _ _ _ _ _
theorem Le.t6 {f g : α → β → γ → δ → ε → ζ → Option κ} {p : α × β × γ × δ × ε × ζ} (h : ∀ a b c d e x, Le (f a b c d e x) (g a b c d e x)) : Le (t6 f p) (t6 g p) := h _ _ _ _ _ _
theorem Le.t7 {f g : α → β → γ → δ → ε → ζ → η → Option κ} {p : α × β × γ × δ × ε × ζ × η} (h : ∀ a b c d e x y, Le (f a b c d e x y) (g a b c d e x y)) : Le (t7 f p) (t7 g p) := h _ _ _ _ _ _ _
theorem Le.t8 {f g : α → β → γ → δ → ε → ζ → η → θ → Option κ} {p : α × β × γ × δ × ε × ζ × η × θ} (h : ∀ a b c d e x y z, Le (f a b c d e x y z) (g a b c d e x y z)) : Le (t8 f p) (t8 g p) := h _ _ _ _ _ _ _ _
theorem Le.elim {f f' : α → Option κ} {g g' : β → Option κ} {s : α ⊕ β} (h1 : ∀ a, Le (f a) (f' a)) (h2 : ∀ b, Le (g b) (g' b)) : Le (Sum.elim f g s) (Sum.elim f' g' s) := by
  cases s with
  | inl a => exact h1 a
  | inr b => exact h2 b
end
end Go.Vx

namespace Go.Vx
open Go Go.RowKit
end Go.Vx

namespace Go.Vx
open Go Go.RowKit
set_option linter.unusedVariables false

noncomputable def Zd5 (n2 : Int) (ones2 : Int) : Option ((Int × Int) ⊕ (Int)) :=
  if (decide (0 < n2)) = true then
  (rem n2 2).bind fun q =>
  (quo .i64 n2 2).bind fun q2 =>
  some (.inl (q2, (i64 (ones2 + q))))
  else
  some (.inr ones2)
theorem Ziu (n2 : Int) (ones2 : Int) : Le (Zd5 n2 ones2) (ZdX n2 ones2) := by
  unfold Zd5 ZdX
  with_reducible repeat' (first | exact Le.refl _ | apply Le.bind | apply Le.ite | intro _)

noncomputable def ZdQ (n : Int) : Option Bool :=
  ((ZqC (t2 (Zd5)) (n, 0)) : Option ((Int))).bind (t1 fun (ones : Int) =>
  (rem ones 2).bind fun q3 =>
  some (decide (q3 = 1)))
theorem Zln (n : Int) : Le (ZdQ n) (Zc3 n) := by
  unfold ZdQ Zc3
  with_reducible repeat' (first | exact Le.refl _ | apply Le.bind | apply Le.loop | apply Le.t1 | apply Le.t2 | apply Ziu | intro _)

end Go.Vx

namespace Go.Vx
open Go Go.RowKit
end Go.Vx

namespace Go.Vx
open Go Go.RowKit
def hvB (bs : List Int) : List Int := bs.flatMap fun b => [b / 16, b % 16]
def hv (p : api_Piece) : List Int := if p.Half = true then (hvB p.Bytes).drop 1 else hvB p.Bytes
theorem Zpq {n : Int} (h : wfI .u16 n) : 0 ≤ n ∧ n ≤ 65535 := by
  have h' : (decide (IntKind.u16.min ≤ n) && decide (n ≤ IntKind.u16.max)) = true := h
  have e1 : IntKind.u16.min = 0 := by decide
  have e2 : IntKind.u16.max = 65535 := by decide
  rw [e1, e2] at h'
  simpa using h'
theorem Qr {z : Int} (h1 : -9223372036854775808 ≤ z) (h2 : z ≤ 9223372036854775807) : i64 z = z := Q2 h1 h2
end Go.Vx

namespace Go.Vx
open Go Go.RowKit
def w3 (a b c : Int) : Int := 256 * a + 16 * b + c
def hL (l : List Int) : Prop := ∀ x ∈ l, 0 ≤ x ∧ x ≤ 15
theorem ZgQ {l : List Int} {k : Nat} {x : Int} (h : l[k]? = some x) : l.getD k 0 = x := by rw [List.getD_eq_getElem?_getD, h]; rfl
end Go.Vx

namespace Go.Vx
open Go Go.RowKit
theorem ZeB {σ ρ : Type} {body : σ → Int → Option ((σ × Int) ⊕ ρ)} (S : Nat → σ) (R : ρ) {a b : Nat} (hab : a ≤ b)
    (hstep : ∀ k : Nat, a ≤ k → k < b → body (S k) (k : Int) = some (.inl (S (k + 1), (k : Int) + 1))) (hend : body (S b) (b : Int) = some (.inr R)) :
    loop (t2 body) (S a, (a : Int)) = some R := by
  refine JR (body := t2 body) (fun s => ∃ k : Nat, a ≤ k ∧ k ≤ b ∧ s = (S k, (k : Int))) (fun s => b - s.2.toNat) (fun _ => R) ?_ _ ⟨a, Nat.le_refl _, hab, rfl⟩
  rintro _ ⟨k, h1, h2, rfl⟩
  rcases Nat.lt_or_ge k b with h | h
  · exact .inl ⟨_, hstep k h1 h, ⟨k + 1, by omega, h, by push_cast; rfl⟩, by simp only; omega, rfl⟩
  · obtain rfl : k = b := by omega
    exact .inr hend
theorem Zpt {σ ρ : Type} {body : σ → Int → Option ((σ × Int) ⊕ ρ)} (S : Nat → σ) (R : ρ) {b : Nat}
    (hstep : ∀ k : Nat, k < b → body (S (b - 1 - k)) (k : Int) = some (.inl (S (b - k), (k : Int) - 1))) (hend : body (S b) (-1) = some (.inr R)) :
    loop (t2 body) (S 0, (b : Int) - 1) = some R := by
  refine JR (body := t2 body) (fun s => ∃ k : Nat, k ≤ b ∧ s = (S (b - k), (k : Int) - 1)) (fun s => (s.2 + 1).toNat) (fun _ => R) ?_ _ ⟨b, Nat.le_refl _, by rw [Nat.sub_self]⟩
  rintro _ ⟨k, h2, rfl⟩
  rcases Nat.eq_zero_or_pos k with rfl | h
  · exact .inr hend
  · obtain ⟨j, rfl⟩ : ∃ j, k = j + 1 := ⟨k - 1, by omega⟩
    refine .inl ⟨_, ?_, ⟨j, by omega, rfl⟩, ?_, rfl⟩
    · have := hstep j h2
      rw [show ((j + 1 : Nat) : Int) - 1 = (j : Int) by omega, show b - (j + 1) = b - 1 - j by omega]
      exact this
    · simp only; omega
def wd (f : Vector Int 64) (i : Nat) : Int := f.toList.getD i 0
def fU (f : Vector Int 64) : Prop := ∀ i, 0 ≤ wd f i ∧ wd f i ≤ 65535
theorem Zqm {f : Vector Int 64} (h : wfV (wfI .u16) f) : fU f := by
  intro i
  unfold wd
  rcases Nat.lt_or_ge i f.toList.length with hi | hi
  · obtain ⟨x, hx⟩ := ZU hi
    rw [List.getD_eq_getElem?_getD, hx]
    exact Zpq (h x (List.mem_of_getElem? hx))
  · rw [List.getD_eq_getElem?_getD, List.getElem?_eq_none hi]
    exact ⟨by decide, by decide⟩
theorem QY (f : Vector Int 64) {i : Nat} (hi : i < 64) : Qo f (i : Int) = some (wd f i) := by
  unfold Qo wd
  rw [if_pos (by omega), Int.toNat_natCast]
  obtain ⟨x, hx⟩ := ZU (xs := f.toList) (k := i) (by simp; omega)
  rw [List.getD_eq_getElem?_getD, hx]; rfl
theorem ZgA {x : Int} (h : 0 ≤ x ∧ x ≤ 65535) : Jv x = some (x % 2048) := by
  obtain ⟨n, rfl⟩ : ∃ n : Nat, x = n := ⟨x.toNat, by omega⟩
  have e0 : IntKind.u16.bits = 16 := rfl
  have e1 : (BitVec.ofInt 16 (n : Int)).toNat = n := by
    rw [BitVec.ofInt_natCast, BitVec.toNat_ofNat]; exact Nat.mod_eq_of_lt (by omega)
  have e2 : (BitVec.ofInt 16 2047).toNat = 2 ^ 11 - 1 := rfl
  have e3 : Ju .u16 (n : Int) 2047 = ((n % 2048 : Nat) : Int) := by
    unfold Ju
    rw [e0, BitVec.toNat_and, e1, e2, Nat.and_two_pow_sub_one_eq_mod]
    have : n % 2 ^ 11 < 2048 := Nat.mod_lt _ (by decide)
    simp only [IntKind.wrap, IntKind.signed, IntKind.bits]
    have e : (2 : Int) ^ 16 = 65536 := by decide
    simp [e]
    omega
  unfold Jv
  rw [e3, Qr (by omega) (by omega)]; rfl
theorem ZgS {x : Int} (h : 0 ≤ x) (n : Int) (hn : 0 < n) : rem x n = some (x % n) := by
  unfold rem
  rw [if_neg (by omega), Int.tmod_eq_emod_of_nonneg h]
def ZaU (f : Vector Int 64) : Int := wd f 1 % 2048 + wd f 2 % 2048 * 2048
theorem Zm1 (f : Vector Int 64) : 0 ≤ ZaU f ∧ ZaU f < 4194304 := by unfold ZaU; omega
theorem Zqt {a b : Int} (ha : 0 ≤ a ∧ a < 2048) (hb : 0 ≤ b ∧ b < 2048) : (shl .i64 b 11).bind (fun q => some (bor .i64 a q)) = some (a + b * 2048) ∧ (shl .i64 a 11).bind (fun q => some (bor .i64 q b)) = some (a * 2048 + b) := by
  have e : ∀ z : Int, 0 ≤ z ∧ z < 2048 → shl .i64 z 11 = some (z * 2048) := fun z hz => by
    unfold shl
    rw [if_neg (by decide)]
    have e : (2 : Int) ^ min (Int.toNat 11) IntKind.i64.bits = 2048 := rfl
    rw [e, w64 (by omega) (by omega)]
  have e2 : ∀ x y : Int, 0 ≤ x ∧ x < 2048 → 0 ≤ y ∧ y < 2048 → bor .i64 x (y * 2048) = x + y * 2048 := fun x y hx hy => by
    obtain ⟨m, rfl⟩ : ∃ m : Nat, x = m := ⟨x.toNat, by omega⟩
    obtain ⟨n, rfl⟩ : ∃ n : Nat, y = n := ⟨y.toNat, by omega⟩
    have := Zoc (a := m) (b := n) (n := 11) (by rw [show (2 : Nat) ^ 11 = 2048 by decide]; omega) (by rw [show (2 : Nat) ^ 11 = 2048 by decide, show (2 : Nat) ^ 62 = 4611686018427387904 by decide]; omega)
    rw [show (2 : Nat) ^ 11 = 2048 by decide] at this
    rw [show ((n : Int) * 2048) = ((2048 * n : Nat) : Int) by omega, this]; omega
  have e3 : ∀ x y : Int, bor .i64 x y = bor .i64 y x := fun x y => by unfold bor; rw [BitVec.or_comm]
  rw [e b hb, e a ha, Option.bind_some, Option.bind_some, e2 a b ha hb, e3, e2 b a hb ha]
  exact ⟨rfl, by rw [Int.add_comm]⟩
theorem ZsB {a b : Int} (h1 : 0 ≤ a ∧ a ≤ 65535) (h2 : 0 ≤ b ∧ b ≤ 65535) : i64 (b % 2048 * 2048) = b % 2048 * 2048 ∧ i64 (a % 2048 + b % 2048 * 2048) = a % 2048 + b % 2048 * 2048 ∧ i64 a = a ∧ i64 b = b := ⟨Qr (by omega) (by omega), Qr (by omega) (by omega), Qr (by omega) (by omega), Qr (by omega) (by omega)⟩
theorem Zl4 {f : Vector Int 64} (h : fU f) : JF f = some (ZaU f) ∧ Zaq f = some (ZaU f) := by
  have v1 : Qo f 1 = some (wd f 1) := QY f (i := 1) (by decide)
  have v2 : Qo f 2 = some (wd f 2) := QY f (i := 2) (by decide)
  obtain ⟨e1, e2, e3, e4⟩ := ZsB (h 1) (h 2)
  refine ⟨?_, ?_⟩
  · unfold JF ZaU
    rw [v1, Option.bind_some, ZgA (h 1), Option.bind_some, v2, Option.bind_some, ZgA (h 2), Option.bind_some, (Zqt (by omega) (by omega)).1]
  · unfold Zaq ZaU
    rw [v1, Option.bind_some, e3, ZgS (h 1).1 _ (by decide), Option.bind_some, v2, Option.bind_some, e4, ZgS (h 2).1 _ (by decide), Option.bind_some, e1, e2]
def ZeY (f : Vector Int 64) : Nat → Int
  | 0 => 0
  | k + 1 => ZiF .i64 (ZeY f k) (wd f (k + 1) % 2048)
theorem Zm3 {f : Vector Int 64} (h : fU f) : Zc0 f = some (ZeY f 60) ∧ Zfi f = some (ZeY f 60) := by
  constructor
  · have := ZeB (body := ZaN f) (ZeY f) (ZeY f 60) (a := 0) (b := 60) (by decide) (fun k _ hk => by
      have hw := h (k + 1)
      unfold ZaN
      rw [if_pos (by simp; omega), Qr (by omega) (by omega), show (k : Int) + 1 = ((k + 1 : Nat) : Int) by push_cast; rfl, QY f (by omega), Option.bind_some, ZgA hw, Option.bind_some]
      rfl) (by unfold ZaN; rw [if_neg (by decide)])
    unfold Zc0
    rw [show ((0 : Int), (0 : Int)) = (ZeY f 0, ((0 : Nat) : Int)) from rfl, this]
    rfl
  · have := ZeB (body := ZcM f) (fun k => ZeY f (k - 1)) (ZeY f 60) (a := 1) (b := 61) (by decide) (fun k h1 hk => by
      have hw := h k
      obtain ⟨j, rfl⟩ : ∃ j, k = j + 1 := ⟨k - 1, by omega⟩
      unfold ZcM
      rw [if_pos (by simp; omega), QY f (by omega), Option.bind_some, Qr (by omega) (by omega), ZgS hw.1 _ (by decide), Option.bind_some, Qr (by omega) (by omega)]
      rfl) (by unfold ZcM; rw [if_neg (by decide)])
    unfold Zfi
    rw [show ((0 : Int), (1 : Int)) = ((fun k => ZeY f (k - 1)) 1, ((1 : Nat) : Int)) from rfl, this]
    rfl
def Zc7 (f : Vector Int 64) (j : Nat) : Bool := decide (j < 744) && decide (wd f (j / 12) / (2 : Int) ^ (11 - j % 12) % 2 = 1)
theorem ZpU (x : Int) {k : Nat} (hk : k ≤ 11) : shr .u16 x (k : Int) = some (x / (2 : Int) ^ k) := by
  unfold shr
  have hm : min ((k : Int)).toNat IntKind.u16.bits = k := by
    have : IntKind.u16.bits = 16 := rfl
    rw [Int.toNat_natCast]; omega
  have hp : (0 : Int) < 2 ^ k := Int.pow_pos (by decide)
  rw [if_neg (by omega), hm, Int.fdiv_eq_ediv_of_nonneg _ (by omega)]
theorem Zm9 (x : Int) {k : Nat} (hk : k ≤ 11) : shr .i64 x (k : Int) = some (x / (2 : Int) ^ k) := by
  unfold shr
  have hm : min ((k : Int)).toNat IntKind.i64.bits = k := by
    have : IntKind.i64.bits = 64 := rfl
    rw [Int.toNat_natCast]; omega
  have hp : (0 : Int) < 2 ^ k := Int.pow_pos (by decide)
  rw [if_neg (by omega), hm, Int.fdiv_eq_ediv_of_nonneg _ (by omega)]
theorem Zq1 {x : Int} (h : 0 ≤ x ∧ x ≤ 65535) (k : Nat) : 0 ≤ x / (2 : Int) ^ k ∧ x / (2 : Int) ^ k ≤ 65535 := by
  have hp : (0 : Int) < 2 ^ k := Int.pow_pos (by decide)
  have h1 := Int.ediv_nonneg h.1 (Int.le_of_lt hp)
  have h2 : x / (2 : Int) ^ k ≤ x := Int.ediv_le_self _ h.1
  omega
theorem Zmg {x : Int} (h : 0 ≤ x ∧ x ≤ 65535) : Ju .u16 x 1 = x % 2 := by
  obtain ⟨n, rfl⟩ : ∃ n : Nat, x = n := ⟨x.toNat, by omega⟩
  have e0 : IntKind.u16.bits = 16 := rfl
  have e1 : (BitVec.ofInt 16 (n : Int)).toNat = n := by
    rw [BitVec.ofInt_natCast, BitVec.toNat_ofNat]; exact Nat.mod_eq_of_lt (by omega)
  have e2 : (BitVec.ofInt 16 1).toNat = 2 ^ 1 - 1 := rfl
  unfold Ju
  rw [e0, BitVec.toNat_and, e1, e2, Nat.and_two_pow_sub_one_eq_mod]
  have : n % 2 ^ 1 < 2 := Nat.mod_lt _ (by decide)
  simp only [IntKind.wrap, IntKind.signed, IntKind.bits]
  have e : (2 : Int) ^ 16 = 65536 := by decide
  simp [e]
  omega
theorem Zl9 (x : Int) : Ju .i64 x 1 = x % 2 := ZcX (v := x) (n := 1) (by decide)
def ckS (f : Vector Int 64) (k : Nat) : Int := ((pS (Zc7 f) k).toNat : Int)
theorem Zpj (f : Vector Int 64) (j : Nat) : ckS f (j + 1) = if (!((!decide (Ju .i64 (ckS f j) 2097152 = 0)) == Zc7 f j)) = true then ZiF .i64 (Ju .i64 (ckS f j * 2) 4194303) 2097167 else Ju .i64 (ckS f j * 2) 4194303 := by
  have := Zqa (pS (Zc7 f) j) (Zc7 f j)
  unfold ckS
  rw [pS, this, ZrU, Bool.not_not, ZrH, Zsv]
  split <;> rfl
theorem Znf {f : Vector Int 64} (h : fU f) : ZbD f = some (ckS f 744) := by
  have inner : ∀ i : Nat, i < 62 → loop (t2 (XS f (i : Int))) (ckS f (12 * i), 11) = some (ckS f (12 * (i + 1))) := fun i hi => by
    have hw := h i
    have := Zpt (body := XS f (i : Int)) (fun j => ckS f (12 * i + j)) (ckS f (12 * (i + 1))) (b := 12) (fun k hk => by
      have hd := Zq1 hw k
      have hv := (pS (Zc7 f) (12 * i + (12 - 1 - k))).isLt
      unfold XS
      have e1 : shl .i64 (ckS f (12 * i + (12 - 1 - k))) 1 = some (ckS f (12 * i + (12 - 1 - k)) * 2) := Zsk _
      rw [if_pos (by simp), e1, Option.bind_some, QY f (by omega), Option.bind_some, ZpU _ (by omega), Option.bind_some, Zmg hd, Qr (by omega) (by omega)]
      have eb : Zc7 f (12 * i + (12 - 1 - k)) = decide (wd f i / (2 : Int) ^ k % 2 = 1) := by
        unfold Zc7
        rw [decide_eq_true (show 12 * i + (12 - 1 - k) < 744 by omega), Bool.true_and, show (12 * i + (12 - 1 - k)) / 12 = i by omega, show 11 - (12 * i + (12 - 1 - k)) % 12 = k by omega]
      have := Zpj f (12 * i + (12 - 1 - k))
      rw [eb] at this
      rw [show 12 * i + (12 - k) = 12 * i + (12 - 1 - k) + 1 by omega, this]
      split <;> rfl) (by unfold XS; rw [if_neg (by decide)]; rw [show 12 * (i + 1) = 12 * i + 12 by omega])
    exact this
  have := ZeB (body := JH f) (fun i => ckS f (12 * i)) (ckS f 744) (a := 0) (b := 62) (by decide) (fun k _ hk => by
    unfold JH
    rw [if_pos (by simp; omega), inner k hk, Option.bind_some, JA, Qr (by omega) (by omega)]) (by unfold JH; rw [if_neg (by decide)])
  unfold ZbD
  have e0 : ((0 : Int), (0 : Int)) = ((fun i => ckS f (12 * i)) 0, ((0 : Nat) : Int)) := rfl
  rw [e0, this]
  rfl
def rkS (f : Vector Int 64) (k : Nat) : Int := ((rS (Zc7 f) k).toNat : Int)
theorem Zrs {f : Vector Int 64} (h : fU f) : ZdN f = some (ckS f 744) := by
  have hfin : rkS f 766 = ckS f 744 := by
    unfold rkS ckS
    rw [show 766 = 744 + 22 from rfl, Zrl (fun k hk => by unfold Zc7; rw [decide_eq_false (by omega), Bool.false_and])]
  have := ZeB (body := Zbt f) (rkS f) (ckS f 744) (a := 0) (b := 766) (by decide) (fun k _ hk => by
    have hv := (rS (Zc7 f) k).isLt
    have hb : ((if (decide ((k : Int) < 744)) = true then (quo .i64 (k : Int) 12).bind fun q => (Qo f q).bind fun x => (rem (k : Int) 12).bind fun q2 => (shr .i64 (i64 x) (i64 (11 - q2))).bind fun q3 => some (Ju .i64 q3 1) else some 0) : Option Int) = some ((Zc7 f k).toNat : Int) := by
      by_cases hk2 : k < 744
      · have hw := h (k / 12)
        rw [if_pos (by simp; omega)]
        have e1 : quo .i64 (k : Int) 12 = some ((k / 12 : Nat) : Int) := by
          unfold quo
          rw [if_neg (by decide), Int.tdiv_eq_ediv_of_nonneg (by omega), w64 (by omega) (by omega)]
          rfl
        rw [e1, Option.bind_some, QY f (by omega), Option.bind_some, ZgS (by omega) _ (by decide), Option.bind_some, Qr (by omega) (by omega)]
        have e2 : i64 (11 - (k : Int) % 12) = ((11 - k % 12 : Nat) : Int) := by rw [Qr (by omega) (by omega)]; omega
        rw [e2, Zm9 _ (by omega), Option.bind_some, Zl9]
        unfold Zc7
        rw [decide_eq_true hk2, Bool.true_and]
        generalize wd f (k / 12) / (2 : Int) ^ (11 - k % 12) = z
        by_cases hz : z % 2 = 1
        · rw [decide_eq_true hz, hz]; rfl
        · rw [decide_eq_false hz, show z % 2 = 0 by omega]; rfl
      · rw [if_neg (by simp; omega)]
        unfold Zc7
        rw [decide_eq_false hk2, Bool.false_and]; rfl
    unfold Zbt
    rw [if_pos (by simp; omega), hb, Option.bind_some, JA]
    have hbl : (Zc7 f k).toNat ≤ 1 := by cases Zc7 f k <;> decide
    have hs := Zqg (rS (Zc7 f) k) (Zc7 f k)
    simp only at hs
    have er : i64 (i64 (rkS f k * 2) + ((Zc7 f k).toNat : Int)) = ((2 * (rS (Zc7 f) k).toNat + (Zc7 f k).toNat : Nat) : Int) := by
      unfold rkS
      rw [Qr (z := ((rS (Zc7 f) k).toNat : Int) * 2) (by omega) (by omega), Qr (by omega) (by omega)]; push_cast; omega
    have en : rkS f (k + 1) = ((zS (rS (Zc7 f) k) ^^^ (if Zc7 f k then 1#22 else 0#22)).toNat : Int) := rfl
    rw [er, en, ← hs, Qr (z := (k : Int) + 1) (by omega) (by omega)]
    by_cases hc : 4194304 ≤ 2 * (rS (Zc7 f) k).toNat + (Zc7 f k).toNat
    · rw [if_pos (by simp; omega), if_pos hc, show (6291471 : Int) = ((6291471 : Nat) : Int) from rfl, Zo1 (by omega) (by omega)]
    · rw [if_neg (by simp; omega), if_neg hc]) (by unfold Zbt; rw [if_neg (by decide), hfin])
  unfold ZdN
  rw [show ((0 : Int), (0 : Int)) = (rkS f 0, ((0 : Nat) : Int)) from rfl, this]
  rfl
end Go.Vx

namespace Go.Vx
open Go Go.RowKit
theorem ZjN {ρ : Type} {body : Int → Option (Int ⊕ ρ)} (P : Nat → Bool) (A Z : ρ) {a b : Nat} (hab : a ≤ b)
    (hstep : ∀ k : Nat, a ≤ k → k < b → body (k : Int) = if P k = true then some (.inl ((k : Int) + 1)) else some (.inr A)) (hend : body (b : Int) = some (.inr Z)) :
    loop (t1 body) (a : Int) = some (cond ((List.range' a (b - a)).all P) Z A) := by
  refine JR (body := t1 body) (fun i => ∃ k : Nat, i = k ∧ a ≤ k ∧ k ≤ b) (fun i => b - i.toNat) (fun i => cond ((List.range' i.toNat (b - i.toNat)).all P) Z A) ?_ (a : Int) ⟨a, rfl, Nat.le_refl _, hab⟩
  rintro i ⟨k, rfl, h1, h2⟩
  simp only [Int.toNat_natCast, JA]
  rcases Nat.lt_or_ge k b with h | h
  · rw [hstep k h1 h]
    obtain ⟨n, hn⟩ : ∃ n, b - k = n + 1 := ⟨b - k - 1, by omega⟩
    rw [hn, List.range'_succ, List.all_cons]
    cases hp : P k
    · right; simp
    · left
      refine ⟨_, by rw [if_pos rfl], ⟨k + 1, by push_cast; rfl, by omega, h⟩, by omega, ?_⟩
      rw [show ((k : Int) + 1).toNat = k + 1 by omega, show b - (k + 1) = n by omega, Bool.true_and]
  · obtain rfl : k = b := by omega
    right
    rw [hend]; simp
def flL (P : Nat → Bool) (c : Int) (a n : Nat) : List api_Flaw := ((List.range' a n).filter fun k => !P k).map fun (k : Nat) => api_Flaw.mk (k : Int) c
theorem ZkW (P : Nat → Bool) (c : Int) (a n : Nat) : flL P c a (n + 1) = flL P c a n ++ (if P (a + n) = true then [] else [api_Flaw.mk ((a + n : Nat) : Int) c]) := by
  unfold flL
  rw [List.range'_1_concat, List.filter_append, List.map_append]
  congr 1
  cases h : P (a + n) <;> simp [h]
theorem Zkz (P : Nat → Bool) (c : Int) (a : Nat) : ∀ n, (flL P c a n).length ≤ n
  | 0 => by simp [flL]
  | n + 1 => by
    have := Zkz P c a n
    rw [ZkW, List.length_append]; split <;> simp <;> omega
theorem ZkQ (P : Nat → Bool) (c : Int) (a n : Nat) : (flL P c a n).length = 0 ↔ (List.range' a n).all P = true := by
  unfold flL
  rw [List.length_map, List.length_eq_zero_iff, List.filter_eq_nil_iff, List.all_eq_true]
  exact ⟨fun h x hx => by have := h x hx; simpa using this, fun h x hx => by rw [h x hx]; decide⟩
theorem ZmB {body : List api_Flaw → Int → Option ((List api_Flaw × Int) ⊕ List api_Flaw)} (P : Nat → Bool) (c : Int) {a b : Nat} (hab : a ≤ b) (l0 : List api_Flaw) (hl : l0.length ≤ 1000) (hb : b ≤ 1000)
    (hstep : ∀ (l : List api_Flaw) (k : Nat), l.length ≤ 2000 → a ≤ k → k < b → body l (k : Int) = if P k = true then some (.inl (l, (k : Int) + 1)) else some (.inl (l ++ [api_Flaw.mk (k : Int) c], (k : Int) + 1)))
    (hend : ∀ l, body l (b : Int) = some (.inr l)) : loop (t2 body) (l0, (a : Int)) = some (l0 ++ flL P c a (b - a)) := by
  have := ZeB (body := body) (fun k => l0 ++ flL P c a (k - a)) (l0 ++ flL P c a (b - a)) (a := a) (b := b) hab (fun k h1 h2 => by
    have hlen := Zkz P c a (k - a)
    rw [hstep _ k (by rw [List.length_append]; omega) h1 h2, show k + 1 - a = k - a + 1 by omega, ZkW, show a + (k - a) = k by omega]
    cases P k <;> simp) (hend _)
  have e : (fun k => l0 ++ flL P c a (k - a)) a = l0 := by simp [flL]
  simp only at e
  rw [e] at this
  exact this
noncomputable def Zsn (n : Nat) : Bool := decide (ZcA (n : Int) = ZdQ (n : Int)) && (ZdQ (n : Int)).isSome
theorem ZpW : (List.range 4096).all Zsn = true := by decide +kernel
noncomputable def Zih (x : Int) : Bool := (ZdQ x).getD false
theorem ZmJ {x : Int} (h : 0 ≤ x ∧ x ≤ 4095) : ZcA x = some (Zih x) ∧ Zc3 x = some (Zih x) := by
  obtain ⟨n, rfl⟩ : ∃ n : Nat, x = n := ⟨x.toNat, by omega⟩
  have := List.all_eq_true.1 ZpW n (List.mem_range.2 (by omega))
  simp only [Zsn, Bool.and_eq_true, decide_eq_true_eq] at this
  obtain ⟨h2, h3⟩ := this
  obtain ⟨b, hb⟩ := Option.isSome_iff_exists.1 h3
  unfold Zih
  rw [hb]
  exact ⟨h2.trans hb, Zln _ b hb⟩
def ZaC (f : Vector Int 64) (k : Nat) : Bool := decide (wd f k ≤ 4095)
def ZcF (f : Vector Int 64) : Bool := (List.range' 0 64).all (ZaC f)
theorem ZjZ {f : Vector Int 64} (h : ZcF f = true) (k : Nat) (hk : k < 64) : wd f k ≤ 4095 := by
  have := List.all_eq_true.1 h k (List.mem_range'.2 ⟨k, hk, by omega⟩)
  simpa [ZaC] using this
theorem Zq6 (f : Vector Int 64) : ZdH f = some (!ZcF f) := by
  have := ZjN (body := ZbB f) (ZaC f) (.inl true : Bool ⊕ Unit) (.inr ()) (a := 0) (b := 64) (by decide) (fun k _ hk => by
    unfold ZbB ZaC
    rw [if_pos (by simp; omega), QY f hk, Option.bind_some, Qr (by omega) (by omega)]
    by_cases hw : 4095 < wd f k
    · rw [if_pos (by simpa using hw), if_neg (by simpa using hw)]
    · rw [if_neg (by simpa using hw), if_pos (by simpa using hw)]) (by unfold ZbB; rw [if_neg (by decide)])
  unfold ZdH
  have e0 : (0 : Int) = ((0 : Nat) : Int) := rfl
  rw [e0, this]
  unfold ZcF
  rw [Nat.sub_zero]
  cases (List.range' 0 64).all (ZaC f) <;> rfl
def ZcN (n : Int) : Int := gv_frame_syncs.toList.getD (n % 4).toNat 0
theorem ZkC {n : Int} (h : 0 ≤ n) : rem n 4 = some (n % 4) ∧ Qo gv_frame_syncs (n % 4) = some (ZcN n) := by
  refine ⟨ZgS h _ (by decide), ?_⟩
  unfold Qo ZcN
  rw [if_pos (by omega)]
  obtain ⟨x, hx⟩ := ZU (xs := gv_frame_syncs.toList) (k := (n % 4).toNat) (by simp; omega)
  rw [List.getD_eq_getElem?_getD, hx]; rfl
theorem ZoM {n : Int} (h : 0 ≤ n) : ZcR n = some (ZcN n) := by
  unfold ZcR
  have := (ZkC h).2
  unfold gv_frame_syncs at this
  rw [(ZkC h).1, Option.bind_some, this, Option.bind_some]
noncomputable def Zjt (f : Vector Int 64) (k : Nat) : Bool := Zih (wd f k)
def ckW (f : Vector Int 64) : Int := wd f 62 % 2048 * 2048 + wd f 63 % 2048
noncomputable def Zlq (f : Vector Int 64) : Bool := ZcF f && (decide (wd f 0 = ZcN (ZaU f)) && (decide (wd f 61 % 2048 = ZeY f 60) && ((List.range' 1 63).all (Zjt f) && decide (ckW f = ckS f 744))))
theorem Zqc {f : Vector Int 64} (h : fU f) : ZcY f = some (Zlq f) := by
  unfold ZcY
  rw [Zq6, Option.bind_some]
  cases hn : ZcF f
  · unfold Zlq
    rw [hn]
    simp [gd]
  · have hnb := Zm1 f
    have h0 := h 0
    have v0 : Qo f 0 = some (wd f 0) := QY f (i := 0) (by decide)
    have v61 : Qo f 61 = some (wd f 61) := QY f (i := 61) (by decide)
    have v62 : Qo f 62 = some (wd f 62) := QY f (i := 62) (by decide)
    have v63 : Qo f 63 = some (wd f 63) := QY f (i := 63) (by decide)
    have ck := ckW f
    have e0 : ((!true) == false) = true := rfl
    have ob : 0 ≤ wd f 62 % 2048 ∧ wd f 62 % 2048 < 2048 := by omega
    have oc : 0 ≤ wd f 63 % 2048 ∧ wd f 63 % 2048 < 2048 := by omega
    rw [e0, ZhM, v0, Option.bind_some, ZhM, (Zl4 h).1, Option.bind_some, ZhM, (ZkC hnb.1).1, Option.bind_some, ZhM, (ZkC hnb.1).2, Option.bind_some]
    unfold Zlq
    rw [hn, Bool.not_true, Bool.false_or, Bool.true_and]
    by_cases hs : wd f 0 = ZcN (ZaU f)
    · have e1 : decide (wd f 0 = ZcN (ZaU f)) = true := decide_eq_true hs
      rw [e1, Bool.not_true, show (false == false) = true from rfl, ZhM, v61, Option.bind_some, ZhM, ZgA (h 61), Option.bind_some, ZhM, (Zm3 h).1, Option.bind_some, Bool.false_or, Bool.true_and]
      by_cases hs2 : wd f 61 % 2048 = ZeY f 60
      · rw [if_neg (by simp [hs2]), decide_eq_true hs2, Bool.true_and]
        have := ZjN (body := ZaI f) (Zjt f) (.inl false : Bool ⊕ Unit) (.inr ()) (a := 1) (b := 64) (by decide) (fun k _ hk => by
          unfold ZaI Zjt
          have := ZjZ hn k hk
          rw [if_pos (by simp; omega), QY f hk, Option.bind_some, (ZmJ ⟨(h k).1, this⟩).1, Option.bind_some, Qr (by omega) (by omega)]
          cases Zih (wd f k) <;> rfl) (by unfold ZaI; rw [if_neg (by decide)])
        have e1 : (1 : Int) = ((1 : Nat) : Int) := rfl
        rw [e1, this, Option.bind_some]
        rw [show 64 - 1 = 63 from rfl]
        cases (List.range' 1 63).all (Zjt f)
        · rfl
        · rw [Bool.true_and]
          show (Qo f 62).bind _ = _
          rw [v62, Option.bind_some, ZgA (h 62), Option.bind_some]
          unfold ckW
          have eb := (Zqt ob oc).2
          obtain ⟨q, hq, hq2⟩ : ∃ q, shl .i64 (wd f 62 % 2048) 11 = some q ∧ bor .i64 q (wd f 63 % 2048) = wd f 62 % 2048 * 2048 + wd f 63 % 2048 := by
            cases hh : shl .i64 (wd f 62 % 2048) 11 with
            | none => rw [hh] at eb; cases eb
            | some q => rw [hh, Option.bind_some] at eb; exact ⟨q, rfl, Option.some.inj eb⟩
          rw [hq, Option.bind_some, v63, Option.bind_some, ZgA (h 63), Option.bind_some, Znf h, Option.bind_some, hq2]
      · rw [if_pos (by simp [hs2]), decide_eq_false hs2, Bool.false_and]
    · rw [decide_eq_false hs]
      simp [gd]
theorem ZpA {f : Vector Int 64} (h : fU f) : Zc1 f = some (Zlq f) := by
  unfold Zc1
  rw [Zqc h, Option.bind_some]
def Ze5 (b : Bool) (i c : Int) : List api_Flaw := if b = true then [] else [api_Flaw.mk i c]
noncomputable def Zrh (f : Vector Int 64) : List api_Flaw :=
  if ZcF f = true then ((Ze5 (decide (wd f 0 = ZcN (ZaU f))) 0 1 ++ flL (Zjt f) 2 1 63) ++ Ze5 (decide (wd f 61 % 2048 = ZeY f 60)) 61 3) ++ Ze5 (decide (ckW f = ckS f 744)) 62 4
  else flL (ZaC f) 5 0 64
theorem Zeq (b : Bool) (i c : Int) : (Ze5 b i c).length ≤ 1 ∧ ((Ze5 b i c).length = 0 ↔ b = true) := by cases b <;> simp [Ze5]
theorem Zqd {f : Vector Int 64} (h : fU f) : ZdP f = some (Zrh f) := by
  have hl1 := ZmB (body := Zby f) (ZaC f) 5 (a := 0) (b := 64) (by decide) [] (by decide) (by decide) (fun l k hl _ hk => by
    unfold Zby ZaC
    rw [if_pos (by simp; omega), QY f hk, Option.bind_some, Qr (by omega) (by omega)]
    by_cases hw : 4095 < wd f k
    · rw [if_pos (by simpa using hw), if_neg (by simpa using hw), XJ (by simp; omega), Option.bind_some]
    · rw [if_neg (by simpa using hw), if_pos (by simpa using hw)]) (fun l => by unfold Zby; rw [if_neg (by decide)])
  unfold ZdP
  have e0 : (([] : List api_Flaw), (0 : Int)) = ([], ((0 : Nat) : Int)) := rfl
  rw [e0, hl1, Option.bind_some, JA, List.nil_append, Nat.sub_zero]
  have hz := ZkQ (ZaC f) 5 0 64
  unfold Zrh
  cases hn : ZcF f
  · have : ¬ (flL (ZaC f) 5 0 64).length = 0 := fun hc => by rw [hz.1 hc |> fun e => (show ZcF f = true from e)] at hn; cases hn
    rw [if_pos (by simp only [decide_eq_true_eq]; omega), if_neg (by decide)]
  · have hz0 : (flL (ZaC f) 5 0 64).length = 0 := hz.2 hn
    have hnil : flL (ZaC f) 5 0 64 = [] := List.length_eq_zero_iff.1 hz0
    have hnb := Zm1 f
    have v0 : Qo f 0 = some (wd f 0) := QY f (i := 0) (by decide)
    have v61 : Qo f 61 = some (wd f 61) := QY f (i := 61) (by decide)
    have v62 : Qo f 62 = some (wd f 62) := QY f (i := 62) (by decide)
    have v63 : Qo f 63 = some (wd f 63) := QY f (i := 63) (by decide)
    have w0 := h 0
    have w61 := h 61
    have w62 := h 62
    have w63 := h 63
    rw [hnil, if_neg (by decide), v0, Option.bind_some, (Zl4 h).2, Option.bind_some, ZoM hnb.1, Option.bind_some, Qr (z := wd f 0) (by omega) (by omega)]
    have s1 : (if (!decide (wd f 0 = ZcN (ZaU f))) = true then (app ([] : List api_Flaw) ([(api_Flaw.mk 0 1)] : List api_Flaw)).bind fun l2 => some l2 else some []) = some (Ze5 (decide (wd f 0 = ZcN (ZaU f))) 0 1) := by
      by_cases hs : wd f 0 = ZcN (ZaU f) <;> simp [hs, Ze5, app]
    rw [s1, Option.bind_some, JA]
    have hl2 := ZmB (body := Zbr f) (Zjt f) 2 (a := 1) (b := 64) (by decide) (Ze5 (decide (wd f 0 = ZcN (ZaU f))) 0 1) (by have := (Zeq (decide (wd f 0 = ZcN (ZaU f))) 0 1).1; omega) (by decide) (fun l k hl _ hk => by
      unfold Zbr Zjt
      have hw := h k
      rw [if_pos (by simp; omega), QY f hk, Option.bind_some, Qr (z := wd f k) (by omega) (by omega), (ZmJ ⟨hw.1, ZjZ hn k hk⟩).2, Option.bind_some, Qr (by omega) (by omega)]
      cases Zih (wd f k)
      · rw [if_pos (by decide), XJ (by simp; omega), Option.bind_some]; rfl
      · rfl) (fun l => by unfold Zbr; rw [if_neg (by decide)])
    have e1 : (1 : Int) = ((1 : Nat) : Int) := rfl
    have e2 : (Ze5 (decide (wd f 0 = ZcN (ZaU f))) 0 1, (1 : Int)) = (Ze5 (decide (wd f 0 = ZcN (ZaU f))) 0 1, ((1 : Nat) : Int)) := rfl
    rw [e2, hl2, Option.bind_some, JA, show 64 - 1 = 63 from rfl]
    have b1 := (Zeq (decide (wd f 0 = ZcN (ZaU f))) 0 1).1
    have b2 := Zkz (Zjt f) 2 1 63
    have b3 := (Zeq (decide (wd f 61 % 2048 = ZeY f 60)) 61 3).1
    generalize hX : Ze5 (decide (wd f 0 = ZcN (ZaU f))) 0 1 ++ flL (Zjt f) 2 1 63 = X
    have bX : X.length ≤ 64 := by rw [← hX, List.length_append]; omega
    rw [v61, Option.bind_some, Qr (z := wd f 61) (by omega) (by omega), ZgS w61.1 _ (by decide), Option.bind_some, (Zm3 h).2, Option.bind_some]
    have s2 : (if (!decide (wd f 61 % 2048 = ZeY f 60)) = true then (app X ([(api_Flaw.mk 61 3)] : List api_Flaw)).bind fun l4 => some l4 else some X) = some (X ++ Ze5 (decide (wd f 61 % 2048 = ZeY f 60)) 61 3) := by
      by_cases hs : wd f 61 % 2048 = ZeY f 60
      · simp [hs, Ze5]
      · rw [XJ (by simp; omega)]; simp [hs, Ze5]
    rw [s2, Option.bind_some, JA]
    generalize hW : X ++ Ze5 (decide (wd f 61 % 2048 = ZeY f 60)) 61 3 = W
    have bW : W.length ≤ 65 := by rw [← hW, List.length_append]; omega
    rw [v62, Option.bind_some, Qr (z := wd f 62) (by omega) (by omega), ZgS w62.1 _ (by decide), Option.bind_some, v63, Option.bind_some, Qr (z := wd f 63) (by omega) (by omega), ZgS w63.1 _ (by decide), Option.bind_some, Zrs h, Option.bind_some]
    rw [Qr (z := wd f 62 % 2048 * 2048) (by omega) (by omega), Qr (z := wd f 62 % 2048 * 2048 + wd f 63 % 2048) (by omega) (by omega)]
    unfold ckW
    by_cases hs : wd f 62 % 2048 * 2048 + wd f 63 % 2048 = ckS f 744
    · simp [hs, Ze5]
    · rw [XJ (by simp; omega)]; simp [hs, Ze5]
theorem Zox {f : Vector Int 64} (h : fU f) : Zcx f = some (Zlq f) := by
  unfold Zcx
  rw [Zqd h, Option.bind_some]
  congr 1
  unfold Zrh Zlq
  cases hn : ZcF f
  · have hz := ZkQ (ZaC f) 5 0 64
    have : ¬ (flL (ZaC f) 5 0 64).length = 0 := fun hc => by rw [hz.1 hc |> fun e => (show ZcF f = true from e)] at hn; cases hn
    rw [if_neg (by decide), Bool.false_and, decide_eq_false_iff_not]; omega
  · rw [if_pos rfl, Bool.true_and, Bool.eq_iff_iff, decide_eq_true_eq]
    simp only [List.length_append, Bool.and_eq_true]
    have b1 := (Zeq (decide (wd f 0 = ZcN (ZaU f))) 0 1).2
    have b2 := ZkQ (Zjt f) 2 1 63
    have b3 := (Zeq (decide (wd f 61 % 2048 = ZeY f 60)) 61 3).2
    have b4 := (Zeq (decide (ckW f = ckS f 744)) 62 4).2
    rw [← b1, ← b2, ← b3, ← b4]
    omega
end Go.Vx

namespace Go.Vx
open Go Go.RowKit
end Go.Vx

namespace Go.Vx
open Go Go.RowKit
theorem ZoY {α : Type} {l : List α} {a b : Nat} (h1 : a ≤ b) (h2 : b ≤ l.length) : slc l (a : Int) (b : Int) = some ((l.take b).drop a) := by
  unfold slc
  rw [if_pos (by omega)]
  simp
end Go.Vx

namespace Go.Vx
open Go Go.RowKit
def Zp3 {ε ρ : Type} (A : ε → ρ) (Z : ρ) : Option ε → ρ
  | some e => A e
  | none => Z
theorem ZbR {τ ρ ε : Type} {body : τ → Option (τ ⊕ ρ)} (S : Nat → τ) (P : Nat → Option ε) (A : ε → ρ) (Z : ρ) {b : Nat}
    (hstep : ∀ k, k < b → (∃ e, P k = some e ∧ body (S k) = some (.inr (A e))) ∨ (P k = none ∧ body (S k) = some (.inl (S (k + 1))))) (hend : body (S b) = some (.inr Z)) :
    loop body (S 0) = some (Zp3 A Z ((List.range' 0 b).findSome? P)) := by
  have key : ∀ n k, k + n = b → loop body (S k) = some (Zp3 A Z ((List.range' k n).findSome? P)) := by
    intro n
    induction n with
    | zero =>
      intro k hk
      obtain rfl : k = b := by omega
      rw [ZV, hend]; rfl
    | succ n ih =>
      intro k hk
      rw [ZV, List.range'_succ, List.findSome?_cons]
      rcases hstep k (by omega) with ⟨e, h1, h2⟩ | ⟨h1, h2⟩
      · rw [h1, h2]; rfl
      · rw [h1, h2]
        exact ih (k + 1) (by omega)
  exact key b 0 (by omega)
theorem ZeO {ε : Type} {P : Nat → Option ε} {b : Nat} (h : (List.range' 0 b).findSome? P = none) (k : Nat) (hk : k < b) : P k = none :=
  List.findSome?_eq_none_iff.1 h k (List.mem_range'.2 ⟨k, hk, by omega⟩)
theorem Zoe (v : Vector Int 64) (g : Int → Bool) : v.toList.any g = true ↔ ∃ i, i < 64 ∧ g (wd v i) = true := by
  rw [List.any_eq_true]
  constructor
  · rintro ⟨x, hx, hg⟩
    obtain ⟨i, hi⟩ := List.getElem?_of_mem hx
    refine ⟨i, by have := (List.getElem?_eq_some_iff.1 hi).1; simpa using this, ?_⟩
    unfold wd
    rw [ZgQ hi]; exact hg
  · rintro ⟨i, hi, hg⟩
    obtain ⟨x, hx⟩ := ZU (xs := v.toList) (k := i) (by simp; omega)
    unfold wd at hg
    rw [ZgQ hx] at hg
    exact ⟨x, List.mem_of_getElem? hx, hg⟩
theorem Zj5 (s : List Int) (hs : s.length ≤ 1000000) (g : Int → Bool) : Qh s (fun z0 => some (g z0)) = some (s.any g) := by
  have := ZbR (body := t1 (Qg s (fun z0 => some (g z0)))) (fun k => (k : Int)) (fun k => if g (s.getD k 0) = true then some (k : Int) else none) (fun e => (.inl e : Int ⊕ Unit)) (.inr ()) (b := s.length) (fun k hk => by
    obtain ⟨x, hx⟩ := ZU hk
    have eb : Qg s (fun z0 => some (g z0)) (k : Int) = if g x = true then some (.inr (.inl (k : Int))) else some (.inl ((k : Int) + 1)) := by
      unfold Qg
      rw [if_pos (by simp; omega), ZD hx, Option.bind_some, Option.bind_some, Qr (by omega) (by omega)]
    rw [JA, eb, ZgQ hx]
    by_cases hg : g x = true
    · exact .inl ⟨_, by rw [if_pos hg], by rw [if_pos hg]⟩
    · exact .inr ⟨by rw [if_neg hg], by rw [if_neg hg]; push_cast; rfl⟩) (by
    rw [JA]
    unfold Qg
    rw [if_neg (by simp)])
  have e0 : (0 : Int) = ((0 : Nat) : Int) := rfl
  unfold Qh Xf
  rw [e0, this, Option.bind_some]
  cases hf : (List.range' 0 s.length).findSome? (fun k => if g (s.getD k 0) = true then some (k : Int) else none) with
  | none =>
    show (some (-1 : Int)).bind _ = _
    rw [Option.bind_some]
    have : s.any g = false := by
      rw [List.any_eq_false]
      intro x hx hg
      obtain ⟨i, hi⟩ := List.getElem?_of_mem hx
      have := ZeO hf i (List.getElem?_eq_some_iff.1 hi).1
      rw [ZgQ hi, if_pos hg] at this
      cases this
    rw [this]; rfl
  | some e =>
    show (some (e : Int)).bind _ = _
    rw [Option.bind_some]
    obtain ⟨k, hk, hke⟩ := List.exists_of_findSome?_eq_some hf
    have hk2 : k < s.length := by obtain ⟨j, hj, rfl⟩ := List.mem_range'.1 hk; omega
    obtain ⟨x, hx⟩ := ZU hk2
    split at hke
    · rename_i hg
      cases hke
      rw [ZgQ hx] at hg
      have : s.any g = true := List.any_eq_true.2 ⟨x, List.mem_of_getElem? hx, hg⟩
      rw [this, decide_eq_true (by omega)]
    · cases hke
theorem Zqi (v : Vector Int 64) : slc v.toList 0 (64 : Int) = some v.toList := by
  have := ZoY (l := v.toList) (a := 0) (b := 64) (by omega) (by simp)
  rw [show ((64 : Nat) : Int) = 64 from rfl, show ((0 : Nat) : Int) = 0 from rfl] at this
  rw [this, List.drop_zero, List.take_of_length_le (by simp)]
theorem Zrx (r : api_Rest) (a b : Int) : Za9 r a b = some (r.States.toList.any fun s => decide (s = a) || decide (s = b)) := by
  unfold Za9
  rw [Zqi, Option.bind_some]
  have := Zj5 r.States.toList (by simp) (fun s => decide (s = a) || decide (s = b))
  unfold Zb6
  rw [this]; rfl
theorem Zso (r : api_Rest) (a : Int) : Zc4 r a = some (!r.States.toList.any fun s => !decide (s = a)) := by
  unfold Zc4
  rw [Zqi, Option.bind_some]
  have := Zj5 r.States.toList (by simp) (fun s => !decide (s = a))
  unfold ZcK
  rw [this]; rfl
def stE (r : api_Rest) (i : Nat) : Option Int :=
  if wd r.States i < 0 ∨ 3 < wd r.States i then some 9 else if (wd r.States i = 0 ∧ wd r.Frame i ≠ 0) ∨ 4095 < wd r.Frame i then some 2 else none
def stF (r : api_Rest) : Option Int := (List.range' 0 64).findSome? (stE r)
theorem ZqU (r : api_Rest) : loop (t1 (QA r)) 0 = some (Zp3 .inl (.inr ()) (stF r)) := by
  have := ZbR (body := t1 (QA r)) (fun k => (k : Int)) (stE r) (fun e => (.inl e : Int ⊕ Unit)) (.inr ()) (b := 64) (fun k hk => by
    have eb : QA r (k : Int) = if (!(decide (0 ≤ wd r.States k) && decide (wd r.States k ≤ 3))) = true then some (.inr (.inl 9)) else (gd ((decide (wd r.States k = 0)) == true) 0 (some (wd r.Frame k))).bind fun x2 => (gd (((decide (wd r.States k = 0)) && (!decide (x2 = 0))) == false) 0 (some (wd r.Frame k))).bind fun x3 => if (((decide (wd r.States k = 0)) && (!decide (x2 = 0))) || (decide (4095 < x3))) = true then some (.inr (.inl 2)) else some (.inl ((k : Int) + 1)) := by
      unfold QA JL
      rw [if_pos (by simp; omega), QY _ hk, QY _ hk, Option.bind_some, Option.bind_some, Qr (by omega) (by omega)]
    rw [JA, eb]
    by_cases h1 : wd r.States k < 0 ∨ 3 < wd r.States k
    · have hg : (!(decide (0 ≤ wd r.States k) && decide (wd r.States k ≤ 3))) = true := by rw [Bool.not_eq_true', Bool.and_eq_false_iff, decide_eq_false_iff_not, decide_eq_false_iff_not]; omega
      exact .inl ⟨9, by unfold stE; rw [if_pos h1], by rw [hg, if_pos rfl]⟩
    · have hg : (!(decide (0 ≤ wd r.States k) && decide (wd r.States k ≤ 3))) = false := by rw [decide_eq_true (by omega), decide_eq_true (by omega)]; rfl
      rw [hg, if_neg Bool.false_ne_true]
      by_cases hbad : (wd r.States k = 0 ∧ wd r.Frame k ≠ 0) ∨ 4095 < wd r.Frame k
      · refine .inl ⟨2, by unfold stE; rw [if_neg h1, if_pos hbad], ?_⟩
        by_cases h0 : wd r.States k = 0
        · by_cases hf : wd r.Frame k = 0
          · exfalso; omega
          · simp [gd, h0, hf]
        · have hf : 4095 < wd r.Frame k := by omega
          simp [gd, h0, hf]
      · refine .inr ⟨by unfold stE; rw [if_neg h1, if_neg hbad], ?_⟩
        have hfr : ¬ 4095 < wd r.Frame k := by omega
        by_cases h0 : wd r.States k = 0
        · have hf : wd r.Frame k = 0 := by omega
          simp [gd, h0, hf]
        · simp [gd, h0, hfr]) (by
    rw [JA]
    unfold QA
    rw [if_neg (by decide)])
  exact this
def cN (r : api_Rest) (s : Int) : Nat → Nat
  | 0 => 0
  | k + 1 => cN r s k + (if wd r.States k = s then 1 else 0)
theorem Zgm (r : api_Rest) (s : Int) : ∀ k, cN r s k ≤ k
  | 0 => Nat.le_refl _
  | k + 1 => by have := Zgm r s k; rw [cN]; split <;> omega
theorem Zmm (r : api_Rest) (s : Int) : ∀ k, 0 < cN r s k ↔ ∃ i, i < k ∧ wd r.States i = s
  | 0 => ⟨fun h => absurd h (Nat.lt_irrefl 0), fun ⟨i, h, _⟩ => absurd h (Nat.not_lt_zero i)⟩
  | k + 1 => by
    have ih := Zmm r s k
    rw [cN]
    constructor
    · intro h
      by_cases hk : wd r.States k = s
      · exact ⟨k, by omega, hk⟩
      · rw [if_neg hk] at h
        obtain ⟨i, h1, h2⟩ := ih.1 (by omega)
        exact ⟨i, by omega, h2⟩
    · rintro ⟨i, h1, h2⟩
      by_cases hik : i = k
      · subst hik; rw [if_pos h2]; omega
      · have := ih.2 ⟨i, by omega, h2⟩; omega
theorem Zm2 (r : api_Rest) (s : Int) : ∀ k, cN r s k = k ↔ ∀ i, i < k → wd r.States i = s
  | 0 => ⟨fun _ i h => absurd h (Nat.not_lt_zero i), fun _ => rfl⟩
  | k + 1 => by
    have ih := Zm2 r s k
    have hle := Zgm r s k
    rw [cN]
    constructor
    · intro h i hi
      by_cases hk : wd r.States k = s
      · rw [if_pos hk] at h
        by_cases hik : i = k
        · subst hik; exact hk
        · exact ih.1 (by omega) i (by omega)
      · rw [if_neg hk] at h; omega
    · intro h
      rw [if_pos (h k (by omega)), ih.2 fun i hi => h i (by omega)]
def cS (r : api_Rest) (k : Nat) : Int × Int × Int × Int × Int := ((cN r 3 k : Int), (cN r 1 k : Int), (cN r 2 k : Int), (cN r 0 k : Int), (k : Int))
theorem ZpQ (r : api_Rest) : loop (t5 (Qk r)) (0, 0, 0, 0, 0) = some (Zp3 .inl (.inr ((cN r 3 64 : Int), (cN r 1 64 : Int), (cN r 2 64 : Int), (cN r 0 64 : Int))) (stF r)) := by
  have := ZbR (body := t5 (Qk r)) (cS r) (stE r) (fun e => (.inl e : Int ⊕ (Int × Int × Int × Int))) (.inr ((cN r 3 64 : Int), (cN r 1 64 : Int), (cN r 2 64 : Int), (cN r 0 64 : Int))) (b := 64) (fun k hk => by
    show (∃ e, stE r k = some e ∧ Qk r (cN r 3 k : Int) (cN r 1 k : Int) (cN r 2 k : Int) (cN r 0 k : Int) (k : Int) = _) ∨ (stE r k = none ∧ Qk r (cN r 3 k : Int) (cN r 1 k : Int) (cN r 2 k : Int) (cN r 0 k : Int) (k : Int) = _)
    have b3 := Zgm r 3 k
    have b2 := Zgm r 2 k
    have b1 := Zgm r 1 k
    have b0 := Zgm r 0 k
    have eb : Qk r (cN r 3 k : Int) (cN r 1 k : Int) (cN r 2 k : Int) (cN r 0 k : Int) (k : Int) = ((if ((decide (wd r.States k < 0)) || (decide (3 < wd r.States k))) = true then some (.inl 9) else (gd ((decide (wd r.States k = 0)) == true) 0 (some (wd r.Frame k))).bind fun x2 => (gd (((decide (wd r.States k = 0)) && (!decide (x2 = 0))) == false) 0 (some (wd r.Frame k))).bind fun x3 => if (((decide (wd r.States k = 0)) && (!decide (x2 = 0))) || (decide (4095 < x3))) = true then (some (.inl 2) : Option (Int ⊕ (Int × Int × Int × Int))) else if (decide (wd r.States k = 3)) = true then some (.inr ((cN r 3 k : Int) + 1, (cN r 1 k : Int), (cN r 2 k : Int), (cN r 0 k : Int))) else if (decide (wd r.States k = 2)) = true then some (.inr ((cN r 3 k : Int), (cN r 1 k : Int), (cN r 2 k : Int) + 1, (cN r 0 k : Int))) else if (decide (wd r.States k = 1)) = true then some (.inr ((cN r 3 k : Int), (cN r 1 k : Int) + 1, (cN r 2 k : Int), (cN r 0 k : Int))) else some (.inr ((cN r 3 k : Int), (cN r 1 k : Int), (cN r 2 k : Int), (cN r 0 k : Int) + 1))) : Option (Int ⊕ (Int × Int × Int × Int))).bind (Sum.elim (fun q' => some (.inr (.inl q'))) (t4 fun (good3 : Int) (known3 : Int) (mended3 : Int) (lost3 : Int) => some (.inl (good3, known3, mended3, lost3, (k : Int) + 1)))) := by
      unfold Qk
      rw [if_pos (by simp; omega), QY _ hk, QY _ hk, Option.bind_some, Qr (z := (k : Int) + 1) (by omega) (by omega), Qr (z := (cN r 3 k : Int) + 1) (by omega) (by omega), Qr (z := (cN r 2 k : Int) + 1) (by omega) (by omega), Qr (z := (cN r 1 k : Int) + 1) (by omega) (by omega), Qr (z := (cN r 0 k : Int) + 1) (by omega) (by omega)]
    rw [eb]
    by_cases h1 : wd r.States k < 0 ∨ 3 < wd r.States k
    · have hg : (decide (wd r.States k < 0) || decide (3 < wd r.States k)) = true := by rw [Bool.or_eq_true, decide_eq_true_eq, decide_eq_true_eq]; exact h1
      exact .inl ⟨9, by unfold stE; rw [if_pos h1], by rw [hg, if_pos rfl]; rfl⟩
    · have hg : (decide (wd r.States k < 0) || decide (3 < wd r.States k)) = false := by rw [decide_eq_false (by omega), decide_eq_false (by omega)]; rfl
      rw [hg, if_neg Bool.false_ne_true]
      by_cases hbad : (wd r.States k = 0 ∧ wd r.Frame k ≠ 0) ∨ 4095 < wd r.Frame k
      · refine .inl ⟨2, by unfold stE; rw [if_neg h1, if_pos hbad], ?_⟩
        by_cases h0 : wd r.States k = 0
        · by_cases hf : wd r.Frame k = 0
          · exfalso; omega
          · simp [gd, h0, hf]
        · have hf : 4095 < wd r.Frame k := by omega
          simp [gd, h0, hf]
      · refine .inr ⟨by unfold stE; rw [if_neg h1, if_neg hbad], ?_⟩
        have e1 : ((gd ((decide (wd r.States k = 0)) == true) 0 (some (wd r.Frame k))).bind fun x2 => (gd (((decide (wd r.States k = 0)) && (!decide (x2 = 0))) == false) 0 (some (wd r.Frame k))).bind fun x3 => if (((decide (wd r.States k = 0)) && (!decide (x2 = 0))) || (decide (4095 < x3))) = true then (some (.inl 2) : Option (Int ⊕ (Int × Int × Int × Int))) else if (decide (wd r.States k = 3)) = true then some (.inr ((cN r 3 k : Int) + 1, (cN r 1 k : Int), (cN r 2 k : Int), (cN r 0 k : Int))) else if (decide (wd r.States k = 2)) = true then some (.inr ((cN r 3 k : Int), (cN r 1 k : Int), (cN r 2 k : Int) + 1, (cN r 0 k : Int))) else if (decide (wd r.States k = 1)) = true then some (.inr ((cN r 3 k : Int), (cN r 1 k : Int) + 1, (cN r 2 k : Int), (cN r 0 k : Int))) else some (.inr ((cN r 3 k : Int), (cN r 1 k : Int), (cN r 2 k : Int), (cN r 0 k : Int) + 1))) = some (.inr ((cN r 3 (k + 1) : Int), (cN r 1 (k + 1) : Int), (cN r 2 (k + 1) : Int), (cN r 0 (k + 1) : Int))) := by
          have hfr : ¬ 4095 < wd r.Frame k := by omega
          have hst : wd r.States k = 0 ∨ wd r.States k = 1 ∨ wd r.States k = 2 ∨ wd r.States k = 3 := by omega
          simp only [cN]
          rcases hst with h | h | h | h
          · have hf : wd r.Frame k = 0 := by omega
            simp [gd, h, hf]
          · simp [gd, h, hfr]
          · simp [gd, h, hfr]
          · simp [gd, h, hfr]
        rw [e1, Option.bind_some]
        show some (Sum.inl _) = some (Sum.inl (cS r (k + 1)))
        unfold cS
        push_cast; rfl) (by
    show Qk r _ _ _ _ ((64 : Nat) : Int) = _
    unfold Qk
    rw [if_neg (by decide)]
    rfl)
  exact this
noncomputable def Zmu (f : Vector Int 64) : Int × Bool := if (Zih (wd f 1) && Zih (wd f 2)) = true then (ZaU f, true) else (0, false)
theorem Zk7 {f : Vector Int 64} (h : fU f) (h1 : wd f 1 ≤ 4095) (h2 : wd f 2 ≤ 4095) : Zb4 f = some (Zmu f) ∧ ZcQ f = some (Zmu f) := by
  have w1 := h 1
  have w2 := h 2
  have v1 : Qo f 1 = some (wd f 1) := QY f (i := 1) (by decide)
  have v2 : Qo f 2 = some (wd f 2) := QY f (i := 2) (by decide)
  obtain ⟨o1, o1'⟩ := ZmJ (x := wd f 1) ⟨w1.1, h1⟩
  obtain ⟨o2, o2'⟩ := ZmJ (x := wd f 2) ⟨w2.1, h2⟩
  obtain ⟨n1, n2⟩ := Zl4 h
  have right : ∀ x : Int, 0 ≤ x → x ≤ 4095 → Zc3 x = some (Zih x) → Zcu x = some (Zih x) := fun x a b e => by
    unfold Zcu
    rw [decide_eq_true b, Zgk, Qr (by omega) (by omega), e, Option.bind_some, Bool.true_and]
  have r1 := right _ w1.1 h1 o1'
  have r2 := right _ w2.1 h2 o2'
  unfold Zb4 ZcQ Zmu
  rw [v1, v2, Option.bind_some, Option.bind_some, o1, r1, Option.bind_some, Option.bind_some, n1, n2]
  generalize ZaU f = n
  cases Zih (wd f 1)
  · exact ⟨rfl, rfl⟩
  · simp only [Bool.not_true, ZhM, show (false == false) = true from rfl, Option.bind_some, o2, r2]
    cases Zih (wd f 2)
    · exact ⟨rfl, rfl⟩
    · exact ⟨rfl, rfl⟩
noncomputable def Znu (f : Vector Int 64) (n : Int) : Bool := Zlq f && decide ((Zmu f).1 = n)
theorem ZnJ {f : Vector Int 64} (h : fU f) (h1 : wd f 1 ≤ 4095) (h2 : wd f 2 ≤ 4095) (n : Int) : Jc f n = some (Znu f n) := by
  unfold Jc
  rw [(Zk7 h h1 h2).1, Option.bind_some, ZpA h, Option.bind_some]; rfl
theorem Zpg {f : Vector Int 64} (h : fU f) (h1 : wd f 1 ≤ 4095) (h2 : wd f 2 ≤ 4095) : Zc2 f = some (Zmu f).1 := by
  unfold Zc2
  rw [(Zk7 h h1 h2).2, Option.bind_some]
def ZiD (r : api_Rest) (a b : Int) : Bool := r.States.toList.any fun s => decide (s = a) || decide (s = b)
def Zl3 (r : api_Rest) (a : Int) : Bool := !r.States.toList.any fun s => !decide (s = a)
noncomputable def Zer (r : api_Rest) : Int :=
  if r.Number < 0 ∨ 4194304 ≤ r.Number then 9 else
  match stF r with
  | some e => e
  | none =>
    if (r.Sound && (!Znu r.Frame r.Number || ZiD r 0 1)) = true then 2
    else if (!r.Sound && ZiD r 3 2) = true then 2
    else if (decide (r.Copies < 0) || (decide (r.Copies = 0) && r.Sound && Zl3 r 3)) = true then 9
    else if (r.Conflict && r.Sound) = true then 2 else 0
theorem Zfp {r : api_Rest} (h : stF r = none) (i : Nat) (hi : i < 64) : 0 ≤ wd r.States i ∧ wd r.States i ≤ 3 ∧ wd r.Frame i ≤ 4095 ∧ (wd r.States i = 0 → wd r.Frame i = 0) := by
  have := ZeO h i hi
  unfold stE at this
  split at this
  · cases this
  · split at this
    · cases this
    · omega
theorem ZhT {r : api_Rest} (hU : fU r.Frame) : Jj r = some (Zer r) := by
  unfold Jj JL Zer
  rw [Option.bind_some]
  by_cases hn : r.Number < 0 ∨ 4194304 ≤ r.Number
  · rw [if_pos hn, if_pos (by simp only [Bool.not_eq_true', Bool.and_eq_false_iff, decide_eq_false_iff_not]; omega)]
  · rw [if_neg hn, if_neg (by simp only [Bool.not_eq_true', Bool.and_eq_false_iff, decide_eq_false_iff_not]; omega), ZqU, Option.bind_some]
    cases hf : stF r with
    | some e => rfl
    | none =>
      have f1 := Zfp hf 1 (by decide)
      have f2 := Zfp hf 2 (by decide)
      show (gd (r.Sound == true) false (Jc r.Frame r.Number)).bind _ = some _
      rw [ZnJ hU f1.2.2.1 f2.2.2.1]
      simp only [Zrx, Zso]
      show _ = some (if (r.Sound && (!Znu r.Frame r.Number || ZiD r 0 1)) = true then 2 else if (!r.Sound && ZiD r 3 2) = true then 2 else if (decide (r.Copies < 0) || (decide (r.Copies = 0) && r.Sound && Zl3 r 3)) = true then 9 else if (r.Conflict && r.Sound) = true then 2 else 0)
      unfold ZiD Zl3
      generalize (r.States.toList.any fun s => decide (s = 0) || decide (s = 1)) = a1
      generalize (r.States.toList.any fun s => decide (s = 3) || decide (s = 2)) = a2
      generalize (r.States.toList.any fun s => !decide (s = 3)) = a3
      generalize decide (r.Copies < 0) = c1
      generalize decide (r.Copies = 0) = c2
      generalize Znu r.Frame r.Number = z
      cases r.Sound <;> cases r.Conflict <;> cases z <;> cases a1 <;> cases a2 <;> cases a3 <;> cases c1 <;> cases c2 <;> rfl
theorem Zoj (r : api_Rest) (a b : Int) : ZiD r a b = decide (0 < ((cN r a 64 : Int) + (cN r b 64 : Int))) := by
  rw [Bool.eq_iff_iff, decide_eq_true_eq]
  unfold ZiD
  rw [Zoe]
  have ha := Zmm r a 64
  have hb := Zmm r b 64
  constructor
  · rintro ⟨i, hi, h⟩
    simp only [Bool.or_eq_true, decide_eq_true_eq] at h
    rcases h with h | h
    · have := ha.2 ⟨i, hi, h⟩; omega
    · have := hb.2 ⟨i, hi, h⟩; omega
  · intro h
    by_cases h0 : 0 < cN r a 64
    · obtain ⟨i, hi, e⟩ := ha.1 h0
      exact ⟨i, hi, by simp [e]⟩
    · obtain ⟨i, hi, e⟩ := hb.1 (by omega)
      exact ⟨i, hi, by simp [e]⟩
theorem ZqX (r : api_Rest) (a : Int) : Zl3 r a = decide ((cN r a 64 : Int) = 64) := by
  rw [Bool.eq_iff_iff, decide_eq_true_eq]
  unfold Zl3
  have hc := Zm2 r a 64
  rw [Bool.not_eq_true', ← Bool.not_eq_true, Zoe]
  constructor
  · intro h
    have := hc.2 fun i hi => by
      rcases Decidable.em (wd r.States i = a) with e | e
      · exact e
      · exact (h ⟨i, hi, by simp [e]⟩).elim
    omega
  · rintro h ⟨i, hi, e⟩
    have := hc.1 (by omega) i hi
    simp [this] at e
theorem Zkf {r : api_Rest} (hU : fU r.Frame) : ZaR r = some (Zer r) := by
  unfold ZaR Zer
  by_cases hn : r.Number < 0 ∨ 4194304 ≤ r.Number
  · rw [if_pos hn, if_pos (by simp only [Bool.or_eq_true, decide_eq_true_eq]; omega)]
  · rw [if_neg hn, if_neg (by simp only [Bool.or_eq_true, decide_eq_true_eq]; omega), ZpQ, Option.bind_some]
    cases hf : stF r with
    | some e => rfl
    | none =>
      have f1 := Zfp hf 1 (by decide)
      have f2 := Zfp hf 2 (by decide)
      have b0 := Zgm r 0 64
      have b1 := Zgm r 1 64
      have b2 := Zgm r 2 64
      have b3 := Zgm r 3 64
      show (gd (r.Sound == true) false (Zcx r.Frame)).bind _ = some _
      rw [Zox hU, Zpg hU f1.2.2.1 f2.2.2.1, Qr (z := (cN r 0 64 : Int) + (cN r 1 64 : Int)) (by omega) (by omega), Qr (z := (cN r 3 64 : Int) + (cN r 2 64 : Int)) (by omega) (by omega), ← Zoj, ← Zoj, ← ZqX]
      show _ = some (if (r.Sound && (!Znu r.Frame r.Number || ZiD r 0 1)) = true then 2 else if (!r.Sound && ZiD r 3 2) = true then 2 else if (decide (r.Copies < 0) || (decide (r.Copies = 0) && r.Sound && Zl3 r 3)) = true then 9 else if (r.Conflict && r.Sound) = true then 2 else 0)
      unfold Znu
      generalize ZiD r 0 1 = a1
      generalize ZiD r 3 2 = a2
      generalize Zl3 r 3 = a3
      generalize decide (r.Copies < 0) = c1
      generalize decide (r.Copies = 0) = c2
      generalize Zlq r.Frame = z
      by_cases hnn : (Zmu r.Frame).1 = r.Number
      · rw [hnn]
        cases r.Sound <;> cases r.Conflict <;> cases z <;> cases a1 <;> cases a2 <;> cases a3 <;> cases c1 <;> cases c2 <;> simp [gd]
      · have hd : decide ((Zmu r.Frame).1 = r.Number) = false := decide_eq_false hnn
        cases r.Sound <;> cases r.Conflict <;> cases z <;> cases a1 <;> cases a2 <;> cases a3 <;> cases c1 <;> cases c2 <;> simp [gd, hnn]
end Go.Vx
