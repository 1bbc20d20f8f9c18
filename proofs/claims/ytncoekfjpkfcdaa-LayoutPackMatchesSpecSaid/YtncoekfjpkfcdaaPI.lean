/- A text of the proof: a verified executor of the program form, or the contracts of the functions that the law reaches. -/
import Derived.Test.YtncoekfjpkfcdaaPH
set_option linter.all false
namespace Go.Vx
open Go Go.RowKit
def parOf (m : api_Map) (c : api_Cell) : api_Param := (m.Params[c.Param.toNat]?).getD ⟨[], 0, [], 0, 0, 0, 0, []⟩
def wcell (m : api_Map) (c : api_Cell) (v : Int) : WL := wc (enc (parOf m c) v).toNat c.Places
def wAll (m : api_Map) : List api_Cell → List Int → WL
  | c :: cs, v :: vs => wcell m c v ++ wAll m cs vs
  | _, _ => []
def inV (m : api_Map) (c : api_Cell) (v : Int) : Bool := wi v (lims (parOf m c)).1 (lims (parOf m c)).2
def allIn (m : api_Map) : List api_Cell → List Int → Bool
  | c :: cs, v :: vs => inV m c v && allIn m cs vs
  | _, _ => true
theorem cell_par {m : api_Map} (h : MapOK m) {c : api_Cell} (hc : c ∈ allC 0 m.Params) : idx m.Params c.Param = some (parOf m c) ∧ ParOK (parOf m c) ∧ c.Places.length ≤ 8 ∧ (∀ q ∈ c.Places, placeR q) ∧ sB c.Places ≤ 40 ∧ bitsN (parOf m c) = (sB c.Places : Int) ∧ 2 * HH (parOf m c) = 2 ^ sB c.Places := by
  obtain ⟨j, x, h1, hx, h2, f, t, h3, h4, _, h5⟩ := cell_ok h hc
  obtain ⟨x', g1, g2, g3, g4, g5, g6, _⟩ := cell_facts h (Vector.replicate 16 []) hc
  have e : parOf m c = x' := by unfold parOf; rw [g2]; rfl
  have e2 : x' = x := by rw [h2, Int.toNat_natCast, h1] at g2; exact (Option.some.inj g2).symm
  have hsB : bitsN x = (sB c.Places : Int) := by
    have key : ∀ ps : List api_Part, (∀ y ∈ ps, partOK y = true) → ((sB (ps.map (placeN x f t)) : Nat) : Int) = (ps.map (·.Bits)).sum := by
      intro ps
      induction ps with
      | nil => intro _; rfl
      | cons y ps ih =>
        intro hy
        have := part_iff.1 (hy y List.mem_cons_self)
        have ih := ih fun z hz => hy z (List.mem_cons_of_mem _ hz)
        have e : sB ((y :: ps).map (placeN x f t)) = y.Bits.toNat + sB (ps.map (placeN x f t)) := by simp [sB, placeN]
        rw [e, List.map_cons, List.sum_cons]
        push_cast
        omega
    rw [h5]
    exact (key _ hx.len.2).symm
  subst e2
  rw [e]
  refine ⟨g1, g3, g4, g5, g6, hsB, ?_⟩
  rw [← (HH_bd g3).2.2, hsB]; congr 1
theorem enc_nat {m : api_Map} (h : MapOK m) {c : api_Cell} (hc : c ∈ allC 0 m.Params) {v : Int} (hv : inV m c v = true) : ((enc (parOf m c) v).toNat : Int) = enc (parOf m c) v ∧ (enc (parOf m c) v).toNat < 2 ^ sB c.Places ∧ (enc (parOf m c) v).toNat < 2 ^ 40 ∧ dec (parOf m c) (enc (parOf m c) v) = (v, true) := by
  obtain ⟨_, hx, _, _, h40, _, hH⟩ := cell_par h hc
  obtain ⟨a, b⟩ := wi_iff.1 hv
  obtain ⟨e1, e2, e3⟩ := enc_range hx a b
  rw [hH] at e2
  have ep : ((2 ^ sB c.Places : Nat) : Int) = (2 : Int) ^ sB c.Places := by push_cast; rfl
  have h2 : 2 ^ sB c.Places ≤ 2 ^ 40 := Nat.pow_le_pow_right (by decide) h40
  exact ⟨by omega, by omega, by omega, e3⟩
theorem wAll_fst (m : api_Map) : ∀ (cs : List api_Cell) (vs : List Int), cs.length = vs.length → (wAll m cs vs).map (·.1) = cs.flatMap fun c => c.Places
  | [], [], _ => rfl
  | c :: cs, v :: vs, h => by
    simp only [wAll, List.map_append, List.flatMap_cons]
    rw [wAll_fst m cs vs (by simpa using h)]
    unfold wcell
    rw [wc_fst]
theorem dis_of : ∀ {K : List layout_bit} {l : List api_Place}, okB K (bitsL l) = true → l.Pairwise disj
  | K, [], _ => List.Pairwise.nil
  | K, q :: l, h => by
    have e : bitsL (q :: l) = bitsP q ++ bitsL l := by simp [bitsL]
    rw [e, okB_app, Bool.and_eq_true] at h
    refine List.pairwise_cons.2 ⟨fun r hr x hx => ?_, dis_of h.2⟩
    cases hxr : hasP x r with
    | false => rfl
    | true =>
      have hm : x ∈ bitsL l := by
        unfold bitsL
        exact List.mem_flatMap.2 ⟨r, hr, mem_bitsP.2 hxr⟩
      exact absurd (List.mem_append_right _ (mem_bitsP.2 hx)) (okB_fresh h.2 x hm)
def row0 (m : api_Map) : List Int := (List.replicate 58 (0 : Int)).set 0 m.Version
def out0 (m : api_Map) : Vector (List Int) 16 := Vector.replicate 16 (row0 m)
theorem init_s (m : api_Map) : loop (t2 (layout_Pack_L1 m)) ((Vector.replicate 16 []), 0) = some (out0 m) := by
  have key : ∀ (n k : Nat) (o : Vector (List Int) 16), k + n = 16 → (∀ i : Nat, i < k → o.toList[i]? = some (row0 m)) → loop (t2 (layout_Pack_L1 m)) (o, (k : Int)) = some (out0 m) := by
    intro n
    induction n with
    | zero =>
      intro k o hk ho
      have : k = 16 := by omega
      subst this
      rw [loop_eq]
      have e : o = out0 m := by
        apply Vector.toList_inj.1
        apply List.ext_getElem?
        intro i
        by_cases hi : i < 16
        · have eo : (out0 m).toList = List.replicate 16 (row0 m) := rfl
          rw [ho i hi, eo, List.getElem?_replicate, if_pos hi]
        · rw [List.getElem?_eq_none (by simp; omega), List.getElem?_eq_none (by simp; omega)]
      rw [e]
      rfl
    | succ n ih =>
      intro k o hk ho
      have h16 : o.toList.length = 16 := by simp
      have hlt : (k : Int) < 16 := by omega
      obtain ⟨x, hx⟩ := get_ex (xs := o.toList) (k := k) (by omega)
      have hm : mks 58 (0 : Int) = some (List.replicate 58 0) := rfl
      have hs1 : (vset o (k : Int) (List.replicate 58 (0 : Int))).toList = o.toList.set k (List.replicate 58 0) := by simp [vset]
      have hv1 : vidx (vset o (k : Int) (List.replicate 58 (0 : Int))) (k : Int) = some (List.replicate 58 0) := vidx_of (by rw [hs1, List.getElem?_set_self (by omega)])
      have hi0 : idx (List.replicate 58 (0 : Int)) 0 = some 0 := rfl
      have e3 : ((k : Nat) : Int) + 1 = ((k + 1 : Nat) : Int) := by push_cast; rfl
      rw [loop_eq]
      simp only [t2_mk, layout_Pack_L1, hlt, decide_true, if_true, hm, Option.bind_some, vidx_of hx, hv1, hi0]
      rw [i64s (by omega) (by omega), e3]
      refine ih (k + 1) _ (by omega) (fun i hi => ?_)
      have hs2 : (vset (vset o (k : Int) (List.replicate 58 (0 : Int))) (k : Int) ((List.replicate 58 (0 : Int)).set (Int.toNat 0) m.Version)).toList = (o.toList.set k (List.replicate 58 0)).set k (row0 m) := by
        simp [vset, row0]
      rw [hs2, List.getElem?_set]
      by_cases hik : k = i
      · subst hik; rw [if_pos rfl, if_pos (by simp; omega)]
      · rw [if_neg hik, List.getElem?_set_ne hik]; exact ho i (by omega)
  exact key 16 0 _ (by omega) (fun i hi => by omega)
theorem init_eq (m : api_Map) : ref2_Pack_L2 m = layout_Pack_L1 m := rfl
theorem out0_mem {m : api_Map} {x : List Int} (hx : x ∈ (out0 m).toList) : x = row0 m := by
  simp [out0] at hx; exact hx
theorem row0_get (m : api_Map) (w : Nat) (hw : 1 ≤ w) : (row0 m).getD w 0 = 0 := by
  unfold row0
  rw [List.getD_eq_getElem?_getD, List.getElem?_set_ne (by omega), List.getElem?_replicate]
  split <;> rfl
theorem pre0 {m : api_Map} (h : MapOK m) {l : List Int} (hl : (allC 0 m.Params).length = l.length) : Pre (out0 m) (wAll m (allC 0 m.Params) l) m.Version := by
  have hfst := wAll_fst m (allC 0 m.Params) l hl
  have hpl : ∀ w ∈ wAll m (allC 0 m.Params) l, placeR w.1 := by
    intro w hw
    have : w.1 ∈ (wAll m (allC 0 m.Params) l).map (·.1) := List.mem_map.2 ⟨w, hw, rfl⟩
    rw [hfst] at this
    obtain ⟨c, hc, hq⟩ := List.mem_flatMap.1 this
    exact (cell_par h hc).2.2.2.1 _ hq
  have hval : ∀ (cs : List api_Cell) (vs : List Int), ∀ w ∈ wAll m cs vs, w.2 < 2 ^ w.1.Bits.toNat := by
    intro cs
    induction cs with
    | nil => intro vs w hw; cases hw
    | cons c cs ih =>
      intro vs w hw
      cases vs with
      | nil => cases hw
      | cons v vs =>
        rcases List.mem_append.1 hw with hw | hw
        · have : ∀ (e : Nat) (ps : List api_Place), ∀ w ∈ wc e ps, w.2 < 2 ^ w.1.Bits.toNat := by
            intro e ps
            induction ps with
            | nil => intro w hw; cases hw
            | cons q tl ih2 =>
              intro w hw
              rcases List.mem_cons.1 hw with rfl | hw
              · exact Nat.mod_lt _ (Nat.two_pow_pos _)
              · exact ih2 w hw
          exact this _ _ w hw
        · exact ih vs w hw
  refine ⟨fun x hx => ?_, fun w hw => ⟨hpl w hw, hval _ _ w hw, ?_⟩, ?_, fun x hx => ?_⟩
  · rw [out0_mem hx]
    refine ⟨by simp [row0], fun d hd => ?_⟩
    rcases List.mem_or_eq_of_mem_set hd with hd | rfl
    · have := (List.mem_replicate.1 hd).2; omega
    · exact h.ver
  · have hq := hpl w hw
    have hm := row_mem (l := out0 m) hq
    have hr := out0_mem (List.mem_of_getElem? hm)
    have hd : datN (out0 m) w.1 = 0 := by
      have : datN (out0 m) w.1 = ((rowOf (out0 m) w.1).getD (w.1.Word - 3).toNat 0).toNat := rfl
      obtain ⟨_, a, _⟩ := hq
      rw [this, hr, row0_get m _ (by omega)]; rfl
    unfold chunk
    rw [hd]; simp
  · have hu : okB [] (bitsL ((allC 0 m.Params).flatMap fun c => c.Places)) = true := by
      have e : bitsL ((allC 0 m.Params).flatMap fun c => c.Places) = bitsC (allC 0 m.Params) := by
        simp [bitsL, bitsC, List.flatMap_assoc]
      rw [e]; exact h.uniq
    have hd := dis_of hu
    rw [← hfst] at hd
    exact List.pairwise_map.1 hd
  · rw [out0_mem hx]; rfl
theorem pack_loop {m : api_Map} (h : MapOK m) {l : List Int} (hl : (allC 0 m.Params).length = l.length) : ∀ (n k : Nat) (out : Vector (List Int) 16), k + n = l.length → Pre out (wAll m ((allC 0 m.Params).drop k) (l.drop k)) m.Version →
    loop (t2 (layout_Pack_L2 m l (allC 0 m.Params))) (out, (k : Int)) = some (cond (allIn m ((allC 0 m.Params).drop k) (l.drop k)) (.inr (wrF out (wAll m ((allC 0 m.Params).drop k) (l.drop k)))) (.inl ((Vector.replicate 16 []), 9))) := by
  have hcnt := h.cnt
  intro n
  induction n with
  | zero =>
    intro k out hk _
    have : k = l.length := by omega
    subst this
    have e : (allC 0 m.Params).drop l.length = [] := List.drop_eq_nil_of_le (by omega)
    rw [loop_eq, e]
    have : ¬ (l.length : Int) < ((allC 0 m.Params).length : Int) := by omega
    simp [layout_Pack_L2, hl, wAll, wrF, allIn]
  | succ n ih =>
    intro k out hk hP
    obtain ⟨c, hc⟩ := get_ex (xs := allC 0 m.Params) (k := k) (by omega)
    obtain ⟨v, hv⟩ := get_ex (xs := l) (k := k) (by omega)
    have hcm := List.mem_of_getElem? hc
    have hlt := lt_of hc
    obtain ⟨g1, hx, g4, g5, g6, g7, _⟩ := cell_par h hcm
    obtain ⟨num, n1, n2⟩ := numberOf_s hx
    rw [drop_cons hc, drop_cons hv] at hP ⊢
    simp only [wAll, allIn] at hP ⊢
    rw [loop_eq]
    simp only [t2_mk, layout_Pack_L2, hlt, decide_true, if_true, idx_of hc, Option.bind_some, g1, n1, idx_of hv, within_s, n2.low, n2.high]
    have hin : wi v (lims (parOf m c)).1 (lims (parOf m c)).2 = inV m c v := rfl
    rw [hin]
    cases hI : inV m c v with
    | false => rfl
    | true =>
      obtain ⟨a, b⟩ := wi_iff.1 hI
      obtain ⟨e1, e2, e3, e4⟩ := enc_nat h hcm hI
      have e5 : ((k : Nat) : Int) + 1 = ((k + 1 : Nat) : Int) := by push_cast; rfl
      simp only [Bool.not_true, Bool.false_eq_true, if_false, n2.encode v a b, Option.bind_some, bits_s hx.len, g7]
      rw [← e1, lput_s g4 g6 e3 out hP.left, i64s (by omega) (by omega), e5]
      have := ih (k + 1) _ (by omega) hP.app
      rw [← wrF_app] at this
      exact this
theorem chk_in {m : api_Map} (h : MapOK m) {l : List Int} (hl : (allC 0 m.Params).length = l.length) : loop (t1 (ref2_Pack_L1 m l (allC 0 m.Params))) 0 = some (cond (allIn m (allC 0 m.Params) l) (.inr ()) (.inl ((Vector.replicate 16 []), 9))) := by
  have hcnt := h.cnt
  have key : ∀ (n k : Nat), k + n = l.length → loop (t1 (ref2_Pack_L1 m l (allC 0 m.Params))) (k : Int) = some (cond (allIn m ((allC 0 m.Params).drop k) (l.drop k)) (.inr ()) (.inl ((Vector.replicate 16 []), 9))) := by
    intro n
    induction n with
    | zero =>
      intro k hk
      have : k = l.length := by omega
      subst this
      have e : (allC 0 m.Params).drop l.length = [] := List.drop_eq_nil_of_le (by omega)
      rw [loop_eq, e]
      simp [ref2_Pack_L1, hl, allIn]
    | succ n ih =>
      intro k hk
      obtain ⟨c, hc⟩ := get_ex (xs := allC 0 m.Params) (k := k) (by omega)
      obtain ⟨v, hv⟩ := get_ex (xs := l) (k := k) (by omega)
      have hcm := List.mem_of_getElem? hc
      have hlt := lt_of hc
      obtain ⟨g1, hx, g4, g5, g6, g7, _⟩ := cell_par h hcm
      rw [drop_cons hc, drop_cons hv]
      simp only [allIn]
      rw [loop_eq]
      simp only [t1, ref2_Pack_L1, hlt, decide_true, if_true, idx_of hc, Option.bind_some, g1, limits_s hx, idx_of hv, outside_s]
      have hin : wi v (lims (parOf m c)).1 (lims (parOf m c)).2 = inV m c v := rfl
      have e5 : ((k : Nat) : Int) + 1 = ((k + 1 : Nat) : Int) := by push_cast; rfl
      rw [hin, i64s (by omega) (by omega), e5]
      cases hI : inV m c v with
      | false => rfl
      | true => exact ih (k + 1) (by omega)
  exact key l.length 0 (by omega)
theorem rpack_loop {m : api_Map} (h : MapOK m) {l : List Int} (hl : (allC 0 m.Params).length = l.length) : ∀ (n k : Nat) (out : Vector (List Int) 16), k + n = l.length → allIn m ((allC 0 m.Params).drop k) (l.drop k) = true → Pre out (wAll m ((allC 0 m.Params).drop k) (l.drop k)) m.Version →
    loop (t2 (ref2_Pack_L3 m l (allC 0 m.Params))) (out, (k : Int)) = some (wrF out (wAll m ((allC 0 m.Params).drop k) (l.drop k))) := by
  have hcnt := h.cnt
  intro n
  induction n with
  | zero =>
    intro k out hk _ _
    have : k = l.length := by omega
    subst this
    have e : (allC 0 m.Params).drop l.length = [] := List.drop_eq_nil_of_le (by omega)
    rw [loop_eq, e]
    simp [ref2_Pack_L3, hl, wAll, wrF]
  | succ n ih =>
    intro k out hk hA hP
    obtain ⟨c, hc⟩ := get_ex (xs := allC 0 m.Params) (k := k) (by omega)
    obtain ⟨v, hv⟩ := get_ex (xs := l) (k := k) (by omega)
    have hcm := List.mem_of_getElem? hc
    have hlt := lt_of hc
    obtain ⟨g1, hx, g4, g5, g6, g7, _⟩ := cell_par h hcm
    rw [drop_cons hc, drop_cons hv] at hP hA ⊢
    simp only [wAll, allIn, Bool.and_eq_true] at hP hA ⊢
    obtain ⟨hI, hA⟩ := hA
    obtain ⟨a, b⟩ := wi_iff.1 hI
    obtain ⟨e1, e2, e3, e4⟩ := enc_nat h hcm hI
    have e5 : ((k : Nat) : Int) + 1 = ((k + 1 : Nat) : Int) := by push_cast; rfl
    rw [loop_eq]
    simp only [t2_mk, ref2_Pack_L3, hlt, decide_true, if_true, idx_of hc, Option.bind_some, g1, idx_of hv, rencode_s hx a b, bits_eq, bits_s hx.len, g7]
    rw [← e1, rput_s g4 g6 e3 out hP.left, i64s (by omega) (by omega), e5]
    have := ih (k + 1) _ (by omega) hA hP.app
    rw [← wrF_app] at this
    exact this
def outP (m : api_Map) (l : List Int) : Vector (List Int) 16 × Int :=
  if chkM m = 0 then (if (allC 0 m.Params).length = l.length then (if allIn m (allC 0 m.Params) l = true then (wrF (out0 m) (wAll m (allC 0 m.Params) l), 0) else (Vector.replicate 16 [], 9)) else (Vector.replicate 16 [], 3)) else (Vector.replicate 16 [], chkM m)
theorem Pack_s (m : api_Map) (l : List Int) : layout_Pack m l = some (outP m l) := by
  obtain ⟨a, hc⟩ := check_s m
  unfold layout_Pack outP
  rw [hc, Option.bind_some]
  by_cases h : chkM m = 0
  · have hm := map_ok h
    rw [if_neg (by simp [h]), if_pos h, acells_s hm, Option.bind_some]
    by_cases hl : (allC 0 m.Params).length = l.length
    · have hl' : ((l.length : Nat) : Int) = ((allC 0 m.Params).length : Int) := by omega
      rw [if_neg (by simpa using hl'), if_pos hl, init_s]
      simp only [Option.bind_some, t1]
      have := pack_loop hm hl l.length 0 (out0 m) (by omega) (pre0 hm hl)
      have this' : loop (t2 (layout_Pack_L2 m l (allC 0 m.Params))) (out0 m, 0) = _ := this
      rw [this', List.drop_zero, List.drop_zero]
      cases allIn m (allC 0 m.Params) l <;> rfl
    · have hl' : ¬ ((l.length : Nat) : Int) = ((allC 0 m.Params).length : Int) := by omega
      rw [if_pos (by simpa using hl'), if_neg hl]
  · rw [if_pos (neq_s h), if_neg h]
theorem rPack_s (m : api_Map) (l : List Int) (hs : wf_api_Map m) : ref2_Pack m l = some (outP m l) := by
  obtain ⟨a, hc⟩ := rcheck_s m hs
  unfold ref2_Pack outP
  rw [hc, Option.bind_some]
  by_cases h : chkM m = 0
  · have hm := map_ok h
    rw [if_neg (by simp [h]), if_pos h, racells_s hm, Option.bind_some]
    by_cases hl : (allC 0 m.Params).length = l.length
    · have hl' : ((l.length : Nat) : Int) = ((allC 0 m.Params).length : Int) := by omega
      rw [if_neg (by simpa using hl'), if_pos hl, chk_in hm hl]
      cases hA : allIn m (allC 0 m.Params) l with
      | false => rfl
      | true =>
        simp only [cond_true, Option.bind_some, Sum.elim_inr, t0, init_eq, init_s, t1, if_true]
        have := rpack_loop hm hl l.length 0 (out0 m) (by omega) (by simpa using hA) (pre0 hm hl)
        have this' : loop (t2 (ref2_Pack_L3 m l (allC 0 m.Params))) (out0 m, 0) = _ := this
        rw [this', List.drop_zero, List.drop_zero]
        rfl
    · have hl' : ¬ ((l.length : Nat) : Int) = ((allC 0 m.Params).length : Int) := by omega
      rw [if_pos (by simpa using hl'), if_neg hl]
  · rw [if_pos (neq_s h), if_neg h]
end Go.Vx

namespace Go.Vx
open Go Go.RowKit
theorem eqI_s {l : List Int} (hl : l.length ≤ 9223372036854775807) : slices_Equal_int_int l l = some true := by
  unfold slices_Equal_int_int
  rw [if_neg (by simp)]
  have hL := loop_find (xs := l) (fun _ => (none : Option Unit)) (fun _ => (Sum.inl false : Bool ⊕ Unit)) (Sum.inr ()) (body := slices_Equal_int_int_L1 l l) (fun k x hx => by
    have hlt := lt_of hx
    simp only [slices_Equal_int_int_L1, hlt, decide_true, if_true, idx_of hx, Option.bind_some]
    rw [i64s (by omega) (by omega)]
    simp) (by simp [slices_Equal_int_int_L1])
  rw [hL]
  have fl : ∀ l : List Int, findL (fun _ : Int => (none : Option Unit)) l = none := by
    intro l
    induction l with
    | nil => rfl
    | cons x l ih => exact ih
  rw [fl]; rfl
theorem sameD_s {v : Vector (List Int) 16} (hv : ∀ x ∈ v.toList, x.length ≤ 100) : law2_sameData v v = some true := by
  have h16 : v.toList.length = 16 := by simp
  have hL := loop_find (xs := v.toList) (fun _ => (none : Option Unit)) (fun _ => (Sum.inl false : Bool ⊕ Unit)) (Sum.inr ()) (body := law2_sameData_L1 v v) (fun k x hx => by
    have hlt : (k : Int) < 16 := by have := lt_of hx; omega
    have := hv x (List.mem_of_getElem? hx)
    simp only [law2_sameData_L1, hlt, decide_true, if_true, vidx_of hx, Option.bind_some, eqI_s (show x.length ≤ 9223372036854775807 by omega)]
    rw [i64s (by omega) (by omega)]
    rfl) (by rw [h16]; simp [law2_sameData_L1])
  unfold law2_sameData
  rw [hL]
  have fl : ∀ l : List (List Int), findL (fun _ : List Int => (none : Option Unit)) l = none := by
    intro l
    induction l with
    | nil => rfl
    | cons x l ih => exact ih
  rw [fl]; rfl
theorem wAll_mem {m : api_Map} : ∀ (cs : List api_Cell) (vs : List Int) (k : Nat) (c : api_Cell) (v : Int), cs[k]? = some c → vs[k]? = some v → (∀ w ∈ wcell m c v, w ∈ wAll m cs vs) ∧ (allIn m cs vs = true → inV m c v = true)
  | [], _, k, c, v, h, _ => by simp at h
  | _ :: _, [], k, c, v, _, h => by simp at h
  | a :: cs, b :: vs, k, c, v, h1, h2 => by
    cases k with
    | zero =>
      simp at h1 h2
      subst h1 h2
      exact ⟨fun w hw => List.mem_append_left _ hw, fun h => by simp only [allIn, Bool.and_eq_true] at h; exact h.1⟩
    | succ k =>
      obtain ⟨g1, g2⟩ := wAll_mem (m := m) cs vs k c v (by simpa using h1) (by simpa using h2)
      exact ⟨fun w hw => List.mem_append_right _ (g1 w hw), fun h => by simp only [allIn, Bool.and_eq_true] at h; exact g2 h.2⟩
theorem final_s {m : api_Map} (h : MapOK m) {l : List Int} (hl : (allC 0 m.Params).length = l.length) : Pre (wrF (out0 m) (wAll m (allC 0 m.Params) l)) [] m.Version :=
  Pre.app (W2 := []) (by rw [List.append_nil]; exact pre0 h hl)
theorem read_s {m : api_Map} (h : MapOK m) {l : List Int} (hl : (allC 0 m.Params).length = l.length) (hA : allIn m (allC 0 m.Params) l = true) {k : Nat} {c : api_Cell} {v : Int} (hc : (allC 0 m.Params)[k]? = some c) (hv : l[k]? = some v) :
    (rdC m (wrF (out0 m) (wAll m (allC 0 m.Params) l)) c).Value = v ∧ (rdC m (wrF (out0 m) (wAll m (allC 0 m.Params) l)) c).Good = true := by
  have hcm := List.mem_of_getElem? hc
  obtain ⟨w1, w2⟩ := wAll_mem (m := m) _ _ k c v hc hv
  have hI := w2 hA
  obtain ⟨e1, e2, e3, e4⟩ := enc_nat h hcm hI
  have hr := rawF_wc (l := wrF (out0 m) (wAll m (allC 0 m.Params) l)) (enc (parOf m c) v).toNat c.Places 0 (fun w hw => wrF_has (pre0 h hl) w (w1 w hw))
  rw [Nat.zero_mul, Nat.zero_add, Nat.mod_eq_of_lt e2] at hr
  obtain ⟨x, _, g2, _⟩ := cell_facts h (wrF (out0 m) (wAll m (allC 0 m.Params) l)) hcm
  have hx : parOf m c = x := by unfold parOf; rw [g2]; rfl
  have : rdC m (wrF (out0 m) (wAll m (allC 0 m.Params) l)) c = ⟨c.Param, c.Index, (dec x ((rawF (wrF (out0 m) (wAll m (allC 0 m.Params) l)) 0 c.Places : Nat) : Int)).1, (dec x ((rawF (wrF (out0 m) (wAll m (allC 0 m.Params) l)) 0 c.Places : Nat) : Int)).2⟩ := by
    simp only [rdC, g2]
  rw [this, hr, e1, ← hx, e4]
  exact ⟨rfl, rfl⟩
theorem outP_len (m : api_Map) (l : List Int) : ∀ x ∈ (outP m l).1.toList, x.length ≤ 100 := by
  have hz : ∀ x ∈ (Vector.replicate 16 ([] : List Int)).toList, x.length ≤ 100 := by
    intro x hx
    have : x = [] := by simpa using hx
    rw [this]; simp
  unfold outP
  split
  · rename_i h
    split
    · rename_i hl
      split
      · intro x hx
        have := ((final_s (map_ok h) hl).dat x hx).1
        omega
      · exact hz
    · exact hz
  · exact hz
theorem law_LPack (m : api_Map) (l : List Int) (hs : wf_api_Map m) : law2_LayoutPackMatchesSpec m l = some true := by
  unfold law2_LayoutPackMatchesSpec
  rw [Pack_s, rPack_s m l hs]
  simp only [Option.bind_some, sameD_s (outP_len m l), mapped_s, Unpack_s, decide_true, Bool.not_true, beq_self_eq_true, gd_t, Bool.or_self, Bool.false_eq_true, if_false]
  by_cases hz : (outP m l).2 = 0
  case neg => rw [if_pos (neq_s hz)]
  rw [if_neg (by simp [hz])]
  have h3 : chkM m = 0 ∧ (allC 0 m.Params).length = l.length ∧ allIn m (allC 0 m.Params) l = true := by
    unfold outP at hz
    split at hz
    · rename_i h
      split at hz
      · rename_i hl
        split at hz
        · rename_i hA
          exact ⟨h, hl, hA⟩
        · cases hz
      · cases hz
    · exact absurd hz (by assumption)
  obtain ⟨hM, hl, hA⟩ := h3
  have hm := map_ok hM
  have hcnt := hm.cnt
  have eP : (outP m l).1 = wrF (out0 m) (wAll m (allC 0 m.Params) l) := by
    unfold outP
    rw [if_pos hM, if_pos hl, if_pos hA]
  have hF := final_s hm hl
  have eN : outN m (wrF (out0 m) (wAll m (allC 0 m.Params) l)) = ((allC 0 m.Params).map (rdC m (wrF (out0 m) (wAll m (allC 0 m.Params) l))), 0) := by
    unfold outN
    have g2 : findL (gV m.Version) (wrF (out0 m) (wAll m (allC 0 m.Params) l)).toList = none := by
      rw [findL_none_iff]
      intro x hx
      unfold gV
      rw [if_pos (hF.ver x hx)]
    rw [if_pos hM, gD_none hF.dat, g2]; rfl
  rw [eP, eN]
  rw [if_neg (by simp [hl])]
  have hL := loop_find (xs := allC 0 m.Params) (fun _ => (none : Option Unit)) (fun _ => (Sum.inl false : Bool ⊕ Unit)) (Sum.inr ()) (body := law2_LayoutPackMatchesSpec_L1 l ((allC 0 m.Params).map (rdC m (wrF (out0 m) (wAll m (allC 0 m.Params) l))), 0)) (fun k c hc => by
    have hlt : (k : Int) < (((allC 0 m.Params).map (rdC m (wrF (out0 m) (wAll m (allC 0 m.Params) l)))).length : Int) := by have := lt_of hc; simpa using this
    have hkb : k < 4000 := by have := lt_of hc; omega
    obtain ⟨v, hv⟩ := get_ex (xs := l) (k := k) (by have := lt_of hc; omega)
    have i1 : idx ((allC 0 m.Params).map (rdC m (wrF (out0 m) (wAll m (allC 0 m.Params) l)))) (k : Int) = some (rdC m (wrF (out0 m) (wAll m (allC 0 m.Params) l)) c) := idx_of (by rw [List.getElem?_map, hc]; rfl)
    obtain ⟨r1, r2⟩ := read_s hm hl hA hc hv
    simp only [law2_LayoutPackMatchesSpec_L1, hlt, decide_true, if_true, i1, idx_of hv, Option.bind_some, r1, r2]
    rw [i64s (by omega) (by omega)]
    simp) (by simp [law2_LayoutPackMatchesSpec_L1])
  rw [hL]
  have fl : ∀ xs : List api_Cell, findL (fun _ : api_Cell => (none : Option Unit)) xs = none := by
    intro xs
    induction xs with
    | nil => rfl
    | cons x l ih => exact ih
  rw [fl]; rfl
end Go.Vx
