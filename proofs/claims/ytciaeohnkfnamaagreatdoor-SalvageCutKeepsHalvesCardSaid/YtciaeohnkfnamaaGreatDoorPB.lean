/- A text of the proof: a verified executor of the program form, or the contracts of the functions that the law reaches. -/
import Derived.Test.YtciaeohnkfnamaaGreatDoorPA
set_option linter.all false
namespace Go.Vx
open Go Go.RowKit
theorem Length_s {p : api_Piece} (hu : u8L p.Bytes) : salvage_Length p = some (if chkP p = 0 then ((hv p).length : Int) else 0, chkP p) := by
  unfold salvage_Length
  rw [CheckPiece_s p hu, Option.bind_some]
  by_cases h : chkP p = 0
  · rw [if_neg (by simp [h]), if_pos h, length_s h, Option.bind_some, h]
  · rw [if_pos (by simp [h]), if_neg h]
def outHalf (p : api_Piece) (i : Int) : Int × Int := if chkP p = 0 then (if i < 0 ∨ ((hv p).length : Int) ≤ i then (0, 9) else ((hv p).getD i.toNat 0, 0)) else (0, chkP p)
theorem HalfAt_s {p : api_Piece} (hu : u8L p.Bytes) (i : Int) : salvage_HalfAt p i = some (outHalf p i) := by
  unfold salvage_HalfAt outHalf
  rw [CheckPiece_s p hu, Option.bind_some]
  by_cases h : chkP p = 0
  · rw [if_neg (by simp [h]), if_pos h, length_s h]
    have hl := hv_le h
    have hbl := (chk_ok h).1
    by_cases h1 : i < 0
    · rw [if_pos (.inl h1)]
      simp [h1]
    · simp only [h1, decide_false, beq_self_eq_true, gd_t, Option.bind_some, Bool.false_or, false_or]
      by_cases h2 : ((hv p).length : Int) ≤ i
      · rw [if_pos (by simpa using h2), if_pos h2]
      · rw [if_neg (by simpa using h2), if_neg h2]
        obtain ⟨k, rfl⟩ : ∃ k : Nat, i = k := ⟨i.toNat, by omega⟩
        obtain ⟨x, hx⟩ := get_ex (xs := hv p) (k := k) (by omega)
        have hxb := hv_bd hu x (List.mem_of_getElem? hx)
        have hx' := hx
        rw [hv_eq, List.getElem?_drop] at hx'
        have e : i64 ((k : Int) + (ahN p : Int)) = ((ahN p + k : Nat) : Int) := by rw [i64v (by omega) (by have := (ah_le h).1; omega)]; push_cast; omega
        rw [ahead_s, Option.bind_some, e, halfOf_s hu hbl hx', Option.bind_some, i64v (by omega) (by omega), Int.toNat_natCast, getD_of hx]
  · rw [if_pos (by simp [h]), if_neg h]
theorem rHalfAt_s {p : api_Piece} (hu : u8L p.Bytes) (i : Int) : ref4_HalfAt p i = some (outHalf p i) := by
  unfold ref4_HalfAt outHalf
  rw [rCheckPiece_s p hu, Option.bind_some]
  by_cases h : chkP p = 0
  · have hl := hv_le h
    rw [if_neg (by simp [h]), if_pos h, rHalves_s hu (chk_ok h).1, Option.bind_some]
    by_cases h1 : i < 0 ∨ ((hv p).length : Int) ≤ i
    · rw [if_pos h1, if_pos (by simpa using h1)]
    · rw [if_neg h1, if_neg (by simpa using h1)]
      obtain ⟨k, rfl⟩ : ∃ k : Nat, i = k := ⟨i.toNat, by omega⟩
      obtain ⟨x, hx⟩ := get_ex (xs := hv p) (k := k) (by omega)
      have hxb := hv_bd hu x (List.mem_of_getElem? hx)
      rw [idx_of hx, Option.bind_some, i64v (by omega) (by omega), Int.toNat_natCast, getD_of hx]
  · rw [if_pos (by simp [h]), if_neg h]
theorem hvB_pk {Z : List Int} (h : hL Z) : hvB (pk Z) = Z ++ (if Z.length % 2 = 1 then [0] else []) := by
  refine List.ext_getElem? fun j => ?_
  have hlen : (pk Z).length = (Z.length + 1) / 2 := by unfold pk; simp
  have hg : ∀ k, k < (Z.length + 1) / 2 → (pk Z)[k]? = some (16 * Z.getD (2 * k) 0 + Z.getD (2 * k + 1) 0) := fun k hk => by
    unfold pk; rw [List.getElem?_map, List.getElem?_range hk]; rfl
  have hR : ∀ j, j < Z.length → (Z ++ (if Z.length % 2 = 1 then [0] else []))[j]? = some (Z.getD j 0) := fun j hj => by
    rw [List.getElem?_append_left hj]
    obtain ⟨x, hx⟩ := get_ex hj
    rw [hx, getD_of hx]
  have hlast : ∀ j, Z.length ≤ j → Z.getD j 0 = 0 := fun j hj => by rw [List.getD_eq_getElem?_getD, List.getElem?_eq_none hj]; rfl
  by_cases hj : j < 2 * ((Z.length + 1) / 2)
  · have hk := hg (j / 2) (by omega)
    obtain ⟨g1, g2⟩ := hvB_get hk
    have b1 := hL_getD h (2 * (j / 2))
    have b2 := hL_getD h (2 * (j / 2) + 1)
    have e1 : (16 * Z.getD (2 * (j / 2)) 0 + Z.getD (2 * (j / 2) + 1) 0) / 16 = Z.getD (2 * (j / 2)) 0 := by omega
    have e2 : (16 * Z.getD (2 * (j / 2)) 0 + Z.getD (2 * (j / 2) + 1) 0) % 16 = Z.getD (2 * (j / 2) + 1) 0 := by omega
    rw [e1] at g1
    rw [e2] at g2
    have hL' : (hvB (pk Z))[j]? = some (Z.getD j 0) := by
      rcases Nat.mod_two_eq_zero_or_one j with hm | hm
      · have : 2 * (j / 2) = j := by omega
        rw [this] at g1; exact g1
      · have : 2 * (j / 2) + 1 = j := by omega
        rw [this] at g2; exact g2
    rw [hL']
    by_cases hjl : j < Z.length
    · rw [hR j hjl]
    · have hjz : j = Z.length := by omega
      rw [hlast j (by omega), List.getElem?_append_right (by omega), if_pos (by omega)]
      subst hjz; simp
  · rw [List.getElem?_eq_none (by rw [hvB_len, hlen]; omega), List.getElem?_eq_none]
    rw [List.length_append]
    split <;> simp <;> omega
theorem hL_padF {H : List Int} (h : hL H) (f t : Nat) : hL (padF H f t) := by
  intro x hx
  unfold padF at hx
  rcases List.mem_append.1 hx with hx | hx
  · split at hx
    · simp at hx; subst hx; exact ⟨by decide, by decide⟩
    · cases hx
  · exact h x (List.mem_of_mem_take (List.mem_of_mem_drop hx))
theorem cut_facts {p : api_Piece} (hu : u8L p.Bytes) (h : chkP p = 0) {f t : Nat} (hft : f ≤ t) (ht : t ≤ (hv p).length) :
    u8L (cutP p f t).Bytes ∧ chkP (cutP p f t) = 0 ∧ hv (cutP p f t) = ((hv p).take t).drop f ++ (if f < t ∧ (t + ahN p) % 2 = 1 then [0] else []) := by
  have hbl := (chk_ok h).1
  have hlen := hv_len p
  have ha := ah_le h
  unfold cutP
  by_cases hab : f = t
  · subst hab
    rw [if_pos rfl]
    refine ⟨(fun x hx => by cases hx), (by unfold chkP; simp), ?_⟩
    simp [hv, hvB]
  · rw [if_neg hab]
    have hH := hL_padF (hvB_bd hu) (f + ahN p) (t + ahN p)
    have hpl : (padF (hvB p.Bytes) (f + ahN p) (t + ahN p)).length = (f + ahN p) % 2 + (t - f) := by rw [padF_len (by omega) (by rw [hvB_len]; omega)]; omega
    have hpk := hvB_pk hH
    have hpkl : (pk (padF (hvB p.Bytes) (f + ahN p) (t + ahN p))).length = ((f + ahN p) % 2 + (t - f) + 1) / 2 := by unfold pk; rw [List.length_map, List.length_range, hpl]
    refine ⟨?_, ?_, ?_⟩
    · intro x hx
      obtain ⟨k, _, rfl⟩ := List.mem_map.1 hx
      have b1 := hL_getD hH (2 * k)
      have b2 := hL_getD hH (2 * k + 1)
      omega
    · unfold chkP
      rw [if_neg (by simp only [hpkl]; omega)]
      by_cases ho : (f + ahN p) % 2 = 1
      · have hlow : lowB (pk (padF (hvB p.Bytes) (f + ahN p) (t + ahN p))) = true := by
          obtain ⟨x, hx⟩ := get_ex (xs := pk (padF (hvB p.Bytes) (f + ahN p) (t + ahN p))) (k := 0) (by rw [hpkl]; omega)
          have hg : (pk (padF (hvB p.Bytes) (f + ahN p) (t + ahN p)))[0]? = some (16 * (padF (hvB p.Bytes) (f + ahN p) (t + ahN p)).getD (2 * 0) 0 + (padF (hvB p.Bytes) (f + ahN p) (t + ahN p)).getD (2 * 0 + 1) 0) := by
            unfold pk; rw [List.getElem?_map, List.getElem?_range (by rw [hpl]; omega)]; rfl
          have e0 : (padF (hvB p.Bytes) (f + ahN p) (t + ahN p)).getD (2 * 0) 0 = 0 := by rw [padF_get, if_pos ⟨ho, rfl⟩]
          have b2 := hL_getD hH (2 * 0 + 1)
          rw [e0] at hg
          generalize (padF (hvB p.Bytes) (f + ahN p) (t + ahN p)).getD (2 * 0 + 1) 0 = z at hg b2
          cases hq : pk (padF (hvB p.Bytes) (f + ahN p) (t + ahN p)) with
          | nil => rw [hq] at hg; cases hg
          | cons y tl => rw [hq] at hg; simp at hg; simp only [lowB]; subst hg; simp; omega
        rw [hlow]; simp
      · simp [ho]
    · unfold hv
      simp only
      have eT : ((hvB p.Bytes).take (t + ahN p)).drop (f + ahN p) = ((hv p).take t).drop f := by
        rw [hv_eq, List.take_drop, List.drop_drop, show ahN p + t = t + ahN p by omega, show ahN p + f = f + ahN p by omega]
      have hodd : ((padF (hvB p.Bytes) (f + ahN p) (t + ahN p)).length % 2 = 1) ↔ (f < t ∧ (t + ahN p) % 2 = 1) := by rw [hpl]; omega
      by_cases ho : (f + ahN p) % 2 = 1
      · rw [if_pos (by simpa using ho), hpk]
        simp only [hodd]
        unfold padF
        rw [if_pos ho]
        simp only [List.singleton_append, List.cons_append, List.drop_succ_cons, List.drop_zero]
        rw [eT]; rfl
      · rw [if_neg (by simpa using ho), hpk]
        simp only [hodd]
        unfold padF
        rw [if_neg ho]
        simp only [List.nil_append]
        rw [eT]; rfl
theorem law_VCut (p : api_Piece) (f t : Int) (hs : wf_api_Piece p) (hf : wfI .i64 f) (ht : wfI .i64 t) : law4_SalvageCutKeepsHalves p f t = some true := by
  have hu := wf_bytes hs
  unfold law4_SalvageCutKeepsHalves
  rw [Cut_s hu, Option.bind_some]
  have bf := wf_i64V hf
  have bt := wf_i64V ht
  by_cases hz : (outCut p f t).2 = 0
  · rw [if_neg (by simp [hz])]
    have hchk : chkP p = 0 := by
      unfold outCut at hz
      by_cases h : chkP p = 0
      · exact h
      · rw [if_neg h] at hz; exact hz
    have hr : ¬ (f < 0 ∨ t < f ∨ ((hv p).length : Int) < t) := by
      intro hc
      unfold outCut at hz
      rw [if_pos hchk, if_pos hc] at hz
      cases hz
    have ho : outCut p f t = (cutP p f.toNat t.toNat, 0) := by unfold outCut; rw [if_pos hchk, if_neg hr]
    rw [ho]
    obtain ⟨a, rfl⟩ : ∃ a : Nat, f = a := ⟨f.toNat, by omega⟩
    obtain ⟨b, rfl⟩ : ∃ b : Nat, t = b := ⟨t.toNat, by omega⟩
    rw [Int.toNat_natCast, Int.toNat_natCast]
    obtain ⟨c1, c2, c3⟩ := cut_facts hu hchk (f := a) (t := b) (by omega) (by omega)
    have hle := hv_le hchk
    generalize cutP p a b = q at c1 c2 c3
    have hql : (hv q).length = (b - a) + (if a < b ∧ (b + ahN p) % 2 = 1 then 1 else 0) := by
      rw [c3, List.length_append, List.length_drop, List.length_take]
      split <;> simp <;> omega
    have hqb : (hv q).length = b - a ∨ (hv q).length = b - a + 1 := by rw [hql]; split <;> omega
    rw [Length_s c1, Option.bind_some, if_pos c2, c2]
    simp only
    have e1 : i64 ((b : Int) - (a : Int)) = ((b - a : Nat) : Int) := by rw [i64v (by omega) (by omega)]; omega
    have e2 : i64 (((b - a : Nat) : Int) + 1) = ((b - a + 1 : Nat) : Int) := by rw [i64v (by omega) (by omega)]; push_cast; rfl
    rw [e1, e2, if_neg (by simp only [Bool.or_eq_true, decide_eq_true_eq, Bool.not_eq_true', decide_eq_false_iff_not, not_true_eq_false, false_or, not_or, Int.not_lt]; rcases hqb with h | h <;> rw [h] <;> constructor <;> omega)]
    have := loop_ix1 (xs := hv q) (body := law4_SalvageCutKeepsHalves_L1 p (a : Int) (b : Int) (q, 0) (((hv q).length : Int), 0)) (fun _ => (Sum.inr () : Bool ⊕ Unit)) (fun k x hx => by
      have hk := (List.getElem?_eq_some_iff.1 hx).1
      have hlt := lt_of hx
      left
      refine ⟨?_, rfl⟩
      unfold law4_SalvageCutKeepsHalves_L1
      rw [if_pos (by simpa using hlt)]
      simp only
      rw [HalfAt_s c1, Option.bind_some]
      have hoh : outHalf q (k : Int) = (x, 0) := by
        unfold outHalf
        rw [if_pos c2, if_neg (by omega), Int.toNat_natCast, getD_of hx]
      rw [hoh, if_neg (by simp), e1]
      by_cases hkk : k < b - a
      · rw [if_pos (by simp; omega)]
        have e3 : i64 ((a : Int) + (k : Int)) = ((a + k : Nat) : Int) := by rw [i64v (by omega) (by omega)]; push_cast; rfl
        rw [e3, rHalfAt_s hu, Option.bind_some, Option.bind_some, t1_mk]
        have hxp : (hv p)[a + k]? = some x := by
          rw [c3, List.getElem?_append_left (by simp; omega), List.getElem?_drop, List.getElem?_take, if_pos (by omega)] at hx
          exact hx
        have : outHalf p ((a + k : Nat) : Int) = (x, 0) := by
          unfold outHalf
          rw [if_pos hchk, if_neg (by omega), Int.toNat_natCast, getD_of hxp]
        rw [this, if_neg (by simp), i64v (by omega) (by omega)]
      · rw [if_neg (by simp; omega), Option.bind_some, t1_mk]
        have hx0 : x = 0 := by
          rw [c3, List.getElem?_append_right (by simp; omega)] at hx
          have := List.mem_of_getElem? hx
          split at this
          · simpa using this
          · cases this
        rw [hx0, if_neg (by simp), i64v (by omega) (by omega)]) (by
      unfold law4_SalvageCutKeepsHalves_L1
      rw [if_neg (by simp)])
    rw [this]
    simp [saved_s]
  · rw [if_pos (by simp [hz]), saved_s]; rfl
end Go.Vx
