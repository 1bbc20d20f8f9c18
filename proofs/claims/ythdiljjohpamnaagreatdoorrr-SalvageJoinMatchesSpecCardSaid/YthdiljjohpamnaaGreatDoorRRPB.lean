/- A text of the proof: a verified executor of the program form, or the contracts of the functions that the law reaches. -/
import Derived.Test.YthdiljjohpamnaaGreatDoorRRPA
set_option linter.all false
namespace Go.Vx
open Go Go.RowKit
theorem loop_pq {ρ : Type} {body : Int → Option (Int ⊕ ρ)} {c0 c1 : Int} {A : Int → ρ} {Z : ρ} (h0 : body 0 = if (!decide (c0 = 0)) = true then some (.inr (A c0)) else some (.inl 1))
    (h1 : body 1 = if (!decide (c1 = 0)) = true then some (.inr (A c1)) else some (.inl 2)) (h2 : body 2 = some (.inr Z)) : loop (t1 body) 0 = some (if c0 = 0 then (if c1 = 0 then Z else A c1) else A c0) := by
  rw [loop_eq, t1_mk, h0]
  by_cases e0 : c0 = 0
  · rw [if_neg (by simp [e0]), if_pos e0, Option.bind_some, Sum.elim_inl, loop_eq, t1_mk, h1]
    by_cases e1 : c1 = 0
    · rw [if_neg (by simp [e1]), if_pos e1, Option.bind_some, Sum.elim_inl, loop_eq, t1_mk, h2]; rfl
    · rw [if_pos (by simp [e1]), if_neg e1]; rfl
  · rw [if_pos (by simp [e0]), if_neg e0]; rfl
theorem ofBytes_inj : ∀ {l m : List Int}, (∀ x ∈ l, 0 ≤ x ∧ x ≤ 255) → (∀ x ∈ m, 0 ≤ x ∧ x ≤ 255) → ofBytes l = ofBytes m → l = m
  | [], [], _, _, _ => rfl
  | [], _ :: _, _, _, h => by simp [ofBytes] at h
  | _ :: _, [], _, _, h => by simp [ofBytes] at h
  | a :: l, b :: m, h1, h2, h => by
    simp only [ofBytes, List.map_cons, List.cons.injEq] at h
    have ha := h1 a (by simp)
    have hb := h2 b (by simp)
    have e := congrArg UInt8.toNat h.1
    simp only [UInt8.toNat_ofNat'] at e
    have hab : a = b := by omega
    rw [hab, ofBytes_inj (fun x hx => h1 x (by simp [hx])) (fun x hx => h2 x (by simp [hx])) h.2]
def pfv (p q : api_Piece) : Int := if chkP p = 0 then chkP q else chkP p
theorem pf_s {p q : api_Piece} (hp : u8L p.Bytes) (hq : u8L q.Bytes) : ref4_piecesFault [p, q] = some (pfv p q) := by
  unfold ref4_piecesFault
  rw [if_neg (by simp)]
  rw [loop_pq (c0 := chkP p) (c1 := chkP q) (A := .inl) (Z := .inr ())
    (by unfold ref4_piecesFault_L1; simp [idx, rCheckPiece_s p hp]; split <;> simp_all <;> rfl)
    (by unfold ref4_piecesFault_L1; simp [idx, rCheckPiece_s q hq]; split <;> simp_all <;> rfl)
    (by unfold ref4_piecesFault_L1; simp)]
  unfold pfv
  by_cases h0 : chkP p = 0
  · by_cases h1 : chkP q = 0
    · simp [h0, h1]
    · simp [h0, h1]
  · simp [h0]
theorem pair_loop {ρ : Type} {p q : api_Piece} (hp : u8L p.Bytes) (hq : u8L q.Bytes) {A : Int → ρ} {body : Int → Option (Int ⊕ ρ ⊕ Unit)}
    (hb : ∀ i : Int, body i = if (decide (i < (([p, q] : List api_Piece).length : Int))) = true then (idx ([p, q] : List api_Piece) i).bind fun x => (salvage_CheckPiece x).bind fun y => if (!decide (y = 0)) = true then some (.inr (.inl (A y))) else some (.inl (i64 (i + 1))) else some (.inr (.inr ()))) :
    loop (t1 body) 0 = some (if pfv p q = 0 then .inr () else .inl (A (pfv p q))) := by
  rw [loop_pq (c0 := chkP p) (c1 := chkP q) (A := fun y => .inl (A y)) (Z := .inr ())
    (by rw [hb]; simp [idx, CheckPiece_s p hp]; split <;> simp_all <;> rfl)
    (by rw [hb]; simp [idx, CheckPiece_s q hq]; split <;> simp_all <;> rfl)
    (by rw [hb]; simp)]
  unfold pfv
  by_cases h0 : chkP p = 0 <;> by_cases h1 : chkP q = 0 <;> simp [h0, h1]
def jnv (p q : api_Piece) : api_Piece × Int :=
  if pfv p q ≠ 0 then (api_Piece.mk [] false, pfv p q) else if q.Half = true then (api_Piece.mk [] false, 2) else if 200000 < p.Bytes.length + q.Bytes.length then (api_Piece.mk [] false, 3) else (api_Piece.mk (p.Bytes ++ q.Bytes) p.Half, 0)
theorem pf_ok {p q : api_Piece} (h : pfv p q = 0) : chkP p = 0 ∧ chkP q = 0 := by
  unfold pfv at h
  by_cases h0 : chkP p = 0
  · rw [if_pos h0] at h; exact ⟨h0, h⟩
  · rw [if_neg h0] at h; exact (h0 h).elim
theorem jtail {p q : api_Piece} (h : pfv p q = 0) : (if q.Half = true then
  some ((api_Piece.mk [] false), (2 : Int))
  else
  if (decide (200000 < (i64 ((p.Bytes.length : Int) + (q.Bytes.length : Int))))) = true then
  some ((api_Piece.mk [] false), 3)
  else
  (app ([] : List Int) p.Bytes).bind fun l =>
  (app l q.Bytes).bind fun l2 =>
  some ((api_Piece.mk l2 p.Half), 0)) = some (jnv p q) := by
  obtain ⟨h1, h2⟩ := pf_ok h
  have b1 := (chk_ok h1).1
  have b2 := (chk_ok h2).1
  unfold jnv
  rw [if_neg (show ¬ (pfv p q ≠ 0) from fun hc => hc h)]
  by_cases hh : q.Half = true
  · rw [if_pos hh, if_pos hh]
  · rw [if_neg hh, if_neg hh, i64v (by omega) (by omega)]
    by_cases hl : 200000 < p.Bytes.length + q.Bytes.length
    · rw [if_pos (by simp; omega), if_pos hl]
    · rw [if_neg (by simp; omega), if_neg hl, app_of (by simp; omega), Option.bind_some, app_of (by simp; omega)]
      rfl
theorem Join_s {p q : api_Piece} (hp : u8L p.Bytes) (hq : u8L q.Bytes) : salvage_Join p q = some (jnv p q) ∧ ref4_Join p q = some (jnv p q) := by
  constructor
  · unfold salvage_Join
    rw [pair_loop (A := fun y => (api_Piece.mk [] false, y)) hp hq (fun i => by unfold salvage_Join_L1; rfl)]
    by_cases h : pfv p q = 0
    · rw [if_pos h, Option.bind_some, Sum.elim_inr, t0_mk, jtail h]
    · rw [if_neg h]; unfold jnv; rw [if_pos h]; rfl
  · unfold ref4_Join
    rw [pf_s hp hq, Option.bind_some]
    by_cases h : pfv p q = 0
    · rw [if_neg (by simp [h]), jtail h]
    · rw [if_pos (by simp [h])]; unfold jnv; rw [if_pos h]
theorem over_loop {b a : List Int} {out : List Int} (hb : b.length ≤ 1000000) (ha : a.length ≤ 1000000) (hout : ∀ j : Nat, j < b.length → out[j]? = some (bd b (j + 1) : Int)) :
    loop (t2 (salvage_Overlap_L2 b out a)) (0, 0) = some (mx b a : Int) := by
  have e0 : mx b (a.take 0) = 0 := mx_eq (by rw [List.take_zero]; exact isMax_nil b)
  have h : loop (t2 (salvage_Overlap_L2 b out a)) (((mx b (a.take 0) : Nat) : Int), ((0 : Nat) : Int)) = some (mx b a : Int) := by
   refine loop_st (body := salvage_Overlap_L2 b out a) (fun k => ((mx b (a.take k) : Nat) : Int)) (mx b a : Int) (a := 0) (b := a.length) (Nat.zero_le _) (fun k _ hk => ?_) ?_
   · obtain ⟨x, hx⟩ := get_ex hk
     unfold salvage_Overlap_L2
     rw [if_pos (by simp; omega), idx_of hx, Option.bind_some]
     have hinner := kmp_inner (b := b) (t := a.take k) (x := x) (body := salvage_Overlap_L3 b out x) (mx b (a.take k)) (by
       intro n hp _
       have hnb := hp.2.1
       unfold salvage_Overlap_L3
       by_cases h0 : 0 < n
       · have hjo := hout (n - 1) (by omega)
         rw [show n - 1 + 1 = n by omega] at hjo
         have e : i64 ((n : Int) - 1) = ((n - 1 : Nat) : Int) := by rw [i64v (by omega) (by omega)]; omega
         by_cases hnl : n = b.length
         · rw [show (decide ((0 : Int) < (n : Int))) = true by simp; omega, show decide ((n : Int) = (b.length : Int)) = true by simp [hnl]]
           simp only [show ((true == true) && (true == false)) = false from rfl, gd_f, Option.bind_some, Bool.true_or, Bool.and_self, if_true]
           rw [e, idx_of hjo, Option.bind_some]
           exact ⟨fun _ => rfl, fun hc => (hc ⟨h0, by rw [List.getElem?_eq_none (by omega)]; simp⟩).elim⟩
         · obtain ⟨y, hy⟩ := get_ex (xs := b) (k := n) (by omega)
           rw [show (decide ((0 : Int) < (n : Int))) = true by simp; omega, show decide ((n : Int) = (b.length : Int)) = false by simp; omega]
           simp only [show ((true == true) && (false == false)) = true from rfl, gd_t, Bool.false_or, Bool.true_and]
           rw [idx_of hy, Option.bind_some]
           by_cases he : y = x
           · rw [if_neg (by simp [he])]
             exact ⟨fun hc => (hc.2 (by rw [hy, he])).elim, fun _ => rfl⟩
           · rw [if_pos (by simp [he]), e, idx_of hjo, Option.bind_some]
             exact ⟨fun _ => rfl, fun hc => (hc ⟨h0, by rw [hy]; simpa using he⟩).elim⟩
       · rw [show (decide ((0 : Int) < (n : Int))) = false by simp; omega]
         simp only [show ∀ z : Bool, ((false == true) && z) = false from fun _ => rfl, gd_f, Option.bind_some, Bool.false_and, Bool.false_eq_true, if_false]
         exact ⟨fun hc => (h0 hc.1).elim, fun _ => by simp⟩) (mx_spec _ _)
     obtain ⟨m, e1, e2, e3, e4, e5⟩ := hinner
     have hout' := kmp_out e2 e3 e4
     rw [e1, Option.bind_some, t1_mk]
     have htk : a.take (k + 1) = a.take k ++ [x] := by rw [List.take_succ, hx]; rfl
     have hml := (mx_le b (a.take k)).1
     rw [htk, hout']
     by_cases hmb : m < b.length
     · obtain ⟨y, hy⟩ := get_ex hmb
       rw [show decide ((m : Int) < (b.length : Int)) = true by simp; omega, gd_tt, idx_of hy, Option.bind_some, i64v (z := (k : Int) + 1) (by omega) (by omega)]
       by_cases hyx : y = x
       · rw [if_pos (by simp [hyx]), if_pos (by rw [hy, hyx]), i64v (by omega) (by omega)]; rfl
       · rw [if_neg (by simp [hyx]), if_neg (by rw [hy]; simpa using hyx)]
     · rw [show decide ((m : Int) < (b.length : Int)) = false by simp; omega]
       simp only [show (false == true) = false from rfl, gd_f, Option.bind_some, Bool.false_and, Bool.false_eq_true, if_false]
       rw [if_neg (by rw [List.getElem?_eq_none (by omega)]; simp), i64v (by omega) (by omega)]
   · unfold salvage_Overlap_L2
     rw [if_neg (by simp), List.take_length]
  rw [e0] at h
  exact h
noncomputable def ovv (p q : api_Piece) (least : Int) : Int × Bool × Int :=
  if pfv p q ≠ 0 then (0, false, pfv p q) else if least < 1 ∨ 400000 < least then (0, false, 9)
  else if (mx (hv q) (hv p) : Int) < least then (0, false, 0) else ((mx (hv q) (hv p) : Int), true, 0)
theorem Overlap_s {p q : api_Piece} (hp : u8L p.Bytes) (hq : u8L q.Bytes) (least : Int) : salvage_Overlap p q least = some (ovv p q least) := by
  unfold salvage_Overlap
  rw [pair_loop (A := fun y => ((0 : Int), false, y)) hp hq (fun i => by unfold salvage_Overlap_L1; rfl)]
  unfold ovv
  by_cases h : pfv p q = 0
  · obtain ⟨h1, h2⟩ := pf_ok h
    rw [if_pos h, Option.bind_some, Sum.elim_inr, t0_mk, if_neg (show ¬ (pfv p q ≠ 0) from fun hc => hc h)]
    by_cases hl : least < 1 ∨ 400000 < least
    · rw [if_pos (by simpa using hl), if_pos hl]
    · rw [if_neg (by simpa using hl), if_neg hl, halves_s hp h1, Option.bind_some, halves_s hq h2, Option.bind_some]
      have l1 := hv_le h1
      have l2 := hv_le h2
      obtain ⟨out, e1, e2, e3⟩ := borders_s (b := hv q) (by omega)
      rw [e1, Option.bind_some, i64v (by omega) (by omega)]
      have hm : max 0 (((hv p).length : Int) - ((hv q).length : Int)) = (((hv p).length - (hv q).length : Nat) : Int) := by omega
      rw [hm]
      have hs : slc (hv p) (((hv p).length - (hv q).length : Nat) : Int) ((hv p).length : Int) = some ((hv p).drop ((hv p).length - (hv q).length)) := by
        unfold slc
        rw [if_pos (by omega)]
        simp
      rw [hs, Option.bind_some, over_loop (by omega) (by simp; omega) e3, Option.bind_some, t1_mk]
      have : mx (hv q) ((hv p).drop ((hv p).length - (hv q).length)) = mx (hv q) (hv p) := (mx_eq (isMax_tail (mx_spec _ _))).symm
      rw [this]
      by_cases hlt : (mx (hv q) (hv p) : Int) < least
      · rw [if_pos (by simpa using hlt), if_pos hlt]
      · rw [if_neg (by simpa using hlt), if_neg hlt]
  · rw [if_neg h, if_pos h]; rfl
theorem rOverlap_s {p q : api_Piece} (hp : u8L p.Bytes) (hq : u8L q.Bytes) (least : Int) : ref4_Overlap p q least = some (ovv p q least) := by
  unfold ref4_Overlap
  rw [pf_s hp hq, Option.bind_some]
  unfold ovv
  by_cases h : pfv p q = 0
  · obtain ⟨h1, h2⟩ := pf_ok h
    rw [if_neg (show ¬ ((!decide (pfv p q = 0)) = true) by simp [h]), if_neg (show ¬ (pfv p q ≠ 0) from fun hc => hc h)]
    by_cases hl : least < 1 ∨ 400000 < least
    · rw [if_pos (by simpa using hl), if_pos hl]
    · have l1 := hv_le h1
      have l2 := hv_le h2
      rw [if_neg (by simpa using hl), if_neg hl, rHalves_s hp (chk_ok h1).1, Option.bind_some, rHalves_s hq (chk_ok h2).1, Option.bind_some]
      have la : ∀ l : List Int, (ofBytes l).length = l.length := fun l => by simp [ofBytes]
      rw [la, la]
      obtain ⟨m, hm⟩ : ∃ m, mx (hv q) (hv p) = m := ⟨_, rfl⟩
      have hspec : IsMax (hv q) (hv p) m := hm ▸ mx_spec _ _
      rw [hm]
      have hmin : min ((hv p).length : Int) ((hv q).length : Int) = ((min (hv p).length (hv q).length : Nat) : Int) := by omega
      rw [hmin]
      obtain ⟨r, e1, e2⟩ := loop_inv (body := t1 (ref4_Overlap_L1 least (hv p) (hv q))) (fun s => ∃ k : Nat, s = k ∧ m ≤ k ∧ k ≤ (hv p).length ∧ k ≤ (hv q).length) (fun s => s.toNat)
        (fun r => r = if (m : Int) < least then .inr () else .inl ((m : Int), true, 0)) (by
          rintro s ⟨k, rfl, hk, k1, k2⟩
          rw [t1_mk]
          unfold ref4_Overlap_L1
          by_cases hkl : least ≤ (k : Int)
          · rw [if_pos (by simpa using hkl), la, i64v (by omega) (by omega)]
            have s1 : slc (ofBytes (hv p)) (((hv p).length : Int) - (k : Int)) ((hv p).length : Int) = some (ofBytes ((hv p).drop ((hv p).length - k))) := by
              unfold slc
              rw [if_pos (by rw [la]; omega)]
              simp only [ofBytes, Int.toNat_natCast, List.map_drop, show (((hv p).length : Int) - (k : Int)).toNat = (hv p).length - k by omega]
              rw [List.take_of_length_le (by simp)]
            have s2 : slc (ofBytes (hv q)) 0 (k : Int) = some (ofBytes ((hv q).take k)) := by
              unfold slc
              rw [if_pos (by rw [la]; omega)]
              simp [ofBytes]
            rw [s1, Option.bind_some, s2, Option.bind_some]
            by_cases he : (hv p).drop ((hv p).length - k) = (hv q).take k
            · have : k = m := Nat.le_antisymm (hspec.2 k ⟨k1, k2, he⟩) hk
              subst this
              right
              exact ⟨_, by rw [if_pos (by simp [he])], by rw [if_neg (by omega)]⟩
            · left
              have hne : m ≠ k := fun e => he (e ▸ hspec.1).2.2
              have h255 : ∀ l : List Int, (∀ x ∈ l, 0 ≤ x ∧ x ≤ 15) → ∀ x ∈ l, 0 ≤ x ∧ x ≤ 255 := fun l hx x hxl => by have := hx x hxl; omega
              rw [if_neg (by
                simp only [decide_eq_true_eq]
                exact fun hc => he (ofBytes_inj (h255 _ fun x hx => hv_bd hp x (List.mem_of_mem_drop hx)) (h255 _ fun x hx => hv_bd hq x (List.mem_of_mem_take hx)) hc))]
              refine ⟨_, rfl, ⟨k - 1, by rw [i64v (by omega) (by omega)]; omega, by omega, by omega, by omega⟩, ?_⟩
              rw [i64v (by omega) (by omega)]
              omega
          · right
            exact ⟨_, by rw [if_neg (by simpa using hkl)], by rw [if_pos (by omega)]⟩) _ ⟨_, rfl, by have := hspec.1; exact Nat.le_min.2 ⟨this.1, this.2.1⟩, Nat.min_le_left _ _, Nat.min_le_right _ _⟩
      rw [e1, e2, Option.bind_some]
      by_cases hlt : (m : Int) < least
      · rw [if_pos hlt, if_pos hlt]; rfl
      · rw [if_neg hlt, if_neg hlt]; rfl
  · rw [if_pos (by simp [h]), if_pos h]
theorem law_VJoin (p q : api_Piece) (least : Int) (hp : wf_api_Piece p) (hq : wf_api_Piece q) : law4_SalvageJoinMatchesSpec p q least = some true := by
  have h1 := wf_bytes hp
  have h2 := wf_bytes hq
  unfold law4_SalvageJoinMatchesSpec
  rw [(Join_s h1 h2).1, Option.bind_some, (Join_s h1 h2).2, Option.bind_some, show (!decide ((jnv p q).2 = (jnv p q).2)) = false by simp]
  simp only [show (false == false) = true from rfl, gd_t]
  rw [same_s, Option.bind_some, if_neg (by simp), Overlap_s h1 h2, Option.bind_some, rOverlap_s h1 h2, Option.bind_some, saved_s]
  simp
end Go.Vx
