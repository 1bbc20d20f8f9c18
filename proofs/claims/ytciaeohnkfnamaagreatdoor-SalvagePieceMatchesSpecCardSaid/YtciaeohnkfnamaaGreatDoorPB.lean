/- A text of the proof: a verified executor of the program form, or the contracts of the functions that the law reaches. -/
import Derived.Test.YtciaeohnkfnamaaGreatDoorPA
set_option linter.all false
namespace Go.Vx
open Go Go.RowKit
theorem Length_s {p : api_Piece} (hu : u8L p.Bytes) : salvage_Length p = some (if chkP p = 0 then ((hv p).length : Int) else 0, chkP p) := by
  unfold salvage_Length
  rw [CheckPiece_s p hu, Option.bind_some]
  by_cases h : chkP p = 0
  · rw [if_neg (by simp [h]), if_pos h, length_s h, Option.bind_some, h]
  · rw [if_pos (by simp [h]), if_neg h]
theorem rLength_s {p : api_Piece} (hu : u8L p.Bytes) : ref4_Length p = some (if chkP p = 0 then ((hv p).length : Int) else 0, chkP p) := by
  unfold ref4_Length
  rw [rCheckPiece_s p hu, Option.bind_some]
  by_cases h : chkP p = 0
  · rw [if_neg (by simp [h]), if_pos h, rHalves_s hu (chk_ok h).1, Option.bind_some, h]
  · rw [if_pos (by simp [h]), if_neg h]
def outHalf (p : api_Piece) (i : Int) : Int × Int := if chkP p = 0 then (if i < 0 ∨ ((hv p).length : Int) ≤ i then (0, 9) else ((hv p).getD i.toNat 0, 0)) else (0, chkP p)
theorem HalfAt_s {p : api_Piece} (hu : u8L p.Bytes) (i : Int) : salvage_HalfAt p i = some (outHalf p i) := by
  unfold salvage_HalfAt outHalf
  rw [CheckPiece_s p hu, Option.bind_some]
  by_cases h : chkP p = 0
  · rw [if_neg (by simp [h]), if_pos h, length_s h]
    have hl := hv_le h
    have hbl := (chk_ok h).1
    by_cases h1 : i < 0
    · rw [if_pos (.inl h1)]
      simp [h1]
    · simp only [h1, decide_false, beq_self_eq_true, gd_t, Option.bind_some, Bool.false_or, false_or]
      by_cases h2 : ((hv p).length : Int) ≤ i
      · rw [if_pos (by simpa using h2), if_pos h2]
      · rw [if_neg (by simpa using h2), if_neg h2]
        obtain ⟨k, rfl⟩ : ∃ k : Nat, i = k := ⟨i.toNat, by omega⟩
        obtain ⟨x, hx⟩ := get_ex (xs := hv p) (k := k) (by omega)
        have hxb := hv_bd hu x (List.mem_of_getElem? hx)
        have hx' := hx
        rw [hv_eq, List.getElem?_drop] at hx'
        have e : i64 ((k : Int) + (ahN p : Int)) = ((ahN p + k : Nat) : Int) := by rw [i64v (by omega) (by have := (ah_le h).1; omega)]; push_cast; omega
        rw [ahead_s, Option.bind_some, e, halfOf_s hu hbl hx', Option.bind_some, i64v (by omega) (by omega), Int.toNat_natCast, getD_of hx]
  · rw [if_pos (by simp [h]), if_neg h]
theorem rHalfAt_s {p : api_Piece} (hu : u8L p.Bytes) (i : Int) : ref4_HalfAt p i = some (outHalf p i) := by
  unfold ref4_HalfAt outHalf
  rw [rCheckPiece_s p hu, Option.bind_some]
  by_cases h : chkP p = 0
  · have hl := hv_le h
    rw [if_neg (by simp [h]), if_pos h, rHalves_s hu (chk_ok h).1, Option.bind_some]
    by_cases h1 : i < 0 ∨ ((hv p).length : Int) ≤ i
    · rw [if_pos h1, if_pos (by simpa using h1)]
    · rw [if_neg h1, if_neg (by simpa using h1)]
      obtain ⟨k, rfl⟩ : ∃ k : Nat, i = k := ⟨i.toNat, by omega⟩
      obtain ⟨x, hx⟩ := get_ex (xs := hv p) (k := k) (by omega)
      have hxb := hv_bd hu x (List.mem_of_getElem? hx)
      rw [idx_of hx, Option.bind_some, i64v (by omega) (by omega), Int.toNat_natCast, getD_of hx]
  · rw [if_pos (by simp [h]), if_neg h]
theorem same_s (p : api_Piece) : law4_samePiece p p = some true := by unfold law4_samePiece bytes_Equal; simp
theorem law_VPiece (p : api_Piece) (f t : Int) (hs : wf_api_Piece p) : law4_SalvagePieceMatchesSpec p f t = some true := by
  have hu := wf_bytes hs
  unfold law4_SalvagePieceMatchesSpec
  rw [Length_s hu, Option.bind_some, rLength_s hu, Option.bind_some, CheckPiece_s p hu, Option.bind_some, rCheckPiece_s p hu, Option.bind_some, if_neg (by simp), HalfAt_s hu, Option.bind_some, rHalfAt_s hu, Option.bind_some, if_neg (by simp),
    Cut_s hu, Option.bind_some, rCut_s hu, Option.bind_some, same_s, saved_s]
  simp
end Go.Vx
