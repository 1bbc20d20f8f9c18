/- A text of the proof: a verified executor of the program form, or the contracts of the functions that the law reaches. -/
import Derived.Test.YtciaeohnkfnamaaGreatDoorOkZc
set_option linter.all false
namespace Go.Proofs.YtciaeohnkfnamaaGreatDoor
open Go Go.Vx
set_option maxRecDepth 10000
set_option maxHeartbeats 1000000
set_option linter.unusedVariables false
theorem ok_ring_within {n : Int} {low : Int} {high : Int} {r : Bool} (h : ring_within n low high = some r) :
  CSpec Tryz.prog gl0 254 [.int .i64 n, .int .i64 low, .int .i64 high] (.bool r) := by
 unfold ring_within at h
 replace h := bnd0 h
 refine spec_of (by kernel_rfl) Tryz.func254 Y Y ?_
 intro w0 A
 refine Tr <| Rq Y (v_assign (ov Y)) <| R_nil <| Tr <| Rq Y (v_move (ov Y)) <| Rq Y (v_move (ov Y)) <| Rq Y (v_geq (ov Y) (ov Y)) <| Rq Y (v_move (ov Y)) <| Rq Y (.guarded ((decide (low ≤ n)) == true) Y Y Y Y fun h => v_move (ov Y)) <| Rq Y (.guarded ((decide (low ≤ n)) == true) Y Y Y Y fun h => v_move (ov Y)) <| Rq Y (.guarded ((decide (low ≤ n)) == true) Y Y Y Y fun h => v_leq (ow Y h) (ow Y h)) <| Rq Y (v_and (ov Y) (fun hp => ow Y (gT hp))) <| Rq Y (v_assign (ov Y)) <| R_nil ?_
 obtain rfl := rt (v := ((decide (low ≤ n)) && (decide (n ≤ high)))) h
 refine T_ret (retq ?_ (.one (.tmp Y (Dat.view (.b Y)))))
 rfl

theorem ok_ring_sectorBytes {slots : Int} {r : Int} (h : ring_sectorBytes slots = some r) :
  CSpec Tryz.prog gl0 282 [.int .i64 slots] (.int .i64 r) := by
 unfold ring_sectorBytes at h
 replace h := bnd0 h
 refine spec_of (by kernel_rfl) Tryz.func282 Y Y ?_
 intro w0 A
 refine Tr <| Rq Y (v_assign (ov Y)) <| R_nil <| Tr <| Rq Y (v_move (ov Y)) <| Rq Y (v_mul (ov Y) (ov Y) Y) <| Rq Y (v_add (ov Y) (ov Y) Y) <| Rq Y (v_assign (ov Y)) <| R_nil ?_
 obtain rfl := rt (v := (i64 (16 + (i64 (slots * 97))))) h
 refine T_ret (retq ?_ (.one (.tmp Y (Dat.view (.b Y)))))
 rfl

theorem ok_ring_CheckMemory {m : api_Memory} {r : Int} (h : ring_CheckMemory m = some r) :
  CSpec Tryz.prog gl0 255 [.agg [.int .i64 m.Slots, .int .i64 m.Limit, .sl 68 (List.map R68 m.Sectors), .sl 3 (List.map R3 m.Wear), .sl 4 (List.map R4 m.Bad)]] (.int .i64 r) := by
 unfold ring_CheckMemory at h
 replace h := bnd0 h
 refine spec_of (by kernel_rfl) Tryz.func255 Y Y ?_
 intro w0 A
 refine Tr <| Rq Y (v_boxD (cva (ov Y)) Y tZ_172 Y) <| Rq Y (v_assign (ov Y)) <| R_nil <| T_keep (kc 1 Y <| kn) Y <| Tr <| Rq Y (v_fieldR (ov Y) tF172_2) <| Rq Y (v_loadS_r (ov Y) tS169 Y) <| Rq Y (v_len (slv_sl (ov Y) tZ_68) tL169 (len_map _ _)) <| Rq Y (v_assign (ov Y)) <| R_nil <| T_seq <| T_block <| T_keep (kc 1 Y <| kc 3 Y <| kn) Y <| Tr <| Rq Y (v_fieldR (ov Y) tF172_0) <| Rq Y (v_loadS_r (ov Y) tS3 Y) ?_
 obtain ⟨y, h_y, h⟩ := bnd h
 refine Rq Y (v_call (ok_ring_within h_y) (.cons (ov Y) (.b Y) <| .cons (ov Y) (.b Y) <| .cons (ov Y) (.b Y) <| .nil)) ?_
 refine Rq Y (v_not (ov Y)) ?_
 refine Rq Y (v_move (ov Y)) ?_
 refine Rq Y (.guarded ((!y) == false) Y Y Y Y fun h => v_fieldR (ov Y) tF172_1) ?_
 refine Rq Y (.guarded ((!y) == false) Y Y Y Y fun h => v_loadS_r (ow Y h) tS3 Y) ?_
 obtain ⟨y2, h_y2, h⟩ := bnd h
 refine Rq Y (.guarded ((!y) == false) Y Y Y Y fun h => v_call (ok_ring_within (gdT h_y2 h)) (.cons (ow Y h) (.b Y) <| .cons (ov Y) (.b Y) <| .cons (ov Y) (.b Y) <| .nil)) ?_
 refine Rq Y (.guarded ((!y) == false) Y Y Y Y fun h => v_not (ow Y h)) ?_
 refine Rq Y (v_or (ov Y) (fun hp => ow Y (gF hp))) ?_
 refine Rq Y (v_move (ov Y)) ?_
 refine Rq Y (.guarded (((!y) || (!y2)) == false) Y Y Y Y fun h => v_move (ov Y)) ?_
 obtain ⟨y3, h_y3, h⟩ := bnd h
 refine Rq Y (.guarded (((!y) || (!y2)) == false) Y Y Y Y fun h => v_call (ok_ring_within (gdT h_y3 h)) (.cons (ow Y h) (.b Y) <| .cons (ov Y) (.b Y) <| .cons (ov Y) (.b Y) <| .nil)) ?_
 refine Rq Y (.guarded (((!y) || (!y2)) == false) Y Y Y Y fun h => v_not (ow Y h)) ?_
 refine Rq Y (v_or (ov Y) (fun hp => ow Y (gF hp))) ?_
 refine Rq Y (v_assign (ov Y)) ?_
 refine R_nil <| T_keep (kc 1 Y <| kc 3 Y <| kc 9 Y <| kn) Y <| T_if h Y (fun b9 h => ?_) (fun b9 h => ?_)
 ·
  refine T_keep (kn) Y <| Tr <| Rq Y (v_assign (ov Y)) <| R_nil ?_
  obtain rfl := rt (v := 9) h
  refine T_ret (retq ?_ (.one (.tmp Y (Dat.view (.b Y)))))
  rfl
 ·
  refine T_keep (kc 1 Y <| kc 3 Y <| kn) Y <| Tr <| Rq Y (v_fieldR (ov Y) tF172_3) <| Rq Y (v_loadS_r (ov Y) tS28 Y) <| Rq Y (v_len (slv_sl (ov Y) tZ_3) tL28 (len_map _ _)) <| Rq Y (v_move (ov Y)) <| Rq Y (v_neq (ov Y) (ov Y)) <| Rq Y (v_move (ov Y)) <| Rq Y (.guarded ((!decide ((m.Wear.length : Int) = (m.Sectors.length : Int))) == false) Y Y Y Y fun h => v_fieldR (ov Y) tF172_4) <| Rq Y (.guarded ((!decide ((m.Wear.length : Int) = (m.Sectors.length : Int))) == false) Y Y Y Y fun h => v_loadS_r (ow Y h) tS170 Y) <| Rq Y (.guarded ((!decide ((m.Wear.length : Int) = (m.Sectors.length : Int))) == false) Y Y Y Y fun h => v_len (slv_sl (ow Y h) tZ_4) tL170 (len_map _ _)) <| Rq Y (.guarded ((!decide ((m.Wear.length : Int) = (m.Sectors.length : Int))) == false) Y Y Y Y fun h => v_move (ov Y)) <| Rq Y (.guarded ((!decide ((m.Wear.length : Int) = (m.Sectors.length : Int))) == false) Y Y Y Y fun h => v_neq (ow Y h) (ow Y h)) <| Rq Y (v_or (ov Y) (fun hp => ow Y (gF hp))) <| Rq Y (v_assign (ov Y)) <| R_nil <| T_keep (kc 1 Y <| kc 25 Y <| kn) Y <| T_if h Y (fun b25 h => ?_) (fun b25 h => ?_)
  ·
   refine T_keep (kn) Y <| Tr <| Rq Y (v_assign (ov Y)) <| R_nil ?_
   obtain rfl := rt (v := 2) h
   refine T_ret (retq ?_ (.one (.tmp Y (Dat.view (.b Y)))))
   rfl
  ·
   refine T_skip <| T_joinG (fun j => (.inr j)) (t0 ⟨[], []⟩) h (fun h => ?_) (fun j h => ?_)
   ·
    refine T_keep (kc 1 Y <| kn) Y <| Tr <| Rq Y (v_fieldR (ov Y) tF172_2) <| Rq Y (v_loadS_r (ov Y) tS169 Y) <| Rq Y (v_len (slv_sl (ov Y) tZ_68) tL169 (len_map _ _)) <| Rq Y (v_move (ov Y)) <| R_nil <| T_block ?_
    obtain ⟨r1, hl1, ho1⟩ := bndL h
    refine T_loopG _ (t1 fun i => ⟨[(1, .rp [.int .i64 m.Slots, .int .i64 m.Limit, .sl 68 (List.map R68 m.Sectors), .sl 3 (List.map R3 m.Wear), .sl 4 (List.map R4 m.Bad)] 0), (39, .sl 68 (List.map R68 m.Sectors)), (40, .int .i64 (m.Sectors.length : Int)), (41, .int .i64 i)], []⟩) _ hl1 (Ent.sel [] (sd 1 Y Y <| sd 39 Y Y <| sd 40 Y Y <| sd 41 Y Y <| sn) (.nil) Y Y) (fun n1 s1 h => ?_)
    obtain ⟨i, rfl⟩ : ∃ x, x = s1 := ⟨_, rfl⟩
    replace h := t1i h
    refine t1T ?_
    unfold ring_CheckMemory_L1 at h
    refine Tr <| Rq Y (v_lss (ov Y) (ov Y)) <| R_nil <| T_seq <| T_if h Y (fun b42 h => ?_) (fun b42 h => ?_)
    ·
     refine T_skip <| T_seq <| T_block <| T_keep (kc 1 Y <| kc 39 Y <| kc 40 Y <| kc 41 Y <| kn) Y <| Tr <| Rq Y (v_move (ov Y)) ?_
     obtain ⟨x, h_x, h⟩ := bnd h
     refine Rq Y (v_ixSG (ov Y) (ov Y) tL169 h_x) ?_
     refine Rq Y (v_loadS_r (ov Y) tS68 Y) ?_
     refine Rq Y (v_assign (ov Y)) ?_
     refine Rq Y (v_assign (ov Y)) ?_
     refine R_nil <| T_seq <| T_keep (kc 1 Y <| kc 4 Y <| kc 5 Y <| kc 39 Y <| kc 40 Y <| kc 41 Y <| kn) Y <| Tr <| Rq Y (v_move (ov Y)) <| Rq Y (v_len (slv_sl (ov Y) tZ_5) tL68 (len_map _ _)) <| Rq Y (v_fieldR (ov Y) tF172_0) <| Rq Y (v_loadS_r (ov Y) tS3 Y) ?_
     obtain ⟨y4, h_y4, h⟩ := bnd h
     refine Rq Y (v_call (ok_ring_sectorBytes h_y4) (.cons (ov Y) (.b Y) <| .nil)) ?_
     refine Rq Y (v_neq (ov Y) (ov Y)) ?_
     refine R_nil <| T_keep (kc 1 Y <| kc 4 Y <| kc 39 Y <| kc 40 Y <| kc 41 Y <| kc 51 Y <| kn) Y <| T_if h Y (fun b51 h => ?_) (fun b51 h => ?_)
     ·
      refine T_keep (kn) Y <| Tr <| Rq Y (v_assign (ov Y)) <| R_nil ?_
      rw [lx h] at ho1
      replace h := ho1
      obtain rfl := rt (v := 3) h
      refine T_ret (retq ?_ (.one (.tmp Y (Dat.view (.b Y)))))
      rfl
     ·
      refine T_skip <| T_keep (kc 1 Y <| kc 4 Y <| kc 39 Y <| kc 40 Y <| kc 41 Y <| kn) Y <| T_seq (T_draw (cw := md0) (by kernel_rfl) ?_)
      refine Dq 0 Y Y Y (v_fieldR (ov Y) tF172_3) ?_
      refine Dq 1 Y Y Y (v_loadS_r (ov Y) tS28 Y) ?_
      refine Dq 2 Y Y Y (v_move (ov Y)) ?_
      obtain ⟨x2, h_x2, h⟩ := bnd h
      refine Dq 3 Y Y Y (v_ixSG (ov Y) (ov Y) tL28 h_x2) ?_
      refine Dq 4 Y Y Y (v_loadS_r (ov Y) tS3 Y) ?_
      refine Dq 5 Y Y Y (v_fieldR (ov Y) tF172_1) ?_
      refine Dq 6 Y Y Y (v_loadS_r (ov Y) tS3 Y) ?_
      obtain ⟨y5, h_y5, h⟩ := bnd h
      refine Dq 7 Y Y Y (v_call (ok_ring_within h_y5) (.cons (ov Y) (.b Y) <| .cons (ov Y) (.b Y) <| .cons (ov Y) (.b Y) <| .nil)) ?_
      refine Dq 8 Y Y Y (v_not (ov Y)) ?_
      refine D_done (by kernel_rfl) ?_
      refine T_keep (kc 1 Y <| kc 39 Y <| kc 40 Y <| kc 41 Y <| kc 60 Y <| kn) Y <| T_if h Y (fun b60 h => ?_) (fun b60 h => ?_)
      ·
       refine T_keep (kn) Y <| Tr <| Rq Y (v_assign (ov Y)) <| R_nil ?_
       rw [lx h] at ho1
       replace h := ho1
       obtain rfl := rt (v := 9) h
       refine T_ret (retq ?_ (.one (.tmp Y (Dat.view (.b Y)))))
       rfl
      ·
       refine T_skip <| T_keep (kc 1 Y <| kc 39 Y <| kc 40 Y <| kc 41 Y <| kn) Y <| T_reg <| Rq Y (v_add (ov Y) (ov Y) Y) <| Rq Y (v_move (ov Y)) <| R_nil ?_
       exact ⟨(i64 (i + 1)), h, Ent.sel [] (sd 1 Y Y <| sd 39 Y Y <| sd 40 Y Y <| sd 41 Y Y <| sn) (.nil) Y Y⟩
    ·
     refine T_exit ?_
     rw [lx h] at ho1
     replace h := ho1
     exact ⟨(), h, Ent.sel [] (sn) (.nil) Y Y⟩
   ·
    replace h := elr h
    cases j
    replace h := t0i h
    refine t0T ?_
    refine Tr <| Rq Y (v_assign (ov Y)) <| R_nil ?_
    obtain rfl := rt (v := 0) h
    refine T_ret (retq ?_ (.one (.tmp Y (Dat.view (.b Y)))))
    rfl

theorem ok_ring_checkAll {l : List api_Memory} {r : Int} (h : ring_checkAll l = some r) :
  CSpec Tryz.prog gl0 198 [.sl 172 (List.map R172 l)] (.int .i64 r) := by
 unfold ring_checkAll at h
 replace h := bnd0 h
 refine spec_of (by kernel_rfl) Tryz.func198 Y Y ?_
 intro w0 A
 refine Tr <| Rq Y (v_assign (ov Y)) <| R_nil <| T_seq <| T_keep (kc 0 Y <| kn) Y <| Tr <| Rq Y (v_move (ov Y)) <| Rq Y (v_len (slv_sl (ov Y) tZ_172) tL101 (len_map _ _)) ?_
 obtain ⟨y, h_y, h⟩ := bnd h
 refine Rq Y (v_call (ok_ring_within h_y) (.cons (ov Y) (.b Y) <| .cons (ov Y) (.b Y) <| .cons (ov Y) (.b Y) <| .nil)) ?_
 refine Rq Y (v_not (ov Y)) ?_
 refine R_nil <| T_keep (kc 0 Y <| kc 9 Y <| kn) Y <| T_if h Y (fun b9 h => ?_) (fun b9 h => ?_)
 ·
  refine T_keep (kn) Y <| Tr <| Rq Y (v_assign (ov Y)) <| R_nil ?_
  obtain rfl := rt (v := 3) h
  refine T_ret (retq ?_ (.one (.tmp Y (Dat.view (.b Y)))))
  rfl
 ·
  refine T_skip <| T_joinG (fun j => (.inr j)) (t0 ⟨[], []⟩) h (fun h => ?_) (fun j h => ?_)
  ·
   refine T_keep (kc 0 Y <| kn) Y <| Tr <| Rq Y (v_move (ov Y)) <| Rq Y (v_len (slv_sl (ov Y) tZ_172) tL101 (len_map _ _)) <| Rq Y (v_move (ov Y)) <| R_nil <| T_block ?_
   obtain ⟨r1, hl1, ho1⟩ := bndL h
   refine T_loopG _ (t1 fun i => ⟨[(10, .sl 172 (List.map R172 l)), (11, .int .i64 (l.length : Int)), (12, .int .i64 i)], []⟩) _ hl1 (Ent.sel [] (sd 10 Y Y <| sd 11 Y Y <| sd 12 Y Y <| sn) (.nil) Y Y) (fun n1 s1 h => ?_)
   obtain ⟨i, rfl⟩ : ∃ x, x = s1 := ⟨_, rfl⟩
   replace h := t1i h
   refine t1T ?_
   unfold ring_checkAll_L1 at h
   refine Tr <| Rq Y (v_lss (ov Y) (ov Y)) <| R_nil <| T_seq <| T_if h Y (fun b13 h => ?_) (fun b13 h => ?_)
   ·
    refine T_skip <| T_seq <| T_block <| T_keep (kc 10 Y <| kc 11 Y <| kc 12 Y <| kn) Y <| Tr ?_
    obtain ⟨x, h_x, h⟩ := bnd h
    refine Rq Y (v_ixSG (ov Y) (ov Y) tL101 h_x) ?_
    refine Rq Y (v_loadA_r (ov Y) tA172 Y Y) ?_
    refine Rx Y (w_alloc (row := [_, _, _, _, _]) 0 Y tZ172 Y tZ_172) ?_
    refine Rx Y (w_store (ov Y) (ov Y) (cells_agg tA172 Y) Y Y Y (Nat.le_of_ble_eq_true Y) (cell1_all Y) Y) ?_
    refine R_nil <| T_keep (kc 4 Y <| kc 10 Y <| kc 11 Y <| kc 12 Y <| kn) Y <| Tr <| Rq Y (v_loadA (ov Y) Y Y Y tA172 Y Y) ?_
    obtain ⟨y2, h_y2, h⟩ := bnd h
    refine Rq Y (v_call (ok_ring_CheckMemory h_y2) (.cons (ov Y) (.aggB Y) <| .nil)) ?_
    refine Rq Y (v_assign (ov Y)) ?_
    refine R_nil <| T_keep (kc 5 Y <| kc 10 Y <| kc 11 Y <| kc 12 Y <| kn) Y <| Tr <| Rq Y (v_move (ov Y)) <| Rq Y (v_neq (ov Y) (ov Y)) <| R_nil <| T_keep (kc 5 Y <| kc 10 Y <| kc 11 Y <| kc 12 Y <| kc 19 Y <| kn) Y <| T_if h Y (fun b19 h => ?_) (fun b19 h => ?_)
    ·
     refine T_keep (kc 5 Y <| kn) Y <| Tr <| Rq Y (v_move (ov Y)) <| Rq Y (v_assign (ov Y)) <| R_nil ?_
     rw [lx h] at ho1
     replace h := ho1
     obtain rfl := rt (v := y2) h
     refine T_ret (retq ?_ (.one (.tmp Y (Dat.view (.b Y)))))
     rfl
    ·
     refine T_skip <| T_keep (kc 10 Y <| kc 11 Y <| kc 12 Y <| kn) Y <| T_reg <| Rq Y (v_add (ov Y) (ov Y) Y) <| Rq Y (v_move (ov Y)) <| R_nil ?_
     exact ⟨(i64 (i + 1)), h, Ent.sel [] (sd 10 Y Y <| sd 11 Y Y <| sd 12 Y Y <| sn) (.nil) Y Y⟩
   ·
    refine T_exit ?_
    rw [lx h] at ho1
    replace h := ho1
    exact ⟨(), h, Ent.sel [] (sn) (.nil) Y Y⟩
  ·
   replace h := elr h
   cases j
   replace h := t0i h
   refine t0T ?_
   refine Tr <| Rq Y (v_assign (ov Y)) <| R_nil ?_
   obtain rfl := rt (v := 0) h
   refine T_ret (retq ?_ (.one (.tmp Y (Dat.view (.b Y)))))
   rfl

theorem ok_ring_CheckMemories {l : List api_Memory} {r : Int} (h : ring_CheckMemories l = some r) :
  CSpec Tryz.prog gl0 119 [.sl 172 (List.map R172 l)] (.int .i64 r) := by
 unfold ring_CheckMemories at h
 replace h := bnd0 h
 refine spec_of (by kernel_rfl) Tryz.func119 Y Y ?_
 intro w0 A
 refine Tr <| Rq Y (v_assign (ov Y)) <| R_nil <| Tr <| Rq Y (v_move (ov Y)) ?_
 obtain ⟨y, h_y, h⟩ := bnd h
 refine Rq Y (v_call (ok_ring_checkAll h_y) (.cons (ov Y) (.b Y) <| .nil)) ?_
 refine Rq Y (v_assign (ov Y)) ?_
 refine R_nil ?_
 obtain rfl := rt (v := y) h
 refine T_ret (retq ?_ (.one (.tmp Y (Dat.view (.b Y)))))
 rfl

theorem ok_salvage_Pieces {l : List api_Memory} {cuts : List Int} {r : (List api_Piece) × Int} (h : salvage_Pieces l cuts = some r) :
  CSpec Tryz.prog gl0 56 [.sl 172 (List.map R172 l), .sl 3 (List.map R3 cuts)] (.tuple [.sl 70 (List.map R70 r.1), .int .i64 r.2]) := by
 unfold salvage_Pieces at h
 replace h := bnd0 h
 refine spec_of (by kernel_rfl) Tryz.func56 Y Y ?_
 intro w0 A
 refine Tr <| Rq Y (v_assign (ov Y)) <| Rq Y (v_assign (ov Y)) <| R_nil <| T_seq <| T_keep (kc 0 Y <| kc 1 Y <| kn) Y <| Tr <| Rq Y (v_move (ov Y)) ?_
 obtain ⟨y, h_y, h⟩ := bnd h
 refine Rq Y (v_call (ok_ring_CheckMemories h_y) (.cons (ov Y) (.b Y) <| .nil)) ?_
 refine Rq Y (v_assign (ov Y)) ?_
 refine R_nil <| T_keep (kc 0 Y <| kc 1 Y <| kc 6 Y <| kn) Y <| Tr <| Rq Y (v_move (ov Y)) <| Rq Y (v_neq (ov Y) (ov Y)) <| R_nil <| T_keep (kc 0 Y <| kc 1 Y <| kc 6 Y <| kc 22 Y <| kn) Y <| T_if h Y (fun b22 h => ?_) (fun b22 h => ?_)
 ·
  refine T_keep (kc 6 Y <| kn) Y <| Tr <| Rq Y (v_move (ov Y)) <| Rq Y (v_assign (ov Y)) <| Rq Y (v_assign (ov Y)) <| R_nil ?_
  obtain rfl := rt (v := ([], y)) h
  refine T_ret (retq ?_ (.two (.tmp Y (View.nils 70)) (.tmp Y (Dat.view (.b Y)))))
  rfl
 ·
  refine T_skip <| T_seq <| T_keep (kc 0 Y <| kc 1 Y <| kn) Y <| Tr <| Rq Y (v_move (ov Y)) <| Rq Y (v_len (slv_sl (ov Y) tZ_3) tL28 (len_map _ _)) <| Rq Y (v_gtr (ov Y) (ov Y)) <| R_nil <| T_keep (kc 0 Y <| kc 1 Y <| kc 26 Y <| kn) Y <| T_if h Y (fun b26 h => ?_) (fun b26 h => ?_)
  ·
   refine T_keep (kn) Y <| Tr <| Rq Y (v_assign (ov Y)) <| Rq Y (v_assign (ov Y)) <| R_nil ?_
   obtain rfl := rt (v := ([], 3)) h
   refine T_ret (retq ?_ (.two (.tmp Y (View.nils 70)) (.tmp Y (Dat.view (.b Y)))))
   rfl
  ·
   refine T_skip <| T_keep (kc 0 Y <| kc 1 Y <| kn) Y <| Tr <| Rq Y (v_assign (ov Y)) <| R_nil <| T_joinG id (t1 fun all => ⟨[(1, .sl 3 (List.map R3 cuts)), (7, .own 0 all.length)], [some ⟨5, List.map R5 all⟩]⟩) h (fun h => ?_) (fun j h => ?_)
   ·
    refine Tr <| Rq Y (v_move (ov Y)) <| Rq Y (v_len (slv_sl (ov Y) tZ_172) tL101 (len_map _ _)) <| Rq Y (v_move (ov Y)) <| R_nil <| T_block ?_
    obtain ⟨r1, hl1, ho1⟩ := bndL h
    refine T_loopG _ (t2 fun all2 i => ⟨[(1, .sl 3 (List.map R3 cuts)), (7, .own 0 all2.length), (27, .sl 172 (List.map R172 l)), (28, .int .i64 (l.length : Int)), (29, .int .i64 i)], [some ⟨5, List.map R5 all2⟩]⟩) _ hl1 (Ent.sel [none] (sd 1 Y Y <| sr 7 Y (.row Y) <| sd 27 Y Y <| sd 28 Y Y <| sd 29 Y Y <| sn) (.row 5 <| .nil) Y Y) (fun n1 s1 h => ?_)
    obtain ⟨all2, i⟩ := s1
    replace h := t2i h
    refine t2T ?_
    unfold salvage_Pieces_L1 at h
    refine Tr <| Rq Y (v_lss (ov Y) (ov Y)) <| R_nil <| T_seq <| T_if h Y (fun b30 h => ?_) (fun b30 h => ?_)
    ·
     refine T_skip <| T_joinG id (t1 fun all3 => ⟨[(1, .sl 3 (List.map R3 cuts)), (7, .own 0 all3.length), (27, .sl 172 (List.map R172 l)), (28, .int .i64 (l.length : Int)), (29, .int .i64 i)], [some ⟨5, List.map R5 all3⟩]⟩) h (fun h => ?_) (fun j h => ?_)
     ·
      refine T_block <| T_keep (kc 1 Y <| kc 7 Y <| kc 27 Y <| kc 28 Y <| kc 29 Y <| kn) Y <| Tr ?_
      obtain ⟨x, h_x, h⟩ := bnd h
      refine Rq Y (v_ixSG (ov Y) (ov Y) tL101 h_x) ?_
      refine Rq Y (v_loadA_r (ov Y) tA172 Y Y) ?_
      refine Rx Y (w_alloc (row := [_, _, _, _, _]) 1 Y tZ172 Y tZ_172) ?_
      refine Rx Y (w_store (ov Y) (ov Y) (cells_agg tA172 Y) Y Y Y (Nat.le_of_ble_eq_true Y) (cell1_all Y) Y) ?_
      refine R_nil <| T_keep (kc 1 Y <| kc 7 Y <| kc 9 Y <| kc 27 Y <| kc 28 Y <| kc 29 Y <| kn) Y <| Tr <| Rq Y (v_fieldP (ov Y) Y Y tF172_2) <| Rq Y (v_loadS (ov Y) Y Y Y tS169 Y) <| Rq Y (v_len (slv_sl (ov Y) tZ_68) tL169 (len_map _ _)) <| Rq Y (v_move (ov Y)) <| R_nil <| T_block ?_
      obtain ⟨r2, hl2, ho2⟩ := bndL h
      refine T_loopG _ (t2 fun all4 i2 => ⟨[(1, .sl 3 (List.map R3 cuts)), (7, .own 0 all4.length), (27, .sl 172 (List.map R172 l)), (28, .int .i64 (l.length : Int)), (29, .int .i64 i), (34, .sl 68 (List.map R68 x.Sectors)), (35, .int .i64 (x.Sectors.length : Int)), (36, .int .i64 i2)], [some ⟨5, List.map R5 all4⟩]⟩) _ hl2 (Ent.sel [some 0] (sd 1 Y Y <| sr 7 Y (.own _ Y) <| sd 27 Y Y <| sd 28 Y Y <| sd 29 Y Y <| sd 34 Y Y <| sd 35 Y Y <| sd 36 Y Y <| sn) (.cons Y (roM D5) <| .nil) Y Y) (fun n2 s2 h => ?_)
      obtain ⟨all4, i2⟩ := s2
      replace h := t2i h
      refine t2T ?_
      unfold salvage_Pieces_L2 at h
      refine Tr <| Rq Y (v_lss (ov Y) (ov Y)) <| R_nil <| T_seq <| T_if h Y (fun b37 h => ?_) (fun b37 h => ?_)
      ·
       refine T_skip <| T_seq <| T_block <| T_keep (kc 1 Y <| kc 7 Y <| kc 27 Y <| kc 28 Y <| kc 29 Y <| kc 34 Y <| kc 35 Y <| kc 36 Y <| kn) Y <| Tr ?_
       obtain ⟨x2, h_x2, h⟩ := bnd h
       refine Rq Y (v_ixSG (ov Y) (ov Y) tL169 h_x2) ?_
       refine Rq Y (v_loadS_r (ov Y) tS68 Y) ?_
       refine Rq Y (v_assign (ov Y)) ?_
       refine R_nil <| T_keep (kc 1 Y <| kc 7 Y <| kc 11 Y <| kc 27 Y <| kc 28 Y <| kc 29 Y <| kc 34 Y <| kc 35 Y <| kc 36 Y <| kn) Y <| T_reg <| Rq Y (v_move (ov Y)) <| Rq Y (v_move (ov Y)) ?_
       obtain ⟨l2, h_l2, h⟩ := bnd h
       refine Rx Y (w_appendZ (ov Y) (slv_sl (ov Y) tZ_5) tL68 Y Y (fun _ => cell1_all Y) Y h_l2) ?_
       refine Rq Y (v_assign (ov Y)) ?_
       refine R_nil <| T_keep (kc 1 Y <| kc 7 Y <| kc 27 Y <| kc 28 Y <| kc 29 Y <| kc 34 Y <| kc 35 Y <| kc 36 Y <| kn) Y <| T_reg <| Rq Y (v_add (ov Y) (ov Y) Y) <| Rq Y (v_move (ov Y)) <| R_nil ?_
       exact ⟨(l2, (i64 (i2 + 1))), h, Ent.sel [some 0] (sd 1 Y Y <| sr 7 Y (.own _ Y) <| sd 27 Y Y <| sd 28 Y Y <| sd 29 Y Y <| sd 34 Y Y <| sd 35 Y Y <| sd 36 Y Y <| sn) (.cons Y (roM D5) <| .nil) Y Y⟩
      ·
       refine T_exit ?_
       rw [lx h] at ho2
       replace h := ho2
       exact ⟨all4, h, Ent.sel [some 0] (sd 1 Y Y <| sr 7 Y (.own _ Y) <| sd 27 Y Y <| sd 28 Y Y <| sd 29 Y Y <| sn) (.cons Y (roM D5) <| .nil) Y Y⟩
     ·
      obtain ⟨all3, rfl⟩ : ∃ x, x = j := ⟨_, rfl⟩
      replace h := t1i h
      refine t1T ?_
      refine T_reg <| Rq Y (v_add (ov Y) (ov Y) Y) <| Rq Y (v_move (ov Y)) <| R_nil ?_
      exact ⟨(all3, (i64 (i + 1))), h, Ent.sel [some 0] (sd 1 Y Y <| sr 7 Y (.own _ Y) <| sd 27 Y Y <| sd 28 Y Y <| sd 29 Y Y <| sn) (.cons Y (roM D5) <| .nil) Y Y⟩
    ·
     refine T_exit ?_
     rw [lx h] at ho1
     replace h := ho1
     exact ⟨all2, h, Ent.sel [some 0] (sd 1 Y Y <| sr 7 Y (.own _ Y) <| sn) (.cons Y (roM D5) <| .nil) Y Y⟩
   ·
    obtain ⟨all, rfl⟩ : ∃ x, x = j := ⟨_, rfl⟩
    replace h := t1i h
    refine t1T ?_
    refine T_joinG (fun j => (.inr j)) (t0 ⟨[(1, .sl 3 (List.map R3 cuts)), (7, .own 0 all.length)], [some ⟨5, List.map R5 all⟩]⟩) h (fun h => ?_) (fun j h => ?_)
    ·
     refine Tr <| Rq Y (v_move (ov Y)) <| Rq Y (v_len (slv_sl (ov Y) tZ_3) tL28 (len_map _ _)) <| Rq Y (v_move (ov Y)) <| R_nil <| T_block ?_
     obtain ⟨r3, hl3, ho3⟩ := bndL h
     refine T_loopG _ (t1 fun i3 => ⟨[(1, .sl 3 (List.map R3 cuts)), (7, .own 0 all.length), (45, .sl 3 (List.map R3 cuts)), (46, .int .i64 (cuts.length : Int)), (47, .int .i64 i3)], [some ⟨5, List.map R5 all⟩]⟩) _ hl3 (Ent.sel [some 0] (sd 1 Y Y <| sr 7 Y (.own _ Y) <| sd 45 Y Y <| sd 46 Y Y <| sd 47 Y Y <| sn) (.cons Y (roM D5) <| .nil) Y Y) (fun n3 s3 h => ?_)
     obtain ⟨i3, rfl⟩ : ∃ x, x = s3 := ⟨_, rfl⟩
     replace h := t1i h
     refine t1T ?_
     unfold salvage_Pieces_L3 at h
     refine Tr <| Rq Y (v_lss (ov Y) (ov Y)) <| R_nil <| T_seq <| T_if h Y (fun b48 h => ?_) (fun b48 h => ?_)
     ·
      refine T_skip <| T_seq <| T_block <| T_keep (kc 1 Y <| kc 7 Y <| kc 45 Y <| kc 46 Y <| kc 47 Y <| kn) Y <| Tr <| Rq Y (v_move (ov Y)) ?_
      obtain ⟨x3, h_x3, h⟩ := bnd h
      refine Rq Y (v_ixSG (ov Y) (ov Y) tL28 h_x3) ?_
      refine Rq Y (v_loadS_r (ov Y) tS3 Y) ?_
      refine Rq Y (v_assign (ov Y)) ?_
      refine Rq Y (v_assign (ov Y)) ?_
      refine R_nil <| T_block <| T_keep (kc 1 Y <| kc 7 Y <| kc 12 Y <| kc 13 Y <| kc 45 Y <| kc 46 Y <| kc 47 Y <| kn) Y <| Tr <| Rq Y (v_move (ov Y)) <| Rq Y (v_lss (ov Y) (ov Y)) <| Rq Y (v_move (ov Y)) <| Rq Y (.guarded ((decide (x3 < 0)) == false) Y Y Y Y fun h => v_move (ov Y)) <| Rq Y (.guarded ((decide (x3 < 0)) == false) Y Y Y Y fun h => v_move (ov Y)) <| Rq Y (.guarded ((decide (x3 < 0)) == false) Y Y Y Y fun h => v_lenO (ow Y h) Y Y tL68) <| Rq Y (.guarded ((decide (x3 < 0)) == false) Y Y Y Y fun h => v_mul (ov Y) (ow Y h) Y) <| Rq Y (.guarded ((decide (x3 < 0)) == false) Y Y Y Y fun h => v_gtr (ow Y h) (ow Y h)) <| Rq Y (v_or (ov Y) (fun hp => ow Y (gF hp))) <| Rq Y (v_assign (ov Y)) <| R_nil <| T_keep (kc 1 Y <| kc 7 Y <| kc 12 Y <| kc 13 Y <| kc 45 Y <| kc 46 Y <| kc 47 Y <| kc 52 Y <| kn) Y <| T_if h Y (fun b52 h => ?_) (fun b52 h => ?_)
      ·
       refine T_keep (kn) Y <| Tr <| Rq Y (v_assign (ov Y)) <| Rq Y (v_assign (ov Y)) <| R_nil ?_
       rw [lx h] at ho3
       replace h := ho3
       obtain rfl := rt (v := ([], 9)) h
       refine T_ret (retq ?_ (.two (.tmp Y (View.nils 70)) (.tmp Y (Dat.view (.b Y)))))
       rfl
      ·
       refine T_keep (kc 1 Y <| kc 7 Y <| kc 12 Y <| kc 13 Y <| kc 45 Y <| kc 46 Y <| kc 47 Y <| kn) Y <| Tr <| Rq Y (v_move (ov Y)) <| Rq Y (v_gtr (ov Y) (ov Y)) <| Rq Y (v_move (ov Y)) <| Rq Y (.guarded ((decide (0 < i3)) == true) Y Y Y Y fun h => v_move (ov Y)) <| Rq Y (.guarded ((decide (0 < i3)) == true) Y Y Y Y fun h => v_move (ov Y)) <| Rq Y (.guarded ((decide (0 < i3)) == true) Y Y Y Y fun h => v_move (ov Y)) <| Rq Y (.guarded ((decide (0 < i3)) == true) Y Y Y Y fun h => v_sub (ow Y h) (ov Y) Y) ?_
       obtain ⟨x4, h_x4, h⟩ := bnd h
       refine Rq Y (.guarded ((decide (0 < i3)) == true) Y Y Y Y fun h => v_ixSG (ow Y h) (ow Y h) tL28 (gdT h_x4 h)) ?_
       refine Rq Y (.guarded ((decide (0 < i3)) == true) Y Y Y Y fun h => v_loadS_r (ow Y h) tS3 Y) ?_
       refine Rq Y (.guarded ((decide (0 < i3)) == true) Y Y Y Y fun h => v_lss (ow Y h) (ow Y h)) ?_
       refine Rq Y (v_and (ov Y) (fun hp => ow Y (gT hp))) ?_
       refine Rq Y (v_assign (ov Y)) ?_
       refine R_nil <| T_keep (kc 1 Y <| kc 7 Y <| kc 45 Y <| kc 46 Y <| kc 47 Y <| kc 62 Y <| kn) Y <| T_if h Y (fun b62 h => ?_) (fun b62 h => ?_)
       ·
        refine T_keep (kn) Y <| Tr <| Rq Y (v_assign (ov Y)) <| Rq Y (v_assign (ov Y)) <| R_nil ?_
        rw [lx h] at ho3
        replace h := ho3
        obtain rfl := rt (v := ([], 10)) h
        refine T_ret (retq ?_ (.two (.tmp Y (View.nils 70)) (.tmp Y (Dat.view (.b Y)))))
        rfl
       ·
        refine T_skip <| T_keep (kc 1 Y <| kc 7 Y <| kc 45 Y <| kc 46 Y <| kc 47 Y <| kn) Y <| T_reg <| Rq Y (v_add (ov Y) (ov Y) Y) <| Rq Y (v_move (ov Y)) <| R_nil ?_
        exact ⟨(i64 (i3 + 1)), h, Ent.sel [some 0] (sd 1 Y Y <| sr 7 Y (.own _ Y) <| sd 45 Y Y <| sd 46 Y Y <| sd 47 Y Y <| sn) (.cons Y (roM D5) <| .nil) Y Y⟩
     ·
      refine T_exit ?_
      rw [lx h] at ho3
      replace h := ho3
      exact ⟨(), h, Ent.sel [some 0] (sd 1 Y Y <| sr 7 Y (.own _ Y) <| sn) (.cons Y (roM D5) <| .nil) Y Y⟩
    ·
     replace h := elr h
     cases j
     replace h := t0i h
     refine t0T ?_
     refine Tr <| Rq Y (v_assign (ov Y)) <| R_nil <| Tr <| Rq Y (v_assign (ov Y)) <| R_nil <| T_joinG (fun j => (.inr j)) (t1 fun out => ⟨[(14, .own 0 out.length)], [some ⟨70, List.map R70 out⟩]⟩) h (fun h => ?_) (fun j h => ?_)
     ·
      refine Tr <| Rq Y (v_move (ov Y)) <| Rq Y (v_len (slv_sl (ov Y) tZ_3) tL28 (len_map _ _)) <| Rq Y (v_add (ov Y) (ov Y) Y) <| Rq Y (v_move (ov Y)) <| R_nil <| T_block ?_
      obtain ⟨r4, hl4, ho4⟩ := bndL h
      refine T_loopG _ (t4 fun all5 out2 from_ i4 => ⟨[(1, .sl 3 (List.map R3 cuts)), (7, .sl 5 (List.map R5 all5)), (14, .own 0 out2.length), (15, .int .i64 from_), (77, .int .i64 (i64 ((cuts.length : Int) + 1))), (78, .int .i64 i4)], [some ⟨70, List.map R70 out2⟩]⟩) _ hl4 (Ent.sel [none] (sd 1 Y Y <| sr 7 Y (frzM Y Y Y D5) <| sr 14 Y (.row Y) <| sd 15 Y Y <| sd 77 Y Y <| sd 78 Y Y <| sn) (.row 70 <| .nil) Y Y) (fun n4 s4 h => ?_)
      obtain ⟨all5, out2, from_, i4⟩ := s4
      replace h := t4i h
      refine t4T ?_
      unfold salvage_Pieces_L4 at h
      refine Tr <| Rq Y (v_lss (ov Y) (ov Y)) <| R_nil <| T_seq <| T_if h Y (fun b79 h => ?_) (fun b79 h => ?_)
      ·
       refine T_skip <| T_seq <| T_block <| T_keep (kc 1 Y <| kc 7 Y <| kc 14 Y <| kc 15 Y <| kc 77 Y <| kc 78 Y <| kn) Y <| Tr <| Rq Y (v_move (ov Y)) <| Rq Y (v_assign (ov Y)) <| R_nil <| T_keep (kc 1 Y <| kc 7 Y <| kc 14 Y <| kc 15 Y <| kc 16 Y <| kc 77 Y <| kc 78 Y <| kn) Y <| Tr <| Rq Y (v_move (ov Y)) <| Rq Y (v_len (slv_sl (ov Y) tZ_5) tL68 (len_map _ _)) <| Rq Y (v_mul (ov Y) (ov Y) Y) <| Rq Y (v_assign (ov Y)) <| R_nil <| T_joinG id (t1 fun to => ⟨[(1, .sl 3 (List.map R3 cuts)), (7, .sl 5 (List.map R5 all5)), (14, .own 0 out2.length), (15, .int .i64 from_), (17, .int .i64 to), (77, .int .i64 (i64 ((cuts.length : Int) + 1))), (78, .int .i64 i4)], [some ⟨70, List.map R70 out2⟩]⟩) h (fun h => ?_) (fun j h => ?_)
       ·
        refine T_keep (kc 1 Y <| kc 7 Y <| kc 14 Y <| kc 15 Y <| kc 16 Y <| kc 17 Y <| kc 77 Y <| kc 78 Y <| kn) Y <| Tr <| Rq Y (v_move (ov Y)) <| Rq Y (v_move (ov Y)) <| Rq Y (v_len (slv_sl (ov Y) tZ_3) tL28 (len_map _ _)) <| Rq Y (v_lss (ov Y) (ov Y)) <| R_nil <| T_keep (kc 1 Y <| kc 7 Y <| kc 14 Y <| kc 15 Y <| kc 16 Y <| kc 17 Y <| kc 77 Y <| kc 78 Y <| kc 87 Y <| kn) Y <| T_if h Y (fun b87 h => ?_) (fun b87 h => ?_)
        ·
         refine T_keep (kc 1 Y <| kc 7 Y <| kc 14 Y <| kc 15 Y <| kc 16 Y <| kc 17 Y <| kc 77 Y <| kc 78 Y <| kn) Y <| T_reg <| Rq Y (v_move (ov Y)) <| Rq Y (v_move (ov Y)) ?_
         obtain ⟨x5, h_x5, h⟩ := bnd h
         refine Rq Y (v_ixSG (ov Y) (ov Y) tL28 h_x5) ?_
         refine Rq Y (v_loadS_r (ov Y) tS3 Y) ?_
         refine Rq Y (v_assign (ov Y)) ?_
         refine R_nil ?_
         exact ⟨x5, h, Ent.sel [some 0] (sd 1 Y Y <| sd 7 Y Y <| sr 14 Y (.own _ Y) <| sd 15 Y Y <| sd 17 Y Y <| sd 77 Y Y <| sd 78 Y Y <| sn) (.cons Y (roM D70) <| .nil) Y Y⟩
        ·
         refine T_skip ?_
         exact ⟨(i64 (2 * (all5.length : Int))), h, Ent.sel [some 0] (sd 1 Y Y <| sd 7 Y Y <| sr 14 Y (.own _ Y) <| sd 15 Y Y <| sd 17 Y Y <| sd 77 Y Y <| sd 78 Y Y <| sn) (.cons Y (roM D70) <| .nil) Y Y⟩
       ·
        obtain ⟨to, rfl⟩ : ∃ x, x = j := ⟨_, rfl⟩
        replace h := t1i h
        refine t1T ?_
        refine T_seq <| Tr <| Rq Y (v_move (ov Y)) <| Rq Y (v_move (ov Y)) <| Rq Y (v_gtr (ov Y) (ov Y)) <| R_nil <| T_keep (kc 1 Y <| kc 7 Y <| kc 14 Y <| kc 15 Y <| kc 17 Y <| kc 77 Y <| kc 78 Y <| kc 94 Y <| kn) Y <| T_if h Y (fun b94 h => ?_) (fun b94 h => ?_)
        ·
         refine T_keep (kc 1 Y <| kc 7 Y <| kc 14 Y <| kc 15 Y <| kc 17 Y <| kc 77 Y <| kc 78 Y <| kn) Y <| Tr <| Rq Y (v_move (ov Y)) <| Rq Y (v_move (ov Y)) <| Rq Y (v_move (ov Y)) ?_
         obtain ⟨y2, h_y2, h⟩ := bnd h
         refine Rq Y (v_call (ok_salvage_cut h_y2) (.cons (ov Y) (.b Y) <| .cons (ov Y) (.b Y) <| .cons (ov Y) (.b Y) <| .nil)) ?_
         refine Rx Y (w_alloc (row := [_, _]) 1 Y tZ70 Y tZ_70) ?_
         refine Rx Y (w_store (ov Y) (ov Y) (cells_agg tA70 Y) Y Y Y (Nat.le_of_ble_eq_true Y) (cell1_all Y) Y) ?_
         refine R_nil <| T_seq <| T_keep (kc 1 Y <| kc 7 Y <| kc 14 Y <| kc 17 Y <| kc 18 Y <| kc 77 Y <| kc 78 Y <| kn) Y <| Tr <| Rq Y (v_fieldP (ov Y) Y Y tF70_0) <| Rq Y (v_loadS (ov Y) Y Y Y tS68 Y) <| Rq Y (v_len (slv_sl (ov Y) tZ_5) tL68 (len_map _ _)) <| Rq Y (v_gtr (ov Y) (ov Y)) <| R_nil <| T_keep (kc 1 Y <| kc 7 Y <| kc 14 Y <| kc 17 Y <| kc 18 Y <| kc 77 Y <| kc 78 Y <| kc 102 Y <| kn) Y <| T_if h Y (fun b102 h => ?_) (fun b102 h => ?_)
         ·
          refine T_keep (kn) Y <| Tr <| Rq Y (v_assign (ov Y)) <| Rq Y (v_assign (ov Y)) <| R_nil ?_
          rw [lx h] at ho4
          replace h := ho4
          obtain rfl := rt (v := ([], 3)) h
          refine T_ret (retq ?_ (.two (.tmp Y (View.nils 70)) (.tmp Y (Dat.view (.b Y)))))
          rfl
         ·
          refine T_skip <| T_keep (kc 1 Y <| kc 7 Y <| kc 14 Y <| kc 17 Y <| kc 18 Y <| kc 77 Y <| kc 78 Y <| kn) Y <| T_reg <| Rq Y (v_move (ov Y)) <| Rq Y (v_loadA (ov Y) Y Y Y tA70 Y Y) <| R_q (.sl 70 (List.map R70 ([y2] : List api_Piece))) Y (v_lit tL102 (.cons (cva (ov Y)) Y (pwD Y) <| .nil) Y Y) ?_
          obtain ⟨l3, h_l3, h⟩ := bnd h
          refine Rx Y (w_appendG (ov Y) (slv_sl (ov Y) tZ_70) tL102 Y Y Y (fun _ => cell1_all Y) Y h_l3) ?_
          refine Rq Y (v_assign (ov Y)) ?_
          refine R_nil <| T_keep (kc 1 Y <| kc 7 Y <| kc 14 Y <| kc 17 Y <| kc 77 Y <| kc 78 Y <| kn) Y <| T_reg <| Rq Y (v_move (ov Y)) <| Rq Y (v_assign (ov Y)) <| R_nil <| T_keep (kc 1 Y <| kc 7 Y <| kc 14 Y <| kc 15 Y <| kc 77 Y <| kc 78 Y <| kn) Y <| T_reg <| Rq Y (v_add (ov Y) (ov Y) Y) <| Rq Y (v_move (ov Y)) <| R_nil ?_
          exact ⟨(all5, l3, to, (i64 (i4 + 1))), h, Ent.sel [some 0] (sd 1 Y Y <| sd 7 Y Y <| sr 14 Y (.own _ Y) <| sd 15 Y Y <| sd 77 Y Y <| sd 78 Y Y <| sn) (.cons Y (roM D70) <| .nil) Y Y⟩
        ·
         refine T_skip <| T_keep (kc 1 Y <| kc 7 Y <| kc 14 Y <| kc 15 Y <| kc 17 Y <| kc 77 Y <| kc 78 Y <| kn) Y <| T_reg <| Rq Y (v_move (ov Y)) <| Rq Y (v_assign (ov Y)) <| R_nil <| T_keep (kc 1 Y <| kc 7 Y <| kc 14 Y <| kc 15 Y <| kc 77 Y <| kc 78 Y <| kn) Y <| T_reg <| Rq Y (v_add (ov Y) (ov Y) Y) <| Rq Y (v_move (ov Y)) <| R_nil ?_
         exact ⟨(all5, out2, to, (i64 (i4 + 1))), h, Ent.sel [some 0] (sd 1 Y Y <| sd 7 Y Y <| sr 14 Y (.own _ Y) <| sd 15 Y Y <| sd 77 Y Y <| sd 78 Y Y <| sn) (.cons Y (roM D70) <| .nil) Y Y⟩
      ·
       refine T_exit ?_
       rw [lx h] at ho4
       replace h := ho4
       exact ⟨out2, h, Ent.sel [some 0] (sr 14 Y (.own _ Y) <| sn) (.cons Y (roM D70) <| .nil) Y Y⟩
     ·
      replace h := elr h
      obtain ⟨out, rfl⟩ : ∃ x, x = j := ⟨_, rfl⟩
      replace h := t1i h
      refine t1T ?_
      refine Tr <| Rq Y (v_move (ov Y)) <| Rq Y (v_assign (ov Y)) <| Rq Y (v_assign (ov Y)) <| R_nil ?_
      obtain rfl := rt (v := (out, 0)) h
      refine T_ret (retq ?_ (.two (.tmp Y (View.ownM Y Y D70)) (.tmp Y (Dat.view (.b Y)))))
      rfl

theorem ok_ref3_outside {n : Int} {low : Int} {high : Int} {r : Bool} (h : ref3_outside n low high = some r) :
  CSpec Tryz.prog gl0 256 [.int .i64 n, .int .i64 low, .int .i64 high] (.bool r) := by
 unfold ref3_outside at h
 replace h := bnd0 h
 refine spec_of (by kernel_rfl) Tryz.func256 Y Y ?_
 intro w0 A
 refine Tr <| Rq Y (v_assign (ov Y)) <| R_nil <| Tr <| Rq Y (v_move (ov Y)) <| Rq Y (v_move (ov Y)) <| Rq Y (v_lss (ov Y) (ov Y)) <| Rq Y (v_move (ov Y)) <| Rq Y (.guarded ((decide (n < low)) == false) Y Y Y Y fun h => v_move (ov Y)) <| Rq Y (.guarded ((decide (n < low)) == false) Y Y Y Y fun h => v_move (ov Y)) <| Rq Y (.guarded ((decide (n < low)) == false) Y Y Y Y fun h => v_gtr (ow Y h) (ow Y h)) <| Rq Y (v_or (ov Y) (fun hp => ow Y (gF hp))) <| Rq Y (v_assign (ov Y)) <| R_nil ?_
 obtain rfl := rt (v := ((decide (n < low)) || (decide (high < n)))) h
 refine T_ret (retq ?_ (.one (.tmp Y (Dat.view (.b Y)))))
 rfl

theorem ok_ref3_CheckMemory {m : api_Memory} {r : Int} (h : ref3_CheckMemory m = some r) :
  CSpec Tryz.prog gl0 199 [.agg [.int .i64 m.Slots, .int .i64 m.Limit, .sl 68 (List.map R68 m.Sectors), .sl 3 (List.map R3 m.Wear), .sl 4 (List.map R4 m.Bad)]] (.int .i64 r) := by
 unfold ref3_CheckMemory at h
 replace h := bnd0 h
 refine spec_of (by kernel_rfl) Tryz.func199 Y Y ?_
 intro w0 A
 refine Tr <| Rq Y (v_boxD (cva (ov Y)) Y tZ_172 Y) <| Rq Y (v_assign (ov Y)) <| R_nil <| T_keep (kc 1 Y <| kn) Y <| Tr <| Rq Y (v_fieldR (ov Y) tF172_2) <| Rq Y (v_loadS_r (ov Y) tS169 Y) <| Rq Y (v_len (slv_sl (ov Y) tZ_68) tL169 (len_map _ _)) <| Rq Y (v_assign (ov Y)) <| R_nil <| T_seq <| T_keep (kc 1 Y <| kc 3 Y <| kn) Y <| Tr <| Rq Y (v_fieldR (ov Y) tF172_0) <| Rq Y (v_loadS_r (ov Y) tS3 Y) ?_
 obtain ⟨y, h_y, h⟩ := bnd h
 refine Rq Y (v_call (ok_ref3_outside h_y) (.cons (ov Y) (.b Y) <| .cons (ov Y) (.b Y) <| .cons (ov Y) (.b Y) <| .nil)) ?_
 refine Rq Y (v_move (ov Y)) ?_
 refine Rq Y (.guarded (y == false) Y Y Y Y fun h => v_fieldR (ov Y) tF172_1) ?_
 refine Rq Y (.guarded (y == false) Y Y Y Y fun h => v_loadS_r (ow Y h) tS3 Y) ?_
 obtain ⟨y2, h_y2, h⟩ := bnd h
 refine Rq Y (.guarded (y == false) Y Y Y Y fun h => v_call (ok_ref3_outside (gdT h_y2 h)) (.cons (ow Y h) (.b Y) <| .cons (ov Y) (.b Y) <| .cons (ov Y) (.b Y) <| .nil)) ?_
 refine Rq Y (v_or (ov Y) (fun hp => ow Y (gF hp))) ?_
 refine Rq Y (v_move (ov Y)) ?_
 refine Rq Y (.guarded ((y || y2) == false) Y Y Y Y fun h => v_move (ov Y)) ?_
 obtain ⟨y3, h_y3, h⟩ := bnd h
 refine Rq Y (.guarded ((y || y2) == false) Y Y Y Y fun h => v_call (ok_ref3_outside (gdT h_y3 h)) (.cons (ow Y h) (.b Y) <| .cons (ov Y) (.b Y) <| .cons (ov Y) (.b Y) <| .nil)) ?_
 refine Rq Y (v_or (ov Y) (fun hp => ow Y (gF hp))) ?_
 refine R_nil <| T_keep (kc 1 Y <| kc 3 Y <| kc 20 Y <| kn) Y <| T_if h Y (fun b20 h => ?_) (fun b20 h => ?_)
 ·
  refine T_keep (kn) Y <| Tr <| Rq Y (v_assign (ov Y)) <| R_nil ?_
  obtain rfl := rt (v := 9) h
  refine T_ret (retq ?_ (.one (.tmp Y (Dat.view (.b Y)))))
  rfl
 ·
  refine T_skip <| T_seq <| T_keep (kc 1 Y <| kc 3 Y <| kn) Y <| Tr <| Rq Y (v_fieldR (ov Y) tF172_3) <| Rq Y (v_loadS_r (ov Y) tS28 Y) <| Rq Y (v_len (slv_sl (ov Y) tZ_3) tL28 (len_map _ _)) <| Rq Y (v_move (ov Y)) <| Rq Y (v_neq (ov Y) (ov Y)) <| Rq Y (v_move (ov Y)) <| Rq Y (.guarded ((!decide ((m.Wear.length : Int) = (m.Sectors.length : Int))) == false) Y Y Y Y fun h => v_fieldR (ov Y) tF172_4) <| Rq Y (.guarded ((!decide ((m.Wear.length : Int) = (m.Sectors.length : Int))) == false) Y Y Y Y fun h => v_loadS_r (ow Y h) tS170 Y) <| Rq Y (.guarded ((!decide ((m.Wear.length : Int) = (m.Sectors.length : Int))) == false) Y Y Y Y fun h => v_len (slv_sl (ow Y h) tZ_4) tL170 (len_map _ _)) <| Rq Y (.guarded ((!decide ((m.Wear.length : Int) = (m.Sectors.length : Int))) == false) Y Y Y Y fun h => v_move (ov Y)) <| Rq Y (.guarded ((!decide ((m.Wear.length : Int) = (m.Sectors.length : Int))) == false) Y Y Y Y fun h => v_neq (ow Y h) (ow Y h)) <| Rq Y (v_or (ov Y) (fun hp => ow Y (gF hp))) <| R_nil <| T_keep (kc 1 Y <| kc 32 Y <| kn) Y <| T_if h Y (fun b32 h => ?_) (fun b32 h => ?_)
  ·
   refine T_keep (kn) Y <| Tr <| Rq Y (v_assign (ov Y)) <| R_nil ?_
   obtain rfl := rt (v := 2) h
   refine T_ret (retq ?_ (.one (.tmp Y (Dat.view (.b Y)))))
   rfl
  ·
   refine T_skip <| T_joinG (fun j => (.inr j)) (t0 ⟨[], []⟩) h (fun h => ?_) (fun j h => ?_)
   ·
    refine T_keep (kc 1 Y <| kn) Y <| Tr <| Rq Y (v_fieldR (ov Y) tF172_2) <| Rq Y (v_loadS_r (ov Y) tS169 Y) <| Rq Y (v_len (slv_sl (ov Y) tZ_68) tL169 (len_map _ _)) <| Rq Y (v_move (ov Y)) <| R_nil <| T_block ?_
    obtain ⟨r1, hl1, ho1⟩ := bndL h
    refine T_loopG _ (t1 fun i => ⟨[(1, .rp [.int .i64 m.Slots, .int .i64 m.Limit, .sl 68 (List.map R68 m.Sectors), .sl 3 (List.map R3 m.Wear), .sl 4 (List.map R4 m.Bad)] 0), (34, .sl 68 (List.map R68 m.Sectors)), (35, .int .i64 (m.Sectors.length : Int)), (36, .int .i64 i)], []⟩) _ hl1 (Ent.sel [] (sd 1 Y Y <| sd 34 Y Y <| sd 35 Y Y <| sd 36 Y Y <| sn) (.nil) Y Y) (fun n1 s1 h => ?_)
    obtain ⟨i, rfl⟩ : ∃ x, x = s1 := ⟨_, rfl⟩
    replace h := t1i h
    refine t1T ?_
    unfold ref3_CheckMemory_L1 at h
    refine Tr <| Rq Y (v_lss (ov Y) (ov Y)) <| R_nil <| T_seq <| T_if h Y (fun b37 h => ?_) (fun b37 h => ?_)
    ·
     refine T_skip <| T_seq <| T_block <| T_keep (kc 1 Y <| kc 34 Y <| kc 35 Y <| kc 36 Y <| kn) Y <| Tr <| Rq Y (v_move (ov Y)) ?_
     obtain ⟨x, h_x, h⟩ := bnd h
     refine Rq Y (v_ixSG (ov Y) (ov Y) tL169 h_x) ?_
     refine Rq Y (v_loadS_r (ov Y) tS68 Y) ?_
     refine Rq Y (v_assign (ov Y)) ?_
     refine Rq Y (v_assign (ov Y)) ?_
     refine R_nil <| T_seq <| T_keep (kc 1 Y <| kc 4 Y <| kc 5 Y <| kc 34 Y <| kc 35 Y <| kc 36 Y <| kn) Y <| Tr <| Rq Y (v_move (ov Y)) <| Rq Y (v_len (slv_sl (ov Y) tZ_5) tL68 (len_map _ _)) <| Rq Y (v_fieldR (ov Y) tF172_0) <| Rq Y (v_loadS_r (ov Y) tS3 Y) <| Rq Y (v_mul (ov Y) (ov Y) Y) <| Rq Y (v_add (ov Y) (ov Y) Y) <| Rq Y (v_neq (ov Y) (ov Y)) <| R_nil <| T_keep (kc 1 Y <| kc 4 Y <| kc 34 Y <| kc 35 Y <| kc 36 Y <| kc 47 Y <| kn) Y <| T_if h Y (fun b47 h => ?_) (fun b47 h => ?_)
     ·
      refine T_keep (kn) Y <| Tr <| Rq Y (v_assign (ov Y)) <| R_nil ?_
      rw [lx h] at ho1
      replace h := ho1
      obtain rfl := rt (v := 3) h
      refine T_ret (retq ?_ (.one (.tmp Y (Dat.view (.b Y)))))
      rfl
     ·
      refine T_skip <| T_keep (kc 1 Y <| kc 4 Y <| kc 34 Y <| kc 35 Y <| kc 36 Y <| kn) Y <| T_seq (T_draw (cw := md0) (by kernel_rfl) ?_)
      refine Dq 0 Y Y Y (v_fieldR (ov Y) tF172_3) ?_
      refine Dq 1 Y Y Y (v_loadS_r (ov Y) tS28 Y) ?_
      refine Dq 2 Y Y Y (v_move (ov Y)) ?_
      obtain ⟨x2, h_x2, h⟩ := bnd h
      refine Dq 3 Y Y Y (v_ixSG (ov Y) (ov Y) tL28 h_x2) ?_
      refine Dq 4 Y Y Y (v_loadS_r (ov Y) tS3 Y) ?_
      refine Dq 5 Y Y Y (v_fieldR (ov Y) tF172_1) ?_
      refine Dq 6 Y Y Y (v_loadS_r (ov Y) tS3 Y) ?_
      obtain ⟨y4, h_y4, h⟩ := bnd h
      refine Dq 7 Y Y Y (v_call (ok_ref3_outside h_y4) (.cons (ov Y) (.b Y) <| .cons (ov Y) (.b Y) <| .cons (ov Y) (.b Y) <| .nil)) ?_
      refine D_done (by kernel_rfl) ?_
      refine T_keep (kc 1 Y <| kc 34 Y <| kc 35 Y <| kc 36 Y <| kc 55 Y <| kn) Y <| T_if h Y (fun b55 h => ?_) (fun b55 h => ?_)
      ·
       refine T_keep (kn) Y <| Tr <| Rq Y (v_assign (ov Y)) <| R_nil ?_
       rw [lx h] at ho1
       replace h := ho1
       obtain rfl := rt (v := 9) h
       refine T_ret (retq ?_ (.one (.tmp Y (Dat.view (.b Y)))))
       rfl
      ·
       refine T_skip <| T_keep (kc 1 Y <| kc 34 Y <| kc 35 Y <| kc 36 Y <| kn) Y <| T_reg <| Rq Y (v_add (ov Y) (ov Y) Y) <| Rq Y (v_move (ov Y)) <| R_nil ?_
       exact ⟨(i64 (i + 1)), h, Ent.sel [] (sd 1 Y Y <| sd 34 Y Y <| sd 35 Y Y <| sd 36 Y Y <| sn) (.nil) Y Y⟩
    ·
     refine T_exit ?_
     rw [lx h] at ho1
     replace h := ho1
     exact ⟨(), h, Ent.sel [] (sn) (.nil) Y Y⟩
   ·
    replace h := elr h
    cases j
    replace h := t0i h
    refine t0T ?_
    refine Tr <| Rq Y (v_assign (ov Y)) <| R_nil ?_
    obtain rfl := rt (v := 0) h
    refine T_ret (retq ?_ (.one (.tmp Y (Dat.view (.b Y)))))
    rfl

theorem ok_ref3_Fault {l : List api_Memory} {r : Int} (h : ref3_Fault l = some r) :
  CSpec Tryz.prog gl0 120 [.sl 172 (List.map R172 l)] (.int .i64 r) := by
 unfold ref3_Fault at h
 replace h := bnd0 h
 refine spec_of (by kernel_rfl) Tryz.func120 Y Y ?_
 intro w0 A
 refine Tr <| Rq Y (v_assign (ov Y)) <| R_nil <| T_seq <| T_keep (kc 0 Y <| kn) Y <| Tr <| Rq Y (v_move (ov Y)) <| Rq Y (v_len (slv_sl (ov Y) tZ_172) tL101 (len_map _ _)) <| Rq Y (v_eql (ov Y) (ov Y)) <| Rq Y (v_move (ov Y)) <| Rq Y (.guarded ((decide ((l.length : Int) = 0)) == false) Y Y Y Y fun h => v_move (ov Y)) <| Rq Y (.guarded ((decide ((l.length : Int) = 0)) == false) Y Y Y Y fun h => v_len (slv_sl (ow Y h) tZ_172) tL101 (len_map _ _)) <| Rq Y (.guarded ((decide ((l.length : Int) = 0)) == false) Y Y Y Y fun h => v_gtr (ow Y h) (ov Y)) <| Rq Y (v_or (ov Y) (fun hp => ow Y (gF hp))) <| R_nil <| T_keep (kc 0 Y <| kc 13 Y <| kn) Y <| T_if h Y (fun b13 h => ?_) (fun b13 h => ?_)
 ·
  refine T_keep (kn) Y <| Tr <| Rq Y (v_assign (ov Y)) <| R_nil ?_
  obtain rfl := rt (v := 3) h
  refine T_ret (retq ?_ (.one (.tmp Y (Dat.view (.b Y)))))
  rfl
 ·
  refine T_skip <| T_joinG (fun j => (.inr j)) (t0 ⟨[], []⟩) h (fun h => ?_) (fun j h => ?_)
  ·
   refine T_keep (kc 0 Y <| kn) Y <| Tr <| Rq Y (v_move (ov Y)) <| Rq Y (v_len (slv_sl (ov Y) tZ_172) tL101 (len_map _ _)) <| Rq Y (v_move (ov Y)) <| R_nil <| T_block ?_
   obtain ⟨r1, hl1, ho1⟩ := bndL h
   refine T_loopG _ (t1 fun i => ⟨[(14, .sl 172 (List.map R172 l)), (15, .int .i64 (l.length : Int)), (16, .int .i64 i)], []⟩) _ hl1 (Ent.sel [] (sd 14 Y Y <| sd 15 Y Y <| sd 16 Y Y <| sn) (.nil) Y Y) (fun n1 s1 h => ?_)
   obtain ⟨i, rfl⟩ : ∃ x, x = s1 := ⟨_, rfl⟩
   replace h := t1i h
   refine t1T ?_
   unfold ref3_Fault_L1 at h
   refine Tr <| Rq Y (v_lss (ov Y) (ov Y)) <| R_nil <| T_seq <| T_if h Y (fun b17 h => ?_) (fun b17 h => ?_)
   ·
    refine T_skip <| T_seq <| T_block <| T_keep (kc 14 Y <| kc 15 Y <| kc 16 Y <| kn) Y <| Tr ?_
    obtain ⟨x, h_x, h⟩ := bnd h
    refine Rq Y (v_ixSG (ov Y) (ov Y) tL101 h_x) ?_
    refine Rq Y (v_loadA_r (ov Y) tA172 Y Y) ?_
    refine Rx Y (w_alloc (row := [_, _, _, _, _]) 0 Y tZ172 Y tZ_172) ?_
    refine Rx Y (w_store (ov Y) (ov Y) (cells_agg tA172 Y) Y Y Y (Nat.le_of_ble_eq_true Y) (cell1_all Y) Y) ?_
    refine R_nil <| T_keep (kc 4 Y <| kc 14 Y <| kc 15 Y <| kc 16 Y <| kn) Y <| Tr <| Rq Y (v_loadA (ov Y) Y Y Y tA172 Y Y) ?_
    obtain ⟨y, h_y, h⟩ := bnd h
    refine Rq Y (v_call (ok_ref3_CheckMemory h_y) (.cons (ov Y) (.aggB Y) <| .nil)) ?_
    refine Rq Y (v_assign (ov Y)) ?_
    refine R_nil <| T_keep (kc 5 Y <| kc 14 Y <| kc 15 Y <| kc 16 Y <| kn) Y <| Tr <| Rq Y (v_move (ov Y)) <| Rq Y (v_neq (ov Y) (ov Y)) <| R_nil <| T_keep (kc 5 Y <| kc 14 Y <| kc 15 Y <| kc 16 Y <| kc 23 Y <| kn) Y <| T_if h Y (fun b23 h => ?_) (fun b23 h => ?_)
    ·
     refine T_keep (kc 5 Y <| kn) Y <| Tr <| Rq Y (v_move (ov Y)) <| Rq Y (v_assign (ov Y)) <| R_nil ?_
     rw [lx h] at ho1
     replace h := ho1
     obtain rfl := rt (v := y) h
     refine T_ret (retq ?_ (.one (.tmp Y (Dat.view (.b Y)))))
     rfl
    ·
     refine T_skip <| T_keep (kc 14 Y <| kc 15 Y <| kc 16 Y <| kn) Y <| T_reg <| Rq Y (v_add (ov Y) (ov Y) Y) <| Rq Y (v_move (ov Y)) <| R_nil ?_
     exact ⟨(i64 (i + 1)), h, Ent.sel [] (sd 14 Y Y <| sd 15 Y Y <| sd 16 Y Y <| sn) (.nil) Y Y⟩
   ·
    refine T_exit ?_
    rw [lx h] at ho1
    replace h := ho1
    exact ⟨(), h, Ent.sel [] (sn) (.nil) Y Y⟩
  ·
   replace h := elr h
   cases j
   replace h := t0i h
   refine t0T ?_
   refine Tr <| Rq Y (v_assign (ov Y)) <| R_nil ?_
   obtain rfl := rt (v := 0) h
   refine T_ret (retq ?_ (.one (.tmp Y (Dat.view (.b Y)))))
   rfl

theorem ok_ref4_Pieces {l : List api_Memory} {cuts : List Int} {r : (List api_Piece) × Int} (h : ref4_Pieces l cuts = some r) :
  CSpec Tryz.prog gl0 57 [.sl 172 (List.map R172 l), .sl 3 (List.map R3 cuts)] (.tuple [.sl 70 (List.map R70 r.1), .int .i64 r.2]) := by
 unfold ref4_Pieces at h
 replace h := bnd0 h
 refine spec_of (by kernel_rfl) Tryz.func57 Y Y ?_
 intro w0 A
 refine Tr <| Rq Y (v_assign (ov Y)) <| Rq Y (v_assign (ov Y)) <| R_nil <| T_seq <| T_keep (kc 0 Y <| kc 1 Y <| kn) Y <| Tr <| Rq Y (v_move (ov Y)) ?_
 obtain ⟨y, h_y, h⟩ := bnd h
 refine Rq Y (v_call (ok_ref3_Fault h_y) (.cons (ov Y) (.b Y) <| .nil)) ?_
 refine Rq Y (v_assign (ov Y)) ?_
 refine R_nil <| T_keep (kc 0 Y <| kc 1 Y <| kc 6 Y <| kn) Y <| Tr <| Rq Y (v_move (ov Y)) <| Rq Y (v_neq (ov Y) (ov Y)) <| R_nil <| T_keep (kc 0 Y <| kc 1 Y <| kc 6 Y <| kc 23 Y <| kn) Y <| T_if h Y (fun b23 h => ?_) (fun b23 h => ?_)
 ·
  refine T_keep (kc 6 Y <| kn) Y <| Tr <| Rq Y (v_move (ov Y)) <| Rq Y (v_assign (ov Y)) <| Rq Y (v_assign (ov Y)) <| R_nil ?_
  obtain rfl := rt (v := ([], y)) h
  refine T_ret (retq ?_ (.two (.tmp Y (View.nils 70)) (.tmp Y (Dat.view (.b Y)))))
  rfl
 ·
  refine T_skip <| T_seq <| T_keep (kc 0 Y <| kc 1 Y <| kn) Y <| Tr <| Rq Y (v_move (ov Y)) <| Rq Y (v_len (slv_sl (ov Y) tZ_3) tL28 (len_map _ _)) <| Rq Y (v_gtr (ov Y) (ov Y)) <| R_nil <| T_keep (kc 0 Y <| kc 1 Y <| kc 27 Y <| kn) Y <| T_if h Y (fun b27 h => ?_) (fun b27 h => ?_)
  ·
   refine T_keep (kn) Y <| Tr <| Rq Y (v_assign (ov Y)) <| Rq Y (v_assign (ov Y)) <| R_nil ?_
   obtain rfl := rt (v := ([], 3)) h
   refine T_ret (retq ?_ (.two (.tmp Y (View.nils 70)) (.tmp Y (Dat.view (.b Y)))))
   rfl
  ·
   refine T_skip <| T_keep (kc 0 Y <| kc 1 Y <| kn) Y <| Tr <| Rq Y (v_build (ys := [_, _]) tPL70 tHA70 tZ70 (.nil) Y) <| Rx Y (w_alloc (row := [_, _]) 0 Y tZ70 Y tZ_70) <| Rx Y (w_store (ov Y) (ov Y) (cells_agg tA70 Y) Y Y Y (Nat.le_of_ble_eq_true Y) (cell1_all Y) Y) <| R_nil <| T_joinG id (t1 fun Bytes => ⟨[(1, .sl 3 (List.map R3 cuts)), (7, .ptr 0 1 0 0)], [some ⟨70, [[.own 1 Bytes.length, .bool false]]⟩, some ⟨5, List.map R5 Bytes⟩]⟩) h (fun h => ?_) (fun j h => ?_)
   ·
    refine T_keep (kc 0 Y <| kc 1 Y <| kc 7 Y <| kn) Y <| Tr <| Rq Y (v_move (ov Y)) <| Rq Y (v_len (slv_sl (ov Y) tZ_172) tL101 (len_map _ _)) <| Rq Y (v_move (ov Y)) <| R_nil <| T_block ?_
    obtain ⟨r1, hl1, ho1⟩ := bndL h
    refine T_loopG _ (t2 fun Bytes2 i => ⟨[(1, .sl 3 (List.map R3 cuts)), (7, .ptr 0 1 0 0), (29, .sl 172 (List.map R172 l)), (30, .int .i64 (l.length : Int)), (31, .int .i64 i)], [some ⟨70, [[.own 1 Bytes2.length, .bool false]]⟩, some ⟨5, List.map R5 Bytes2⟩]⟩) _ hl1 (Ent.sel [some 0, none] (sd 1 Y Y <| sr 7 Y (.ptr _ _ _ Y) <| sd 29 Y Y <| sd 30 Y Y <| sd 31 Y Y <| sn) (.cons Y (ro1 (by exact tZ_70.symm) (rlc (.row Y) <| rlc (.dat Y) <| rln)) <| .row 5 <| .nil) Y Y) (fun n1 s1 h => ?_)
    obtain ⟨Bytes2, i⟩ := s1
    replace h := t2i h
    refine t2T ?_
    unfold ref4_Pieces_L1 at h
    refine Tr <| Rq Y (v_lss (ov Y) (ov Y)) <| R_nil <| T_seq <| T_if h Y (fun b32 h => ?_) (fun b32 h => ?_)
    ·
     refine T_skip <| T_joinG id (t1 fun Bytes3 => ⟨[(1, .sl 3 (List.map R3 cuts)), (7, .ptr 0 1 0 0), (29, .sl 172 (List.map R172 l)), (30, .int .i64 (l.length : Int)), (31, .int .i64 i)], [some ⟨70, [[.own 1 Bytes3.length, .bool false]]⟩, some ⟨5, List.map R5 Bytes3⟩]⟩) h (fun h => ?_) (fun j h => ?_)
     ·
      refine T_block <| T_keep (kc 1 Y <| kc 7 Y <| kc 29 Y <| kc 30 Y <| kc 31 Y <| kn) Y <| Tr ?_
      obtain ⟨x, h_x, h⟩ := bnd h
      refine Rq Y (v_ixSG (ov Y) (ov Y) tL101 h_x) ?_
      refine Rq Y (v_loadA_r (ov Y) tA172 Y Y) ?_
      refine Rx Y (w_alloc (row := [_, _, _, _, _]) 2 Y tZ172 Y tZ_172) ?_
      refine Rx Y (w_store (ov Y) (ov Y) (cells_agg tA172 Y) Y Y Y (Nat.le_of_ble_eq_true Y) (cell1_all Y) Y) ?_
      refine R_nil <| T_keep (kc 1 Y <| kc 7 Y <| kc 9 Y <| kc 29 Y <| kc 30 Y <| kc 31 Y <| kn) Y <| Tr <| Rq Y (v_fieldP (ov Y) Y Y tF172_2) <| Rq Y (v_loadS (ov Y) Y Y Y tS169 Y) <| Rq Y (v_len (slv_sl (ov Y) tZ_68) tL169 (len_map _ _)) <| Rq Y (v_move (ov Y)) <| R_nil <| T_block ?_
      obtain ⟨r2, hl2, ho2⟩ := bndL h
      refine T_loopG _ (t2 fun Bytes4 i2 => ⟨[(1, .sl 3 (List.map R3 cuts)), (7, .ptr 0 1 0 0), (29, .sl 172 (List.map R172 l)), (30, .int .i64 (l.length : Int)), (31, .int .i64 i), (36, .sl 68 (List.map R68 x.Sectors)), (37, .int .i64 (x.Sectors.length : Int)), (38, .int .i64 i2)], [some ⟨70, [[.own 1 Bytes4.length, .bool false]]⟩, some ⟨5, List.map R5 Bytes4⟩]⟩) _ hl2 (Ent.sel [some 0, some 1] (sd 1 Y Y <| sr 7 Y (.ptr _ _ _ Y) <| sd 29 Y Y <| sd 30 Y Y <| sd 31 Y Y <| sd 36 Y Y <| sd 37 Y Y <| sd 38 Y Y <| sn) (.cons Y (ro1 (by exact tZ_70.symm) (rlc (.own _ Y) <| rlc (.dat Y) <| rln)) <| .cons Y (roM D5) <| .nil) Y Y) (fun n2 s2 h => ?_)
      obtain ⟨Bytes4, i2⟩ := s2
      replace h := t2i h
      refine t2T ?_
      unfold ref4_Pieces_L2 at h
      refine Tr <| Rq Y (v_lss (ov Y) (ov Y)) <| R_nil <| T_seq <| T_if h Y (fun b39 h => ?_) (fun b39 h => ?_)
      ·
       refine T_skip <| T_seq <| T_block <| T_keep (kc 1 Y <| kc 7 Y <| kc 29 Y <| kc 30 Y <| kc 31 Y <| kc 36 Y <| kc 37 Y <| kc 38 Y <| kn) Y <| Tr ?_
       obtain ⟨x2, h_x2, h⟩ := bnd h
       refine Rq Y (v_ixSG (ov Y) (ov Y) tL169 h_x2) ?_
       refine Rq Y (v_loadS_r (ov Y) tS68 Y) ?_
       refine Rq Y (v_assign (ov Y)) ?_
       refine R_nil <| T_keep (kc 1 Y <| kc 7 Y <| kc 11 Y <| kc 29 Y <| kc 30 Y <| kc 31 Y <| kc 36 Y <| kc 37 Y <| kc 38 Y <| kn) Y <| T_reg <| Rq Y (v_fieldP (ov Y) Y Y tF70_0) <| Rq Y (v_loadS (ov Y) Y Y Y tS68 Y) <| Rq Y (v_move (ov Y)) ?_
       obtain ⟨l2, h_l2, h⟩ := bnd h
       refine Rx Y (w_appendZ (ov Y) (slv_sl (ov Y) tZ_5) tL68 Y Y (fun _ => cell1_all Y) Y h_l2) ?_
       refine Rq Y (v_fieldP (ov Y) Y Y tF70_0) ?_
       refine Rx Y (w_store (ov Y) (ov Y) (cells_scal tS68) Y Y Y (Nat.le_of_ble_eq_true Y) (cell1_all Y) Y) ?_
       refine R_nil <| T_keep (kc 1 Y <| kc 7 Y <| kc 29 Y <| kc 30 Y <| kc 31 Y <| kc 36 Y <| kc 37 Y <| kc 38 Y <| kn) Y <| T_reg <| Rq Y (v_add (ov Y) (ov Y) Y) <| Rq Y (v_move (ov Y)) <| R_nil ?_
       exact ⟨(l2, (i64 (i2 + 1))), h, Ent.sel [some 0, some 1] (sd 1 Y Y <| sr 7 Y (.ptr _ _ _ Y) <| sd 29 Y Y <| sd 30 Y Y <| sd 31 Y Y <| sd 36 Y Y <| sd 37 Y Y <| sd 38 Y Y <| sn) (.cons Y (ro1 (by exact tZ_70.symm) (rlc (.own _ Y) <| rlc (.dat Y) <| rln)) <| .cons Y (roM D5) <| .nil) Y Y⟩
      ·
       refine T_exit ?_
       rw [lx h] at ho2
       replace h := ho2
       exact ⟨Bytes4, h, Ent.sel [some 0, some 1] (sd 1 Y Y <| sr 7 Y (.ptr _ _ _ Y) <| sd 29 Y Y <| sd 30 Y Y <| sd 31 Y Y <| sn) (.cons Y (ro1 (by exact tZ_70.symm) (rlc (.own _ Y) <| rlc (.dat Y) <| rln)) <| .cons Y (roM D5) <| .nil) Y Y⟩
     ·
      obtain ⟨Bytes3, rfl⟩ : ∃ x, x = j := ⟨_, rfl⟩
      replace h := t1i h
      refine t1T ?_
      refine T_reg <| Rq Y (v_add (ov Y) (ov Y) Y) <| Rq Y (v_move (ov Y)) <| R_nil ?_
      exact ⟨(Bytes3, (i64 (i + 1))), h, Ent.sel [some 0, some 1] (sd 1 Y Y <| sr 7 Y (.ptr _ _ _ Y) <| sd 29 Y Y <| sd 30 Y Y <| sd 31 Y Y <| sn) (.cons Y (ro1 (by exact tZ_70.symm) (rlc (.own _ Y) <| rlc (.dat Y) <| rln)) <| .cons Y (roM D5) <| .nil) Y Y⟩
    ·
     refine T_exit ?_
     rw [lx h] at ho1
     replace h := ho1
     exact ⟨Bytes2, h, Ent.sel [some 0, some 1] (sd 1 Y Y <| sr 7 Y (.ptr _ _ _ Y) <| sn) (.cons Y (ro1 (by exact tZ_70.symm) (rlc (.own _ Y) <| rlc (.dat Y) <| rln)) <| .cons Y (roM D5) <| .nil) Y Y⟩
   ·
    obtain ⟨Bytes, rfl⟩ : ∃ x, x = j := ⟨_, rfl⟩
    replace h := t1i h
    refine t1T ?_
    refine Tr <| Rq Y (v_loadA (ov Y) Y Y Y tA70 Y Y) ?_
    obtain ⟨y2, h_y2, h⟩ := bnd h
    refine R_ent (Ent.sel [some 0, none] (sd 1 Y Y <| sr 7 Y (.ptr (r' := 0) _ _ _ Y) <| sr 49 Y (rAgg (rlc (frzM Y Y Y D5) <| rlc (.dat Y) <| rln)) <| sn) (.cons Y (ro1 (by exact tZ_70.symm) (rlc (frzM Y Y Y D5) <| rlc (.dat Y) <| rln)) <| .row 5 <| .nil) Y Y) ?_
    refine Rq Y (v_call (ok_ref4_Halves h_y2) (.cons (ov Y) (.aggB Y) <| .nil)) ?_
    refine Rq Y (v_assign (ov Y)) ?_
    refine R_nil <| T_joinG (fun j => (.inr j)) (t0 ⟨[(1, .sl 3 (List.map R3 cuts)), (12, .sl 5 (List.map R5 y2))], []⟩) h (fun h => ?_) (fun j h => ?_)
    ·
     refine T_keep (kc 1 Y <| kc 12 Y <| kn) Y <| Tr <| Rq Y (v_move (ov Y)) <| Rq Y (v_len (slv_sl (ov Y) tZ_3) tL28 (len_map _ _)) <| Rq Y (v_move (ov Y)) <| R_nil <| T_block ?_
     obtain ⟨r3, hl3, ho3⟩ := bndL h
     refine T_loopG _ (t1 fun i3 => ⟨[(1, .sl 3 (List.map R3 cuts)), (12, .sl 5 (List.map R5 y2)), (51, .sl 3 (List.map R3 cuts)), (52, .int .i64 (cuts.length : Int)), (53, .int .i64 i3)], []⟩) _ hl3 (Ent.sel [] (sd 1 Y Y <| sd 12 Y Y <| sd 51 Y Y <| sd 52 Y Y <| sd 53 Y Y <| sn) (.nil) Y Y) (fun n3 s3 h => ?_)
     obtain ⟨i3, rfl⟩ : ∃ x, x = s3 := ⟨_, rfl⟩
     replace h := t1i h
     refine t1T ?_
     unfold ref4_Pieces_L3 at h
     refine Tr <| Rq Y (v_lss (ov Y) (ov Y)) <| R_nil <| T_seq <| T_if h Y (fun b54 h => ?_) (fun b54 h => ?_)
     ·
      refine T_skip <| T_seq <| T_block <| T_keep (kc 1 Y <| kc 12 Y <| kc 51 Y <| kc 52 Y <| kc 53 Y <| kn) Y <| Tr <| Rq Y (v_move (ov Y)) ?_
      obtain ⟨x3, h_x3, h⟩ := bnd h
      refine Rq Y (v_ixSG (ov Y) (ov Y) tL28 h_x3) ?_
      refine Rq Y (v_loadS_r (ov Y) tS3 Y) ?_
      refine Rq Y (v_assign (ov Y)) ?_
      refine Rq Y (v_assign (ov Y)) ?_
      refine R_nil <| T_seq <| T_keep (kc 1 Y <| kc 12 Y <| kc 13 Y <| kc 14 Y <| kc 51 Y <| kc 52 Y <| kc 53 Y <| kn) Y <| Tr <| Rq Y (v_move (ov Y)) <| Rq Y (v_lss (ov Y) (ov Y)) <| Rq Y (v_move (ov Y)) <| Rq Y (.guarded ((decide (x3 < 0)) == false) Y Y Y Y fun h => v_move (ov Y)) <| Rq Y (.guarded ((decide (x3 < 0)) == false) Y Y Y Y fun h => v_move (ov Y)) <| Rq Y (.guarded ((decide (x3 < 0)) == false) Y Y Y Y fun h => v_len (slv_sl (ow Y h) tZ_5) tL68 (len_map _ _)) <| Rq Y (.guarded ((decide (x3 < 0)) == false) Y Y Y Y fun h => v_gtr (ow Y h) (ow Y h)) <| Rq Y (v_or (ov Y) (fun hp => ow Y (gF hp))) <| R_nil <| T_keep (kc 1 Y <| kc 12 Y <| kc 13 Y <| kc 14 Y <| kc 51 Y <| kc 52 Y <| kc 53 Y <| kc 65 Y <| kn) Y <| T_if h Y (fun b65 h => ?_) (fun b65 h => ?_)
      ·
       refine T_keep (kn) Y <| Tr <| Rq Y (v_assign (ov Y)) <| Rq Y (v_assign (ov Y)) <| R_nil ?_
       rw [lx h] at ho3
       replace h := ho3
       obtain rfl := rt (v := ([], 9)) h
       refine T_ret (retq ?_ (.two (.tmp Y (View.nils 70)) (.tmp Y (Dat.view (.b Y)))))
       rfl
      ·
       refine T_skip <| T_keep (kc 1 Y <| kc 12 Y <| kc 13 Y <| kc 14 Y <| kc 51 Y <| kc 52 Y <| kc 53 Y <| kn) Y <| Tr <| Rq Y (v_move (ov Y)) <| Rq Y (v_gtr (ov Y) (ov Y)) <| Rq Y (v_move (ov Y)) <| Rq Y (.guarded ((decide (0 < i3)) == true) Y Y Y Y fun h => v_move (ov Y)) <| Rq Y (.guarded ((decide (0 < i3)) == true) Y Y Y Y fun h => v_move (ov Y)) <| Rq Y (.guarded ((decide (0 < i3)) == true) Y Y Y Y fun h => v_move (ov Y)) <| Rq Y (.guarded ((decide (0 < i3)) == true) Y Y Y Y fun h => v_sub (ow Y h) (ov Y) Y) ?_
       obtain ⟨x4, h_x4, h⟩ := bnd h
       refine Rq Y (.guarded ((decide (0 < i3)) == true) Y Y Y Y fun h => v_ixSG (ow Y h) (ow Y h) tL28 (gdT h_x4 h)) ?_
       refine Rq Y (.guarded ((decide (0 < i3)) == true) Y Y Y Y fun h => v_loadS_r (ow Y h) tS3 Y) ?_
       refine Rq Y (.guarded ((decide (0 < i3)) == true) Y Y Y Y fun h => v_lss (ow Y h) (ow Y h)) ?_
       refine Rq Y (v_and (ov Y) (fun hp => ow Y (gT hp))) ?_
       refine R_nil <| T_keep (kc 1 Y <| kc 12 Y <| kc 51 Y <| kc 52 Y <| kc 53 Y <| kc 76 Y <| kn) Y <| T_if h Y (fun b76 h => ?_) (fun b76 h => ?_)
       ·
        refine T_keep (kn) Y <| Tr <| Rq Y (v_assign (ov Y)) <| Rq Y (v_assign (ov Y)) <| R_nil ?_
        rw [lx h] at ho3
        replace h := ho3
        obtain rfl := rt (v := ([], 10)) h
        refine T_ret (retq ?_ (.two (.tmp Y (View.nils 70)) (.tmp Y (Dat.view (.b Y)))))
        rfl
       ·
        refine T_skip <| T_keep (kc 1 Y <| kc 12 Y <| kc 51 Y <| kc 52 Y <| kc 53 Y <| kn) Y <| T_reg <| Rq Y (v_add (ov Y) (ov Y) Y) <| Rq Y (v_move (ov Y)) <| R_nil ?_
        exact ⟨(i64 (i3 + 1)), h, Ent.sel [] (sd 1 Y Y <| sd 12 Y Y <| sd 51 Y Y <| sd 52 Y Y <| sd 53 Y Y <| sn) (.nil) Y Y⟩
     ·
      refine T_exit ?_
      rw [lx h] at ho3
      replace h := ho3
      exact ⟨(), h, Ent.sel [] (sd 1 Y Y <| sd 12 Y Y <| sn) (.nil) Y Y⟩
    ·
     replace h := elr h
     cases j
     replace h := t0i h
     refine t0T ?_
     refine Tr <| Rq Y (v_assign (ov Y)) <| R_nil <| Tr <| Rq Y (v_assign (ov Y)) <| R_nil <| T_joinG (fun j => (.inr j)) (t1 fun out => ⟨[(15, .own 0 out.length)], [some ⟨70, List.map R70 out⟩]⟩) h (fun h => ?_) (fun j h => ?_)
     ·
      refine Tr <| Rx Y (w_litG (r := 0) (xs := ([] : List Int)) (f := R3) Y tL28 (.nil) Y Y Y) <| Rq Y (v_move (ov Y)) ?_
      obtain ⟨l3, h_l3, h⟩ := bnd h
      refine Rx Y (w_appendZ (ov Y) (slv_sl (ov Y) tZ_3) tL28 Y Y (fun _ => cell1_all Y) Y h_l3) ?_
      refine Rq Y (v_move (ov Y)) ?_
      refine Rq Y (v_len (slv_sl (ov Y) tZ_5) tL68 (len_map _ _)) ?_
      refine R_q (.sl 3 (List.map R3 ([(y2.length : Int)] : List Int))) Y (v_lit tL28 (.cons (cvs (ov Y) (cell1_b Y)) Y (.cons (.b Y) .nil) <| .nil) Y Y) ?_
      obtain ⟨l4, h_l4, h⟩ := bnd h
      refine Rx Y (w_appendG (ov Y) (slv_sl (ov Y) tZ_3) tL28 Y Y Y (fun _ => cell1_all Y) Y h_l4) ?_
      refine Rq Y (v_lenO (ov Y) Y Y tL28) ?_
      refine Rq Y (v_move (ov Y)) ?_
      refine R_nil <| T_block ?_
      obtain ⟨r4, hl4, ho4⟩ := bndL h
      refine T_loopG _ (t3 fun out2 from_ i4 => ⟨[(12, .sl 5 (List.map R5 y2)), (15, .own 0 out2.length), (16, .int .i64 from_), (84, .own 1 l4.length), (85, .int .i64 (l4.length : Int)), (86, .int .i64 i4)], [some ⟨70, List.map R70 out2⟩, some ⟨3, List.map R3 l4⟩]⟩) _ hl4 (Ent.sel [none, some 0] (sd 12 Y Y <| sr 15 Y (.row Y) <| sd 16 Y Y <| sr 84 Y (.own _ Y) <| sd 85 Y Y <| sd 86 Y Y <| sn) (.row 70 <| .cons Y (roM D3) <| .nil) Y Y) (fun n4 s4 h => ?_)
      obtain ⟨out2, from_, i4⟩ := s4
      replace h := t3i h
      refine t3T ?_
      unfold ref4_Pieces_L4 at h
      refine Tr <| Rq Y (v_lss (ov Y) (ov Y)) <| R_nil <| T_seq <| T_if h Y (fun b87 h => ?_) (fun b87 h => ?_)
      ·
       refine T_skip <| T_seq <| T_block <| T_keep (kc 12 Y <| kc 15 Y <| kc 16 Y <| kc 84 Y <| kc 85 Y <| kc 86 Y <| kn) Y <| Tr ?_
       obtain ⟨x5, h_x5, h⟩ := bnd h
       refine Rq Y (v_ixOG (ov Y) (ov Y) tL28 Y Y h_x5) ?_
       refine Rq Y (v_loadSR (ov Y) Y Y h_x5 tS3 Y) ?_
       refine Rq Y (v_assign (ov Y)) ?_
       refine R_nil <| T_seq <| T_keep (kc 12 Y <| kc 15 Y <| kc 16 Y <| kc 18 Y <| kc 84 Y <| kc 85 Y <| kc 86 Y <| kn) Y <| Tr <| Rq Y (v_move (ov Y)) <| Rq Y (v_move (ov Y)) <| Rq Y (v_gtr (ov Y) (ov Y)) <| R_nil <| T_keep (kc 12 Y <| kc 15 Y <| kc 16 Y <| kc 18 Y <| kc 84 Y <| kc 85 Y <| kc 86 Y <| kc 92 Y <| kn) Y <| T_if h Y (fun b92 h => ?_) (fun b92 h => ?_)
       ·
        refine T_keep (kc 12 Y <| kc 15 Y <| kc 16 Y <| kc 18 Y <| kc 84 Y <| kc 85 Y <| kc 86 Y <| kn) Y <| Tr <| Rq Y (v_move (ov Y)) <| Rq Y (v_move (ov Y)) <| Rq Y (v_move (ov Y)) ?_
        obtain ⟨l5, h_l5, h⟩ := bnd h
        refine Rq Y (v_sliceG (ov Y) tL68 (oi (ov Y)) (oi (ov Y)) h_l5) ?_
        refine Rq Y (v_move (ov Y)) ?_
        obtain ⟨q, h_q, h⟩ := bnd h
        refine Rq Y (v_remG (ov Y) (ov Y) h_q) ?_
        refine Rq Y (v_eql (ov Y) (ov Y)) ?_
        obtain ⟨y3, h_y3, h⟩ := bnd h
        refine Rq Y (v_call (ok_ref4_OfHalves h_y3) (.cons (ov Y) (.b Y) <| .cons (ov Y) (.b Y) <| .nil)) ?_
        refine Rx Y (w_alloc (row := [_, _]) 2 Y tZ70 Y tZ_70) ?_
        refine Rx Y (w_store (ov Y) (ov Y) (cells_agg tA70 Y) Y Y Y (Nat.le_of_ble_eq_true Y) (cell1_all Y) Y) ?_
        refine R_nil <| T_seq <| T_keep (kc 12 Y <| kc 15 Y <| kc 18 Y <| kc 19 Y <| kc 84 Y <| kc 85 Y <| kc 86 Y <| kn) Y <| Tr <| Rq Y (v_fieldP (ov Y) Y Y tF70_0) <| Rq Y (v_loadS (ov Y) Y Y Y tS68 Y) <| Rq Y (v_len (slv_sl (ov Y) tZ_5) tL68 (len_map _ _)) <| Rq Y (v_gtr (ov Y) (ov Y)) <| R_nil <| T_keep (kc 12 Y <| kc 15 Y <| kc 18 Y <| kc 19 Y <| kc 84 Y <| kc 85 Y <| kc 86 Y <| kc 104 Y <| kn) Y <| T_if h Y (fun b104 h => ?_) (fun b104 h => ?_)
        ·
         refine T_keep (kn) Y <| Tr <| Rq Y (v_assign (ov Y)) <| Rq Y (v_assign (ov Y)) <| R_nil ?_
         rw [lx h] at ho4
         replace h := ho4
         obtain rfl := rt (v := ([], 3)) h
         refine T_ret (retq ?_ (.two (.tmp Y (View.nils 70)) (.tmp Y (Dat.view (.b Y)))))
         rfl
        ·
         refine T_skip <| T_keep (kc 12 Y <| kc 15 Y <| kc 18 Y <| kc 19 Y <| kc 84 Y <| kc 85 Y <| kc 86 Y <| kn) Y <| T_reg <| Rq Y (v_move (ov Y)) <| Rq Y (v_loadA (ov Y) Y Y Y tA70 Y Y) <| R_q (.sl 70 (List.map R70 ([y3] : List api_Piece))) Y (v_lit tL102 (.cons (cva (ov Y)) Y (pwD Y) <| .nil) Y Y) ?_
         obtain ⟨l6, h_l6, h⟩ := bnd h
         refine Rx Y (w_appendG (ov Y) (slv_sl (ov Y) tZ_70) tL102 Y Y Y (fun _ => cell1_all Y) Y h_l6) ?_
         refine Rq Y (v_assign (ov Y)) ?_
         refine R_nil <| T_keep (kc 12 Y <| kc 15 Y <| kc 18 Y <| kc 84 Y <| kc 85 Y <| kc 86 Y <| kn) Y <| T_reg <| Rq Y (v_move (ov Y)) <| Rq Y (v_assign (ov Y)) <| R_nil <| T_keep (kc 12 Y <| kc 15 Y <| kc 16 Y <| kc 84 Y <| kc 85 Y <| kc 86 Y <| kn) Y <| T_reg <| Rq Y (v_add (ov Y) (ov Y) Y) <| Rq Y (v_move (ov Y)) <| R_nil ?_
         exact ⟨(l6, x5, (i64 (i4 + 1))), h, Ent.sel [some 0, some 1] (sd 12 Y Y <| sr 15 Y (.own _ Y) <| sd 16 Y Y <| sr 84 Y (.own _ Y) <| sd 85 Y Y <| sd 86 Y Y <| sn) (.cons Y (roM D70) <| .cons Y (roM D3) <| .nil) Y Y⟩
       ·
        refine T_skip <| T_keep (kc 12 Y <| kc 15 Y <| kc 16 Y <| kc 18 Y <| kc 84 Y <| kc 85 Y <| kc 86 Y <| kn) Y <| T_reg <| Rq Y (v_move (ov Y)) <| Rq Y (v_assign (ov Y)) <| R_nil <| T_keep (kc 12 Y <| kc 15 Y <| kc 16 Y <| kc 84 Y <| kc 85 Y <| kc 86 Y <| kn) Y <| T_reg <| Rq Y (v_add (ov Y) (ov Y) Y) <| Rq Y (v_move (ov Y)) <| R_nil ?_
        exact ⟨(out2, x5, (i64 (i4 + 1))), h, Ent.sel [some 0, some 1] (sd 12 Y Y <| sr 15 Y (.own _ Y) <| sd 16 Y Y <| sr 84 Y (.own _ Y) <| sd 85 Y Y <| sd 86 Y Y <| sn) (.cons Y (roM D70) <| .cons Y (roM D3) <| .nil) Y Y⟩
      ·
       refine T_exit ?_
       rw [lx h] at ho4
       replace h := ho4
       exact ⟨out2, h, Ent.sel [some 0] (sr 15 Y (.own _ Y) <| sn) (.cons Y (roM D70) <| .nil) Y Y⟩
     ·
      replace h := elr h
      obtain ⟨out, rfl⟩ : ∃ x, x = j := ⟨_, rfl⟩
      replace h := t1i h
      refine t1T ?_
      refine Tr <| Rq Y (v_move (ov Y)) <| Rq Y (v_assign (ov Y)) <| Rq Y (v_assign (ov Y)) <| R_nil ?_
      obtain rfl := rt (v := (out, 0)) h
      refine T_ret (retq ?_ (.two (.tmp Y (View.ownM Y Y D70)) (.tmp Y (Dat.view (.b Y)))))
      rfl

theorem ok_slices_EqualFunc_api_Piece_api_Piece_api_Piece_api_Piece {s1 : List api_Piece} {s2 : List api_Piece} {eq : api_Piece → api_Piece → Option Bool} {r : Bool} {eq_f : FuncId} {eq_c : List AV} (eq_d : eq_c.all datB = true) (eq_h : ∀ (z0 : api_Piece) (z1 : api_Piece) z, eq z0 z1 = some z → CSpec Tryz.prog gl0 eq_f ([.agg [.sl 5 (List.map R5 z0.Bytes), .bool z0.Half], .agg [.sl 5 (List.map R5 z1.Bytes), .bool z1.Half]] ++ eq_c) (.bool z)) (h : slices_EqualFunc_api_Piece_api_Piece_api_Piece_api_Piece s1 s2 eq = some r) :
  CSpec Tryz.prog gl0 58 [.sl 70 (List.map R70 s1), .sl 70 (List.map R70 s2), .fn eq_f eq_c] (.bool r) := by
 unfold slices_EqualFunc_api_Piece_api_Piece_api_Piece_api_Piece at h
 replace h := bnd0 h
 refine spec_of (by kernel_rfl) Tryz.func58 Y Y ?_
 intro w0 A
 refine Tr <| Rq Y (v_assign (ov Y)) <| R_nil <| T_seq <| T_keep (kc 0 Y <| kc 1 Y <| kc 2 Y <| kn) Y <| Tr <| Rq Y (v_move (ov Y)) <| Rq Y (v_len (slv_sl (ov Y) tZ_70) tL102 (len_map _ _)) <| Rq Y (v_move (ov Y)) <| Rq Y (v_len (slv_sl (ov Y) tZ_70) tL102 (len_map _ _)) <| Rq Y (v_neq (ov Y) (ov Y)) <| R_nil <| T_keep (kc 0 Y <| kc 1 Y <| kc 2 Y <| kc 14 Y <| kn) Y <| T_if h Y (fun b14 h => ?_) (fun b14 h => ?_)
 ·
  refine T_keep (kn) Y <| Tr <| Rq Y (v_assign (ov Y)) <| R_nil ?_
  obtain rfl := rt (v := false) h
  refine T_ret (retq ?_ (.one (.tmp Y (Dat.view (.b Y)))))
  rfl
 ·
  refine T_skip <| T_joinG (fun j => (.inr j)) (t0 ⟨[], []⟩) h (fun h => ?_) (fun j h => ?_)
  ·
   refine T_keep (kc 0 Y <| kc 1 Y <| kc 2 Y <| kn) Y <| Tr <| Rq Y (v_move (ov Y)) <| Rq Y (v_len (slv_sl (ov Y) tZ_70) tL102 (len_map _ _)) <| Rq Y (v_move (ov Y)) <| R_nil <| T_block ?_
   obtain ⟨r1, hl1, ho1⟩ := bndL h
   refine T_loopG _ (t1 fun i => ⟨[(1, .sl 70 (List.map R70 s2)), (2, .fn eq_f eq_c), (15, .sl 70 (List.map R70 s1)), (16, .int .i64 (s1.length : Int)), (17, .int .i64 i)], []⟩) _ hl1 (Ent.sel [] (sd 1 Y Y <| sr 2 Y (rFn (rld eq_d)) <| sd 15 Y Y <| sd 16 Y Y <| sd 17 Y Y <| sn) (.nil) Y Y) (fun n1 s1 h => ?_)
   obtain ⟨i, rfl⟩ : ∃ x, x = s1 := ⟨_, rfl⟩
   replace h := t1i h
   refine t1T ?_
   unfold slices_EqualFunc_api_Piece_api_Piece_api_Piece_api_Piece_L1 at h
   refine Tr <| Rq Y (v_lss (ov Y) (ov Y)) <| R_nil <| T_seq <| T_if h Y (fun b18 h => ?_) (fun b18 h => ?_)
   ·
    refine T_skip <| T_seq <| T_block <| T_keep (kc 1 Y <| kc 2 Y <| kc 15 Y <| kc 16 Y <| kc 17 Y <| kn) Y <| Tr <| Rq Y (v_move (ov Y)) ?_
    obtain ⟨x, h_x, h⟩ := bnd h
    refine Rq Y (v_ixSG (ov Y) (ov Y) tL102 h_x) ?_
    refine Rq Y (v_loadA_r (ov Y) tA70 Y Y) ?_
    refine Rx Y (w_alloc (row := [_, _]) 0 Y tZ70 Y tZ_70) ?_
    refine Rq Y (v_assign (ov Y)) ?_
    refine Rx Y (w_store (ov Y) (ov Y) (cells_agg tA70 Y) Y Y Y (Nat.le_of_ble_eq_true Y) (cell1_all Y) Y) ?_
    refine R_nil <| T_keep (kc 1 Y <| kc 2 Y <| kc 7 Y <| kc 8 Y <| kc 15 Y <| kc 16 Y <| kc 17 Y <| kn) Y <| Tr <| Rq Y (v_move (ov Y)) <| Rq Y (v_move (ov Y)) ?_
    obtain ⟨x2, h_x2, h⟩ := bnd h
    refine Rq Y (v_ixSG (ov Y) (ov Y) tL102 h_x2) ?_
    refine Rq Y (v_loadA_r (ov Y) tA70 Y Y) ?_
    refine Rx Y (w_alloc (row := [_, _]) 1 Y tZ70 Y tZ_70) ?_
    refine Rx Y (w_store (ov Y) (ov Y) (cells_agg tA70 Y) Y Y Y (Nat.le_of_ble_eq_true Y) (cell1_all Y) Y) ?_
    refine R_nil <| T_keep (kc 1 Y <| kc 2 Y <| kc 8 Y <| kc 9 Y <| kc 15 Y <| kc 16 Y <| kc 17 Y <| kn) Y <| Tr <| Rq Y (v_move (ov Y)) <| Rq Y (v_loadA (ov Y) Y Y Y tA70 Y Y) <| Rq Y (v_loadA (ov Y) Y Y Y tA70 Y Y) ?_
    obtain ⟨y, h_y, h⟩ := bnd h
    refine Rq Y (v_callC (ov Y) eq_d (eq_h _ _ _ h_y) (.cons (ov Y) (.aggB Y) <| .cons (ov Y) (.aggB Y) <| .nil)) ?_
    refine Rq Y (v_not (ov Y)) ?_
    refine R_nil <| T_keep (kc 1 Y <| kc 2 Y <| kc 15 Y <| kc 16 Y <| kc 17 Y <| kc 30 Y <| kn) Y <| T_if h Y (fun b30 h => ?_) (fun b30 h => ?_)
    ·
     refine T_keep (kn) Y <| Tr <| Rq Y (v_assign (ov Y)) <| R_nil ?_
     rw [lx h] at ho1
     replace h := ho1
     obtain rfl := rt (v := false) h
     refine T_ret (retq ?_ (.one (.tmp Y (Dat.view (.b Y)))))
     rfl
    ·
     refine T_skip <| T_keep (kc 1 Y <| kc 2 Y <| kc 15 Y <| kc 16 Y <| kc 17 Y <| kn) Y <| T_reg <| Rq Y (v_add (ov Y) (ov Y) Y) <| Rq Y (v_move (ov Y)) <| R_nil ?_
     exact ⟨(i64 (i + 1)), h, Ent.sel [] (sd 1 Y Y <| sr 2 Y (rFn (rld eq_d)) <| sd 15 Y Y <| sd 16 Y Y <| sd 17 Y Y <| sn) (.nil) Y Y⟩
   ·
    refine T_exit ?_
    rw [lx h] at ho1
    replace h := ho1
    exact ⟨(), h, Ent.sel [] (sn) (.nil) Y Y⟩
  ·
   replace h := elr h
   cases j
   replace h := t0i h
   refine t0T ?_
   refine Tr <| Rq Y (v_assign (ov Y)) <| R_nil ?_
   obtain rfl := rt (v := true) h
   refine T_ret (retq ?_ (.one (.tmp Y (Dat.view (.b Y)))))
   rfl

theorem ok_law4_SalvagePiecesMatchSpec {l : List api_Memory} {cuts : List Int} {r : Bool} (h : law4_SalvagePiecesMatchSpec l cuts = some r) :
  CSpec Tryz.prog gl0 11 [.sl 172 (List.map R172 l), .sl 3 (List.map R3 cuts)] (.bool r) := by
 unfold law4_SalvagePiecesMatchSpec at h
 replace h := bnd0 h
 refine spec_of (by kernel_rfl) Tryz.func11 Y Y ?_
 intro w0 A
 refine Tr <| Rq Y (v_assign (ov Y)) <| R_nil <| T_keep (kc 0 Y <| kc 1 Y <| kn) Y <| Tr <| Rq Y (v_move (ov Y)) <| Rq Y (v_move (ov Y)) ?_
 obtain ⟨y, h_y, h⟩ := bnd h
 refine Rq Y (v_call (ok_salvage_Pieces h_y) (.cons (ov Y) (.b Y) <| .cons (ov Y) (.b Y) <| .nil)) ?_
 refine Rq Y (v_move (ov Y)) ?_
 refine Rq Y (v_extract (ov Y) Y) ?_
 refine Rq Y (v_extract (ov Y) Y) ?_
 refine Rq Y (v_assign (ov Y)) ?_
 refine Rq Y (v_assign (ov Y)) ?_
 refine R_nil <| T_keep (kc 0 Y <| kc 1 Y <| kc 5 Y <| kc 6 Y <| kn) Y <| Tr <| Rq Y (v_move (ov Y)) <| Rq Y (v_move (ov Y)) ?_
 obtain ⟨y2, h_y2, h⟩ := bnd h
 refine Rq Y (v_call (ok_ref4_Pieces h_y2) (.cons (ov Y) (.b Y) <| .cons (ov Y) (.b Y) <| .nil)) ?_
 refine Rq Y (v_move (ov Y)) ?_
 refine Rq Y (v_extract (ov Y) Y) ?_
 refine Rq Y (v_extract (ov Y) Y) ?_
 refine Rq Y (v_assign (ov Y)) ?_
 refine Rq Y (v_assign (ov Y)) ?_
 refine R_nil <| T_keep (kc 5 Y <| kc 6 Y <| kc 7 Y <| kc 8 Y <| kn) Y <| Tr <| Rq Y (v_move (ov Y)) <| Rq Y (v_move (ov Y)) <| Rq Y (v_eql (ov Y) (ov Y)) <| Rq Y (v_move (ov Y)) <| Rq Y (.guarded ((decide (y.2 = y2.2)) == true) Y Y Y Y fun h => v_move (ov Y)) <| Rq Y (.guarded ((decide (y.2 = y2.2)) == true) Y Y Y Y fun h => v_move (ov Y)) ?_
 obtain ⟨y3, h_y3, h⟩ := bnd h
 refine Rq Y (.guarded ((decide (y.2 = y2.2)) == true) Y Y Y Y fun h => v_call (ok_slices_EqualFunc_api_Piece_api_Piece_api_Piece_api_Piece Y (fun z0 z1 _ hz => ok_law4_samePiece hz) (gdT h_y3 h)) (.cons (ow Y h) (.b Y) <| .cons (ow Y h) (.b Y) <| .cons (ov Y) (.fn) <| .nil)) ?_
 refine Rq Y (v_and (ov Y) (fun hp => ow Y (gT hp))) ?_
 refine Rq Y (v_move (ov Y)) ?_
 obtain ⟨y4, h_y4, h⟩ := bnd h
 refine Rq Y (.guarded (((decide (y.2 = y2.2)) && y3) == true) Y Y Y Y fun h => v_call (ok_law4_saved (gdT h_y4 h)) (.nil)) ?_
 refine Rq Y (v_and (ov Y) (fun hp => ow Y (gT hp))) ?_
 refine Rq Y (v_assign (ov Y)) ?_
 refine R_nil ?_
 obtain rfl := rt (v := (((decide (y.2 = y2.2)) && y3) && y4)) h
 refine T_ret (retq ?_ (.one (.tmp Y (Dat.view (.b Y)))))
 rfl
end Go.Proofs.YtciaeohnkfnamaaGreatDoor
