/- A text of the proof: a verified executor of the program form, or the contracts of the functions that the law reaches. -/
import Derived.Test.YtciaeohnkfnamaaDoorOkTma
set_option linter.all false
namespace Go.Proofs.YtciaeohnkfnamaaDoor
open Go Go.Vx
set_option maxRecDepth 10000
set_option maxHeartbeats 1000000
set_option linter.unusedVariables false
theorem ok_ref2_IsName {s : Str} {r : Bool} (h : ref2_IsName s = some r) :
  CSpec Tryd.prog gl0 43 [.str s] (.bool r) := by
 unfold ref2_IsName at h
 replace h := bnd0 h
 refine spec_of (by kernel_rfl) Tryd.func43 rfl rfl ?_
 intro w0 A
 refine T_seq (T_reg ?_)
 refine R_q _ rfl (v_assign (ov rfl)) ?_
 refine R_nil ?_
 refine T_joinG (fun j => (.inr j)) (t0 ⟨[(0, .str s)], []⟩) h (fun h => ?_) (fun j h => ?_)
 ·
  refine T_keep (kc 0 rfl <| kn) rfl ?_
  refine T_seq (T_reg ?_)
  refine R_q _ rfl (v_assign (ov rfl)) ?_
  refine R_nil ?_
  refine T_block ?_
  obtain ⟨r1, hl1, ho1⟩ := bndL h
  refine T_loopG _ (t1 fun i => ⟨[(0, .str s), (3, .int .i64 i)], []⟩) _ hl1 (Ent.sel [] (sd 0 rfl rfl <| sd 3 rfl rfl <| sn) (.nil) rfl rfl) (fun n1 s1 h => ?_)
  obtain ⟨i, rfl⟩ : ∃ x, x = s1 := ⟨_, rfl⟩
  replace h := t1i h
  refine t1T ?_
  unfold ref2_IsName_L1 at h
  refine T_seq ?_
  refine T_seq (T_reg ?_)
  refine R_q _ rfl (v_move (ov rfl)) ?_
  refine R_q _ rfl (v_move (ov rfl)) ?_
  refine R_q _ rfl (v_lenStr (ov rfl) tStr9 rfl) ?_
  refine R_q _ rfl (v_lss (ov rfl) (ov rfl)) ?_
  refine R_nil ?_
  refine T_keep (kc 0 rfl <| kc 3 rfl <| kc 8 rfl <| kn) rfl ?_
  refine T_if h rfl (fun b8 h => ?_) (fun b8 h => ?_)
  ·
   refine T_skip ?_
   refine T_seq ?_
   refine T_block ?_
   refine T_keep (kc 0 rfl <| kc 3 rfl <| kn) rfl ?_
   refine T_seq (T_reg ?_)
   refine R_q _ rfl (v_move (ov rfl)) ?_
   refine R_q _ rfl (v_move (ov rfl)) ?_
   obtain ⟨b, h_b, h⟩ := bnd h
   refine R_q _ rfl (v_idxStr (ov rfl) (ov rfl) tStr9 h_b) ?_
   refine R_q _ rfl (v_assign (ov rfl)) ?_
   refine R_nil ?_
   refine T_keep (kc 0 rfl <| kc 3 rfl <| kc 4 rfl <| kn) rfl ?_
   refine T_seq (T_reg ?_)
   refine R_q _ rfl (v_move (ov rfl)) ?_
   refine R_q _ rfl (v_geq (ov rfl) (ov rfl)) ?_
   refine R_q _ rfl (v_move (ov rfl)) ?_
   refine R_q _ rfl (.guarded ((decide (97 ≤ b)) == true) rfl rfl rfl rfl fun h => v_move (ov rfl)) ?_
   refine R_q _ rfl (.guarded ((decide (97 ≤ b)) == true) rfl rfl rfl rfl fun h => v_leq (ow rfl h) (ov rfl)) ?_
   refine R_q _ rfl (v_and (ov rfl) (fun hp => ow rfl (gT hp))) ?_
   refine R_q _ rfl (v_move (ov rfl)) ?_
   refine R_q _ rfl (.guarded (((decide (97 ≤ b)) && (decide (b ≤ 122))) == false) rfl rfl rfl rfl fun h => v_move (ov rfl)) ?_
   refine R_q _ rfl (.guarded (((decide (97 ≤ b)) && (decide (b ≤ 122))) == false) rfl rfl rfl rfl fun h => v_gtr (ow rfl h) (ov rfl)) ?_
   refine R_q _ rfl (.guarded (((decide (97 ≤ b)) && (decide (b ≤ 122))) == false) rfl rfl rfl rfl fun h => v_move (ow rfl h)) ?_
   refine R_q _ rfl (.guarded2 ((((decide (97 ≤ b)) && (decide (b ≤ 122))) == false) && ((decide (0 < i)) == true)) rfl rfl rfl rfl fun h => v_move (ov rfl)) ?_
   refine R_q _ rfl (.guarded2 ((((decide (97 ≤ b)) && (decide (b ≤ 122))) == false) && ((decide (0 < i)) == true)) rfl rfl rfl rfl fun h => v_geq (ow rfl h) (ov rfl)) ?_
   refine R_q _ rfl (.guarded2 ((((decide (97 ≤ b)) && (decide (b ≤ 122))) == false) && ((decide (0 < i)) == true)) rfl rfl rfl rfl fun h => v_move (ow rfl h)) ?_
   refine R_q _ rfl (.guarded2 (((((decide (97 ≤ b)) && (decide (b ≤ 122))) == false) && ((decide (0 < i)) == true)) && ((decide (48 ≤ b)) == true)) rfl rfl rfl rfl fun h => v_move (ov rfl)) ?_
   refine R_q _ rfl (.guarded2 (((((decide (97 ≤ b)) && (decide (b ≤ 122))) == false) && ((decide (0 < i)) == true)) && ((decide (48 ≤ b)) == true)) rfl rfl rfl rfl fun h => v_leq (ow rfl h) (ov rfl)) ?_
   refine R_q _ rfl (.guarded2 ((((decide (97 ≤ b)) && (decide (b ≤ 122))) == false) && ((decide (0 < i)) == true)) rfl rfl rfl rfl fun h => v_and (ow rfl h) (fun hp => ow rfl (gA h (gT hp)))) ?_
   refine R_q _ rfl (.guarded2 ((((decide (97 ≤ b)) && (decide (b ≤ 122))) == false) && ((decide (0 < i)) == true)) rfl rfl rfl rfl fun h => v_move (ow rfl h)) ?_
   refine R_q _ rfl (.guarded2 (((((decide (97 ≤ b)) && (decide (b ≤ 122))) == false) && ((decide (0 < i)) == true)) && (((decide (48 ≤ b)) && (decide (b ≤ 57))) == false)) rfl rfl rfl rfl fun h => v_move (ov rfl)) ?_
   refine R_q _ rfl (.guarded2 (((((decide (97 ≤ b)) && (decide (b ≤ 122))) == false) && ((decide (0 < i)) == true)) && (((decide (48 ≤ b)) && (decide (b ≤ 57))) == false)) rfl rfl rfl rfl fun h => v_eql (ow rfl h) (ov rfl)) ?_
   refine R_q _ rfl (.guarded2 ((((decide (97 ≤ b)) && (decide (b ≤ 122))) == false) && ((decide (0 < i)) == true)) rfl rfl rfl rfl fun h => v_or (ow rfl h) (fun hp => ow rfl (gA h (gF hp)))) ?_
   refine R_q _ rfl (.guarded (((decide (97 ≤ b)) && (decide (b ≤ 122))) == false) rfl rfl rfl rfl fun h => v_and (ow rfl h) (fun hp => ow rfl (gA h (gT hp)))) ?_
   refine R_q _ rfl (v_or (ov rfl) (fun hp => ow rfl (gF hp))) ?_
   refine R_q _ rfl (v_not (ov rfl)) ?_
   refine R_nil ?_
   refine T_keep (kc 0 rfl <| kc 3 rfl <| kc 36 rfl <| kn) rfl ?_
   refine T_if h rfl (fun b36 h => ?_) (fun b36 h => ?_)
   ·
    refine T_keep (kn) rfl ?_
    refine T_seq (T_reg ?_)
    refine R_q _ rfl (v_assign (ov rfl)) ?_
    refine R_nil ?_
    rw [lx h] at ho1
    replace h := ho1
    obtain rfl := rt (v := false) h
    refine T_ret (retq ?_ (.one (.tmp rfl (Dat.view (.b rfl)))))
    rfl
   ·
    refine T_skip ?_
    refine T_keep (kc 0 rfl <| kc 3 rfl <| kn) rfl ?_
    refine T_reg ?_
    refine R_q _ rfl (v_move (ov rfl)) ?_
    refine R_q _ rfl (v_add (ov rfl) (ov rfl) rfl) ?_
    refine R_q _ rfl (v_assign (ov rfl)) ?_
    refine R_nil ?_
    exact ⟨(i64 (i + 1)), h, Ent.sel [] (sd 0 rfl rfl <| sd 3 rfl rfl <| sn) (.nil) rfl rfl⟩
  ·
   refine T_exit ?_
   rw [lx h] at ho1
   replace h := ho1
   exact ⟨(), h, Ent.sel [] (sd 0 rfl rfl <| sn) (.nil) rfl rfl⟩
 ·
  replace h := elr h
  cases j
  replace h := t0i h
  refine t0T ?_
  refine T_seq (T_reg ?_)
  refine R_q _ rfl (v_move (ov rfl)) ?_
  refine R_q _ rfl (v_lenStr (ov rfl) tStr9 rfl) ?_
  refine R_q _ rfl (v_geq (ov rfl) (ov rfl)) ?_
  refine R_q _ rfl (v_move (ov rfl)) ?_
  refine R_q _ rfl (.guarded ((decide (1 ≤ (s.length : Int))) == true) rfl rfl rfl rfl fun h => v_move (ov rfl)) ?_
  refine R_q _ rfl (.guarded ((decide (1 ≤ (s.length : Int))) == true) rfl rfl rfl rfl fun h => v_lenStr (ow rfl h) tStr9 rfl) ?_
  refine R_q _ rfl (.guarded ((decide (1 ≤ (s.length : Int))) == true) rfl rfl rfl rfl fun h => v_leq (ow rfl h) (ov rfl)) ?_
  refine R_q _ rfl (v_and (ov rfl) (fun hp => ow rfl (gT hp))) ?_
  refine R_q _ rfl (v_assign (ov rfl)) ?_
  refine R_nil ?_
  obtain rfl := rt (v := ((decide (1 ≤ (s.length : Int))) && (decide ((s.length : Int) ≤ 30)))) h
  refine T_ret (retq ?_ (.one (.tmp rfl (Dat.view (.b rfl)))))
  rfl

theorem ok_ref2_outside {n : Int} {low : Int} {high : Int} {r : Bool} (h : ref2_outside n low high = some r) :
  CSpec Tryd.prog gl0 44 [.int .i64 n, .int .i64 low, .int .i64 high] (.bool r) := by
 unfold ref2_outside at h
 replace h := bnd0 h
 refine spec_of (by kernel_rfl) Tryd.func44 rfl rfl ?_
 intro w0 A
 refine T_seq (T_reg ?_)
 refine R_q _ rfl (v_assign (ov rfl)) ?_
 refine R_nil ?_
 refine T_seq (T_reg ?_)
 refine R_q _ rfl (v_move (ov rfl)) ?_
 refine R_q _ rfl (v_move (ov rfl)) ?_
 refine R_q _ rfl (v_lss (ov rfl) (ov rfl)) ?_
 refine R_q _ rfl (v_move (ov rfl)) ?_
 refine R_q _ rfl (.guarded ((decide (n < low)) == false) rfl rfl rfl rfl fun h => v_move (ov rfl)) ?_
 refine R_q _ rfl (.guarded ((decide (n < low)) == false) rfl rfl rfl rfl fun h => v_move (ov rfl)) ?_
 refine R_q _ rfl (.guarded ((decide (n < low)) == false) rfl rfl rfl rfl fun h => v_gtr (ow rfl h) (ow rfl h)) ?_
 refine R_q _ rfl (v_or (ov rfl) (fun hp => ow rfl (gF hp))) ?_
 refine R_q _ rfl (v_assign (ov rfl)) ?_
 refine R_nil ?_
 obtain rfl := rt (v := ((decide (n < low)) || (decide (high < n)))) h
 refine T_ret (retq ?_ (.one (.tmp rfl (Dat.view (.b rfl)))))
 rfl

theorem ok_ref2_bits {p : api_Param} {r : Int} (h : ref2_bits p = some r) :
  CSpec Tryd.prog gl0 73 [.agg [.str p.Name, .int .i64 p.Kind, .sl 113 (List.map R113 p.Parts), .int .i64 p.First, .int .i64 p.Every, .int .i64 p.Times, .int .i64 p.Step, .sl 9 (List.map R9 p.Names)]] (.int .i64 r) := by
 unfold ref2_bits at h
 replace h := bnd0 h
 refine spec_of (by kernel_rfl) Tryd.func73 rfl rfl ?_
 intro w0 A
 refine T_seq (T_reg ?_)
 refine R_q _ rfl (v_boxD (cva (ov rfl)) rfl tZ_25 rfl) ?_
 refine R_q _ rfl (v_assign (ov rfl)) ?_
 refine R_nil ?_
 refine T_keep (kc 1 rfl <| kn) rfl ?_
 refine T_seq (T_reg ?_)
 refine R_q _ rfl (v_assign (ov rfl)) ?_
 refine R_nil ?_
 refine T_joinG id (t1 fun n => ⟨[(3, .int .i64 n)], []⟩) h (fun h => ?_) (fun j h => ?_)
 ·
  refine T_seq (T_reg ?_)
  refine R_q _ rfl (v_fieldR (ov rfl) tF25_2) ?_
  refine R_q _ rfl (v_loadS_r (ov rfl) tS22 rfl) ?_
  refine R_q _ rfl (v_len (slv_sl (ov rfl) tZ_113) tL22 (len_map _ _)) ?_
  refine R_q _ rfl (v_move (ov rfl)) ?_
  refine R_nil ?_
  refine T_block ?_
  obtain ⟨r1, hl1, ho1⟩ := bndL h
  refine T_loopG _ (t2 fun n2 i => ⟨[(3, .int .i64 n2), (7, .sl 113 (List.map R113 p.Parts)), (8, .int .i64 (p.Parts.length : Int)), (9, .int .i64 i)], []⟩) _ hl1 (Ent.sel [] (sd 3 rfl rfl <| sd 7 rfl rfl <| sd 8 rfl rfl <| sd 9 rfl rfl <| sn) (.nil) rfl rfl) (fun n1 s1 h => ?_)
  obtain ⟨n2, i⟩ := s1
  replace h := t2i h
  refine t2T ?_
  unfold ref2_bits_L1 at h
  refine T_seq (T_reg ?_)
  refine R_q _ rfl (v_lss (ov rfl) (ov rfl)) ?_
  refine R_nil ?_
  refine T_seq ?_
  refine T_if h rfl (fun b10 h => ?_) (fun b10 h => ?_)
  ·
   refine T_skip ?_
   refine T_seq ?_
   refine T_block ?_
   refine T_keep (kc 3 rfl <| kc 7 rfl <| kc 8 rfl <| kc 9 rfl <| kn) rfl ?_
   refine T_seq (T_reg ?_)
   obtain ⟨x, h_x, h⟩ := bnd h
   refine R_q _ rfl (v_ixSG (ov rfl) (ov rfl) tL22 h_x) ?_
   refine R_q _ rfl (v_loadA_r (ov rfl) tA113 rfl rfl) ?_
   refine R_w _ _ rfl (w_alloc (row := [_, _, _, _]) 0 rfl tZ113 rfl tZ_113) ?_
   refine R_w _ _ rfl (w_store (ov rfl) (ov rfl) (cells_agg tA113 rfl) rfl rfl rfl (Nat.le_of_ble_eq_true rfl) (cell1_all rfl) rfl) ?_
   refine R_nil ?_
   refine T_keep (kc 3 rfl <| kc 5 rfl <| kc 7 rfl <| kc 8 rfl <| kc 9 rfl <| kn) rfl ?_
   refine T_reg ?_
   refine R_q _ rfl (v_move (ov rfl)) ?_
   refine R_q _ rfl (v_fieldP (ov rfl) rfl rfl tF113_3) ?_
   refine R_q _ rfl (v_loadS (ov rfl) rfl rfl rfl tS3 rfl) ?_
   refine R_q _ rfl (v_add (ov rfl) (ov rfl) rfl) ?_
   refine R_q _ rfl (v_assign (ov rfl)) ?_
   refine R_nil ?_
   refine T_keep (kc 3 rfl <| kc 7 rfl <| kc 8 rfl <| kc 9 rfl <| kn) rfl ?_
   refine T_reg ?_
   refine R_q _ rfl (v_add (ov rfl) (ov rfl) rfl) ?_
   refine R_q _ rfl (v_move (ov rfl)) ?_
   refine R_nil ?_
   exact ⟨((i64 (n2 + x.Bits)), (i64 (i + 1))), h, Ent.sel [] (sd 3 rfl rfl <| sd 7 rfl rfl <| sd 8 rfl rfl <| sd 9 rfl rfl <| sn) (.nil) rfl rfl⟩
  ·
   refine T_exit ?_
   rw [lx h] at ho1
   replace h := ho1
   exact ⟨n2, h, Ent.sel [] (sd 3 rfl rfl <| sn) (.nil) rfl rfl⟩
 ·
  obtain ⟨n, rfl⟩ : ∃ x, x = j := ⟨_, rfl⟩
  replace h := t1i h
  refine t1T ?_
  refine T_seq (T_reg ?_)
  refine R_q _ rfl (v_move (ov rfl)) ?_
  refine R_q _ rfl (v_assign (ov rfl)) ?_
  refine R_nil ?_
  obtain rfl := rt (v := n) h
  refine T_ret (retq ?_ (.one (.tmp rfl (Dat.view (.b rfl)))))
  rfl

theorem ok_ref2_partsFault {p : api_Param} {r : Int} (h : ref2_partsFault p = some r) :
  CSpec Tryd.prog gl0 45 [.agg [.str p.Name, .int .i64 p.Kind, .sl 113 (List.map R113 p.Parts), .int .i64 p.First, .int .i64 p.Every, .int .i64 p.Times, .int .i64 p.Step, .sl 9 (List.map R9 p.Names)]] (.int .i64 r) := by
 unfold ref2_partsFault at h
 replace h := bnd0 h
 refine spec_of (by kernel_rfl) Tryd.func45 rfl rfl ?_
 intro w0 A
 refine T_seq (T_reg ?_)
 refine R_q _ rfl (v_boxD (cva (ov rfl)) rfl tZ_25 rfl) ?_
 refine R_q _ rfl (v_assign (ov rfl)) ?_
 refine R_nil ?_
 refine T_seq ?_
 refine T_keep (kc 1 rfl <| kn) rfl ?_
 refine T_seq (T_reg ?_)
 refine R_q _ rfl (v_fieldR (ov rfl) tF25_2) ?_
 refine R_q _ rfl (v_loadS_r (ov rfl) tS22 rfl) ?_
 refine R_q _ rfl (v_len (slv_sl (ov rfl) tZ_113) tL22 (len_map _ _)) ?_
 refine R_q _ rfl (v_eql (ov rfl) (ov rfl)) ?_
 refine R_nil ?_
 refine T_keep (kc 1 rfl <| kc 8 rfl <| kn) rfl ?_
 refine T_if h rfl (fun b8 h => ?_) (fun b8 h => ?_)
 ·
  refine T_keep (kn) rfl ?_
  refine T_seq (T_reg ?_)
  refine R_q _ rfl (v_assign (ov rfl)) ?_
  refine R_nil ?_
  obtain rfl := rt (v := 13) h
  refine T_ret (retq ?_ (.one (.tmp rfl (Dat.view (.b rfl)))))
  rfl
 ·
  refine T_skip ?_
  refine T_seq ?_
  refine T_keep (kc 1 rfl <| kn) rfl ?_
  refine T_seq (T_reg ?_)
  refine R_q _ rfl (v_fieldR (ov rfl) tF25_2) ?_
  refine R_q _ rfl (v_loadS_r (ov rfl) tS22 rfl) ?_
  refine R_q _ rfl (v_len (slv_sl (ov rfl) tZ_113) tL22 (len_map _ _)) ?_
  refine R_q _ rfl (v_gtr (ov rfl) (ov rfl)) ?_
  refine R_nil ?_
  refine T_keep (kc 1 rfl <| kc 12 rfl <| kn) rfl ?_
  refine T_if h rfl (fun b12 h => ?_) (fun b12 h => ?_)
  ·
   refine T_keep (kn) rfl ?_
   refine T_seq (T_reg ?_)
   refine R_q _ rfl (v_assign (ov rfl)) ?_
   refine R_nil ?_
   obtain rfl := rt (v := 3) h
   refine T_ret (retq ?_ (.one (.tmp rfl (Dat.view (.b rfl)))))
   rfl
  ·
   refine T_skip ?_
   refine T_joinG (fun j => (.inr j)) (t0 ⟨[(1, .rp [.str p.Name, .int .i64 p.Kind, .sl 113 (List.map R113 p.Parts), .int .i64 p.First, .int .i64 p.Every, .int .i64 p.Times, .int .i64 p.Step, .sl 9 (List.map R9 p.Names)] 0)], []⟩) h (fun h => ?_) (fun j h => ?_)
   ·
    refine T_keep (kc 1 rfl <| kn) rfl ?_
    refine T_seq (T_reg ?_)
    refine R_q _ rfl (v_fieldR (ov rfl) tF25_2) ?_
    refine R_q _ rfl (v_loadS_r (ov rfl) tS22 rfl) ?_
    refine R_q _ rfl (v_len (slv_sl (ov rfl) tZ_113) tL22 (len_map _ _)) ?_
    refine R_q _ rfl (v_move (ov rfl)) ?_
    refine R_nil ?_
    refine T_block ?_
    obtain ⟨r1, hl1, ho1⟩ := bndL h
    refine T_loopG _ (t1 fun i => ⟨[(1, .rp [.str p.Name, .int .i64 p.Kind, .sl 113 (List.map R113 p.Parts), .int .i64 p.First, .int .i64 p.Every, .int .i64 p.Times, .int .i64 p.Step, .sl 9 (List.map R9 p.Names)] 0), (14, .sl 113 (List.map R113 p.Parts)), (15, .int .i64 (p.Parts.length : Int)), (16, .int .i64 i)], []⟩) _ hl1 (Ent.sel [] (sd 1 rfl rfl <| sd 14 rfl rfl <| sd 15 rfl rfl <| sd 16 rfl rfl <| sn) (.nil) rfl rfl) (fun n1 s1 h => ?_)
    obtain ⟨i, rfl⟩ : ∃ x, x = s1 := ⟨_, rfl⟩
    replace h := t1i h
    refine t1T ?_
    unfold ref2_partsFault_L1 at h
    refine T_seq (T_reg ?_)
    refine R_q _ rfl (v_lss (ov rfl) (ov rfl)) ?_
    refine R_nil ?_
    refine T_seq ?_
    refine T_if h rfl (fun b17 h => ?_) (fun b17 h => ?_)
    ·
     refine T_skip ?_
     refine T_seq ?_
     refine T_block ?_
     refine T_keep (kc 1 rfl <| kc 14 rfl <| kc 15 rfl <| kc 16 rfl <| kn) rfl ?_
     refine T_seq (T_reg ?_)
     obtain ⟨x, h_x, h⟩ := bnd h
     refine R_q _ rfl (v_ixSG (ov rfl) (ov rfl) tL22 h_x) ?_
     refine R_q _ rfl (v_loadA_r (ov rfl) tA113 rfl rfl) ?_
     refine R_w _ _ rfl (w_alloc (row := [_, _, _, _]) 0 rfl tZ113 rfl tZ_113) ?_
     refine R_w _ _ rfl (w_store (ov rfl) (ov rfl) (cells_agg tA113 rfl) rfl rfl rfl (Nat.le_of_ble_eq_true rfl) (cell1_all rfl) rfl) ?_
     refine R_nil ?_
     refine T_keep (kc 1 rfl <| kc 4 rfl <| kc 14 rfl <| kc 15 rfl <| kc 16 rfl <| kn) rfl ?_
     refine T_seq (T_reg ?_)
     refine R_q _ rfl (v_fieldP (ov rfl) rfl rfl tF113_0) ?_
     refine R_q _ rfl (v_loadS (ov rfl) rfl rfl rfl tS3 rfl) ?_
     obtain ⟨y, h_y, h⟩ := bnd h
     refine R_q _ rfl (v_call (ok_ref2_outside h_y) (.cons (ov rfl) (.b rfl) <| .cons (ov rfl) (.b rfl) <| .cons (ov rfl) (.b rfl) <| .nil)) ?_
     refine R_q _ rfl (v_move (ov rfl)) ?_
     refine R_q _ rfl (.guarded (y == false) rfl rfl rfl rfl fun h => v_fieldP (ov rfl) rfl rfl tF113_1) ?_
     refine R_q _ rfl (.guarded (y == false) rfl rfl rfl rfl fun h => v_loadS (ow rfl h) rfl rfl rfl tS3 rfl) ?_
     obtain ⟨y2, h_y2, h⟩ := bnd h
     refine R_q _ rfl (.guarded (y == false) rfl rfl rfl rfl fun h => v_call (ok_ref2_outside (gdT h_y2 h)) (.cons (ow rfl h) (.b rfl) <| .cons (ov rfl) (.b rfl) <| .cons (ov rfl) (.b rfl) <| .nil)) ?_
     refine R_q _ rfl (v_or (ov rfl) (fun hp => ow rfl (gF hp))) ?_
     refine R_q _ rfl (v_move (ov rfl)) ?_
     refine R_q _ rfl (.guarded ((y || y2) == false) rfl rfl rfl rfl fun h => v_fieldP (ov rfl) rfl rfl tF113_2) ?_
     refine R_q _ rfl (.guarded ((y || y2) == false) rfl rfl rfl rfl fun h => v_loadS (ow rfl h) rfl rfl rfl tS3 rfl) ?_
     obtain ⟨y3, h_y3, h⟩ := bnd h
     refine R_q _ rfl (.guarded ((y || y2) == false) rfl rfl rfl rfl fun h => v_call (ok_ref2_outside (gdT h_y3 h)) (.cons (ow rfl h) (.b rfl) <| .cons (ov rfl) (.b rfl) <| .cons (ov rfl) (.b rfl) <| .nil)) ?_
     refine R_q _ rfl (v_or (ov rfl) (fun hp => ow rfl (gF hp))) ?_
     refine R_q _ rfl (v_move (ov rfl)) ?_
     refine R_q _ rfl (.guarded (((y || y2) || y3) == false) rfl rfl rfl rfl fun h => v_fieldP (ov rfl) rfl rfl tF113_3) ?_
     refine R_q _ rfl (.guarded (((y || y2) || y3) == false) rfl rfl rfl rfl fun h => v_loadS (ow rfl h) rfl rfl rfl tS3 rfl) ?_
     refine R_q _ rfl (.guarded (((y || y2) || y3) == false) rfl rfl rfl rfl fun h => v_fieldP (ov rfl) rfl rfl tF113_2) ?_
     refine R_q _ rfl (.guarded (((y || y2) || y3) == false) rfl rfl rfl rfl fun h => v_loadS (ow rfl h) rfl rfl rfl tS3 rfl) ?_
     refine R_q _ rfl (.guarded (((y || y2) || y3) == false) rfl rfl rfl rfl fun h => v_sub (ov rfl) (ow rfl h) rfl) ?_
     obtain ⟨y4, h_y4, h⟩ := bnd h
     refine R_q _ rfl (.guarded (((y || y2) || y3) == false) rfl rfl rfl rfl fun h => v_call (ok_ref2_outside (gdT h_y4 h)) (.cons (ow rfl h) (.b rfl) <| .cons (ov rfl) (.b rfl) <| .cons (ow rfl h) (.b rfl) <| .nil)) ?_
     refine R_q _ rfl (v_or (ov rfl) (fun hp => ow rfl (gF hp))) ?_
     refine R_nil ?_
     refine T_keep (kc 1 rfl <| kc 14 rfl <| kc 15 rfl <| kc 16 rfl <| kc 40 rfl <| kn) rfl ?_
     refine T_if h rfl (fun b40 h => ?_) (fun b40 h => ?_)
     ·
      refine T_keep (kn) rfl ?_
      refine T_seq (T_reg ?_)
      refine R_q _ rfl (v_assign (ov rfl)) ?_
      refine R_nil ?_
      rw [lx h] at ho1
      replace h := ho1
      obtain rfl := rt (v := 9) h
      refine T_ret (retq ?_ (.one (.tmp rfl (Dat.view (.b rfl)))))
      rfl
     ·
      refine T_skip ?_
      refine T_keep (kc 1 rfl <| kc 14 rfl <| kc 15 rfl <| kc 16 rfl <| kn) rfl ?_
      refine T_reg ?_
      refine R_q _ rfl (v_add (ov rfl) (ov rfl) rfl) ?_
      refine R_q _ rfl (v_move (ov rfl)) ?_
      refine R_nil ?_
      exact ⟨(i64 (i + 1)), h, Ent.sel [] (sd 1 rfl rfl <| sd 14 rfl rfl <| sd 15 rfl rfl <| sd 16 rfl rfl <| sn) (.nil) rfl rfl⟩
    ·
     refine T_exit ?_
     rw [lx h] at ho1
     replace h := ho1
     exact ⟨(), h, Ent.sel [] (sd 1 rfl rfl <| sn) (.nil) rfl rfl⟩
   ·
    replace h := elr h
    cases j
    replace h := t0i h
    refine t0T ?_
    refine T_seq ?_
    refine T_seq (T_reg ?_)
    refine R_q _ rfl (v_loadA_r (ov rfl) tA25 rfl rfl) ?_
    obtain ⟨y5, h_y5, h⟩ := bnd h
    refine R_q _ rfl (v_call (ok_ref2_bits h_y5) (.cons (ov rfl) (.aggB rfl) <| .nil)) ?_
    refine R_q _ rfl (v_gtr (ov rfl) (ov rfl)) ?_
    refine R_nil ?_
    refine T_keep (kc 44 rfl <| kn) rfl ?_
    refine T_if h rfl (fun b44 h => ?_) (fun b44 h => ?_)
    ·
     refine T_keep (kn) rfl ?_
     refine T_seq (T_reg ?_)
     refine R_q _ rfl (v_assign (ov rfl)) ?_
     refine R_nil ?_
     obtain rfl := rt (v := 3) h
     refine T_ret (retq ?_ (.one (.tmp rfl (Dat.view (.b rfl)))))
     rfl
    ·
     refine T_skip ?_
     refine T_keep (kn) rfl ?_
     refine T_seq (T_reg ?_)
     refine R_q _ rfl (v_assign (ov rfl)) ?_
     refine R_nil ?_
     obtain rfl := rt (v := 0) h
     refine T_ret (retq ?_ (.one (.tmp rfl (Dat.view (.b rfl)))))
     rfl

theorem ok_ref2_timesFault {p : api_Param} {r : Int} (h : ref2_timesFault p = some r) :
  CSpec Tryd.prog gl0 46 [.agg [.str p.Name, .int .i64 p.Kind, .sl 113 (List.map R113 p.Parts), .int .i64 p.First, .int .i64 p.Every, .int .i64 p.Times, .int .i64 p.Step, .sl 9 (List.map R9 p.Names)]] (.int .i64 r) := by
 unfold ref2_timesFault at h
 replace h := bnd0 h
 refine spec_of (by kernel_rfl) Tryd.func46 rfl rfl ?_
 intro w0 A
 refine T_seq (T_reg ?_)
 refine R_q _ rfl (v_boxD (cva (ov rfl)) rfl tZ_25 rfl) ?_
 refine R_q _ rfl (v_assign (ov rfl)) ?_
 refine R_nil ?_
 refine T_joinG (fun j => (.inr j)) (t0 ⟨[(1, .rp [.str p.Name, .int .i64 p.Kind, .sl 113 (List.map R113 p.Parts), .int .i64 p.First, .int .i64 p.Every, .int .i64 p.Times, .int .i64 p.Step, .sl 9 (List.map R9 p.Names)] 0)], []⟩) h (fun h => ?_) (fun j h => ?_)
 ·
  refine T_keep (kc 1 rfl <| kn) rfl ?_
  refine T_seq (T_reg ?_)
  refine R_q _ rfl (v_fieldR (ov rfl) tF25_4) ?_
  refine R_q _ rfl (v_loadS_r (ov rfl) tS3 rfl) ?_
  refine R_nil ?_
  refine T_block ?_
  refine T_seq ?_
  refine T_keep (kc 1 rfl <| kc 6 rfl <| kn) rfl ?_
  refine T_seq (T_reg ?_)
  refine R_q _ rfl (v_eql (ov rfl) (ov rfl)) ?_
  refine R_q _ rfl (v_assign (ov rfl)) ?_
  refine R_nil ?_
  refine T_keep (kc 1 rfl <| kc 6 rfl <| kc 7 rfl <| kn) rfl ?_
  refine T_if h rfl (fun b7 h => ?_) (fun b7 h => ?_)
  ·
   refine T_skip ?_
   refine T_keep (kc 1 rfl <| kc 7 rfl <| kn) rfl ?_
   refine T_if h rfl (fun b7 h => ?_) (fun b7 h => ?_)
   ·
    refine T_skip ?_
    exact ⟨(), h, Ent.sel [] (sd 1 rfl rfl <| sn) (.nil) rfl rfl⟩
   ·
    refine T_keep (kn) rfl ?_
    refine T_seq (T_reg ?_)
    refine R_q _ rfl (v_assign (ov rfl)) ?_
    refine R_nil ?_
    obtain rfl := rt (v := 9) h
    refine T_ret (retq ?_ (.one (.tmp rfl (Dat.view (.b rfl)))))
    rfl
  ·
   refine T_seq (T_reg ?_)
   refine R_q _ rfl (v_eql (ov rfl) (ov rfl)) ?_
   refine R_q _ rfl (v_assign (ov rfl)) ?_
   refine R_nil ?_
   refine T_keep (kc 1 rfl <| kc 6 rfl <| kc 7 rfl <| kn) rfl ?_
   refine T_if h rfl (fun b7 h => ?_) (fun b7 h => ?_)
   ·
    refine T_skip ?_
    refine T_keep (kc 1 rfl <| kc 7 rfl <| kn) rfl ?_
    refine T_if h rfl (fun b7 h => ?_) (fun b7 h => ?_)
    ·
     refine T_skip ?_
     exact ⟨(), h, Ent.sel [] (sd 1 rfl rfl <| sn) (.nil) rfl rfl⟩
    ·
     refine T_keep (kn) rfl ?_
     refine T_seq (T_reg ?_)
     refine R_q _ rfl (v_assign (ov rfl)) ?_
     refine R_nil ?_
     obtain rfl := rt (v := 9) h
     refine T_ret (retq ?_ (.one (.tmp rfl (Dat.view (.b rfl)))))
     rfl
   ·
    refine T_seq (T_reg ?_)
    refine R_q _ rfl (v_eql (ov rfl) (ov rfl)) ?_
    refine R_q _ rfl (v_assign (ov rfl)) ?_
    refine R_nil ?_
    refine T_keep (kc 1 rfl <| kc 6 rfl <| kc 7 rfl <| kn) rfl ?_
    refine T_if h rfl (fun b7 h => ?_) (fun b7 h => ?_)
    ·
     refine T_skip ?_
     refine T_keep (kc 1 rfl <| kc 7 rfl <| kn) rfl ?_
     refine T_if h rfl (fun b7 h => ?_) (fun b7 h => ?_)
     ·
      refine T_skip ?_
      exact ⟨(), h, Ent.sel [] (sd 1 rfl rfl <| sn) (.nil) rfl rfl⟩
     ·
      refine T_keep (kn) rfl ?_
      refine T_seq (T_reg ?_)
      refine R_q _ rfl (v_assign (ov rfl)) ?_
      refine R_nil ?_
      obtain rfl := rt (v := 9) h
      refine T_ret (retq ?_ (.one (.tmp rfl (Dat.view (.b rfl)))))
      rfl
    ·
     refine T_seq (T_reg ?_)
     refine R_q _ rfl (v_eql (ov rfl) (ov rfl)) ?_
     refine R_q _ rfl (v_assign (ov rfl)) ?_
     refine R_nil ?_
     refine T_keep (kc 1 rfl <| kc 6 rfl <| kc 7 rfl <| kn) rfl ?_
     refine T_if h rfl (fun b7 h => ?_) (fun b7 h => ?_)
     ·
      refine T_skip ?_
      refine T_keep (kc 1 rfl <| kc 7 rfl <| kn) rfl ?_
      refine T_if h rfl (fun b7 h => ?_) (fun b7 h => ?_)
      ·
       refine T_skip ?_
       exact ⟨(), h, Ent.sel [] (sd 1 rfl rfl <| sn) (.nil) rfl rfl⟩
      ·
       refine T_keep (kn) rfl ?_
       refine T_seq (T_reg ?_)
       refine R_q _ rfl (v_assign (ov rfl)) ?_
       refine R_nil ?_
       obtain rfl := rt (v := 9) h
       refine T_ret (retq ?_ (.one (.tmp rfl (Dat.view (.b rfl)))))
       rfl
     ·
      refine T_reg ?_
      refine R_q _ rfl (v_eql (ov rfl) (ov rfl)) ?_
      refine R_q _ rfl (v_assign (ov rfl)) ?_
      refine R_nil ?_
      refine T_keep (kc 1 rfl <| kc 7 rfl <| kn) rfl ?_
      refine T_if h rfl (fun b7 h => ?_) (fun b7 h => ?_)
      ·
       refine T_skip ?_
       exact ⟨(), h, Ent.sel [] (sd 1 rfl rfl <| sn) (.nil) rfl rfl⟩
      ·
       refine T_keep (kn) rfl ?_
       refine T_seq (T_reg ?_)
       refine R_q _ rfl (v_assign (ov rfl)) ?_
       refine R_nil ?_
       obtain rfl := rt (v := 9) h
       refine T_ret (retq ?_ (.one (.tmp rfl (Dat.view (.b rfl)))))
       rfl
 ·
  replace h := elr h
  cases j
  replace h := t0i h
  refine t0T ?_
  refine T_seq ?_
  refine T_seq (T_reg ?_)
  refine R_q _ rfl (v_fieldR (ov rfl) tF25_3) ?_
  refine R_q _ rfl (v_loadS_r (ov rfl) tS3 rfl) ?_
  refine R_q _ rfl (v_fieldR (ov rfl) tF25_4) ?_
  refine R_q _ rfl (v_loadS_r (ov rfl) tS3 rfl) ?_
  refine R_q _ rfl (v_sub (ov rfl) (ov rfl) rfl) ?_
  obtain ⟨y, h_y, h⟩ := bnd h
  refine R_q _ rfl (v_call (ok_ref2_outside h_y) (.cons (ov rfl) (.b rfl) <| .cons (ov rfl) (.b rfl) <| .cons (ov rfl) (.b rfl) <| .nil)) ?_
  refine R_q _ rfl (v_move (ov rfl)) ?_
  refine R_q _ rfl (.guarded (y == false) rfl rfl rfl rfl fun h => v_fieldR (ov rfl) tF25_5) ?_
  refine R_q _ rfl (.guarded (y == false) rfl rfl rfl rfl fun h => v_loadS_r (ow rfl h) tS3 rfl) ?_
  obtain ⟨y2, h_y2, h⟩ := bnd h
  refine R_q _ rfl (.guarded (y == false) rfl rfl rfl rfl fun h => v_call (ok_ref2_outside (gdT h_y2 h)) (.cons (ow rfl h) (.b rfl) <| .cons (ov rfl) (.b rfl) <| .cons (ov rfl) (.b rfl) <| .nil)) ?_
  refine R_q _ rfl (v_or (ov rfl) (fun hp => ow rfl (gF hp))) ?_
  refine R_q _ rfl (v_move (ov rfl)) ?_
  refine R_q _ rfl (.guarded ((y || y2) == false) rfl rfl rfl rfl fun h => v_fieldR (ov rfl) tF25_6) ?_
  refine R_q _ rfl (.guarded ((y || y2) == false) rfl rfl rfl rfl fun h => v_loadS_r (ow rfl h) tS3 rfl) ?_
  refine R_q _ rfl (.guarded ((y || y2) == false) rfl rfl rfl rfl fun h => v_lss (ow rfl h) (ov rfl)) ?_
  refine R_q _ rfl (v_or (ov rfl) (fun hp => ow rfl (gF hp))) ?_
  refine R_q _ rfl (v_move (ov rfl)) ?_
  refine R_q _ rfl (.guarded (((y || y2) || (decide (p.Step < 0))) == false) rfl rfl rfl rfl fun h => v_fieldR (ov rfl) tF25_6) ?_
  refine R_q _ rfl (.guarded (((y || y2) || (decide (p.Step < 0))) == false) rfl rfl rfl rfl fun h => v_loadS_r (ow rfl h) tS3 rfl) ?_
  refine R_q _ rfl (.guarded (((y || y2) || (decide (p.Step < 0))) == false) rfl rfl rfl rfl fun h => v_eql (ow rfl h) (ov rfl)) ?_
  refine R_q _ rfl (.guarded (((y || y2) || (decide (p.Step < 0))) == false) rfl rfl rfl rfl fun h => v_fieldR (ov rfl) tF25_5) ?_
  refine R_q _ rfl (.guarded (((y || y2) || (decide (p.Step < 0))) == false) rfl rfl rfl rfl fun h => v_loadS_r (ow rfl h) tS3 rfl) ?_
  refine R_q _ rfl (.guarded (((y || y2) || (decide (p.Step < 0))) == false) rfl rfl rfl rfl fun h => v_eql (ow rfl h) (ov rfl)) ?_
  refine R_q _ rfl (.guarded (((y || y2) || (decide (p.Step < 0))) == false) rfl rfl rfl rfl fun h => tBool_eq .neq (by simp) (ow rfl h) (ow rfl h) tB4) ?_
  refine R_q _ rfl (v_or (ov rfl) (fun hp => ow rfl (gF hp))) ?_
  refine R_nil ?_
  refine T_keep (kc 1 rfl <| kc 37 rfl <| kn) rfl ?_
  refine T_if h rfl (fun b37 h => ?_) (fun b37 h => ?_)
  ·
   refine T_keep (kn) rfl ?_
   refine T_seq (T_reg ?_)
   refine R_q _ rfl (v_assign (ov rfl)) ?_
   refine R_nil ?_
   obtain rfl := rt (v := 9) h
   refine T_ret (retq ?_ (.one (.tmp rfl (Dat.view (.b rfl)))))
   rfl
  ·
   refine T_skip ?_
   refine T_joinG (fun j => (.inr j)) (t0 ⟨[], []⟩) h (fun h => ?_) (fun j h => ?_)
   ·
    refine T_keep (kc 1 rfl <| kn) rfl ?_
    refine T_seq (T_reg ?_)
    refine R_q _ rfl (v_fieldR (ov rfl) tF25_2) ?_
    refine R_q _ rfl (v_loadS_r (ov rfl) tS22 rfl) ?_
    refine R_q _ rfl (v_len (slv_sl (ov rfl) tZ_113) tL22 (len_map _ _)) ?_
    refine R_q _ rfl (v_move (ov rfl)) ?_
    refine R_nil ?_
    refine T_block ?_
    obtain ⟨r1, hl1, ho1⟩ := bndL h
    refine T_loopG _ (t1 fun i => ⟨[(1, .rp [.str p.Name, .int .i64 p.Kind, .sl 113 (List.map R113 p.Parts), .int .i64 p.First, .int .i64 p.Every, .int .i64 p.Times, .int .i64 p.Step, .sl 9 (List.map R9 p.Names)] 0), (39, .sl 113 (List.map R113 p.Parts)), (40, .int .i64 (p.Parts.length : Int)), (41, .int .i64 i)], []⟩) _ hl1 (Ent.sel [] (sd 1 rfl rfl <| sd 39 rfl rfl <| sd 40 rfl rfl <| sd 41 rfl rfl <| sn) (.nil) rfl rfl) (fun n1 s1 h => ?_)
    obtain ⟨i, rfl⟩ : ∃ x, x = s1 := ⟨_, rfl⟩
    replace h := t1i h
    refine t1T ?_
    unfold ref2_timesFault_L1 at h
    refine T_seq (T_reg ?_)
    refine R_q _ rfl (v_lss (ov rfl) (ov rfl)) ?_
    refine R_nil ?_
    refine T_seq ?_
    refine T_if h rfl (fun b42 h => ?_) (fun b42 h => ?_)
    ·
     refine T_skip ?_
     refine T_seq ?_
     refine T_block ?_
     refine T_keep (kc 1 rfl <| kc 39 rfl <| kc 40 rfl <| kc 41 rfl <| kn) rfl ?_
     refine T_seq (T_reg ?_)
     obtain ⟨x, h_x, h⟩ := bnd h
     refine R_q _ rfl (v_ixSG (ov rfl) (ov rfl) tL22 h_x) ?_
     refine R_q _ rfl (v_loadA_r (ov rfl) tA113 rfl rfl) ?_
     refine R_w _ _ rfl (w_alloc (row := [_, _, _, _]) 0 rfl tZ113 rfl tZ_113) ?_
     refine R_w _ _ rfl (w_store (ov rfl) (ov rfl) (cells_agg tA113 rfl) rfl rfl rfl (Nat.le_of_ble_eq_true rfl) (cell1_all rfl) rfl) ?_
     refine R_nil ?_
     refine T_keep (kc 1 rfl <| kc 4 rfl <| kc 39 rfl <| kc 40 rfl <| kc 41 rfl <| kn) rfl ?_
     refine T_seq (T_reg ?_)
     refine R_q _ rfl (v_fieldR (ov rfl) tF25_5) ?_
     refine R_q _ rfl (v_loadS_r (ov rfl) tS3 rfl) ?_
     refine R_q _ rfl (v_gtr (ov rfl) (ov rfl)) ?_
     refine R_q _ rfl (v_move (ov rfl)) ?_
     refine R_q _ rfl (.guarded ((decide (1 < p.Times)) == true) rfl rfl rfl rfl fun h => v_fieldR (ov rfl) tF25_6) ?_
     refine R_q _ rfl (.guarded ((decide (1 < p.Times)) == true) rfl rfl rfl rfl fun h => v_loadS_r (ow rfl h) tS3 rfl) ?_
     refine R_q _ rfl (.guarded ((decide (1 < p.Times)) == true) rfl rfl rfl rfl fun h => v_gtr (ow rfl h) (ov rfl)) ?_
     refine R_q _ rfl (v_and (ov rfl) (fun hp => ow rfl (gT hp))) ?_
     refine R_q _ rfl (v_move (ov rfl)) ?_
     refine R_q _ rfl (.guarded (((decide (1 < p.Times)) && (decide (57 < p.Step))) == false) rfl rfl rfl rfl fun h => v_fieldP (ov rfl) rfl rfl tF113_1) ?_
     refine R_q _ rfl (.guarded (((decide (1 < p.Times)) && (decide (57 < p.Step))) == false) rfl rfl rfl rfl fun h => v_loadS (ow rfl h) rfl rfl rfl tS3 rfl) ?_
     refine R_q _ rfl (.guarded (((decide (1 < p.Times)) && (decide (57 < p.Step))) == false) rfl rfl rfl rfl fun h => v_fieldR (ov rfl) tF25_5) ?_
     refine R_q _ rfl (.guarded (((decide (1 < p.Times)) && (decide (57 < p.Step))) == false) rfl rfl rfl rfl fun h => v_loadS_r (ow rfl h) tS3 rfl) ?_
     refine R_q _ rfl (.guarded (((decide (1 < p.Times)) && (decide (57 < p.Step))) == false) rfl rfl rfl rfl fun h => v_sub (ow rfl h) (ov rfl) rfl) ?_
     refine R_q _ rfl (.guarded (((decide (1 < p.Times)) && (decide (57 < p.Step))) == false) rfl rfl rfl rfl fun h => v_fieldR (ov rfl) tF25_6) ?_
     refine R_q _ rfl (.guarded (((decide (1 < p.Times)) && (decide (57 < p.Step))) == false) rfl rfl rfl rfl fun h => v_loadS_r (ow rfl h) tS3 rfl) ?_
     refine R_q _ rfl (.guarded (((decide (1 < p.Times)) && (decide (57 < p.Step))) == false) rfl rfl rfl rfl fun h => v_mul (ow rfl h) (ow rfl h) rfl) ?_
     refine R_q _ rfl (.guarded (((decide (1 < p.Times)) && (decide (57 < p.Step))) == false) rfl rfl rfl rfl fun h => v_add (ow rfl h) (ow rfl h) rfl) ?_
     refine R_q _ rfl (.guarded (((decide (1 < p.Times)) && (decide (57 < p.Step))) == false) rfl rfl rfl rfl fun h => v_gtr (ow rfl h) (ov rfl)) ?_
     refine R_q _ rfl (v_or (ov rfl) (fun hp => ow rfl (gF hp))) ?_
     refine R_nil ?_
     refine T_keep (kc 1 rfl <| kc 39 rfl <| kc 40 rfl <| kc 41 rfl <| kc 64 rfl <| kn) rfl ?_
     refine T_if h rfl (fun b64 h => ?_) (fun b64 h => ?_)
     ·
      refine T_keep (kn) rfl ?_
      refine T_seq (T_reg ?_)
      refine R_q _ rfl (v_assign (ov rfl)) ?_
      refine R_nil ?_
      rw [lx h] at ho1
      replace h := ho1
      obtain rfl := rt (v := 9) h
      refine T_ret (retq ?_ (.one (.tmp rfl (Dat.view (.b rfl)))))
      rfl
     ·
      refine T_skip ?_
      refine T_keep (kc 1 rfl <| kc 39 rfl <| kc 40 rfl <| kc 41 rfl <| kn) rfl ?_
      refine T_reg ?_
      refine R_q _ rfl (v_add (ov rfl) (ov rfl) rfl) ?_
      refine R_q _ rfl (v_move (ov rfl)) ?_
      refine R_nil ?_
      exact ⟨(i64 (i + 1)), h, Ent.sel [] (sd 1 rfl rfl <| sd 39 rfl rfl <| sd 40 rfl rfl <| sd 41 rfl rfl <| sn) (.nil) rfl rfl⟩
    ·
     refine T_exit ?_
     rw [lx h] at ho1
     replace h := ho1
     exact ⟨(), h, Ent.sel [] (sn) (.nil) rfl rfl⟩
   ·
    replace h := elr h
    cases j
    replace h := t0i h
    refine t0T ?_
    refine T_seq (T_reg ?_)
    refine R_q _ rfl (v_assign (ov rfl)) ?_
    refine R_nil ?_
    obtain rfl := rt (v := 0) h
    refine T_ret (retq ?_ (.one (.tmp rfl (Dat.view (.b rfl)))))
    rfl

theorem ok_ref2_kindFault {p : api_Param} {r : Int} (h : ref2_kindFault p = some r) :
  CSpec Tryd.prog gl0 47 [.agg [.str p.Name, .int .i64 p.Kind, .sl 113 (List.map R113 p.Parts), .int .i64 p.First, .int .i64 p.Every, .int .i64 p.Times, .int .i64 p.Step, .sl 9 (List.map R9 p.Names)]] (.int .i64 r) := by
 unfold ref2_kindFault at h
 replace h := bnd0 h
 refine spec_of (by kernel_rfl) Tryd.func47 rfl rfl ?_
 intro w0 A
 refine T_seq (T_reg ?_)
 refine R_q _ rfl (v_boxD (cva (ov rfl)) rfl tZ_25 rfl) ?_
 refine R_q _ rfl (v_assign (ov rfl)) ?_
 refine R_nil ?_
 refine T_keep (kc 1 rfl <| kn) rfl ?_
 refine T_seq (T_reg ?_)
 refine R_q _ rfl (v_loadA_r (ov rfl) tA25 rfl rfl) ?_
 obtain ⟨y, h_y, h⟩ := bnd h
 refine R_q _ rfl (v_call (ok_ref2_bits h_y) (.cons (ov rfl) (.aggB rfl) <| .nil)) ?_
 refine R_q _ rfl (v_assign (ov rfl)) ?_
 refine R_nil ?_
 refine T_seq ?_
 refine T_keep (kc 1 rfl <| kc 3 rfl <| kn) rfl ?_
 refine T_seq (T_reg ?_)
 refine R_q _ rfl (v_fieldR (ov rfl) tF25_1) ?_
 refine R_q _ rfl (v_loadS_r (ov rfl) tS3 rfl) ?_
 refine R_q _ rfl (v_eql (ov rfl) (ov rfl)) ?_
 refine R_q _ rfl (v_move (ov rfl)) ?_
 refine R_q _ rfl (.guarded ((decide (p.Kind = 4)) == true) rfl rfl rfl rfl fun h => v_move (ov rfl)) ?_
 obtain ⟨q, h_q, h⟩ := bnd h
 refine R_q _ rfl (.guarded ((decide (p.Kind = 4)) == true) rfl rfl rfl rfl fun h => v_remG (ow rfl h) (ov rfl) (gdT h_q h)) ?_
 refine R_q _ rfl (.guarded ((decide (p.Kind = 4)) == true) rfl rfl rfl rfl fun h => v_neq (ow rfl h) (ov rfl)) ?_
 refine R_q _ rfl (v_and (ov rfl) (fun hp => ow rfl (gT hp))) ?_
 refine R_q _ rfl (v_move (ov rfl)) ?_
 refine R_q _ rfl (.guarded (((decide (p.Kind = 4)) && (!decide (q = 0))) == false) rfl rfl rfl rfl fun h => v_fieldR (ov rfl) tF25_1) ?_
 refine R_q _ rfl (.guarded (((decide (p.Kind = 4)) && (!decide (q = 0))) == false) rfl rfl rfl rfl fun h => v_loadS_r (ow rfl h) tS3 rfl) ?_
 refine R_q _ rfl (.guarded (((decide (p.Kind = 4)) && (!decide (q = 0))) == false) rfl rfl rfl rfl fun h => v_eql (ow rfl h) (ov rfl)) ?_
 refine R_q _ rfl (.guarded (((decide (p.Kind = 4)) && (!decide (q = 0))) == false) rfl rfl rfl rfl fun h => v_move (ow rfl h)) ?_
 refine R_q _ rfl (.guarded2 ((((decide (p.Kind = 4)) && (!decide (q = 0))) == false) && ((decide (p.Kind = 5)) == true)) rfl rfl rfl rfl fun h => v_move (ov rfl)) ?_
 refine R_q _ rfl (.guarded2 ((((decide (p.Kind = 4)) && (!decide (q = 0))) == false) && ((decide (p.Kind = 5)) == true)) rfl rfl rfl rfl fun h => v_neq (ow rfl h) (ov rfl)) ?_
 refine R_q _ rfl (.guarded (((decide (p.Kind = 4)) && (!decide (q = 0))) == false) rfl rfl rfl rfl fun h => v_and (ow rfl h) (fun hp => ow rfl (gA h (gT hp)))) ?_
 refine R_q _ rfl (v_or (ov rfl) (fun hp => ow rfl (gF hp))) ?_
 refine R_q _ rfl (v_move (ov rfl)) ?_
 refine R_q _ rfl (.guarded ((((decide (p.Kind = 4)) && (!decide (q = 0))) || ((decide (p.Kind = 5)) && (!decide (y = 1)))) == false) rfl rfl rfl rfl fun h => v_fieldR (ov rfl) tF25_1) ?_
 refine R_q _ rfl (.guarded ((((decide (p.Kind = 4)) && (!decide (q = 0))) || ((decide (p.Kind = 5)) && (!decide (y = 1)))) == false) rfl rfl rfl rfl fun h => v_loadS_r (ow rfl h) tS3 rfl) ?_
 refine R_q _ rfl (.guarded ((((decide (p.Kind = 4)) && (!decide (q = 0))) || ((decide (p.Kind = 5)) && (!decide (y = 1)))) == false) rfl rfl rfl rfl fun h => v_eql (ow rfl h) (ov rfl)) ?_
 refine R_q _ rfl (.guarded ((((decide (p.Kind = 4)) && (!decide (q = 0))) || ((decide (p.Kind = 5)) && (!decide (y = 1)))) == false) rfl rfl rfl rfl fun h => v_move (ow rfl h)) ?_
 refine R_q _ rfl (.guarded2 (((((decide (p.Kind = 4)) && (!decide (q = 0))) || ((decide (p.Kind = 5)) && (!decide (y = 1)))) == false) && ((decide (p.Kind = 2)) == false)) rfl rfl rfl rfl fun h => v_fieldR (ov rfl) tF25_1) ?_
 refine R_q _ rfl (.guarded2 (((((decide (p.Kind = 4)) && (!decide (q = 0))) || ((decide (p.Kind = 5)) && (!decide (y = 1)))) == false) && ((decide (p.Kind = 2)) == false)) rfl rfl rfl rfl fun h => v_loadS_r (ow rfl h) tS3 rfl) ?_
 refine R_q _ rfl (.guarded2 (((((decide (p.Kind = 4)) && (!decide (q = 0))) || ((decide (p.Kind = 5)) && (!decide (y = 1)))) == false) && ((decide (p.Kind = 2)) == false)) rfl rfl rfl rfl fun h => v_eql (ow rfl h) (ov rfl)) ?_
 refine R_q _ rfl (.guarded ((((decide (p.Kind = 4)) && (!decide (q = 0))) || ((decide (p.Kind = 5)) && (!decide (y = 1)))) == false) rfl rfl rfl rfl fun h => v_or (ow rfl h) (fun hp => ow rfl (gA h (gF hp)))) ?_
 refine R_q _ rfl (.guarded ((((decide (p.Kind = 4)) && (!decide (q = 0))) || ((decide (p.Kind = 5)) && (!decide (y = 1)))) == false) rfl rfl rfl rfl fun h => v_move (ow rfl h)) ?_
 refine R_q _ rfl (.guarded2 (((((decide (p.Kind = 4)) && (!decide (q = 0))) || ((decide (p.Kind = 5)) && (!decide (y = 1)))) == false) && (((decide (p.Kind = 2)) || (decide (p.Kind = 3))) == true)) rfl rfl rfl rfl fun h => v_move (ov rfl)) ?_
 refine R_q _ rfl (.guarded2 (((((decide (p.Kind = 4)) && (!decide (q = 0))) || ((decide (p.Kind = 5)) && (!decide (y = 1)))) == false) && (((decide (p.Kind = 2)) || (decide (p.Kind = 3))) == true)) rfl rfl rfl rfl fun h => v_eql (ow rfl h) (ov rfl)) ?_
 refine R_q _ rfl (.guarded ((((decide (p.Kind = 4)) && (!decide (q = 0))) || ((decide (p.Kind = 5)) && (!decide (y = 1)))) == false) rfl rfl rfl rfl fun h => v_and (ow rfl h) (fun hp => ow rfl (gA h (gT hp)))) ?_
 refine R_q _ rfl (v_or (ov rfl) (fun hp => ow rfl (gF hp))) ?_
 refine R_nil ?_
 refine T_keep (kc 1 rfl <| kc 3 rfl <| kc 40 rfl <| kn) rfl ?_
 refine T_if h rfl (fun b40 h => ?_) (fun b40 h => ?_)
 ·
  refine T_keep (kn) rfl ?_
  refine T_seq (T_reg ?_)
  refine R_q _ rfl (v_assign (ov rfl)) ?_
  refine R_nil ?_
  obtain rfl := rt (v := 2) h
  refine T_ret (retq ?_ (.one (.tmp rfl (Dat.view (.b rfl)))))
  rfl
 ·
  refine T_skip ?_
  refine T_seq ?_
  refine T_keep (kc 1 rfl <| kc 3 rfl <| kn) rfl ?_
  refine T_seq (T_reg ?_)
  refine R_q _ rfl (v_fieldR (ov rfl) tF25_1) ?_
  refine R_q _ rfl (v_loadS_r (ov rfl) tS3 rfl) ?_
  refine R_q _ rfl (v_neq (ov rfl) (ov rfl)) ?_
  refine R_nil ?_
  refine T_keep (kc 1 rfl <| kc 3 rfl <| kc 43 rfl <| kn) rfl ?_
  refine T_if h rfl (fun b43 h => ?_) (fun b43 h => ?_)
  ·
   refine T_seq ?_
   refine T_keep (kc 1 rfl <| kn) rfl ?_
   refine T_seq (T_reg ?_)
   refine R_q _ rfl (v_fieldR (ov rfl) tF25_7) ?_
   refine R_q _ rfl (v_loadS_r (ov rfl) tS23 rfl) ?_
   refine R_q _ rfl (v_len (slv_sl (ov rfl) tZ_9) tL23 (len_map _ _)) ?_
   refine R_q _ rfl (v_gtr (ov rfl) (ov rfl)) ?_
   refine R_nil ?_
   refine T_keep (kc 47 rfl <| kn) rfl ?_
   refine T_if h rfl (fun b47 h => ?_) (fun b47 h => ?_)
   ·
    refine T_keep (kn) rfl ?_
    refine T_seq (T_reg ?_)
    refine R_q _ rfl (v_assign (ov rfl)) ?_
    refine R_nil ?_
    obtain rfl := rt (v := 2) h
    refine T_ret (retq ?_ (.one (.tmp rfl (Dat.view (.b rfl)))))
    rfl
   ·
    refine T_skip ?_
    refine T_keep (kn) rfl ?_
    refine T_seq (T_reg ?_)
    refine R_q _ rfl (v_assign (ov rfl)) ?_
    refine R_nil ?_
    obtain rfl := rt (v := 0) h
    refine T_ret (retq ?_ (.one (.tmp rfl (Dat.view (.b rfl)))))
    rfl
  ·
   refine T_skip ?_
   refine T_seq ?_
   refine T_keep (kc 1 rfl <| kc 3 rfl <| kn) rfl ?_
   refine T_seq (T_reg ?_)
   refine R_q _ rfl (v_fieldR (ov rfl) tF25_7) ?_
   refine R_q _ rfl (v_loadS_r (ov rfl) tS23 rfl) ?_
   refine R_q _ rfl (v_len (slv_sl (ov rfl) tZ_9) tL23 (len_map _ _)) ?_
   refine R_q _ rfl (v_eql (ov rfl) (ov rfl)) ?_
   refine R_nil ?_
   refine T_keep (kc 1 rfl <| kc 3 rfl <| kc 51 rfl <| kn) rfl ?_
   refine T_if h rfl (fun b51 h => ?_) (fun b51 h => ?_)
   ·
    refine T_keep (kn) rfl ?_
    refine T_seq (T_reg ?_)
    refine R_q _ rfl (v_assign (ov rfl)) ?_
    refine R_nil ?_
    obtain rfl := rt (v := 13) h
    refine T_ret (retq ?_ (.one (.tmp rfl (Dat.view (.b rfl)))))
    rfl
   ·
    refine T_skip ?_
    refine T_seq ?_
    refine T_keep (kc 1 rfl <| kc 3 rfl <| kn) rfl ?_
    refine T_seq (T_draw (cw := md0) (by kernel_rfl) ?_)
    refine D_q0 0 _ rfl (by kernel_rfl) rfl rfl (v_fieldR (ov rfl) tF25_7) ?_
    refine D_q0 1 _ rfl (by kernel_rfl) rfl rfl (v_loadS_r (ov rfl) tS23 rfl) ?_
    refine D_q0 2 _ rfl (by kernel_rfl) rfl rfl (v_len (slv_sl (ov rfl) tZ_9) tL23 (len_map _ _)) ?_
    refine D_q0 3 _ rfl (by kernel_rfl) rfl rfl (v_gtr (ov rfl) (ov rfl)) ?_
    refine D_q0 4 _ rfl (by kernel_rfl) rfl rfl (v_move (ov rfl)) ?_
    refine D_q0 5 _ rfl (by kernel_rfl) rfl rfl (.guarded ((decide (64 < (p.Names.length : Int))) == false) rfl rfl rfl rfl fun h => v_fieldR (ov rfl) tF25_7) ?_
    refine D_q0 6 _ rfl (by kernel_rfl) rfl rfl (.guarded ((decide (64 < (p.Names.length : Int))) == false) rfl rfl rfl rfl fun h => v_loadS_r (ow rfl h) tS23 rfl) ?_
    refine D_q0 7 _ rfl (by kernel_rfl) rfl rfl (.guarded ((decide (64 < (p.Names.length : Int))) == false) rfl rfl rfl rfl fun h => v_len (slv_sl (ow rfl h) tZ_9) tL23 (len_map _ _)) ?_
    refine D_q0 8 _ rfl (by kernel_rfl) rfl rfl (.guarded ((decide (64 < (p.Names.length : Int))) == false) rfl rfl rfl rfl fun h => v_move (ov rfl)) ?_
    obtain ⟨q2, h_q2, h⟩ := bnd h
    refine D_q0 9 _ rfl (by kernel_rfl) rfl rfl (.guarded ((decide (64 < (p.Names.length : Int))) == false) rfl rfl rfl rfl fun h => v_shlG (ov rfl) (ow rfl h) (gdT h_q2 h)) ?_
    refine D_q0 10 _ rfl (by kernel_rfl) rfl rfl (.guarded ((decide (64 < (p.Names.length : Int))) == false) rfl rfl rfl rfl fun h => v_gtr (ow rfl h) (ow rfl h)) ?_
    refine D_q0 11 _ rfl (by kernel_rfl) rfl rfl (v_or (ov rfl) (fun hp => ow rfl (gF hp))) ?_
    refine D_done (by kernel_rfl) ?_
    refine T_keep (kc 1 rfl <| kc 63 rfl <| kn) rfl ?_
    refine T_if h rfl (fun b63 h => ?_) (fun b63 h => ?_)
    ·
     refine T_keep (kn) rfl ?_
     refine T_seq (T_reg ?_)
     refine R_q _ rfl (v_assign (ov rfl)) ?_
     refine R_nil ?_
     obtain rfl := rt (v := 3) h
     refine T_ret (retq ?_ (.one (.tmp rfl (Dat.view (.b rfl)))))
     rfl
    ·
     refine T_skip ?_
     refine T_joinG (fun j => (.inr j)) (t0 ⟨[], []⟩) h (fun h => ?_) (fun j h => ?_)
     ·
      refine T_keep (kc 1 rfl <| kn) rfl ?_
      refine T_seq (T_reg ?_)
      refine R_q _ rfl (v_fieldR (ov rfl) tF25_7) ?_
      refine R_q _ rfl (v_loadS_r (ov rfl) tS23 rfl) ?_
      refine R_q _ rfl (v_len (slv_sl (ov rfl) tZ_9) tL23 (len_map _ _)) ?_
      refine R_q _ rfl (v_move (ov rfl)) ?_
      refine R_nil ?_
      refine T_block ?_
      obtain ⟨r1, hl1, ho1⟩ := bndL h
      refine T_loopG _ (t1 fun i => ⟨[(1, .rp [.str p.Name, .int .i64 p.Kind, .sl 113 (List.map R113 p.Parts), .int .i64 p.First, .int .i64 p.Every, .int .i64 p.Times, .int .i64 p.Step, .sl 9 (List.map R9 p.Names)] 0), (65, .sl 9 (List.map R9 p.Names)), (66, .int .i64 (p.Names.length : Int)), (67, .int .i64 i)], []⟩) _ hl1 (Ent.sel [] (sd 1 rfl rfl <| sd 65 rfl rfl <| sd 66 rfl rfl <| sd 67 rfl rfl <| sn) (.nil) rfl rfl) (fun n1 s1 h => ?_)
      obtain ⟨i, rfl⟩ : ∃ x, x = s1 := ⟨_, rfl⟩
      replace h := t1i h
      refine t1T ?_
      unfold ref2_kindFault_L1 at h
      refine T_seq (T_reg ?_)
      refine R_q _ rfl (v_lss (ov rfl) (ov rfl)) ?_
      refine R_nil ?_
      refine T_seq ?_
      refine T_if h rfl (fun b68 h => ?_) (fun b68 h => ?_)
      ·
       refine T_skip ?_
       refine T_joinG (fun j => (.inr j)) (t0 ⟨[(1, .rp [.str p.Name, .int .i64 p.Kind, .sl 113 (List.map R113 p.Parts), .int .i64 p.First, .int .i64 p.Every, .int .i64 p.Times, .int .i64 p.Step, .sl 9 (List.map R9 p.Names)] 0), (65, .sl 9 (List.map R9 p.Names)), (66, .int .i64 (p.Names.length : Int)), (67, .int .i64 i)], []⟩) h (fun h => ?_) (fun j h => ?_)
       ·
        refine T_block ?_
        refine T_keep (kc 1 rfl <| kc 65 rfl <| kc 66 rfl <| kc 67 rfl <| kn) rfl ?_
        refine T_seq (T_reg ?_)
        refine R_q _ rfl (v_move (ov rfl)) ?_
        obtain ⟨x, h_x, h⟩ := bnd h
        refine R_q _ rfl (v_ixSG (ov rfl) (ov rfl) tL23 h_x) ?_
        refine R_q _ rfl (v_loadS_r (ov rfl) tS9 rfl) ?_
        refine R_q _ rfl (v_assign (ov rfl)) ?_
        refine R_q _ rfl (v_assign (ov rfl)) ?_
        refine R_nil ?_
        refine T_seq ?_
        refine T_keep (kc 1 rfl <| kc 4 rfl <| kc 5 rfl <| kc 65 rfl <| kc 66 rfl <| kc 67 rfl <| kn) rfl ?_
        refine T_seq (T_reg ?_)
        refine R_q _ rfl (v_move (ov rfl)) ?_
        obtain ⟨y2, h_y2, h⟩ := bnd h
        refine R_q _ rfl (v_call (ok_ref2_IsName h_y2) (.cons (ov rfl) (.b rfl) <| .nil)) ?_
        refine R_q _ rfl (v_not (ov rfl)) ?_
        refine R_nil ?_
        refine T_keep (kc 1 rfl <| kc 4 rfl <| kc 5 rfl <| kc 65 rfl <| kc 66 rfl <| kc 67 rfl <| kc 74 rfl <| kn) rfl ?_
        refine T_if h rfl (fun b74 h => ?_) (fun b74 h => ?_)
        ·
         refine T_keep (kn) rfl ?_
         refine T_seq (T_reg ?_)
         refine R_q _ rfl (v_assign (ov rfl)) ?_
         refine R_nil ?_
         rw [lx h] at ho1
         replace h := ho1
         obtain rfl := rt (v := 8) h
         refine T_ret (retq ?_ (.one (.tmp rfl (Dat.view (.b rfl)))))
         rfl
        ·
         refine T_skip ?_
         refine T_keep (kc 1 rfl <| kc 4 rfl <| kc 5 rfl <| kc 65 rfl <| kc 66 rfl <| kc 67 rfl <| kn) rfl ?_
         refine T_seq (T_reg ?_)
         refine R_q _ rfl (v_fieldR (ov rfl) tF25_7) ?_
         refine R_q _ rfl (v_loadS_r (ov rfl) tS23 rfl) ?_
         refine R_q _ rfl (v_move (ov rfl)) ?_
         obtain ⟨l, h_l, h⟩ := bnd h
         refine R_q _ rfl (v_sliceG (ov rfl) tL23 on (oi (ov rfl)) h_l) ?_
         refine R_q _ rfl (v_len (slv_sl (ov rfl) tZ_9) tL23 (len_map _ _)) ?_
         refine R_q _ rfl (v_move (ov rfl)) ?_
         refine R_nil ?_
         refine T_block ?_
         obtain ⟨r2, hl2, ho2⟩ := bndL h
         refine T_loopG _ (t1 fun i2 => ⟨[(1, .rp [.str p.Name, .int .i64 p.Kind, .sl 113 (List.map R113 p.Parts), .int .i64 p.First, .int .i64 p.Every, .int .i64 p.Times, .int .i64 p.Step, .sl 9 (List.map R9 p.Names)] 0), (5, .str x), (65, .sl 9 (List.map R9 p.Names)), (66, .int .i64 (p.Names.length : Int)), (67, .int .i64 i), (78, .sl 9 (List.map R9 l)), (79, .int .i64 (l.length : Int)), (80, .int .i64 i2)], []⟩) _ hl2 (Ent.sel [] (sd 1 rfl rfl <| sd 5 rfl rfl <| sd 65 rfl rfl <| sd 66 rfl rfl <| sd 67 rfl rfl <| sd 78 rfl rfl <| sd 79 rfl rfl <| sd 80 rfl rfl <| sn) (.nil) rfl rfl) (fun n2 s2 h => ?_)
         obtain ⟨i2, rfl⟩ : ∃ x, x = s2 := ⟨_, rfl⟩
         replace h := t1i h
         refine t1T ?_
         unfold ref2_kindFault_L2 at h
         refine T_seq (T_reg ?_)
         refine R_q _ rfl (v_lss (ov rfl) (ov rfl)) ?_
         refine R_nil ?_
         refine T_seq ?_
         refine T_if h rfl (fun b81 h => ?_) (fun b81 h => ?_)
         ·
          refine T_skip ?_
          refine T_seq ?_
          refine T_block ?_
          refine T_keep (kc 1 rfl <| kc 5 rfl <| kc 65 rfl <| kc 66 rfl <| kc 67 rfl <| kc 78 rfl <| kc 79 rfl <| kc 80 rfl <| kn) rfl ?_
          refine T_seq (T_reg ?_)
          obtain ⟨x2, h_x2, h⟩ := bnd h
          refine R_q _ rfl (v_ixSG (ov rfl) (ov rfl) tL23 h_x2) ?_
          refine R_q _ rfl (v_loadS_r (ov rfl) tS9 rfl) ?_
          refine R_q _ rfl (v_assign (ov rfl)) ?_
          refine R_nil ?_
          refine T_keep (kc 1 rfl <| kc 5 rfl <| kc 7 rfl <| kc 65 rfl <| kc 66 rfl <| kc 67 rfl <| kc 78 rfl <| kc 79 rfl <| kc 80 rfl <| kn) rfl ?_
          refine T_seq (T_reg ?_)
          refine R_q _ rfl (v_move (ov rfl)) ?_
          refine R_q _ rfl (v_move (ov rfl)) ?_
          refine R_q _ rfl (v_eqlStr (ov rfl) (ov rfl)) ?_
          refine R_nil ?_
          refine T_keep (kc 1 rfl <| kc 5 rfl <| kc 65 rfl <| kc 66 rfl <| kc 67 rfl <| kc 78 rfl <| kc 79 rfl <| kc 80 rfl <| kc 86 rfl <| kn) rfl ?_
          refine T_if h rfl (fun b86 h => ?_) (fun b86 h => ?_)
          ·
           refine T_keep (kn) rfl ?_
           refine T_seq (T_reg ?_)
           refine R_q _ rfl (v_assign (ov rfl)) ?_
           refine R_nil ?_
           rw [lx h] at ho2
           replace h := ho2
           rw [lx h] at ho1
           replace h := ho1
           obtain rfl := rt (v := 5) h
           refine T_ret (retq ?_ (.one (.tmp rfl (Dat.view (.b rfl)))))
           rfl
          ·
           refine T_skip ?_
           refine T_keep (kc 1 rfl <| kc 5 rfl <| kc 65 rfl <| kc 66 rfl <| kc 67 rfl <| kc 78 rfl <| kc 79 rfl <| kc 80 rfl <| kn) rfl ?_
           refine T_reg ?_
           refine R_q _ rfl (v_add (ov rfl) (ov rfl) rfl) ?_
           refine R_q _ rfl (v_move (ov rfl)) ?_
           refine R_nil ?_
           exact ⟨(i64 (i2 + 1)), h, Ent.sel [] (sd 1 rfl rfl <| sd 5 rfl rfl <| sd 65 rfl rfl <| sd 66 rfl rfl <| sd 67 rfl rfl <| sd 78 rfl rfl <| sd 79 rfl rfl <| sd 80 rfl rfl <| sn) (.nil) rfl rfl⟩
         ·
          refine T_exit ?_
          rw [lx h] at ho2
          replace h := ho2
          exact ⟨(), h, Ent.sel [] (sd 1 rfl rfl <| sd 65 rfl rfl <| sd 66 rfl rfl <| sd 67 rfl rfl <| sn) (.nil) rfl rfl⟩
       ·
        replace h := elr h
        cases j
        replace h := t0i h
        refine t0T ?_
        refine T_reg ?_
        refine R_q _ rfl (v_add (ov rfl) (ov rfl) rfl) ?_
        refine R_q _ rfl (v_move (ov rfl)) ?_
        refine R_nil ?_
        exact ⟨(i64 (i + 1)), h, Ent.sel [] (sd 1 rfl rfl <| sd 65 rfl rfl <| sd 66 rfl rfl <| sd 67 rfl rfl <| sn) (.nil) rfl rfl⟩
      ·
       refine T_exit ?_
       rw [lx h] at ho1
       replace h := ho1
       exact ⟨(), h, Ent.sel [] (sn) (.nil) rfl rfl⟩
     ·
      replace h := elr h
      cases j
      replace h := t0i h
      refine t0T ?_
      refine T_seq (T_reg ?_)
      refine R_q _ rfl (v_assign (ov rfl)) ?_
      refine R_nil ?_
      obtain rfl := rt (v := 0) h
      refine T_ret (retq ?_ (.one (.tmp rfl (Dat.view (.b rfl)))))
      rfl

theorem ok_ref2_cells {p : api_Param} {number : Int} {r : (List api_Cell)} (h : ref2_cells p number = some r) :
  CSpec Tryd.prog gl0 48 [.agg [.str p.Name, .int .i64 p.Kind, .sl 113 (List.map R113 p.Parts), .int .i64 p.First, .int .i64 p.Every, .int .i64 p.Times, .int .i64 p.Step, .sl 9 (List.map R9 p.Names)], .int .i64 number] (.sl 87 (List.map R87 r)) := by
 unfold ref2_cells at h
 replace h := bnd0 h
 refine spec_of (by kernel_rfl) Tryd.func48 rfl rfl ?_
 intro w0 A
 refine T_seq (T_reg ?_)
 refine R_q _ rfl (v_boxD (cva (ov rfl)) rfl tZ_25 rfl) ?_
 refine R_q _ rfl (v_assign (ov rfl)) ?_
 refine R_nil ?_
 refine T_keep (kc 1 rfl <| kc 2 rfl <| kn) rfl ?_
 refine T_seq (T_reg ?_)
 refine R_q _ rfl (v_assign (ov rfl)) ?_
 refine R_nil ?_
 refine T_joinG id (t1 fun out => ⟨[(5, .own 0 out.length)], [some ⟨87, List.map R87 out⟩]⟩) h (fun h => ?_) (fun j h => ?_)
 ·
  refine T_seq (T_reg ?_)
  refine R_q _ rfl (v_fieldR (ov rfl) tF25_3) ?_
  refine R_q _ rfl (v_loadS_r (ov rfl) tS3 rfl) ?_
  refine R_q _ rfl (v_assign (ov rfl)) ?_
  refine R_nil ?_
  refine T_block ?_
  obtain ⟨r1, hl1, ho1⟩ := bndL h
  refine T_loopG _ (t2 fun out2 f => ⟨[(1, .int .i64 number), (2, .rp [.str p.Name, .int .i64 p.Kind, .sl 113 (List.map R113 p.Parts), .int .i64 p.First, .int .i64 p.Every, .int .i64 p.Times, .int .i64 p.Step, .sl 9 (List.map R9 p.Names)] 0), (5, .own 0 out2.length), (6, .int .i64 f)], [some ⟨87, List.map R87 out2⟩]⟩) _ hl1 (Ent.sel [none] (sd 1 rfl rfl <| sd 2 rfl rfl <| sr 5 rfl (.row rfl) <| sd 6 rfl rfl <| sn) (.row 87 <| .nil) rfl rfl) (fun n1 s1 h => ?_)
  obtain ⟨out2, f⟩ := s1
  replace h := t2i h
  refine t2T ?_
  unfold ref2_cells_L1 at h
  refine T_seq ?_
  refine T_seq (T_reg ?_)
  refine R_q _ rfl (v_move (ov rfl)) ?_
  refine R_q _ rfl (v_lss (ov rfl) (ov rfl)) ?_
  refine R_nil ?_
  refine T_keep (kc 1 rfl <| kc 2 rfl <| kc 5 rfl <| kc 6 rfl <| kc 17 rfl <| kn) rfl ?_
  refine T_if h rfl (fun b17 h => ?_) (fun b17 h => ?_)
  ·
   refine T_skip ?_
   refine T_joinG id (t1 fun out3 => ⟨[(1, .int .i64 number), (2, .rp [.str p.Name, .int .i64 p.Kind, .sl 113 (List.map R113 p.Parts), .int .i64 p.First, .int .i64 p.Every, .int .i64 p.Times, .int .i64 p.Step, .sl 9 (List.map R9 p.Names)] 0), (5, .own 0 out3.length), (6, .int .i64 f)], [some ⟨87, List.map R87 out3⟩]⟩) h (fun h => ?_) (fun j h => ?_)
   ·
    refine T_block ?_
    refine T_keep (kc 1 rfl <| kc 2 rfl <| kc 5 rfl <| kc 6 rfl <| kn) rfl ?_
    refine T_seq (T_reg ?_)
    refine R_q _ rfl (v_assign (ov rfl)) ?_
    refine R_nil ?_
    refine T_joinG id (t1 fun inside => ⟨[(1, .int .i64 number), (2, .rp [.str p.Name, .int .i64 p.Kind, .sl 113 (List.map R113 p.Parts), .int .i64 p.First, .int .i64 p.Every, .int .i64 p.Times, .int .i64 p.Step, .sl 9 (List.map R9 p.Names)] 0), (5, .own 0 out2.length), (6, .int .i64 f), (7, .bool inside)], [some ⟨87, List.map R87 out2⟩]⟩) h (fun h => ?_) (fun j h => ?_)
    ·
     refine T_seq (T_reg ?_)
     refine R_q _ rfl (v_fieldR (ov rfl) tF25_2) ?_
     refine R_q _ rfl (v_loadS_r (ov rfl) tS22 rfl) ?_
     refine R_q _ rfl (v_len (slv_sl (ov rfl) tZ_113) tL22 (len_map _ _)) ?_
     refine R_q _ rfl (v_move (ov rfl)) ?_
     refine R_nil ?_
     refine T_block ?_
     obtain ⟨r2, hl2, ho2⟩ := bndL h
     refine T_loopG _ (t2 fun inside2 i => ⟨[(1, .int .i64 number), (2, .rp [.str p.Name, .int .i64 p.Kind, .sl 113 (List.map R113 p.Parts), .int .i64 p.First, .int .i64 p.Every, .int .i64 p.Times, .int .i64 p.Step, .sl 9 (List.map R9 p.Names)] 0), (5, .own 0 out2.length), (6, .int .i64 f), (7, .bool inside2), (23, .sl 113 (List.map R113 p.Parts)), (24, .int .i64 (p.Parts.length : Int)), (25, .int .i64 i)], [some ⟨87, List.map R87 out2⟩]⟩) _ hl2 (Ent.sel [some 0] (sd 1 rfl rfl <| sd 2 rfl rfl <| sr 5 rfl (.own _ rfl) <| sd 6 rfl rfl <| sd 7 rfl rfl <| sd 23 rfl rfl <| sd 24 rfl rfl <| sd 25 rfl rfl <| sn) (.cons rfl (roM D87) <| .nil) rfl rfl) (fun n2 s2 h => ?_)
     obtain ⟨inside2, i⟩ := s2
     replace h := t2i h
     refine t2T ?_
     unfold ref2_cells_L2 at h
     refine T_seq (T_reg ?_)
     refine R_q _ rfl (v_lss (ov rfl) (ov rfl)) ?_
     refine R_nil ?_
     refine T_seq ?_
     refine T_if h rfl (fun b26 h => ?_) (fun b26 h => ?_)
     ·
      refine T_skip ?_
      refine T_seq ?_
      refine T_block ?_
      refine T_keep (kc 1 rfl <| kc 2 rfl <| kc 5 rfl <| kc 6 rfl <| kc 7 rfl <| kc 23 rfl <| kc 24 rfl <| kc 25 rfl <| kn) rfl ?_
      refine T_seq (T_reg ?_)
      obtain ⟨x, h_x, h⟩ := bnd h
      refine R_q _ rfl (v_ixSG (ov rfl) (ov rfl) tL22 h_x) ?_
      refine R_q _ rfl (v_loadA_r (ov rfl) tA113 rfl rfl) ?_
      refine R_w _ _ rfl (w_alloc (row := [_, _, _, _]) 1 rfl tZ113 rfl tZ_113) ?_
      refine R_w _ _ rfl (w_store (ov rfl) (ov rfl) (cells_agg tA113 rfl) rfl rfl rfl (Nat.le_of_ble_eq_true rfl) (cell1_all rfl) rfl) ?_
      refine R_nil ?_
      refine T_keep (kc 1 rfl <| kc 2 rfl <| kc 5 rfl <| kc 6 rfl <| kc 7 rfl <| kc 9 rfl <| kc 23 rfl <| kc 24 rfl <| kc 25 rfl <| kn) rfl ?_
      refine T_reg ?_
      refine R_q _ rfl (v_move (ov rfl)) ?_
      refine R_q _ rfl (v_move (ov rfl)) ?_
      refine R_q _ rfl (.guarded (inside2 == true) rfl rfl rfl rfl fun h => v_move (ov rfl)) ?_
      refine R_q _ rfl (.guarded (inside2 == true) rfl rfl rfl rfl fun h => v_fieldP (ov rfl) rfl rfl tF113_0) ?_
      refine R_q _ rfl (.guarded (inside2 == true) rfl rfl rfl rfl fun h => v_loadS (ow rfl h) rfl rfl rfl tS3 rfl) ?_
      refine R_q _ rfl (.guarded (inside2 == true) rfl rfl rfl rfl fun h => v_add (ow rfl h) (ow rfl h) rfl) ?_
      refine R_q _ rfl (.guarded (inside2 == true) rfl rfl rfl rfl fun h => v_lss (ow rfl h) (ov rfl)) ?_
      refine R_q _ rfl (v_and (ov rfl) (fun hp => ow rfl (gT hp))) ?_
      refine R_q _ rfl (v_assign (ov rfl)) ?_
      refine R_nil ?_
      refine T_keep (kc 1 rfl <| kc 2 rfl <| kc 5 rfl <| kc 6 rfl <| kc 7 rfl <| kc 23 rfl <| kc 24 rfl <| kc 25 rfl <| kn) rfl ?_
      refine T_reg ?_
      refine R_q _ rfl (v_add (ov rfl) (ov rfl) rfl) ?_
      refine R_q _ rfl (v_move (ov rfl)) ?_
      refine R_nil ?_
      exact ⟨((inside2 && (decide ((i64 (f + x.Frame)) < 16))), (i64 (i + 1))), h, Ent.sel [some 0] (sd 1 rfl rfl <| sd 2 rfl rfl <| sr 5 rfl (.own _ rfl) <| sd 6 rfl rfl <| sd 7 rfl rfl <| sd 23 rfl rfl <| sd 24 rfl rfl <| sd 25 rfl rfl <| sn) (.cons rfl (roM D87) <| .nil) rfl rfl⟩
     ·
      refine T_exit ?_
      rw [lx h] at ho2
      replace h := ho2
      exact ⟨inside2, h, Ent.sel [some 0] (sd 1 rfl rfl <| sd 2 rfl rfl <| sr 5 rfl (.own _ rfl) <| sd 6 rfl rfl <| sd 7 rfl rfl <| sn) (.cons rfl (roM D87) <| .nil) rfl rfl⟩
    ·
     obtain ⟨inside, rfl⟩ : ∃ x, x = j := ⟨_, rfl⟩
     replace h := t1i h
     refine t1T ?_
     refine T_seq (T_reg ?_)
     refine R_q _ rfl (v_assign (ov rfl)) ?_
     refine R_nil ?_
     refine T_block ?_
     obtain ⟨r3, hl3, ho3⟩ := bndL h
     refine T_loopG _ (t2 fun out4 j => ⟨[(1, .int .i64 number), (2, .rp [.str p.Name, .int .i64 p.Kind, .sl 113 (List.map R113 p.Parts), .int .i64 p.First, .int .i64 p.Every, .int .i64 p.Times, .int .i64 p.Step, .sl 9 (List.map R9 p.Names)] 0), (5, .own 0 out4.length), (6, .int .i64 f), (7, .bool inside), (10, .int .i64 j)], [some ⟨87, List.map R87 out4⟩]⟩) _ hl3 (Ent.sel [some 0] (sd 1 rfl rfl <| sd 2 rfl rfl <| sr 5 rfl (.own _ rfl) <| sd 6 rfl rfl <| sd 7 rfl rfl <| sd 10 rfl rfl <| sn) (.cons rfl (roM D87) <| .nil) rfl rfl) (fun n3 s3 h => ?_)
     obtain ⟨out4, j⟩ := s3
     replace h := t2i h
     refine t2T ?_
     unfold ref2_cells_L3 at h
     refine T_seq ?_
     refine T_seq (T_reg ?_)
     refine R_q _ rfl (v_move (ov rfl)) ?_
     refine R_q _ rfl (v_fieldR (ov rfl) tF25_5) ?_
     refine R_q _ rfl (v_loadS_r (ov rfl) tS3 rfl) ?_
     refine R_q _ rfl (v_lss (ov rfl) (ov rfl)) ?_
     refine R_q _ rfl (v_move (ov rfl)) ?_
     refine R_q _ rfl (.guarded ((decide (j < p.Times)) == true) rfl rfl rfl rfl fun h => v_move (ov rfl)) ?_
     refine R_q _ rfl (v_and (ov rfl) (fun hp => ow rfl (gT hp))) ?_
     refine R_nil ?_
     refine T_keep (kc 1 rfl <| kc 2 rfl <| kc 5 rfl <| kc 6 rfl <| kc 7 rfl <| kc 10 rfl <| kc 44 rfl <| kn) rfl ?_
     refine T_if h rfl (fun b44 h => ?_) (fun b44 h => ?_)
     ·
      refine T_skip ?_
      refine T_seq ?_
      refine T_block ?_
      refine T_keep (kc 1 rfl <| kc 2 rfl <| kc 5 rfl <| kc 6 rfl <| kc 7 rfl <| kc 10 rfl <| kn) rfl ?_
      refine T_seq (T_reg ?_)
      refine R_q _ rfl (v_move (ov rfl)) ?_
      refine R_q _ rfl (v_move (ov rfl)) ?_
      refine R_q _ rfl (v_lenO (ov rfl) rfl rfl tL45) ?_
      refine R_q _ rfl (v_move (ov rfl)) ?_
      refine R_q _ rfl (v_build (ys := [_, _, _, _]) tPL87 tHA87 tZ87 (.cons (cvs (ov rfl) (cell1_b rfl)) <| .cons (cvs (ov rfl) (cell1_b rfl)) <| .cons (cvs (ov rfl) (cell1_b rfl)) <| .nil) rfl) ?_
      refine R_w _ _ rfl (w_alloc (row := [_, _, _, _]) 1 rfl tZ87 rfl tZ_87) ?_
      refine R_w _ _ rfl (w_store (ov rfl) (ov rfl) (cells_agg tA87 rfl) rfl rfl rfl (Nat.le_of_ble_eq_true rfl) (cell1_all rfl) rfl) ?_
      refine R_nil ?_
      refine T_joinG id (t1 fun Places => ⟨[(1, .int .i64 number), (2, .rp [.str p.Name, .int .i64 p.Kind, .sl 113 (List.map R113 p.Parts), .int .i64 p.First, .int .i64 p.Every, .int .i64 p.Times, .int .i64 p.Step, .sl 9 (List.map R9 p.Names)] 0), (5, .own 0 out4.length), (6, .int .i64 f), (7, .bool inside), (10, .int .i64 j), (11, .ptr 1 1 0 0)], [some ⟨87, List.map R87 out4⟩, some ⟨87, [[.int .i64 number, .int .i64 (out4.length : Int), .int .i64 f, .own 2 Places.length]]⟩, some ⟨118, List.map R118 Places⟩]⟩) h (fun h => ?_) (fun j h => ?_)
      ·
       refine T_keep (kc 1 rfl <| kc 2 rfl <| kc 5 rfl <| kc 6 rfl <| kc 7 rfl <| kc 10 rfl <| kc 11 rfl <| kn) rfl ?_
       refine T_seq (T_reg ?_)
       refine R_q _ rfl (v_fieldR (ov rfl) tF25_2) ?_
       refine R_q _ rfl (v_loadS_r (ov rfl) tS22 rfl) ?_
       refine R_q _ rfl (v_len (slv_sl (ov rfl) tZ_113) tL22 (len_map _ _)) ?_
       refine R_q _ rfl (v_move (ov rfl)) ?_
       refine R_nil ?_
       refine T_block ?_
       obtain ⟨r4, hl4, ho4⟩ := bndL h
       refine T_loopG _ (t2 fun Places2 i2 => ⟨[(1, .int .i64 number), (2, .rp [.str p.Name, .int .i64 p.Kind, .sl 113 (List.map R113 p.Parts), .int .i64 p.First, .int .i64 p.Every, .int .i64 p.Times, .int .i64 p.Step, .sl 9 (List.map R9 p.Names)] 0), (5, .own 0 out4.length), (6, .int .i64 f), (7, .bool inside), (10, .int .i64 j), (11, .ptr 1 1 0 0), (53, .sl 113 (List.map R113 p.Parts)), (54, .int .i64 (p.Parts.length : Int)), (55, .int .i64 i2)], [some ⟨87, List.map R87 out4⟩, some ⟨87, [[.int .i64 number, .int .i64 (out4.length : Int), .int .i64 f, .own 2 Places2.length]]⟩, some ⟨118, List.map R118 Places2⟩]⟩) _ hl4 (Ent.sel [some 0, some 1, none] (sd 1 rfl rfl <| sd 2 rfl rfl <| sr 5 rfl (.own _ rfl) <| sd 6 rfl rfl <| sd 7 rfl rfl <| sd 10 rfl rfl <| sr 11 rfl (.ptr _ _ _ rfl) <| sd 53 rfl rfl <| sd 54 rfl rfl <| sd 55 rfl rfl <| sn) (.cons rfl (roM D87) <| .cons rfl (ro1 (by exact tZ_87.symm) (rlc (.dat rfl) <| rlc (.dat rfl) <| rlc (.dat rfl) <| rlc (.row rfl) <| rln)) <| .row 118 <| .nil) rfl rfl) (fun n4 s4 h => ?_)
       obtain ⟨Places2, i2⟩ := s4
       replace h := t2i h
       refine t2T ?_
       unfold ref2_cells_L4 at h
       refine T_seq (T_reg ?_)
       refine R_q _ rfl (v_lss (ov rfl) (ov rfl)) ?_
       refine R_nil ?_
       refine T_seq ?_
       refine T_if h rfl (fun b56 h => ?_) (fun b56 h => ?_)
       ·
        refine T_skip ?_
        refine T_seq ?_
        refine T_block ?_
        refine T_keep (kc 1 rfl <| kc 2 rfl <| kc 5 rfl <| kc 6 rfl <| kc 7 rfl <| kc 10 rfl <| kc 11 rfl <| kc 53 rfl <| kc 54 rfl <| kc 55 rfl <| kn) rfl ?_
        refine T_seq (T_reg ?_)
        obtain ⟨x2, h_x2, h⟩ := bnd h
        refine R_q _ rfl (v_ixSG (ov rfl) (ov rfl) tL22 h_x2) ?_
        refine R_q _ rfl (v_loadA_r (ov rfl) tA113 rfl rfl) ?_
        refine R_w _ _ rfl (w_alloc (row := [_, _, _, _]) 3 rfl tZ113 rfl tZ_113) ?_
        refine R_w _ _ rfl (w_store (ov rfl) (ov rfl) (cells_agg tA113 rfl) rfl rfl rfl (Nat.le_of_ble_eq_true rfl) (cell1_all rfl) rfl) ?_
        refine R_nil ?_
        refine T_keep (kc 1 rfl <| kc 2 rfl <| kc 5 rfl <| kc 6 rfl <| kc 7 rfl <| kc 10 rfl <| kc 11 rfl <| kc 13 rfl <| kc 53 rfl <| kc 54 rfl <| kc 55 rfl <| kn) rfl ?_
        refine T_reg ?_
        refine R_q _ rfl (v_fieldP (ov rfl) rfl rfl tF87_3) ?_
        refine R_q _ rfl (v_loadS (ov rfl) rfl rfl rfl tS85 rfl) ?_
        refine R_q _ rfl (v_move (ov rfl)) ?_
        refine R_q _ rfl (v_fieldP (ov rfl) rfl rfl tF113_0) ?_
        refine R_q _ rfl (v_loadS (ov rfl) rfl rfl rfl tS3 rfl) ?_
        refine R_q _ rfl (v_add (ov rfl) (ov rfl) rfl) ?_
        refine R_q _ rfl (v_fieldP (ov rfl) rfl rfl tF113_1) ?_
        refine R_q _ rfl (v_loadS (ov rfl) rfl rfl rfl tS3 rfl) ?_
        refine R_q _ rfl (v_move (ov rfl)) ?_
        refine R_q _ rfl (v_fieldR (ov rfl) tF25_6) ?_
        refine R_q _ rfl (v_loadS_r (ov rfl) tS3 rfl) ?_
        refine R_q _ rfl (v_mul (ov rfl) (ov rfl) rfl) ?_
        refine R_q _ rfl (v_add (ov rfl) (ov rfl) rfl) ?_
        refine R_q _ rfl (v_fieldP (ov rfl) rfl rfl tF113_2) ?_
        refine R_q _ rfl (v_loadS (ov rfl) rfl rfl rfl tS3 rfl) ?_
        refine R_q _ rfl (v_fieldP (ov rfl) rfl rfl tF113_3) ?_
        refine R_q _ rfl (v_loadS (ov rfl) rfl rfl rfl tS3 rfl) ?_
        refine R_q _ rfl (v_build (ys := [_, _, _, _]) tPL118 tHA118 tZ118 (.cons (cvs (ov rfl) (cell1_b rfl)) <| .cons (cvs (ov rfl) (cell1_b rfl)) <| .cons (cvs (ov rfl) (cell1_b rfl)) <| .cons (cvs (ov rfl) (cell1_b rfl)) <| .nil) rfl) ?_
        refine R_q (.sl 118 (List.map R118 ([(api_Place.mk (i64 (f + x2.Frame)) (i64 (x2.Word + (i64 (j * p.Step)))) x2.Low x2.Bits)] : List api_Place))) rfl (v_lit tL85 (.cons (cva (ov rfl)) rfl (pwD rfl) <| .nil) rfl rfl) ?_
        obtain ⟨l, h_l, h⟩ := bnd h
        refine R_w _ _ rfl (w_appendG (ov rfl) (slv_sl (ov rfl) tZ_118) tL85 rfl rfl rfl (fun _ => cell1_all rfl) rfl h_l) ?_
        refine R_q _ rfl (v_fieldP (ov rfl) rfl rfl tF87_3) ?_
        refine R_w _ _ rfl (w_store (ov rfl) (ov rfl) (cells_scal tS85) rfl rfl rfl (Nat.le_of_ble_eq_true rfl) (cell1_all rfl) rfl) ?_
        refine R_nil ?_
        refine T_keep (kc 1 rfl <| kc 2 rfl <| kc 5 rfl <| kc 6 rfl <| kc 7 rfl <| kc 10 rfl <| kc 11 rfl <| kc 53 rfl <| kc 54 rfl <| kc 55 rfl <| kn) rfl ?_
        refine T_reg ?_
        refine R_q _ rfl (v_add (ov rfl) (ov rfl) rfl) ?_
        refine R_q _ rfl (v_move (ov rfl)) ?_
        refine R_nil ?_
        exact ⟨(l, (i64 (i2 + 1))), h, Ent.sel [some 0, some 1, some 2] (sd 1 rfl rfl <| sd 2 rfl rfl <| sr 5 rfl (.own _ rfl) <| sd 6 rfl rfl <| sd 7 rfl rfl <| sd 10 rfl rfl <| sr 11 rfl (.ptr _ _ _ rfl) <| sd 53 rfl rfl <| sd 54 rfl rfl <| sd 55 rfl rfl <| sn) (.cons rfl (roM D87) <| .cons rfl (ro1 (by exact tZ_87.symm) (rlc (.dat rfl) <| rlc (.dat rfl) <| rlc (.dat rfl) <| rlc (.own _ rfl) <| rln)) <| .cons rfl (roM D118) <| .nil) rfl rfl⟩
       ·
        refine T_exit ?_
        rw [lx h] at ho4
        replace h := ho4
        exact ⟨Places2, h, Ent.sel [some 0, some 1, some 2] (sd 1 rfl rfl <| sd 2 rfl rfl <| sr 5 rfl (.own _ rfl) <| sd 6 rfl rfl <| sd 7 rfl rfl <| sd 10 rfl rfl <| sr 11 rfl (.ptr _ _ _ rfl) <| sn) (.cons rfl (roM D87) <| .cons rfl (ro1 (by exact tZ_87.symm) (rlc (.dat rfl) <| rlc (.dat rfl) <| rlc (.dat rfl) <| rlc (.own _ rfl) <| rln)) <| .cons rfl (roM D118) <| .nil) rfl rfl⟩
      ·
       obtain ⟨Places, rfl⟩ : ∃ x, x = j := ⟨_, rfl⟩
       replace h := t1i h
       refine t1T ?_
       refine T_reg ?_
       refine R_q _ rfl (v_move (ov rfl)) ?_
       refine R_q _ rfl (v_loadA (ov rfl) rfl rfl rfl tA87 rfl rfl) ?_
       refine R_ent (Ent.sel [some 0, some 1, none] (sd 1 rfl rfl <| sd 2 rfl rfl <| sr 5 rfl (.own (r' := 0) _ rfl) <| sd 6 rfl rfl <| sd 7 rfl rfl <| sd 10 rfl rfl <| sr 11 rfl (.ptr (r' := 1) _ _ _ rfl) <| sr 81 rfl (.own (r' := 0) _ rfl) <| sr 82 rfl (rAgg (rlc (.dat rfl) <| rlc (.dat rfl) <| rlc (.dat rfl) <| rlc (frzM rfl rfl rfl D118) <| rln)) <| sn) (.cons rfl (roM D87) <| .cons rfl (ro1 (by exact tZ_87.symm) (rlc (.dat rfl) <| rlc (.dat rfl) <| rlc (.dat rfl) <| rlc (frzM rfl rfl rfl D118) <| rln)) <| .row 118 <| .nil) rfl rfl) ?_
       refine R_q (.sl 87 (List.map R87 ([(api_Cell.mk number (out4.length : Int) f Places)] : List api_Cell))) rfl (v_lit tL45 (.cons (cva (ov rfl)) rfl (pwD rfl) <| .nil) rfl rfl) ?_
       obtain ⟨l2, h_l2, h⟩ := bnd h
       refine R_w _ _ rfl (w_appendG (ov rfl) (slv_sl (ov rfl) tZ_87) tL45 rfl rfl rfl (fun _ => cell1_all rfl) rfl h_l2) ?_
       refine R_q _ rfl (v_assign (ov rfl)) ?_
       refine R_nil ?_
       refine T_keep (kc 1 rfl <| kc 2 rfl <| kc 5 rfl <| kc 6 rfl <| kc 7 rfl <| kc 10 rfl <| kn) rfl ?_
       refine T_reg ?_
       refine R_q _ rfl (v_move (ov rfl)) ?_
       refine R_q _ rfl (v_add (ov rfl) (ov rfl) rfl) ?_
       refine R_q _ rfl (v_assign (ov rfl)) ?_
       refine R_nil ?_
       exact ⟨(l2, (i64 (j + 1))), h, Ent.sel [some 0] (sd 1 rfl rfl <| sd 2 rfl rfl <| sr 5 rfl (.own _ rfl) <| sd 6 rfl rfl <| sd 7 rfl rfl <| sd 10 rfl rfl <| sn) (.cons rfl (roM D87) <| .nil) rfl rfl⟩
     ·
      refine T_exit ?_
      rw [lx h] at ho3
      replace h := ho3
      exact ⟨out4, h, Ent.sel [some 0] (sd 1 rfl rfl <| sd 2 rfl rfl <| sr 5 rfl (.own _ rfl) <| sd 6 rfl rfl <| sn) (.cons rfl (roM D87) <| .nil) rfl rfl⟩
   ·
    obtain ⟨out3, rfl⟩ : ∃ x, x = j := ⟨_, rfl⟩
    replace h := t1i h
    refine t1T ?_
    refine T_reg ?_
    refine R_q _ rfl (v_move (ov rfl)) ?_
    refine R_q _ rfl (v_fieldR (ov rfl) tF25_4) ?_
    refine R_q _ rfl (v_loadS_r (ov rfl) tS3 rfl) ?_
    refine R_q _ rfl (v_add (ov rfl) (ov rfl) rfl) ?_
    refine R_q _ rfl (v_assign (ov rfl)) ?_
    refine R_nil ?_
    exact ⟨(out3, (i64 (f + p.Every))), h, Ent.sel [some 0] (sd 1 rfl rfl <| sd 2 rfl rfl <| sr 5 rfl (.own _ rfl) <| sd 6 rfl rfl <| sn) (.cons rfl (roM D87) <| .nil) rfl rfl⟩
  ·
   refine T_exit ?_
   rw [lx h] at ho1
   replace h := ho1
   exact ⟨out2, h, Ent.sel [some 0] (sr 5 rfl (.own _ rfl) <| sn) (.cons rfl (roM D87) <| .nil) rfl rfl⟩
 ·
  obtain ⟨out, rfl⟩ : ∃ x, x = j := ⟨_, rfl⟩
  replace h := t1i h
  refine t1T ?_
  refine T_seq (T_reg ?_)
  refine R_q _ rfl (v_move (ov rfl)) ?_
  refine R_q _ rfl (v_assign (ov rfl)) ?_
  refine R_nil ?_
  obtain rfl := rt (v := out) h
  refine T_ret (retq ?_ (.one (.tmp rfl (View.ownM rfl rfl D87))))
  rfl

theorem ok_ref2_taken_take {t : List ((Vector Int 3) × Bool)} {l : List api_Place} {r : Bool × (List ((Vector Int 3) × Bool))} (h : ref2_taken_take t l = some r) :
  GSpec Tryd.prog gl0 74 [.mref 0 1, .sl 118 (List.map R118 l)] [some ⟨95, [[.mcon (List.map (mrow FK157 FV4) t)]]⟩] (.bool r.1) [some ⟨95, [[.mcon (List.map (mrow FK157 FV4) r.2)]]⟩] := by
 unfold ref2_taken_take at h
 replace h := bnd0 h
 refine gspec_of (by kernel_rfl) Tryd.func74 rfl rfl ?_
 intro w0 A W φ0
 refine T_seq (T_reg ?_)
 refine R_q _ rfl (v_assign (ov rfl)) ?_
 refine R_nil ?_
 refine T_keep (kc 0 rfl <| kc 1 rfl <| kn) rfl ?_
 refine T_seq (T_reg ?_)
 refine R_q _ rfl (v_assign (ov rfl)) ?_
 refine R_nil ?_
 refine T_joinG id (t2 fun o ok => ⟨[(5, .bool ok)], [some ⟨95, [[.mcon (List.map (mrow FK157 FV4) o)]]⟩]⟩) h (fun h => ?_) (fun j h => ?_)
 ·
  refine T_seq (T_reg ?_)
  refine R_q _ rfl (v_move (ov rfl)) ?_
  refine R_q _ rfl (v_len (slv_sl (ov rfl) tZ_118) tL85 (len_map _ _)) ?_
  refine R_q _ rfl (v_move (ov rfl)) ?_
  refine R_nil ?_
  refine T_block ?_
  obtain ⟨r1, hl1, ho1⟩ := bndL h
  refine T_loopG _ (t3 fun o2 ok2 i => ⟨[(0, .mref 0 1), (5, .bool ok2), (10, .sl 118 (List.map R118 l)), (11, .int .i64 (l.length : Int)), (12, .int .i64 i)], [some ⟨95, [[.mcon (List.map (mrow FK157 FV4) o2)]]⟩]⟩) _ hl1 (Ent.sel [some 0] (sr 0 rfl (.mref _ rfl) <| sd 5 rfl rfl <| sd 10 rfl rfl <| sd 11 rfl rfl <| sd 12 rfl rfl <| sn) (.cons rfl (roMap (fk := FK157) (fv := FV4) (m := t) tZ_95 (fun _ => rAgg (rld (arD fun _ => rfl))) (fun _ => .ren (.dat rfl))) <| .nil) rfl rfl) (fun n1 s1 h => ?_)
  obtain ⟨o2, ok2, i⟩ := s1
  replace h := t3i h
  refine t3T ?_
  unfold ref2_taken_take_L1 at h
  refine T_seq (T_reg ?_)
  refine R_q _ rfl (v_lss (ov rfl) (ov rfl)) ?_
  refine R_nil ?_
  refine T_seq ?_
  refine T_if h rfl (fun b13 h => ?_) (fun b13 h => ?_)
  ·
   refine T_skip ?_
   refine T_joinG id (t2 fun o3 ok3 => ⟨[(0, .mref 0 1), (5, .bool ok3), (10, .sl 118 (List.map R118 l)), (11, .int .i64 (l.length : Int)), (12, .int .i64 i)], [some ⟨95, [[.mcon (List.map (mrow FK157 FV4) o3)]]⟩]⟩) h (fun h => ?_) (fun j h => ?_)
   ·
    refine T_block ?_
    refine T_keep (kc 0 rfl <| kc 5 rfl <| kc 10 rfl <| kc 11 rfl <| kc 12 rfl <| kn) rfl ?_
    refine T_seq (T_reg ?_)
    obtain ⟨x, h_x, h⟩ := bnd h
    refine R_q _ rfl (v_ixSG (ov rfl) (ov rfl) tL85 h_x) ?_
    refine R_q _ rfl (v_loadA_r (ov rfl) tA118 rfl rfl) ?_
    refine R_w _ _ rfl (w_alloc (row := [_, _, _, _]) 1 rfl tZ118 rfl tZ_118) ?_
    refine R_w _ _ rfl (w_store (ov rfl) (ov rfl) (cells_agg tA118 rfl) rfl rfl rfl (Nat.le_of_ble_eq_true rfl) (cell1_all rfl) rfl) ?_
    refine R_nil ?_
    refine T_keep (kc 0 rfl <| kc 5 rfl <| kc 7 rfl <| kc 10 rfl <| kc 11 rfl <| kc 12 rfl <| kn) rfl ?_
    refine T_seq (T_reg ?_)
    refine R_q _ rfl (v_fieldP (ov rfl) rfl rfl tF118_2) ?_
    refine R_q _ rfl (v_loadS (ov rfl) rfl rfl rfl tS3 rfl) ?_
    refine R_q _ rfl (v_assign (ov rfl)) ?_
    refine R_nil ?_
    refine T_block ?_
    obtain ⟨r2, hl2, ho2⟩ := bndL h
    refine T_loopG _ (t3 fun o4 ok4 b => ⟨[(0, .mref 0 1), (5, .bool ok4), (7, .ptr 1 1 0 0), (8, .int .i64 b), (10, .sl 118 (List.map R118 l)), (11, .int .i64 (l.length : Int)), (12, .int .i64 i)], [some ⟨95, [[.mcon (List.map (mrow FK157 FV4) o4)]]⟩, some ⟨118, [[.int .i64 x.Frame, .int .i64 x.Word, .int .i64 x.Low, .int .i64 x.Bits]]⟩]⟩) _ hl2 (Ent.sel [some 0, some 1] (sr 0 rfl (.mref _ rfl) <| sd 5 rfl rfl <| sr 7 rfl (.ptr _ _ _ rfl) <| sd 8 rfl rfl <| sd 10 rfl rfl <| sd 11 rfl rfl <| sd 12 rfl rfl <| sn) (.cons rfl (roMap (fk := FK157) (fv := FV4) (m := o2) tZ_95 (fun _ => rAgg (rld (arD fun _ => rfl))) (fun _ => .ren (.dat rfl))) <| .cons rfl (ro1 (by exact tZ_118.symm) (rld rfl)) <| .nil) rfl rfl) (fun n2 s2 h => ?_)
    obtain ⟨o4, ok4, b⟩ := s2
    replace h := t3i h
    refine t3T ?_
    unfold ref2_taken_take_L2 at h
    refine T_seq ?_
    refine T_seq (T_reg ?_)
    refine R_q _ rfl (v_move (ov rfl)) ?_
    refine R_q _ rfl (v_fieldP (ov rfl) rfl rfl tF118_2) ?_
    refine R_q _ rfl (v_loadS (ov rfl) rfl rfl rfl tS3 rfl) ?_
    refine R_q _ rfl (v_fieldP (ov rfl) rfl rfl tF118_3) ?_
    refine R_q _ rfl (v_loadS (ov rfl) rfl rfl rfl tS3 rfl) ?_
    refine R_q _ rfl (v_add (ov rfl) (ov rfl) rfl) ?_
    refine R_q _ rfl (v_lss (ov rfl) (ov rfl)) ?_
    refine R_nil ?_
    refine T_keep (kc 0 rfl <| kc 5 rfl <| kc 7 rfl <| kc 8 rfl <| kc 10 rfl <| kc 11 rfl <| kc 12 rfl <| kc 24 rfl <| kn) rfl ?_
    refine T_if h rfl (fun b24 h => ?_) (fun b24 h => ?_)
    ·
     refine T_skip ?_
     refine T_seq ?_
     refine T_block ?_
     refine T_keep (kc 0 rfl <| kc 5 rfl <| kc 7 rfl <| kc 8 rfl <| kc 10 rfl <| kc 11 rfl <| kc 12 rfl <| kn) rfl ?_
     refine T_seq (T_reg ?_)
     refine R_q _ rfl (v_fieldP (ov rfl) rfl rfl tF118_0) ?_
     refine R_q _ rfl (v_loadS (ov rfl) rfl rfl rfl tS3 rfl) ?_
     refine R_q _ rfl (v_fieldP (ov rfl) rfl rfl tF118_1) ?_
     refine R_q _ rfl (v_loadS (ov rfl) rfl rfl rfl tS3 rfl) ?_
     refine R_q _ rfl (v_move (ov rfl)) ?_
     refine R_q (.agg (List.map C3 (#v[x.Frame, x.Word, b] : Vector Int 3).toList)) rfl (v_buildA (ys := [_, _, _]) tR157 tZ157 (.cons (cvs (ov rfl) (cell1_b rfl)) <| .cons (cvs (ov rfl) (cell1_b rfl)) <| .cons (cvs (ov rfl) (cell1_b rfl)) <| .nil) rfl) ?_
     refine R_w _ _ rfl (w_alloc (row := (List.map C3 (Vector.replicate 3 0).toList)) 2 rfl tZ157 rfl tZ_157) ?_
     refine R_w _ _ rfl (w_store (ov rfl) (ov rfl) (cells_agg tA157 arL) rfl rfl rfl (put_le (at_all arL) arL) (cell1_all (arC fun _ => rfl)) (put_all (Eq.trans arL (Eq.symm arL)))) ?_
     refine R_nil ?_
     refine T_keep (kc 0 rfl <| kc 5 rfl <| kc 7 rfl <| kc 8 rfl <| kc 9 rfl <| kc 10 rfl <| kc 11 rfl <| kc 12 rfl <| kn) rfl ?_
     refine T_seq (T_reg ?_)
     refine R_q _ rfl (v_move (ov rfl)) ?_
     refine R_q _ rfl (v_move (ov rfl)) ?_
     refine R_q _ rfl (.guarded (ok4 == true) rfl rfl rfl rfl fun h => v_move (ov rfl)) ?_
     refine R_q _ rfl (.guarded (ok4 == true) rfl rfl rfl rfl fun h => v_loadA (ov rfl) rfl rfl rfl tA157 (at_sub (at_all arL)) arL (hns := (nsM fun _ => rfl))) ?_
     obtain ⟨o5, h_o5, h⟩ := bnd h
     refine R_q _ rfl (.guarded (ok4 == true) rfl rfl rfl rfl fun h => v_lk1 (m := o4) (fk := FK157) (fv := FV4) (k := (#v[x.Frame, x.Word, b] : Vector Int 3)) (z0 := false) (ow rfl h) (ow rfl h) tMp95 tKO157 rfl (fun _ => .aggB (arD fun _ => rfl)) (zero_scal tZV4 rfl) (fun _ _ => rfl) (gdT h_o5 h)) ?_
     refine R_q _ rfl (.guarded (ok4 == true) rfl rfl rfl rfl fun h => v_not (ow rfl h)) ?_
     refine R_q _ rfl (v_and (ov rfl) (fun hp => ow rfl (gT hp))) ?_
     refine R_q _ rfl (v_assign (ov rfl)) ?_
     refine R_nil ?_
     refine T_keep (kc 0 rfl <| kc 5 rfl <| kc 7 rfl <| kc 8 rfl <| kc 9 rfl <| kc 10 rfl <| kc 11 rfl <| kc 12 rfl <| kn) rfl ?_
     refine T_reg ?_
     refine R_q _ rfl (v_move (ov rfl)) ?_
     refine R_q _ rfl (v_loadA (ov rfl) rfl rfl rfl tA157 (at_sub (at_all arL)) arL (hns := (nsM fun _ => rfl))) ?_
     refine R_w _ _ rfl (w_mapUpd (m := o4) (fk := FK157) (fv := FV4) (k := (#v[x.Frame, x.Word, b] : Vector Int 3)) (v := true) (ov rfl) (ov rfl) (ov rfl) tMp95 tKO157 rfl (fun _ => .aggB (arD fun _ => rfl))) ?_
     refine R_nil ?_
     refine T_keep (kc 0 rfl <| kc 5 rfl <| kc 7 rfl <| kc 8 rfl <| kc 10 rfl <| kc 11 rfl <| kc 12 rfl <| kn) rfl ?_
     refine T_reg ?_
     refine R_q _ rfl (v_move (ov rfl)) ?_
     refine R_q _ rfl (v_add (ov rfl) (ov rfl) rfl) ?_
     refine R_q _ rfl (v_assign (ov rfl)) ?_
     refine R_nil ?_
     exact ⟨((mput kqV o4 (#v[x.Frame, x.Word, b] : Vector Int 3) true), (ok4 && (!o5)), (i64 (b + 1))), h, Ent.sel [some 0, some 1] (sr 0 rfl (.mref _ rfl) <| sd 5 rfl rfl <| sr 7 rfl (.ptr _ _ _ rfl) <| sd 8 rfl rfl <| sd 10 rfl rfl <| sd 11 rfl rfl <| sd 12 rfl rfl <| sn) (.cons rfl (roMap (fk := FK157) (fv := FV4) (m := (mput kqV o4 (#v[x.Frame, x.Word, b] : Vector Int 3) true)) tZ_95 (fun _ => rAgg (rld (arD fun _ => rfl))) (fun _ => .ren (.dat rfl))) <| .cons rfl (ro1 (by exact tZ_118.symm) (rld rfl)) <| .nil) rfl rfl⟩
    ·
     refine T_exit ?_
     rw [lx h] at ho2
     replace h := ho2
     exact ⟨(o4, ok4), h, Ent.sel [some 0] (sr 0 rfl (.mref _ rfl) <| sd 5 rfl rfl <| sd 10 rfl rfl <| sd 11 rfl rfl <| sd 12 rfl rfl <| sn) (.cons rfl (roMap (fk := FK157) (fv := FV4) (m := o4) tZ_95 (fun _ => rAgg (rld (arD fun _ => rfl))) (fun _ => .ren (.dat rfl))) <| .nil) rfl rfl⟩
   ·
    obtain ⟨o3, ok3⟩ := j
    replace h := t2i h
    refine t2T ?_
    refine T_reg ?_
    refine R_q _ rfl (v_add (ov rfl) (ov rfl) rfl) ?_
    refine R_q _ rfl (v_move (ov rfl)) ?_
    refine R_nil ?_
    exact ⟨(o3, ok3, (i64 (i + 1))), h, Ent.sel [some 0] (sr 0 rfl (.mref _ rfl) <| sd 5 rfl rfl <| sd 10 rfl rfl <| sd 11 rfl rfl <| sd 12 rfl rfl <| sn) (.cons rfl (roMap (fk := FK157) (fv := FV4) (m := o3) tZ_95 (fun _ => rAgg (rld (arD fun _ => rfl))) (fun _ => .ren (.dat rfl))) <| .nil) rfl rfl⟩
  ·
   refine T_exit ?_
   rw [lx h] at ho1
   replace h := ho1
   exact ⟨(o2, ok2), h, Ent.sel [some 0] (sd 5 rfl rfl <| sn) (.cons rfl (roMap (fk := FK157) (fv := FV4) (m := o2) tZ_95 (fun _ => rAgg (rld (arD fun _ => rfl))) (fun _ => .ren (.dat rfl))) <| .nil) rfl rfl⟩
 ·
  obtain ⟨o, ok⟩ := j
  replace h := t2i h
  refine t2T ?_
  refine T_seq (T_reg ?_)
  refine R_q _ rfl (v_move (ov rfl)) ?_
  refine R_q _ rfl (v_assign (ov rfl)) ?_
  refine R_nil ?_
  obtain rfl := rt (v := (ok, o)) h
  refine T_ret ?_
  exact retg [some 0] rfl (.cons (.tmp rfl) <| .nil) (.cons rfl (roMap (fk := FK157) (fv := FV4) (m := o) tZ_95 (fun _ => rAgg (rld (arD fun _ => rfl))) (fun _ => .ren (.dat rfl))) <| .nil) rfl rfl (.dat rfl)

theorem ok_ref2_taken_takeAll {t : List ((Vector Int 3) × Bool)} {l : List api_Cell} {r : Bool × (List ((Vector Int 3) × Bool))} (h : ref2_taken_takeAll t l = some r) :
  GSpec Tryd.prog gl0 49 [.mref 0 1, .sl 87 (List.map R87 l)] [some ⟨95, [[.mcon (List.map (mrow FK157 FV4) t)]]⟩] (.bool r.1) [some ⟨95, [[.mcon (List.map (mrow FK157 FV4) r.2)]]⟩] := by
 unfold ref2_taken_takeAll at h
 replace h := bnd0 h
 refine gspec_of (by kernel_rfl) Tryd.func49 rfl rfl ?_
 intro w0 A W φ0
 refine T_seq (T_reg ?_)
 refine R_q _ rfl (v_assign (ov rfl)) ?_
 refine R_nil ?_
 refine T_keep (kc 0 rfl <| kc 1 rfl <| kn) rfl ?_
 refine T_seq (T_reg ?_)
 refine R_q _ rfl (v_assign (ov rfl)) ?_
 refine R_nil ?_
 refine T_joinG id (t2 fun o ok => ⟨[(5, .bool ok)], [some ⟨95, [[.mcon (List.map (mrow FK157 FV4) o)]]⟩]⟩) h (fun h => ?_) (fun j h => ?_)
 ·
  refine T_seq (T_reg ?_)
  refine R_q _ rfl (v_move (ov rfl)) ?_
  refine R_q _ rfl (v_len (slv_sl (ov rfl) tZ_87) tL45 (len_map _ _)) ?_
  refine R_q _ rfl (v_move (ov rfl)) ?_
  refine R_nil ?_
  refine T_block ?_
  obtain ⟨r1, hl1, ho1⟩ := bndL h
  refine T_loopG _ (t3 fun o2 ok2 i => ⟨[(0, .mref 0 1), (5, .bool ok2), (8, .sl 87 (List.map R87 l)), (9, .int .i64 (l.length : Int)), (10, .int .i64 i)], [some ⟨95, [[.mcon (List.map (mrow FK157 FV4) o2)]]⟩]⟩) _ hl1 (Ent.sel [some 0] (sr 0 rfl (.mref _ rfl) <| sd 5 rfl rfl <| sd 8 rfl rfl <| sd 9 rfl rfl <| sd 10 rfl rfl <| sn) (.cons rfl (roMap (fk := FK157) (fv := FV4) (m := t) tZ_95 (fun _ => rAgg (rld (arD fun _ => rfl))) (fun _ => .ren (.dat rfl))) <| .nil) rfl rfl) (fun n1 s1 h => ?_)
  obtain ⟨o2, ok2, i⟩ := s1
  replace h := t3i h
  refine t3T ?_
  unfold ref2_taken_takeAll_L1 at h
  refine T_seq (T_reg ?_)
  refine R_q _ rfl (v_lss (ov rfl) (ov rfl)) ?_
  refine R_nil ?_
  refine T_seq ?_
  refine T_if h rfl (fun b11 h => ?_) (fun b11 h => ?_)
  ·
   refine T_skip ?_
   refine T_seq ?_
   refine T_block ?_
   refine T_keep (kc 0 rfl <| kc 5 rfl <| kc 8 rfl <| kc 9 rfl <| kc 10 rfl <| kn) rfl ?_
   refine T_seq (T_reg ?_)
   obtain ⟨x, h_x, h⟩ := bnd h
   refine R_q _ rfl (v_ixSG (ov rfl) (ov rfl) tL45 h_x) ?_
   refine R_q _ rfl (v_loadA_r (ov rfl) tA87 rfl rfl) ?_
   refine R_w _ _ rfl (w_alloc (row := [_, _, _, _]) 1 rfl tZ87 rfl tZ_87) ?_
   refine R_w _ _ rfl (w_store (ov rfl) (ov rfl) (cells_agg tA87 rfl) rfl rfl rfl (Nat.le_of_ble_eq_true rfl) (cell1_all rfl) rfl) ?_
   refine R_nil ?_
   refine T_keep (kc 0 rfl <| kc 5 rfl <| kc 7 rfl <| kc 8 rfl <| kc 9 rfl <| kc 10 rfl <| kn) rfl ?_
   refine T_seq (T_reg ?_)
   refine R_q _ rfl (v_move (ov rfl)) ?_
   refine R_q _ rfl (v_fieldP (ov rfl) rfl rfl tF87_3) ?_
   refine R_q _ rfl (v_loadS (ov rfl) rfl rfl rfl tS85 rfl) ?_
   obtain ⟨y, h_y, h⟩ := bnd h
   refine R_w _ _ rfl (w_callG [0] (ok_ref2_taken_take h_y) (.cons (ov rfl) (.mref _ rfl) <| .cons (ov rfl) (.dat rfl) <| .nil) (.cons rfl (roMap (fk := FK157) (fv := FV4) (m := o2) tZ_95 (fun _ => rAgg (rld (arD fun _ => rfl))) (fun _ => .ren (.dat rfl))) <| .nil) rfl (.lent 0 (.inl rfl) rfl (roMap (fk := FK157) (fv := FV4) (m := y.2) tZ_95 (fun _ => rAgg (rld (arD fun _ => rfl))) (fun _ => .ren (.dat rfl))) <| .keep rfl rfl <| .nil) rfl rfl (.dat rfl)) ?_
   refine R_q _ rfl (v_not (ov rfl)) ?_
   refine R_nil ?_
   refine T_keep (kc 0 rfl <| kc 5 rfl <| kc 8 rfl <| kc 9 rfl <| kc 10 rfl <| kc 18 rfl <| kn) rfl ?_
   refine T_if h rfl (fun b18 h => ?_) (fun b18 h => ?_)
   ·
    refine T_keep (kc 0 rfl <| kc 5 rfl <| kc 8 rfl <| kc 9 rfl <| kc 10 rfl <| kn) rfl ?_
    refine T_reg ?_
    refine R_q _ rfl (v_assign (ov rfl)) ?_
    refine R_nil ?_
    refine T_reg ?_
    refine R_q _ rfl (v_add (ov rfl) (ov rfl) rfl) ?_
    refine R_q _ rfl (v_move (ov rfl)) ?_
    refine R_nil ?_
    exact ⟨(y.2, false, (i64 (i + 1))), h, Ent.sel [some 0] (sr 0 rfl (.mref _ rfl) <| sd 5 rfl rfl <| sd 8 rfl rfl <| sd 9 rfl rfl <| sd 10 rfl rfl <| sn) (.cons rfl (roMap (fk := FK157) (fv := FV4) (m := y.2) tZ_95 (fun _ => rAgg (rld (arD fun _ => rfl))) (fun _ => .ren (.dat rfl))) <| .nil) rfl rfl⟩
   ·
    refine T_skip ?_
    refine T_keep (kc 0 rfl <| kc 5 rfl <| kc 8 rfl <| kc 9 rfl <| kc 10 rfl <| kn) rfl ?_
    refine T_reg ?_
    refine R_q _ rfl (v_add (ov rfl) (ov rfl) rfl) ?_
    refine R_q _ rfl (v_move (ov rfl)) ?_
    refine R_nil ?_
    exact ⟨(y.2, ok2, (i64 (i + 1))), h, Ent.sel [some 0] (sr 0 rfl (.mref _ rfl) <| sd 5 rfl rfl <| sd 8 rfl rfl <| sd 9 rfl rfl <| sd 10 rfl rfl <| sn) (.cons rfl (roMap (fk := FK157) (fv := FV4) (m := y.2) tZ_95 (fun _ => rAgg (rld (arD fun _ => rfl))) (fun _ => .ren (.dat rfl))) <| .nil) rfl rfl⟩
  ·
   refine T_exit ?_
   rw [lx h] at ho1
   replace h := ho1
   exact ⟨(o2, ok2), h, Ent.sel [some 0] (sd 5 rfl rfl <| sn) (.cons rfl (roMap (fk := FK157) (fv := FV4) (m := o2) tZ_95 (fun _ => rAgg (rld (arD fun _ => rfl))) (fun _ => .ren (.dat rfl))) <| .nil) rfl rfl⟩
 ·
  obtain ⟨o, ok⟩ := j
  replace h := t2i h
  refine t2T ?_
  refine T_seq (T_reg ?_)
  refine R_q _ rfl (v_move (ov rfl)) ?_
  refine R_q _ rfl (v_assign (ov rfl)) ?_
  refine R_nil ?_
  obtain rfl := rt (v := (ok, o)) h
  refine T_ret ?_
  exact retg [some 0] rfl (.cons (.tmp rfl) <| .nil) (.cons rfl (roMap (fk := FK157) (fv := FV4) (m := o) tZ_95 (fun _ => rAgg (rld (arD fun _ => rfl))) (fun _ => .ren (.dat rfl))) <| .nil) rfl rfl (.dat rfl)

theorem ok_ref2_CheckParam {p : api_Param} {r : Int} (h : ref2_CheckParam p = some r) :
  CSpec Tryd.prog gl0 19 [.agg [.str p.Name, .int .i64 p.Kind, .sl 113 (List.map R113 p.Parts), .int .i64 p.First, .int .i64 p.Every, .int .i64 p.Times, .int .i64 p.Step, .sl 9 (List.map R9 p.Names)]] (.int .i64 r) := by
 unfold ref2_CheckParam at h
 replace h := bnd0 h
 refine spec_of (by kernel_rfl) Tryd.func19 rfl rfl ?_
 intro w0 A
 refine T_seq (T_reg ?_)
 refine R_q _ rfl (v_boxD (cva (ov rfl)) rfl tZ_25 rfl) ?_
 refine R_q _ rfl (v_assign (ov rfl)) ?_
 refine R_nil ?_
 refine T_seq ?_
 refine T_keep (kc 1 rfl <| kn) rfl ?_
 refine T_seq (T_reg ?_)
 refine R_q _ rfl (v_fieldR (ov rfl) tF25_0) ?_
 refine R_q _ rfl (v_loadS_r (ov rfl) tS9 rfl) ?_
 obtain ⟨y, h_y, h⟩ := bnd h
 refine R_q _ rfl (v_call (ok_ref2_IsName h_y) (.cons (ov rfl) (.b rfl) <| .nil)) ?_
 refine R_q _ rfl (v_not (ov rfl)) ?_
 refine R_nil ?_
 refine T_keep (kc 1 rfl <| kc 10 rfl <| kn) rfl ?_
 refine T_if h rfl (fun b10 h => ?_) (fun b10 h => ?_)
 ·
  refine T_keep (kn) rfl ?_
  refine T_seq (T_reg ?_)
  refine R_q _ rfl (v_assign (ov rfl)) ?_
  refine R_nil ?_
  obtain rfl := rt (v := 8) h
  refine T_ret (retq ?_ (.one (.tmp rfl (Dat.view (.b rfl)))))
  rfl
 ·
  refine T_skip ?_
  refine T_seq ?_
  refine T_keep (kc 1 rfl <| kn) rfl ?_
  refine T_seq (T_reg ?_)
  refine R_q _ rfl (v_fieldR (ov rfl) tF25_1) ?_
  refine R_q _ rfl (v_loadS_r (ov rfl) tS3 rfl) ?_
  obtain ⟨y2, h_y2, h⟩ := bnd h
  refine R_q _ rfl (v_call (ok_ref2_outside h_y2) (.cons (ov rfl) (.b rfl) <| .cons (ov rfl) (.b rfl) <| .cons (ov rfl) (.b rfl) <| .nil)) ?_
  refine R_nil ?_
  refine T_keep (kc 1 rfl <| kc 13 rfl <| kn) rfl ?_
  refine T_if h rfl (fun b13 h => ?_) (fun b13 h => ?_)
  ·
   refine T_keep (kn) rfl ?_
   refine T_seq (T_reg ?_)
   refine R_q _ rfl (v_assign (ov rfl)) ?_
   refine R_nil ?_
   obtain rfl := rt (v := 7) h
   refine T_ret (retq ?_ (.one (.tmp rfl (Dat.view (.b rfl)))))
   rfl
  ·
   refine T_skip ?_
   refine T_seq ?_
   refine T_keep (kc 1 rfl <| kn) rfl ?_
   refine T_seq (T_reg ?_)
   refine R_q _ rfl (v_loadA_r (ov rfl) tA25 rfl rfl) ?_
   obtain ⟨y3, h_y3, h⟩ := bnd h
   refine R_q _ rfl (v_call (ok_ref2_partsFault h_y3) (.cons (ov rfl) (.aggB rfl) <| .nil)) ?_
   refine R_q _ rfl (v_assign (ov rfl)) ?_
   refine R_nil ?_
   refine T_keep (kc 1 rfl <| kc 3 rfl <| kn) rfl ?_
   refine T_seq (T_reg ?_)
   refine R_q _ rfl (v_move (ov rfl)) ?_
   refine R_q _ rfl (v_neq (ov rfl) (ov rfl)) ?_
   refine R_nil ?_
   refine T_keep (kc 1 rfl <| kc 3 rfl <| kc 17 rfl <| kn) rfl ?_
   refine T_if h rfl (fun b17 h => ?_) (fun b17 h => ?_)
   ·
    refine T_keep (kc 3 rfl <| kn) rfl ?_
    refine T_seq (T_reg ?_)
    refine R_q _ rfl (v_move (ov rfl)) ?_
    refine R_q _ rfl (v_assign (ov rfl)) ?_
    refine R_nil ?_
    obtain rfl := rt (v := y3) h
    refine T_ret (retq ?_ (.one (.tmp rfl (Dat.view (.b rfl)))))
    rfl
   ·
    refine T_skip ?_
    refine T_seq ?_
    refine T_keep (kc 1 rfl <| kn) rfl ?_
    refine T_seq (T_reg ?_)
    refine R_q _ rfl (v_loadA_r (ov rfl) tA25 rfl rfl) ?_
    obtain ⟨y4, h_y4, h⟩ := bnd h
    refine R_q _ rfl (v_call (ok_ref2_timesFault h_y4) (.cons (ov rfl) (.aggB rfl) <| .nil)) ?_
    refine R_q _ rfl (v_assign (ov rfl)) ?_
    refine R_nil ?_
    refine T_keep (kc 1 rfl <| kc 4 rfl <| kn) rfl ?_
    refine T_seq (T_reg ?_)
    refine R_q _ rfl (v_move (ov rfl)) ?_
    refine R_q _ rfl (v_neq (ov rfl) (ov rfl)) ?_
    refine R_nil ?_
    refine T_keep (kc 1 rfl <| kc 4 rfl <| kc 22 rfl <| kn) rfl ?_
    refine T_if h rfl (fun b22 h => ?_) (fun b22 h => ?_)
    ·
     refine T_keep (kc 4 rfl <| kn) rfl ?_
     refine T_seq (T_reg ?_)
     refine R_q _ rfl (v_move (ov rfl)) ?_
     refine R_q _ rfl (v_assign (ov rfl)) ?_
     refine R_nil ?_
     obtain rfl := rt (v := y4) h
     refine T_ret (retq ?_ (.one (.tmp rfl (Dat.view (.b rfl)))))
     rfl
    ·
     refine T_skip ?_
     refine T_seq ?_
     refine T_keep (kc 1 rfl <| kn) rfl ?_
     refine T_seq (T_reg ?_)
     refine R_q _ rfl (v_loadA_r (ov rfl) tA25 rfl rfl) ?_
     obtain ⟨y5, h_y5, h⟩ := bnd h
     refine R_q _ rfl (v_call (ok_ref2_kindFault h_y5) (.cons (ov rfl) (.aggB rfl) <| .nil)) ?_
     refine R_q _ rfl (v_assign (ov rfl)) ?_
     refine R_nil ?_
     refine T_keep (kc 1 rfl <| kc 5 rfl <| kn) rfl ?_
     refine T_seq (T_reg ?_)
     refine R_q _ rfl (v_move (ov rfl)) ?_
     refine R_q _ rfl (v_neq (ov rfl) (ov rfl)) ?_
     refine R_nil ?_
     refine T_keep (kc 1 rfl <| kc 5 rfl <| kc 27 rfl <| kn) rfl ?_
     refine T_if h rfl (fun b27 h => ?_) (fun b27 h => ?_)
     ·
      refine T_keep (kc 5 rfl <| kn) rfl ?_
      refine T_seq (T_reg ?_)
      refine R_q _ rfl (v_move (ov rfl)) ?_
      refine R_q _ rfl (v_assign (ov rfl)) ?_
      refine R_nil ?_
      obtain rfl := rt (v := y5) h
      refine T_ret (retq ?_ (.one (.tmp rfl (Dat.view (.b rfl)))))
      rfl
     ·
      refine T_skip ?_
      refine T_keep (kc 1 rfl <| kn) rfl ?_
      refine T_seq (T_reg ?_)
      refine R_q _ rfl (v_loadA_r (ov rfl) tA25 rfl rfl) ?_
      obtain ⟨y6, h_y6, h⟩ := bnd h
      refine R_q _ rfl (v_call (ok_ref2_cells h_y6) (.cons (ov rfl) (.aggB rfl) <| .cons (ov rfl) (.b rfl) <| .nil)) ?_
      refine R_q _ rfl (v_assign (ov rfl)) ?_
      refine R_nil ?_
      refine T_seq ?_
      refine T_keep (kc 6 rfl <| kn) rfl ?_
      refine T_seq (T_reg ?_)
      refine R_w _ _ rfl (w_makeMap 0 rfl tMp95) ?_
      refine R_q _ rfl (v_move (ov rfl)) ?_
      obtain ⟨y7, h_y7, h⟩ := bnd h
      refine R_w _ _ rfl (w_callG [0] (ok_ref2_taken_takeAll h_y7) (.cons (ov rfl) (.mref _ rfl) <| .cons (ov rfl) (.dat rfl) <| .nil) (.cons rfl (roMap (fk := FK157) (fv := FV4) (m := ([] : List ((Vector Int 3) × Bool))) tZ_95 (fun _ => rAgg (rld (arD fun _ => rfl))) (fun _ => .ren (.dat rfl))) <| .nil) rfl (.lent 0 (.inl rfl) rfl (roMap (fk := FK157) (fv := FV4) (m := y7.2) tZ_95 (fun _ => rAgg (rld (arD fun _ => rfl))) (fun _ => .ren (.dat rfl))) <| .nil) rfl rfl (.dat rfl)) ?_
      refine R_q _ rfl (v_not (ov rfl)) ?_
      refine R_nil ?_
      refine T_keep (kc 6 rfl <| kc 34 rfl <| kn) rfl ?_
      refine T_if h rfl (fun b34 h => ?_) (fun b34 h => ?_)
      ·
       refine T_keep (kn) rfl ?_
       refine T_seq (T_reg ?_)
       refine R_q _ rfl (v_assign (ov rfl)) ?_
       refine R_nil ?_
       obtain rfl := rt (v := 5) h
       refine T_ret (retq ?_ (.one (.tmp rfl (Dat.view (.b rfl)))))
       rfl
      ·
       refine T_skip ?_
       refine T_seq ?_
       refine T_keep (kc 6 rfl <| kn) rfl ?_
       refine T_seq (T_reg ?_)
       refine R_q _ rfl (v_move (ov rfl)) ?_
       refine R_q _ rfl (v_len (slv_sl (ov rfl) tZ_87) tL45 (len_map _ _)) ?_
       refine R_q _ rfl (v_eql (ov rfl) (ov rfl)) ?_
       refine R_nil ?_
       refine T_keep (kc 37 rfl <| kn) rfl ?_
       refine T_if h rfl (fun b37 h => ?_) (fun b37 h => ?_)
       ·
        refine T_keep (kn) rfl ?_
        refine T_seq (T_reg ?_)
        refine R_q _ rfl (v_assign (ov rfl)) ?_
        refine R_nil ?_
        obtain rfl := rt (v := 13) h
        refine T_ret (retq ?_ (.one (.tmp rfl (Dat.view (.b rfl)))))
        rfl
       ·
        refine T_skip ?_
        refine T_keep (kn) rfl ?_
        refine T_seq (T_reg ?_)
        refine R_q _ rfl (v_assign (ov rfl)) ?_
        refine R_nil ?_
        obtain rfl := rt (v := 0) h
        refine T_ret (retq ?_ (.one (.tmp rfl (Dat.view (.b rfl)))))
        rfl

theorem ok_ref5_outside {n : Int} {low : Int} {high : Int} {r : Bool} (h : ref5_outside n low high = some r) :
  CSpec Tryd.prog gl0 20 [.int .i64 n, .int .i64 low, .int .i64 high] (.bool r) := by
 unfold ref5_outside at h
 replace h := bnd0 h
 refine spec_of (by kernel_rfl) Tryd.func20 rfl rfl ?_
 intro w0 A
 refine T_seq (T_reg ?_)
 refine R_q _ rfl (v_assign (ov rfl)) ?_
 refine R_nil ?_
 refine T_seq (T_reg ?_)
 refine R_q _ rfl (v_move (ov rfl)) ?_
 refine R_q _ rfl (v_move (ov rfl)) ?_
 refine R_q _ rfl (v_lss (ov rfl) (ov rfl)) ?_
 refine R_q _ rfl (v_move (ov rfl)) ?_
 refine R_q _ rfl (.guarded ((decide (n < low)) == false) rfl rfl rfl rfl fun h => v_move (ov rfl)) ?_
 refine R_q _ rfl (.guarded ((decide (n < low)) == false) rfl rfl rfl rfl fun h => v_move (ov rfl)) ?_
 refine R_q _ rfl (.guarded ((decide (n < low)) == false) rfl rfl rfl rfl fun h => v_gtr (ow rfl h) (ow rfl h)) ?_
 refine R_q _ rfl (v_or (ov rfl) (fun hp => ow rfl (gF hp))) ?_
 refine R_q _ rfl (v_assign (ov rfl)) ?_
 refine R_nil ?_
 obtain rfl := rt (v := ((decide (n < low)) || (decide (high < n)))) h
 refine T_ret (retq ?_ (.one (.tmp rfl (Dat.view (.b rfl)))))
 rfl

theorem ok_ref2_Check {m : api_Map} {r : Int × Int} (h : ref2_Check m = some r) :
  CSpec Tryd.prog gl0 75 [.agg [.int .i64 m.Version, .sl 25 (List.map R25 m.Params)]] (.tuple [.int .i64 r.1, .int .i64 r.2]) := by
 unfold ref2_Check at h
 replace h := bnd0 h
 refine spec_of (by kernel_rfl) Tryd.func75 rfl rfl ?_
 intro w0 A
 refine T_seq (T_reg ?_)
 refine R_q _ rfl (v_boxD (cva (ov rfl)) rfl tZ_50 rfl) ?_
 refine R_q _ rfl (v_assign (ov rfl)) ?_
 refine R_q _ rfl (v_assign (ov rfl)) ?_
 refine R_nil ?_
 refine T_seq ?_
 refine T_keep (kc 1 rfl <| kn) rfl ?_
 refine T_seq (T_reg ?_)
 refine R_q _ rfl (v_fieldR (ov rfl) tF50_0) ?_
 refine R_q _ rfl (v_loadS_r (ov rfl) tS3 rfl) ?_
 obtain ⟨y, h_y, h⟩ := bnd h
 refine R_q _ rfl (v_call (ok_ref2_outside h_y) (.cons (ov rfl) (.b rfl) <| .cons (ov rfl) (.b rfl) <| .cons (ov rfl) (.b rfl) <| .nil)) ?_
 refine R_nil ?_
 refine T_keep (kc 1 rfl <| kc 17 rfl <| kn) rfl ?_
 refine T_if h rfl (fun b17 h => ?_) (fun b17 h => ?_)
 ·
  refine T_keep (kn) rfl ?_
  refine T_seq (T_reg ?_)
  refine R_q _ rfl (v_assign (ov rfl)) ?_
  refine R_q _ rfl (v_assign (ov rfl)) ?_
  refine R_nil ?_
  obtain rfl := rt (v := (0, 9)) h
  refine T_ret (retq ?_ (.two (.tmp rfl (Dat.view (.b rfl))) (.tmp rfl (Dat.view (.b rfl)))))
  rfl
 ·
  refine T_skip ?_
  refine T_seq ?_
  refine T_keep (kc 1 rfl <| kn) rfl ?_
  refine T_seq (T_reg ?_)
  refine R_q _ rfl (v_fieldR (ov rfl) tF50_1) ?_
  refine R_q _ rfl (v_loadS_r (ov rfl) tS48 rfl) ?_
  refine R_q _ rfl (v_len (slv_sl (ov rfl) tZ_25) tL48 (len_map _ _)) ?_
  refine R_q _ rfl (v_gtr (ov rfl) (ov rfl)) ?_
  refine R_nil ?_
  refine T_keep (kc 1 rfl <| kc 21 rfl <| kn) rfl ?_
  refine T_if h rfl (fun b21 h => ?_) (fun b21 h => ?_)
  ·
   refine T_keep (kn) rfl ?_
   refine T_seq (T_reg ?_)
   refine R_q _ rfl (v_assign (ov rfl)) ?_
   refine R_q _ rfl (v_assign (ov rfl)) ?_
   refine R_nil ?_
   obtain rfl := rt (v := (0, 3)) h
   refine T_ret (retq ?_ (.two (.tmp rfl (Dat.view (.b rfl))) (.tmp rfl (Dat.view (.b rfl)))))
   rfl
  ·
   refine T_skip ?_
   refine T_keep (kc 1 rfl <| kn) rfl ?_
   refine T_seq (T_reg ?_)
   refine R_q _ rfl (v_assign (ov rfl)) ?_
   refine R_nil ?_
   refine T_joinG (fun j => (.inr j)) (t0 ⟨[(1, .rp [.int .i64 m.Version, .sl 25 (List.map R25 m.Params)] 0), (4, .int .i64 0)], []⟩) h (fun h => ?_) (fun j h => ?_)
   ·
    refine T_seq (T_reg ?_)
    refine R_q _ rfl (v_fieldR (ov rfl) tF50_1) ?_
    refine R_q _ rfl (v_loadS_r (ov rfl) tS48 rfl) ?_
    refine R_q _ rfl (v_len (slv_sl (ov rfl) tZ_25) tL48 (len_map _ _)) ?_
    refine R_q _ rfl (v_move (ov rfl)) ?_
    refine R_nil ?_
    refine T_block ?_
    obtain ⟨r1, hl1, ho1⟩ := bndL h
    refine T_loopG _ (t1 fun i => ⟨[(1, .rp [.int .i64 m.Version, .sl 25 (List.map R25 m.Params)] 0), (4, .int .i64 0), (23, .sl 25 (List.map R25 m.Params)), (24, .int .i64 (m.Params.length : Int)), (25, .int .i64 i)], []⟩) _ hl1 (Ent.sel [] (sd 1 rfl rfl <| sd 4 rfl rfl <| sd 23 rfl rfl <| sd 24 rfl rfl <| sd 25 rfl rfl <| sn) (.nil) rfl rfl) (fun n1 s1 h => ?_)
    obtain ⟨i, rfl⟩ : ∃ x, x = s1 := ⟨_, rfl⟩
    replace h := t1i h
    refine t1T ?_
    unfold ref2_Check_L1 at h
    refine T_seq (T_reg ?_)
    refine R_q _ rfl (v_lss (ov rfl) (ov rfl)) ?_
    refine R_nil ?_
    refine T_seq ?_
    refine T_if h rfl (fun b26 h => ?_) (fun b26 h => ?_)
    ·
     refine T_skip ?_
     refine T_joinG (fun j => (.inr j)) (t0 ⟨[(1, .rp [.int .i64 m.Version, .sl 25 (List.map R25 m.Params)] 0), (4, .int .i64 0), (23, .sl 25 (List.map R25 m.Params)), (24, .int .i64 (m.Params.length : Int)), (25, .int .i64 i)], []⟩) h (fun h => ?_) (fun j h => ?_)
     ·
      refine T_block ?_
      refine T_keep (kc 1 rfl <| kc 4 rfl <| kc 23 rfl <| kc 24 rfl <| kc 25 rfl <| kn) rfl ?_
      refine T_seq (T_reg ?_)
      refine R_q _ rfl (v_move (ov rfl)) ?_
      obtain ⟨x, h_x, h⟩ := bnd h
      refine R_q _ rfl (v_ixSG (ov rfl) (ov rfl) tL48 h_x) ?_
      refine R_q _ rfl (v_loadA_r (ov rfl) tA25 rfl rfl) ?_
      refine R_w _ _ rfl (w_alloc (row := [_, _, _, _, _, _, _, _]) 0 rfl tZ25 rfl tZ_25) ?_
      refine R_q _ rfl (v_assign (ov rfl)) ?_
      refine R_w _ _ rfl (w_store (ov rfl) (ov rfl) (cells_agg tA25 rfl) rfl rfl rfl (Nat.le_of_ble_eq_true rfl) (cell1_all rfl) rfl) ?_
      refine R_nil ?_
      refine T_seq ?_
      refine T_keep (kc 1 rfl <| kc 4 rfl <| kc 5 rfl <| kc 6 rfl <| kc 23 rfl <| kc 24 rfl <| kc 25 rfl <| kn) rfl ?_
      refine T_seq (T_reg ?_)
      refine R_q _ rfl (v_loadA (ov rfl) rfl rfl rfl tA25 rfl rfl) ?_
      obtain ⟨y2, h_y2, h⟩ := bnd h
      refine R_q _ rfl (v_call (ok_ref2_CheckParam h_y2) (.cons (ov rfl) (.aggB rfl) <| .nil)) ?_
      refine R_q _ rfl (v_assign (ov rfl)) ?_
      refine R_nil ?_
      refine T_keep (kc 1 rfl <| kc 4 rfl <| kc 5 rfl <| kc 6 rfl <| kc 7 rfl <| kc 23 rfl <| kc 24 rfl <| kc 25 rfl <| kn) rfl ?_
      refine T_seq (T_reg ?_)
      refine R_q _ rfl (v_move (ov rfl)) ?_
      refine R_q _ rfl (v_neq (ov rfl) (ov rfl)) ?_
      refine R_nil ?_
      refine T_keep (kc 1 rfl <| kc 4 rfl <| kc 5 rfl <| kc 6 rfl <| kc 7 rfl <| kc 23 rfl <| kc 24 rfl <| kc 25 rfl <| kc 33 rfl <| kn) rfl ?_
      refine T_if h rfl (fun b33 h => ?_) (fun b33 h => ?_)
      ·
       refine T_keep (kc 5 rfl <| kc 7 rfl <| kn) rfl ?_
       refine T_seq (T_reg ?_)
       refine R_q _ rfl (v_move (ov rfl)) ?_
       refine R_q _ rfl (v_move (ov rfl)) ?_
       refine R_q _ rfl (v_assign (ov rfl)) ?_
       refine R_q _ rfl (v_assign (ov rfl)) ?_
       refine R_nil ?_
       rw [lx h] at ho1
       replace h := ho1
       obtain rfl := rt (v := (i, y2)) h
       refine T_ret (retq ?_ (.two (.tmp rfl (Dat.view (.b rfl))) (.tmp rfl (Dat.view (.b rfl)))))
       rfl
      ·
       refine T_skip ?_
       refine T_keep (kc 1 rfl <| kc 4 rfl <| kc 5 rfl <| kc 6 rfl <| kc 23 rfl <| kc 24 rfl <| kc 25 rfl <| kn) rfl ?_
       refine T_seq (T_reg ?_)
       refine R_q _ rfl (v_fieldR (ov rfl) tF50_1) ?_
       refine R_q _ rfl (v_loadS_r (ov rfl) tS48 rfl) ?_
       refine R_q _ rfl (v_move (ov rfl)) ?_
       obtain ⟨l, h_l, h⟩ := bnd h
       refine R_q _ rfl (v_sliceG (ov rfl) tL48 on (oi (ov rfl)) h_l) ?_
       refine R_q _ rfl (v_len (slv_sl (ov rfl) tZ_25) tL48 (len_map _ _)) ?_
       refine R_q _ rfl (v_move (ov rfl)) ?_
       refine R_nil ?_
       refine T_block ?_
       obtain ⟨r2, hl2, ho2⟩ := bndL h
       refine T_loopG _ (t1 fun i2 => ⟨[(1, .rp [.int .i64 m.Version, .sl 25 (List.map R25 m.Params)] 0), (4, .int .i64 0), (5, .int .i64 i), (6, .ptr 0 1 0 0), (23, .sl 25 (List.map R25 m.Params)), (24, .int .i64 (m.Params.length : Int)), (25, .int .i64 i), (39, .sl 25 (List.map R25 l)), (40, .int .i64 (l.length : Int)), (41, .int .i64 i2)], [some ⟨25, [[.str x.Name, .int .i64 x.Kind, .sl 113 (List.map R113 x.Parts), .int .i64 x.First, .int .i64 x.Every, .int .i64 x.Times, .int .i64 x.Step, .sl 9 (List.map R9 x.Names)]]⟩]⟩) _ hl2 (Ent.sel [some 0] (sd 1 rfl rfl <| sd 4 rfl rfl <| sd 5 rfl rfl <| sr 6 rfl (.ptr _ _ _ rfl) <| sd 23 rfl rfl <| sd 24 rfl rfl <| sd 25 rfl rfl <| sd 39 rfl rfl <| sd 40 rfl rfl <| sd 41 rfl rfl <| sn) (.cons rfl (ro1 (by exact tZ_25.symm) (rld rfl)) <| .nil) rfl rfl) (fun n2 s2 h => ?_)
       obtain ⟨i2, rfl⟩ : ∃ x, x = s2 := ⟨_, rfl⟩
       replace h := t1i h
       refine t1T ?_
       unfold ref2_Check_L2 at h
       refine T_seq (T_reg ?_)
       refine R_q _ rfl (v_lss (ov rfl) (ov rfl)) ?_
       refine R_nil ?_
       refine T_seq ?_
       refine T_if h rfl (fun b42 h => ?_) (fun b42 h => ?_)
       ·
        refine T_skip ?_
        refine T_seq ?_
        refine T_block ?_
        refine T_keep (kc 1 rfl <| kc 4 rfl <| kc 5 rfl <| kc 6 rfl <| kc 23 rfl <| kc 24 rfl <| kc 25 rfl <| kc 39 rfl <| kc 40 rfl <| kc 41 rfl <| kn) rfl ?_
        refine T_seq (T_reg ?_)
        obtain ⟨x2, h_x2, h⟩ := bnd h
        refine R_q _ rfl (v_ixSG (ov rfl) (ov rfl) tL48 h_x2) ?_
        refine R_q _ rfl (v_loadA_r (ov rfl) tA25 rfl rfl) ?_
        refine R_w _ _ rfl (w_alloc (row := [_, _, _, _, _, _, _, _]) 1 rfl tZ25 rfl tZ_25) ?_
        refine R_w _ _ rfl (w_store (ov rfl) (ov rfl) (cells_agg tA25 rfl) rfl rfl rfl (Nat.le_of_ble_eq_true rfl) (cell1_all rfl) rfl) ?_
        refine R_nil ?_
        refine T_keep (kc 1 rfl <| kc 4 rfl <| kc 5 rfl <| kc 6 rfl <| kc 9 rfl <| kc 23 rfl <| kc 24 rfl <| kc 25 rfl <| kc 39 rfl <| kc 40 rfl <| kc 41 rfl <| kn) rfl ?_
        refine T_seq (T_reg ?_)
        refine R_q _ rfl (v_fieldP (ov rfl) rfl rfl tF25_0) ?_
        refine R_q _ rfl (v_loadS (ov rfl) rfl rfl rfl tS9 rfl) ?_
        refine R_q _ rfl (v_fieldP (ov rfl) rfl rfl tF25_0) ?_
        refine R_q _ rfl (v_loadS (ov rfl) rfl rfl rfl tS9 rfl) ?_
        refine R_q _ rfl (v_eqlStr (ov rfl) (ov rfl)) ?_
        refine R_nil ?_
        refine T_keep (kc 1 rfl <| kc 4 rfl <| kc 5 rfl <| kc 6 rfl <| kc 23 rfl <| kc 24 rfl <| kc 25 rfl <| kc 39 rfl <| kc 40 rfl <| kc 41 rfl <| kc 49 rfl <| kn) rfl ?_
        refine T_if h rfl (fun b49 h => ?_) (fun b49 h => ?_)
        ·
         refine T_keep (kc 5 rfl <| kn) rfl ?_
         refine T_seq (T_reg ?_)
         refine R_q _ rfl (v_move (ov rfl)) ?_
         refine R_q _ rfl (v_assign (ov rfl)) ?_
         refine R_q _ rfl (v_assign (ov rfl)) ?_
         refine R_nil ?_
         rw [lx h] at ho2
         replace h := ho2
         rw [lx h] at ho1
         replace h := ho1
         obtain rfl := rt (v := (i, 5)) h
         refine T_ret (retq ?_ (.two (.tmp rfl (Dat.view (.b rfl))) (.tmp rfl (Dat.view (.b rfl)))))
         rfl
        ·
         refine T_skip ?_
         refine T_keep (kc 1 rfl <| kc 4 rfl <| kc 5 rfl <| kc 6 rfl <| kc 23 rfl <| kc 24 rfl <| kc 25 rfl <| kc 39 rfl <| kc 40 rfl <| kc 41 rfl <| kn) rfl ?_
         refine T_reg ?_
         refine R_q _ rfl (v_add (ov rfl) (ov rfl) rfl) ?_
         refine R_q _ rfl (v_move (ov rfl)) ?_
         refine R_nil ?_
         exact ⟨(i64 (i2 + 1)), h, Ent.sel [some 0] (sd 1 rfl rfl <| sd 4 rfl rfl <| sd 5 rfl rfl <| sr 6 rfl (.ptr _ _ _ rfl) <| sd 23 rfl rfl <| sd 24 rfl rfl <| sd 25 rfl rfl <| sd 39 rfl rfl <| sd 40 rfl rfl <| sd 41 rfl rfl <| sn) (.cons rfl (ro1 (by exact tZ_25.symm) (rld rfl)) <| .nil) rfl rfl⟩
       ·
        refine T_exit ?_
        rw [lx h] at ho2
        replace h := ho2
        exact ⟨(), h, Ent.sel [] (sd 1 rfl rfl <| sd 4 rfl rfl <| sd 23 rfl rfl <| sd 24 rfl rfl <| sd 25 rfl rfl <| sn) (.nil) rfl rfl⟩
     ·
      replace h := elr h
      cases j
      replace h := t0i h
      refine t0T ?_
      refine T_reg ?_
      refine R_q _ rfl (v_add (ov rfl) (ov rfl) rfl) ?_
      refine R_q _ rfl (v_move (ov rfl)) ?_
      refine R_nil ?_
      exact ⟨(i64 (i + 1)), h, Ent.sel [] (sd 1 rfl rfl <| sd 4 rfl rfl <| sd 23 rfl rfl <| sd 24 rfl rfl <| sd 25 rfl rfl <| sn) (.nil) rfl rfl⟩
    ·
     refine T_exit ?_
     rw [lx h] at ho1
     replace h := ho1
     exact ⟨(), h, Ent.sel [] (sd 1 rfl rfl <| sd 4 rfl rfl <| sn) (.nil) rfl rfl⟩
   ·
    replace h := elr h
    cases j
    replace h := t0i h
    refine t0T ?_
    refine T_joinG (fun j => (.inr j)) (t0 ⟨[(1, .rp [.int .i64 m.Version, .sl 25 (List.map R25 m.Params)] 0)], []⟩) h (fun h => ?_) (fun j h => ?_)
    ·
     refine T_seq (T_reg ?_)
     refine R_q _ rfl (v_fieldR (ov rfl) tF50_1) ?_
     refine R_q _ rfl (v_loadS_r (ov rfl) tS48 rfl) ?_
     refine R_q _ rfl (v_len (slv_sl (ov rfl) tZ_25) tL48 (len_map _ _)) ?_
     refine R_q _ rfl (v_move (ov rfl)) ?_
     refine R_nil ?_
     refine T_block ?_
     obtain ⟨r3, hl3, ho3⟩ := bndL h
     refine T_loopG _ (t2 fun n i3 => ⟨[(1, .rp [.int .i64 m.Version, .sl 25 (List.map R25 m.Params)] 0), (4, .int .i64 n), (54, .sl 25 (List.map R25 m.Params)), (55, .int .i64 (m.Params.length : Int)), (56, .int .i64 i3)], []⟩) _ hl3 (Ent.sel [] (sd 1 rfl rfl <| sd 4 rfl rfl <| sd 54 rfl rfl <| sd 55 rfl rfl <| sd 56 rfl rfl <| sn) (.nil) rfl rfl) (fun n3 s3 h => ?_)
     obtain ⟨n, i3⟩ := s3
     replace h := t2i h
     refine t2T ?_
     unfold ref2_Check_L3 at h
     refine T_seq (T_reg ?_)
     refine R_q _ rfl (v_lss (ov rfl) (ov rfl)) ?_
     refine R_nil ?_
     refine T_seq ?_
     refine T_if h rfl (fun b57 h => ?_) (fun b57 h => ?_)
     ·
      refine T_skip ?_
      refine T_seq ?_
      refine T_block ?_
      refine T_keep (kc 1 rfl <| kc 4 rfl <| kc 54 rfl <| kc 55 rfl <| kc 56 rfl <| kn) rfl ?_
      refine T_seq (T_reg ?_)
      refine R_q _ rfl (v_move (ov rfl)) ?_
      obtain ⟨x3, h_x3, h⟩ := bnd h
      refine R_q _ rfl (v_ixSG (ov rfl) (ov rfl) tL48 h_x3) ?_
      refine R_q _ rfl (v_loadA_r (ov rfl) tA25 rfl rfl) ?_
      refine R_w _ _ rfl (w_alloc (row := [_, _, _, _, _, _, _, _]) 0 rfl tZ25 rfl tZ_25) ?_
      refine R_q _ rfl (v_assign (ov rfl)) ?_
      refine R_w _ _ rfl (w_store (ov rfl) (ov rfl) (cells_agg tA25 rfl) rfl rfl rfl (Nat.le_of_ble_eq_true rfl) (cell1_all rfl) rfl) ?_
      refine R_nil ?_
      refine T_keep (kc 1 rfl <| kc 4 rfl <| kc 10 rfl <| kc 11 rfl <| kc 54 rfl <| kc 55 rfl <| kc 56 rfl <| kn) rfl ?_
      refine T_seq (T_reg ?_)
      refine R_q _ rfl (v_move (ov rfl)) ?_
      refine R_q _ rfl (v_loadA (ov rfl) rfl rfl rfl tA25 rfl rfl) ?_
      refine R_q _ rfl (v_move (ov rfl)) ?_
      obtain ⟨y3, h_y3, h⟩ := bnd h
      refine R_q _ rfl (v_call (ok_ref2_cells h_y3) (.cons (ov rfl) (.aggB rfl) <| .cons (ov rfl) (.b rfl) <| .nil)) ?_
      refine R_q _ rfl (v_len (slv_sl (ov rfl) tZ_87) tL45 (len_map _ _)) ?_
      refine R_q _ rfl (v_add (ov rfl) (ov rfl) rfl) ?_
      refine R_q _ rfl (v_assign (ov rfl)) ?_
      refine R_nil ?_
      refine T_keep (kc 1 rfl <| kc 4 rfl <| kc 10 rfl <| kc 54 rfl <| kc 55 rfl <| kc 56 rfl <| kn) rfl ?_
      refine T_seq (T_reg ?_)
      refine R_q _ rfl (v_move (ov rfl)) ?_
      refine R_q _ rfl (v_gtr (ov rfl) (ov rfl)) ?_
      refine R_nil ?_
      refine T_keep (kc 1 rfl <| kc 4 rfl <| kc 10 rfl <| kc 54 rfl <| kc 55 rfl <| kc 56 rfl <| kc 68 rfl <| kn) rfl ?_
      refine T_if h rfl (fun b68 h => ?_) (fun b68 h => ?_)
      ·
       refine T_keep (kc 10 rfl <| kn) rfl ?_
       refine T_seq (T_reg ?_)
       refine R_q _ rfl (v_move (ov rfl)) ?_
       refine R_q _ rfl (v_assign (ov rfl)) ?_
       refine R_q _ rfl (v_assign (ov rfl)) ?_
       refine R_nil ?_
       rw [lx h] at ho3
       replace h := ho3
       obtain rfl := rt (v := (i3, 3)) h
       refine T_ret (retq ?_ (.two (.tmp rfl (Dat.view (.b rfl))) (.tmp rfl (Dat.view (.b rfl)))))
       rfl
      ·
       refine T_skip ?_
       refine T_keep (kc 1 rfl <| kc 4 rfl <| kc 54 rfl <| kc 55 rfl <| kc 56 rfl <| kn) rfl ?_
       refine T_reg ?_
       refine R_q _ rfl (v_add (ov rfl) (ov rfl) rfl) ?_
       refine R_q _ rfl (v_move (ov rfl)) ?_
       refine R_nil ?_
       exact ⟨((i64 (n + (y3.length : Int))), (i64 (i3 + 1))), h, Ent.sel [] (sd 1 rfl rfl <| sd 4 rfl rfl <| sd 54 rfl rfl <| sd 55 rfl rfl <| sd 56 rfl rfl <| sn) (.nil) rfl rfl⟩
     ·
      refine T_exit ?_
      rw [lx h] at ho3
      replace h := ho3
      exact ⟨(), h, Ent.sel [] (sd 1 rfl rfl <| sn) (.nil) rfl rfl⟩
    ·
     replace h := elr h
     cases j
     replace h := t0i h
     refine t0T ?_
     refine T_seq (T_reg ?_)
     refine R_w _ _ rfl (w_makeMap 0 rfl tMp95) ?_
     refine R_q _ rfl (v_assign (ov rfl)) ?_
     refine R_nil ?_
     refine T_joinG (fun j => (.inr j)) (t0 ⟨[], []⟩) h (fun h => ?_) (fun j h => ?_)
     ·
      refine T_keep (kc 1 rfl <| kc 12 rfl <| kn) rfl ?_
      refine T_seq (T_reg ?_)
      refine R_q _ rfl (v_fieldR (ov rfl) tF50_1) ?_
      refine R_q _ rfl (v_loadS_r (ov rfl) tS48 rfl) ?_
      refine R_q _ rfl (v_len (slv_sl (ov rfl) tZ_25) tL48 (len_map _ _)) ?_
      refine R_q _ rfl (v_move (ov rfl)) ?_
      refine R_nil ?_
      refine T_block ?_
      obtain ⟨r4, hl4, ho4⟩ := bndL h
      refine T_loopG _ (t2 fun t i4 => ⟨[(12, .mref 0 1), (73, .sl 25 (List.map R25 m.Params)), (74, .int .i64 (m.Params.length : Int)), (75, .int .i64 i4)], [some ⟨95, [[.mcon (List.map (mrow FK157 FV4) t)]]⟩]⟩) _ hl4 (Ent.sel [some 0] (sr 12 rfl (.mref _ rfl) <| sd 73 rfl rfl <| sd 74 rfl rfl <| sd 75 rfl rfl <| sn) (.cons rfl (roMap (fk := FK157) (fv := FV4) (m := ([] : List ((Vector Int 3) × Bool))) tZ_95 (fun _ => rAgg (rld (arD fun _ => rfl))) (fun _ => .ren (.dat rfl))) <| .nil) rfl rfl) (fun n4 s4 h => ?_)
      obtain ⟨t, i4⟩ := s4
      replace h := t2i h
      refine t2T ?_
      unfold ref2_Check_L4 at h
      refine T_seq (T_reg ?_)
      refine R_q _ rfl (v_lss (ov rfl) (ov rfl)) ?_
      refine R_nil ?_
      refine T_seq ?_
      refine T_if h rfl (fun b76 h => ?_) (fun b76 h => ?_)
      ·
       refine T_skip ?_
       refine T_seq ?_
       refine T_block ?_
       refine T_keep (kc 12 rfl <| kc 73 rfl <| kc 74 rfl <| kc 75 rfl <| kn) rfl ?_
       refine T_seq (T_reg ?_)
       refine R_q _ rfl (v_move (ov rfl)) ?_
       obtain ⟨x4, h_x4, h⟩ := bnd h
       refine R_q _ rfl (v_ixSG (ov rfl) (ov rfl) tL48 h_x4) ?_
       refine R_q _ rfl (v_loadA_r (ov rfl) tA25 rfl rfl) ?_
       refine R_w _ _ rfl (w_alloc (row := [_, _, _, _, _, _, _, _]) 1 rfl tZ25 rfl tZ_25) ?_
       refine R_q _ rfl (v_assign (ov rfl)) ?_
       refine R_w _ _ rfl (w_store (ov rfl) (ov rfl) (cells_agg tA25 rfl) rfl rfl rfl (Nat.le_of_ble_eq_true rfl) (cell1_all rfl) rfl) ?_
       refine R_nil ?_
       refine T_keep (kc 12 rfl <| kc 13 rfl <| kc 14 rfl <| kc 73 rfl <| kc 74 rfl <| kc 75 rfl <| kn) rfl ?_
       refine T_seq (T_reg ?_)
       refine R_q _ rfl (v_move (ov rfl)) ?_
       refine R_q _ rfl (v_loadA (ov rfl) rfl rfl rfl tA25 rfl rfl) ?_
       refine R_q _ rfl (v_move (ov rfl)) ?_
       obtain ⟨y4, h_y4, h⟩ := bnd h
       refine R_q _ rfl (v_call (ok_ref2_cells h_y4) (.cons (ov rfl) (.aggB rfl) <| .cons (ov rfl) (.b rfl) <| .nil)) ?_
       obtain ⟨y5, h_y5, h⟩ := bnd h
       refine R_w _ _ rfl (w_callG [0] (ok_ref2_taken_takeAll h_y5) (.cons (ov rfl) (.mref _ rfl) <| .cons (ov rfl) (.dat rfl) <| .nil) (.cons rfl (roMap (fk := FK157) (fv := FV4) (m := t) tZ_95 (fun _ => rAgg (rld (arD fun _ => rfl))) (fun _ => .ren (.dat rfl))) <| .nil) rfl (.lent 0 (.inl rfl) rfl (roMap (fk := FK157) (fv := FV4) (m := y5.2) tZ_95 (fun _ => rAgg (rld (arD fun _ => rfl))) (fun _ => .ren (.dat rfl))) <| .keep rfl rfl <| .nil) rfl rfl (.dat rfl)) ?_
       refine R_q _ rfl (v_not (ov rfl)) ?_
       refine R_nil ?_
       refine T_keep (kc 12 rfl <| kc 13 rfl <| kc 73 rfl <| kc 74 rfl <| kc 75 rfl <| kc 85 rfl <| kn) rfl ?_
       refine T_if h rfl (fun b85 h => ?_) (fun b85 h => ?_)
       ·
        refine T_keep (kc 13 rfl <| kn) rfl ?_
        refine T_seq (T_reg ?_)
        refine R_q _ rfl (v_move (ov rfl)) ?_
        refine R_q _ rfl (v_assign (ov rfl)) ?_
        refine R_q _ rfl (v_assign (ov rfl)) ?_
        refine R_nil ?_
        rw [lx h] at ho4
        replace h := ho4
        obtain rfl := rt (v := (i4, 5)) h
        refine T_ret (retq ?_ (.two (.tmp rfl (Dat.view (.b rfl))) (.tmp rfl (Dat.view (.b rfl)))))
        rfl
       ·
        refine T_skip ?_
        refine T_keep (kc 12 rfl <| kc 73 rfl <| kc 74 rfl <| kc 75 rfl <| kn) rfl ?_
        refine T_reg ?_
        refine R_q _ rfl (v_add (ov rfl) (ov rfl) rfl) ?_
        refine R_q _ rfl (v_move (ov rfl)) ?_
        refine R_nil ?_
        exact ⟨(y5.2, (i64 (i4 + 1))), h, Ent.sel [some 0] (sr 12 rfl (.mref _ rfl) <| sd 73 rfl rfl <| sd 74 rfl rfl <| sd 75 rfl rfl <| sn) (.cons rfl (roMap (fk := FK157) (fv := FV4) (m := y5.2) tZ_95 (fun _ => rAgg (rld (arD fun _ => rfl))) (fun _ => .ren (.dat rfl))) <| .nil) rfl rfl⟩
      ·
       refine T_exit ?_
       rw [lx h] at ho4
       replace h := ho4
       exact ⟨(), h, Ent.sel [] (sn) (.nil) rfl rfl⟩
     ·
      replace h := elr h
      cases j
      replace h := t0i h
      refine t0T ?_
      refine T_seq (T_reg ?_)
      refine R_q _ rfl (v_assign (ov rfl)) ?_
      refine R_q _ rfl (v_assign (ov rfl)) ?_
      refine R_nil ?_
      obtain rfl := rt (v := (0, 0)) h
      refine T_ret (retq ?_ (.two (.tmp rfl (Dat.view (.b rfl))) (.tmp rfl (Dat.view (.b rfl)))))
      rfl

theorem ok_ref2_allCells {m : api_Map} {r : (List api_Cell)} (h : ref2_allCells m = some r) :
  CSpec Tryd.prog gl0 76 [.agg [.int .i64 m.Version, .sl 25 (List.map R25 m.Params)]] (.sl 87 (List.map R87 r)) := by
 unfold ref2_allCells at h
 replace h := bnd0 h
 refine spec_of (by kernel_rfl) Tryd.func76 rfl rfl ?_
 intro w0 A
 refine T_seq (T_reg ?_)
 refine R_q _ rfl (v_boxD (cva (ov rfl)) rfl tZ_50 rfl) ?_
 refine R_q _ rfl (v_assign (ov rfl)) ?_
 refine R_nil ?_
 refine T_keep (kc 1 rfl <| kn) rfl ?_
 refine T_seq (T_reg ?_)
 refine R_q _ rfl (v_assign (ov rfl)) ?_
 refine R_nil ?_
 refine T_joinG id (t1 fun out => ⟨[(3, .own 0 out.length)], [some ⟨87, List.map R87 out⟩]⟩) h (fun h => ?_) (fun j h => ?_)
 ·
  refine T_seq (T_reg ?_)
  refine R_q _ rfl (v_fieldR (ov rfl) tF50_1) ?_
  refine R_q _ rfl (v_loadS_r (ov rfl) tS48 rfl) ?_
  refine R_q _ rfl (v_len (slv_sl (ov rfl) tZ_25) tL48 (len_map _ _)) ?_
  refine R_q _ rfl (v_move (ov rfl)) ?_
  refine R_nil ?_
  refine T_block ?_
  obtain ⟨r1, hl1, ho1⟩ := bndL h
  refine T_loopG _ (t2 fun out2 i => ⟨[(3, .own 0 out2.length), (7, .sl 25 (List.map R25 m.Params)), (8, .int .i64 (m.Params.length : Int)), (9, .int .i64 i)], [some ⟨87, List.map R87 out2⟩]⟩) _ hl1 (Ent.sel [none] (sr 3 rfl (.row rfl) <| sd 7 rfl rfl <| sd 8 rfl rfl <| sd 9 rfl rfl <| sn) (.row 87 <| .nil) rfl rfl) (fun n1 s1 h => ?_)
  obtain ⟨out2, i⟩ := s1
  replace h := t2i h
  refine t2T ?_
  unfold ref2_allCells_L1 at h
  refine T_seq (T_reg ?_)
  refine R_q _ rfl (v_lss (ov rfl) (ov rfl)) ?_
  refine R_nil ?_
  refine T_seq ?_
  refine T_if h rfl (fun b10 h => ?_) (fun b10 h => ?_)
  ·
   refine T_skip ?_
   refine T_seq ?_
   refine T_block ?_
   refine T_keep (kc 3 rfl <| kc 7 rfl <| kc 8 rfl <| kc 9 rfl <| kn) rfl ?_
   refine T_seq (T_reg ?_)
   refine R_q _ rfl (v_move (ov rfl)) ?_
   obtain ⟨x, h_x, h⟩ := bnd h
   refine R_q _ rfl (v_ixSG (ov rfl) (ov rfl) tL48 h_x) ?_
   refine R_q _ rfl (v_loadA_r (ov rfl) tA25 rfl rfl) ?_
   refine R_w _ _ rfl (w_alloc (row := [_, _, _, _, _, _, _, _]) 1 rfl tZ25 rfl tZ_25) ?_
   refine R_q _ rfl (v_assign (ov rfl)) ?_
   refine R_w _ _ rfl (w_store (ov rfl) (ov rfl) (cells_agg tA25 rfl) rfl rfl rfl (Nat.le_of_ble_eq_true rfl) (cell1_all rfl) rfl) ?_
   refine R_nil ?_
   refine T_keep (kc 3 rfl <| kc 4 rfl <| kc 5 rfl <| kc 7 rfl <| kc 8 rfl <| kc 9 rfl <| kn) rfl ?_
   refine T_reg ?_
   refine R_q _ rfl (v_move (ov rfl)) ?_
   refine R_q _ rfl (v_loadA (ov rfl) rfl rfl rfl tA25 rfl rfl) ?_
   refine R_q _ rfl (v_move (ov rfl)) ?_
   obtain ⟨y, h_y, h⟩ := bnd h
   refine R_q _ rfl (v_call (ok_ref2_cells h_y) (.cons (ov rfl) (.aggB rfl) <| .cons (ov rfl) (.b rfl) <| .nil)) ?_
   obtain ⟨l, h_l, h⟩ := bnd h
   refine R_w _ _ rfl (w_appendZ (ov rfl) (slv_sl (ov rfl) tZ_87) tL45 rfl rfl (fun _ => cell1_all rfl) rfl h_l) ?_
   refine R_q _ rfl (v_assign (ov rfl)) ?_
   refine R_nil ?_
   refine T_keep (kc 3 rfl <| kc 7 rfl <| kc 8 rfl <| kc 9 rfl <| kn) rfl ?_
   refine T_reg ?_
   refine R_q _ rfl (v_add (ov rfl) (ov rfl) rfl) ?_
   refine R_q _ rfl (v_move (ov rfl)) ?_
   refine R_nil ?_
   exact ⟨(l, (i64 (i + 1))), h, Ent.sel [some 0] (sr 3 rfl (.own _ rfl) <| sd 7 rfl rfl <| sd 8 rfl rfl <| sd 9 rfl rfl <| sn) (.cons rfl (roM D87) <| .nil) rfl rfl⟩
  ·
   refine T_exit ?_
   rw [lx h] at ho1
   replace h := ho1
   exact ⟨out2, h, Ent.sel [some 0] (sr 3 rfl (.own _ rfl) <| sn) (.cons rfl (roM D87) <| .nil) rfl rfl⟩
 ·
  obtain ⟨out, rfl⟩ : ∃ x, x = j := ⟨_, rfl⟩
  replace h := t1i h
  refine t1T ?_
  refine T_seq (T_reg ?_)
  refine R_q _ rfl (v_move (ov rfl)) ?_
  refine R_q _ rfl (v_assign (ov rfl)) ?_
  refine R_nil ?_
  obtain rfl := rt (v := out) h
  refine T_ret (retq ?_ (.one (.tmp rfl (View.ownM rfl rfl D87))))
  rfl

theorem ok_ref2_Cells {m : api_Map} {r : (List api_Cell) × Int} (h : ref2_Cells m = some r) :
  CSpec Tryd.prog gl0 50 [.agg [.int .i64 m.Version, .sl 25 (List.map R25 m.Params)]] (.tuple [.sl 87 (List.map R87 r.1), .int .i64 r.2]) := by
 unfold ref2_Cells at h
 replace h := bnd0 h
 refine spec_of (by kernel_rfl) Tryd.func50 rfl rfl ?_
 intro w0 A
 refine T_seq (T_reg ?_)
 refine R_q _ rfl (v_boxD (cva (ov rfl)) rfl tZ_50 rfl) ?_
 refine R_q _ rfl (v_assign (ov rfl)) ?_
 refine R_q _ rfl (v_assign (ov rfl)) ?_
 refine R_nil ?_
 refine T_seq ?_
 refine T_keep (kc 1 rfl <| kn) rfl ?_
 refine T_seq (T_reg ?_)
 refine R_q _ rfl (v_loadA_r (ov rfl) tA50 rfl rfl) ?_
 obtain ⟨y, h_y, h⟩ := bnd h
 refine R_q _ rfl (v_call (ok_ref2_Check h_y) (.cons (ov rfl) (.aggB rfl) <| .nil)) ?_
 refine R_q _ rfl (v_move (ov rfl)) ?_
 refine R_q _ rfl (v_extract (ov rfl) rfl) ?_
 refine R_q _ rfl (v_extract (ov rfl) rfl) ?_
 refine R_q _ rfl (v_assign (ov rfl)) ?_
 refine R_q _ rfl (v_assign (ov rfl)) ?_
 refine R_nil ?_
 refine T_keep (kc 1 rfl <| kc 5 rfl <| kn) rfl ?_
 refine T_seq (T_reg ?_)
 refine R_q _ rfl (v_move (ov rfl)) ?_
 refine R_q _ rfl (v_neq (ov rfl) (ov rfl)) ?_
 refine R_nil ?_
 refine T_keep (kc 1 rfl <| kc 5 rfl <| kc 12 rfl <| kn) rfl ?_
 refine T_if h rfl (fun b12 h => ?_) (fun b12 h => ?_)
 ·
  refine T_keep (kc 5 rfl <| kn) rfl ?_
  refine T_seq (T_reg ?_)
  refine R_q _ rfl (v_move (ov rfl)) ?_
  refine R_q _ rfl (v_assign (ov rfl)) ?_
  refine R_q _ rfl (v_assign (ov rfl)) ?_
  refine R_nil ?_
  obtain rfl := rt (v := ([], y.2)) h
  refine T_ret (retq ?_ (.two (.tmp rfl (View.nils 87)) (.tmp rfl (Dat.view (.b rfl)))))
  rfl
 ·
  refine T_skip ?_
  refine T_keep (kc 1 rfl <| kn) rfl ?_
  refine T_seq (T_reg ?_)
  refine R_q _ rfl (v_loadA_r (ov rfl) tA50 rfl rfl) ?_
  obtain ⟨y2, h_y2, h⟩ := bnd h
  refine R_q _ rfl (v_call (ok_ref2_allCells h_y2) (.cons (ov rfl) (.aggB rfl) <| .nil)) ?_
  refine R_q _ rfl (v_assign (ov rfl)) ?_
  refine R_q _ rfl (v_assign (ov rfl)) ?_
  refine R_nil ?_
  obtain rfl := rt (v := (y2, 0)) h
  refine T_ret (retq ?_ (.two (.tmp rfl (Dat.view (.b rfl))) (.tmp rfl (Dat.view (.b rfl)))))
  rfl

theorem ok_ref5_cellsOf {m : api_Map} {n : Int} {r : (List api_Cell)} (h : ref5_cellsOf m n = some r) :
  CSpec Tryd.prog gl0 22 [.agg [.int .i64 m.Version, .sl 25 (List.map R25 m.Params)], .int .i64 n] (.sl 87 (List.map R87 r)) := by
 unfold ref5_cellsOf at h
 replace h := bnd0 h
 refine spec_of (by kernel_rfl) Tryd.func22 rfl rfl ?_
 intro w0 A
 refine T_seq (T_reg ?_)
 refine R_q _ rfl (v_boxD (cva (ov rfl)) rfl tZ_50 rfl) ?_
 refine R_q _ rfl (v_assign (ov rfl)) ?_
 refine R_nil ?_
 refine T_keep (kc 1 rfl <| kc 2 rfl <| kn) rfl ?_
 refine T_seq (T_reg ?_)
 refine R_q _ rfl (v_loadA_r (ov rfl) tA50 rfl rfl) ?_
 obtain ⟨y, h_y, h⟩ := bnd h
 refine R_q _ rfl (v_call (ok_ref2_Cells h_y) (.cons (ov rfl) (.aggB rfl) <| .nil)) ?_
 refine R_q _ rfl (v_move (ov rfl)) ?_
 refine R_q _ rfl (v_extract (ov rfl) rfl) ?_
 refine R_q _ rfl (v_extract (ov rfl) rfl) ?_
 refine R_q _ rfl (v_assign (ov rfl)) ?_
 refine R_q _ rfl (v_assign (ov rfl)) ?_
 refine R_nil ?_
 refine T_keep (kc 1 rfl <| kc 5 rfl <| kn) rfl ?_
 refine T_seq (T_reg ?_)
 refine R_q _ rfl (v_assign (ov rfl)) ?_
 refine R_nil ?_
 refine T_joinG id (t1 fun out => ⟨[(7, .own 0 out.length)], [some ⟨87, List.map R87 out⟩]⟩) h (fun h => ?_) (fun j h => ?_)
 ·
  refine T_seq (T_reg ?_)
  refine R_q _ rfl (v_assign (ov rfl)) ?_
  refine R_nil ?_
  refine T_block ?_
  obtain ⟨r1, hl1, ho1⟩ := bndL h
  refine T_loopG _ (t2 fun out2 i => ⟨[(1, .int .i64 n), (5, .sl 87 (List.map R87 y.1)), (7, .own 0 out2.length), (8, .int .i64 i)], [some ⟨87, List.map R87 out2⟩]⟩) _ hl1 (Ent.sel [none] (sd 1 rfl rfl <| sd 5 rfl rfl <| sr 7 rfl (.row rfl) <| sd 8 rfl rfl <| sn) (.row 87 <| .nil) rfl rfl) (fun n1 s1 h => ?_)
  obtain ⟨out2, i⟩ := s1
  replace h := t2i h
  refine t2T ?_
  unfold ref5_cellsOf_L1 at h
  refine T_seq ?_
  refine T_seq (T_reg ?_)
  refine R_q _ rfl (v_move (ov rfl)) ?_
  refine R_q _ rfl (v_move (ov rfl)) ?_
  refine R_q _ rfl (v_len (slv_sl (ov rfl) tZ_87) tL45 (len_map _ _)) ?_
  refine R_q _ rfl (v_lss (ov rfl) (ov rfl)) ?_
  refine R_nil ?_
  refine T_keep (kc 1 rfl <| kc 5 rfl <| kc 7 rfl <| kc 8 rfl <| kc 17 rfl <| kn) rfl ?_
  refine T_if h rfl (fun b17 h => ?_) (fun b17 h => ?_)
  ·
   refine T_skip ?_
   refine T_seq ?_
   refine T_block ?_
   refine T_keep (kc 1 rfl <| kc 5 rfl <| kc 7 rfl <| kc 8 rfl <| kn) rfl ?_
   refine T_seq (T_reg ?_)
   refine R_q _ rfl (v_move (ov rfl)) ?_
   refine R_q _ rfl (v_move (ov rfl)) ?_
   obtain ⟨x, h_x, h⟩ := bnd h
   refine R_q _ rfl (v_ixSG (ov rfl) (ov rfl) tL45 h_x) ?_
   refine R_q _ rfl (v_fieldR (ov rfl) tF87_0) ?_
   refine R_q _ rfl (v_loadS_r (ov rfl) tS3 rfl) ?_
   refine R_q _ rfl (v_move (ov rfl)) ?_
   refine R_q _ rfl (v_eql (ov rfl) (ov rfl)) ?_
   refine R_nil ?_
   refine T_keep (kc 1 rfl <| kc 5 rfl <| kc 7 rfl <| kc 8 rfl <| kc 26 rfl <| kn) rfl ?_
   refine T_if h rfl (fun b26 h => ?_) (fun b26 h => ?_)
   ·
    refine T_keep (kc 1 rfl <| kc 5 rfl <| kc 7 rfl <| kc 8 rfl <| kn) rfl ?_
    refine T_reg ?_
    refine R_q _ rfl (v_move (ov rfl)) ?_
    refine R_q _ rfl (v_move (ov rfl)) ?_
    refine R_q _ rfl (v_move (ov rfl)) ?_
    obtain ⟨x2, h_x2, h⟩ := bnd h
    refine R_q _ rfl (v_ixSG (ov rfl) (ov rfl) tL45 h_x2) ?_
    refine R_q _ rfl (v_loadA_r (ov rfl) tA87 rfl rfl) ?_
    refine R_q (.sl 87 (List.map R87 ([x2] : List api_Cell))) rfl (v_lit tL45 (.cons (cva (ov rfl)) rfl (pwD rfl) <| .nil) rfl rfl) ?_
    obtain ⟨l, h_l, h⟩ := bnd h
    refine R_w _ _ rfl (w_appendG (ov rfl) (slv_sl (ov rfl) tZ_87) tL45 rfl rfl rfl (fun _ => cell1_all rfl) rfl h_l) ?_
    refine R_q _ rfl (v_assign (ov rfl)) ?_
    refine R_nil ?_
    refine T_keep (kc 1 rfl <| kc 5 rfl <| kc 7 rfl <| kc 8 rfl <| kn) rfl ?_
    refine T_reg ?_
    refine R_q _ rfl (v_move (ov rfl)) ?_
    refine R_q _ rfl (v_add (ov rfl) (ov rfl) rfl) ?_
    refine R_q _ rfl (v_assign (ov rfl)) ?_
    refine R_nil ?_
    exact ⟨(l, (i64 (i + 1))), h, Ent.sel [some 0] (sd 1 rfl rfl <| sd 5 rfl rfl <| sr 7 rfl (.own _ rfl) <| sd 8 rfl rfl <| sn) (.cons rfl (roM D87) <| .nil) rfl rfl⟩
   ·
    refine T_skip ?_
    refine T_keep (kc 1 rfl <| kc 5 rfl <| kc 7 rfl <| kc 8 rfl <| kn) rfl ?_
    refine T_reg ?_
    refine R_q _ rfl (v_move (ov rfl)) ?_
    refine R_q _ rfl (v_add (ov rfl) (ov rfl) rfl) ?_
    refine R_q _ rfl (v_assign (ov rfl)) ?_
    refine R_nil ?_
    exact ⟨(out2, (i64 (i + 1))), h, Ent.sel [some 0] (sd 1 rfl rfl <| sd 5 rfl rfl <| sr 7 rfl (.own _ rfl) <| sd 8 rfl rfl <| sn) (.cons rfl (roM D87) <| .nil) rfl rfl⟩
  ·
   refine T_exit ?_
   rw [lx h] at ho1
   replace h := ho1
   exact ⟨out2, h, Ent.sel [some 0] (sr 7 rfl (.own _ rfl) <| sn) (.cons rfl (roM D87) <| .nil) rfl rfl⟩
 ·
  obtain ⟨out, rfl⟩ : ∃ x, x = j := ⟨_, rfl⟩
  replace h := t1i h
  refine t1T ?_
  refine T_seq (T_reg ?_)
  refine R_q _ rfl (v_move (ov rfl)) ?_
  refine R_q _ rfl (v_assign (ov rfl)) ?_
  refine R_nil ?_
  obtain rfl := rt (v := out) h
  refine T_ret (retq ?_ (.one (.tmp rfl (View.ownM rfl rfl D87))))
  rfl

theorem ok_ref5_moments {p : api_Param} {cells : List api_Cell} {first : Int} {r : (List Int)} (h : ref5_moments p cells first = some r) :
  CSpec Tryd.prog gl0 21 [.agg [.str p.Name, .int .i64 p.Kind, .sl 113 (List.map R113 p.Parts), .int .i64 p.First, .int .i64 p.Every, .int .i64 p.Times, .int .i64 p.Step, .sl 9 (List.map R9 p.Names)], .sl 87 (List.map R87 cells), .int .i64 first] (.sl 3 (List.map R3 r)) := by
 unfold ref5_moments at h
 replace h := bnd0 h
 refine spec_of (by kernel_rfl) Tryd.func21 rfl rfl ?_
 intro w0 A
 refine T_seq (T_reg ?_)
 refine R_q _ rfl (v_boxD (cva (ov rfl)) rfl tZ_25 rfl) ?_
 refine R_q _ rfl (v_assign (ov rfl)) ?_
 refine R_nil ?_
 refine T_keep (kc 1 rfl <| kc 2 rfl <| kc 3 rfl <| kn) rfl ?_
 refine T_seq (T_reg ?_)
 refine R_q _ rfl (v_assign (ov rfl)) ?_
 refine R_nil ?_
 refine T_seq (T_reg ?_)
 refine R_w _ _ rfl (w_makeMap 0 rfl tMp97) ?_
 refine R_q _ rfl (v_assign (ov rfl)) ?_
 refine R_nil ?_
 refine T_joinG id (t1 fun out => ⟨[(7, .own 0 out.length)], [some ⟨3, List.map R3 out⟩]⟩) h (fun h => ?_) (fun j h => ?_)
 ·
  refine T_keep (kc 1 rfl <| kc 2 rfl <| kc 3 rfl <| kc 7 rfl <| kc 8 rfl <| kn) rfl ?_
  refine T_seq (T_reg ?_)
  refine R_q _ rfl (v_assign (ov rfl)) ?_
  refine R_nil ?_
  refine T_block ?_
  obtain ⟨r1, hl1, ho1⟩ := bndL h
  refine T_loopG _ (t3 fun out2 had i => ⟨[(1, .sl 87 (List.map R87 cells)), (2, .int .i64 first), (3, .rp [.str p.Name, .int .i64 p.Kind, .sl 113 (List.map R113 p.Parts), .int .i64 p.First, .int .i64 p.Every, .int .i64 p.Times, .int .i64 p.Step, .sl 9 (List.map R9 p.Names)] 0), (7, .own 0 out2.length), (8, .mref 1 1), (9, .int .i64 i)], [some ⟨3, List.map R3 out2⟩, some ⟨97, [[.mcon (List.map (mrow FK3 FV3) had)]]⟩]⟩) _ hl1 (Ent.sel [none, some 0] (sd 1 rfl rfl <| sd 2 rfl rfl <| sd 3 rfl rfl <| sr 7 rfl (.row rfl) <| sr 8 rfl (.mref _ rfl) <| sd 9 rfl rfl <| sn) (.row 3 <| .cons rfl (roMap (fk := FK3) (fv := FV3) (m := ([] : List (Int × Int))) tZ_97 (fun _ => .dat rfl) (fun _ => .ren (.dat rfl))) <| .nil) rfl rfl) (fun n1 s1 h => ?_)
  obtain ⟨out2, had, i⟩ := s1
  replace h := t3i h
  refine t3T ?_
  unfold ref5_moments_L1 at h
  refine T_seq ?_
  refine T_seq (T_reg ?_)
  refine R_q _ rfl (v_move (ov rfl)) ?_
  refine R_q _ rfl (v_move (ov rfl)) ?_
  refine R_q _ rfl (v_len (slv_sl (ov rfl) tZ_87) tL45 (len_map _ _)) ?_
  refine R_q _ rfl (v_lss (ov rfl) (ov rfl)) ?_
  refine R_nil ?_
  refine T_keep (kc 1 rfl <| kc 2 rfl <| kc 3 rfl <| kc 7 rfl <| kc 8 rfl <| kc 9 rfl <| kc 15 rfl <| kn) rfl ?_
  refine T_if h rfl (fun b15 h => ?_) (fun b15 h => ?_)
  ·
   refine T_skip ?_
   refine T_seq ?_
   refine T_block ?_
   refine T_keep (kc 1 rfl <| kc 2 rfl <| kc 3 rfl <| kc 7 rfl <| kc 8 rfl <| kc 9 rfl <| kn) rfl ?_
   refine T_seq (T_reg ?_)
   refine R_q _ rfl (v_move (ov rfl)) ?_
   refine R_q _ rfl (v_move (ov rfl)) ?_
   obtain ⟨x, h_x, h⟩ := bnd h
   refine R_q _ rfl (v_ixSG (ov rfl) (ov rfl) tL45 h_x) ?_
   refine R_q _ rfl (v_fieldR (ov rfl) tF87_2) ?_
   refine R_q _ rfl (v_loadS_r (ov rfl) tS3 rfl) ?_
   refine R_q _ rfl (v_assign (ov rfl)) ?_
   refine R_nil ?_
   refine T_keep (kc 1 rfl <| kc 2 rfl <| kc 3 rfl <| kc 7 rfl <| kc 8 rfl <| kc 9 rfl <| kc 10 rfl <| kn) rfl ?_
   refine T_seq (T_reg ?_)
   refine R_q _ rfl (v_move (ov rfl)) ?_
   refine R_q _ rfl (v_move (ov rfl)) ?_
   refine R_q _ rfl (v_move (ov rfl)) ?_
   refine R_q _ rfl (v_add (ov rfl) (ov rfl) rfl) ?_
   refine R_q _ rfl (v_mul (ov rfl) (ov rfl) rfl) ?_
   refine R_q _ rfl (v_move (ov rfl)) ?_
   refine R_q _ rfl (v_move (ov rfl)) ?_
   obtain ⟨o, h_o, h⟩ := bnd h
   refine R_q _ rfl (v_lk1 (m := had) (fk := FK3) (fv := FV3) (k := x.Frame) (z0 := 0) (ov rfl) (ov rfl) tMp97 tKO3 rfl (fun _ => .b rfl) (zero_scal tZV3 rfl) (fun _ _ => rfl) h_o) ?_
   refine R_q _ rfl (v_mul (ov rfl) (ov rfl) rfl) ?_
   refine R_q _ rfl (v_fieldR (ov rfl) tF25_5) ?_
   refine R_q _ rfl (v_loadS_r (ov rfl) tS3 rfl) ?_
   obtain ⟨q, h_q, h⟩ := bnd h
   refine R_q _ rfl (v_quoG (ov rfl) (ov rfl) h_q) ?_
   refine R_q _ rfl (v_add (ov rfl) (ov rfl) rfl) ?_
   refine R_q (.sl 3 (List.map R3 ([(i64 ((i64 (64 * (i64 (first + x.Frame)))) + q))] : List Int))) rfl (v_lit tL26 (.cons (cvs (ov rfl) (cell1_b rfl)) rfl (.cons (.b rfl) .nil) <| .nil) rfl rfl) ?_
   obtain ⟨l, h_l, h⟩ := bnd h
   refine R_w _ _ rfl (w_appendG (ov rfl) (slv_sl (ov rfl) tZ_3) tL26 rfl rfl rfl (fun _ => cell1_all rfl) rfl h_l) ?_
   refine R_q _ rfl (v_assign (ov rfl)) ?_
   refine R_nil ?_
   refine T_keep (kc 1 rfl <| kc 2 rfl <| kc 3 rfl <| kc 7 rfl <| kc 8 rfl <| kc 9 rfl <| kc 10 rfl <| kn) rfl ?_
   refine T_reg ?_
   refine R_q _ rfl (v_move (ov rfl)) ?_
   refine R_q _ rfl (v_move (ov rfl)) ?_
   obtain ⟨o2, h_o2, h⟩ := bnd h
   refine R_q _ rfl (v_lk1 (m := had) (fk := FK3) (fv := FV3) (k := x.Frame) (z0 := 0) (ov rfl) (ov rfl) tMp97 tKO3 rfl (fun _ => .b rfl) (zero_scal tZV3 rfl) (fun _ _ => rfl) h_o2) ?_
   refine R_q _ rfl (v_add (ov rfl) (ov rfl) rfl) ?_
   refine R_w _ _ rfl (w_mapUpd (m := had) (fk := FK3) (fv := FV3) (k := x.Frame) (v := (i64 (o2 + 1))) (ov rfl) (ov rfl) (ov rfl) tMp97 tKO3 rfl (fun _ => .b rfl)) ?_
   refine R_nil ?_
   refine T_keep (kc 1 rfl <| kc 2 rfl <| kc 3 rfl <| kc 7 rfl <| kc 8 rfl <| kc 9 rfl <| kn) rfl ?_
   refine T_reg ?_
   refine R_q _ rfl (v_move (ov rfl)) ?_
   refine R_q _ rfl (v_add (ov rfl) (ov rfl) rfl) ?_
   refine R_q _ rfl (v_assign (ov rfl)) ?_
   refine R_nil ?_
   exact ⟨(l, (mput kqI had x.Frame (i64 (o2 + 1))), (i64 (i + 1))), h, Ent.sel [some 0, some 1] (sd 1 rfl rfl <| sd 2 rfl rfl <| sd 3 rfl rfl <| sr 7 rfl (.own _ rfl) <| sr 8 rfl (.mref _ rfl) <| sd 9 rfl rfl <| sn) (.cons rfl (roM D3) <| .cons rfl (roMap (fk := FK3) (fv := FV3) (m := (mput kqI had x.Frame (i64 (o2 + 1)))) tZ_97 (fun _ => .dat rfl) (fun _ => .ren (.dat rfl))) <| .nil) rfl rfl⟩
  ·
   refine T_exit ?_
   rw [lx h] at ho1
   replace h := ho1
   exact ⟨out2, h, Ent.sel [some 0] (sr 7 rfl (.own _ rfl) <| sn) (.cons rfl (roM D3) <| .nil) rfl rfl⟩
 ·
  obtain ⟨out, rfl⟩ : ∃ x, x = j := ⟨_, rfl⟩
  replace h := t1i h
  refine t1T ?_
  refine T_seq (T_reg ?_)
  refine R_q _ rfl (v_move (ov rfl)) ?_
  refine R_q _ rfl (v_assign (ov rfl)) ?_
  refine R_nil ?_
  obtain rfl := rt (v := out) h
  refine T_ret (retq ?_ (.one (.tmp rfl (View.ownM rfl rfl D3))))
  rfl

theorem ok_ref5_Times {p : api_Param} {first : Int} {r : (List Int) × Int} (h : ref5_Times p first = some r) :
  CSpec Tryd.prog gl0 7 [.agg [.str p.Name, .int .i64 p.Kind, .sl 113 (List.map R113 p.Parts), .int .i64 p.First, .int .i64 p.Every, .int .i64 p.Times, .int .i64 p.Step, .sl 9 (List.map R9 p.Names)], .int .i64 first] (.tuple [.sl 3 (List.map R3 r.1), .int .i64 r.2]) := by
 unfold ref5_Times at h
 replace h := bnd0 h
 refine spec_of (by kernel_rfl) Tryd.func7 rfl rfl ?_
 intro w0 A
 refine T_seq (T_reg ?_)
 refine R_q _ rfl (v_boxD (cva (ov rfl)) rfl tZ_25 rfl) ?_
 refine R_q _ rfl (v_assign (ov rfl)) ?_
 refine R_q _ rfl (v_assign (ov rfl)) ?_
 refine R_nil ?_
 refine T_seq ?_
 refine T_keep (kc 1 rfl <| kc 2 rfl <| kn) rfl ?_
 refine T_seq (T_reg ?_)
 refine R_q _ rfl (v_loadA_r (ov rfl) tA25 rfl rfl) ?_
 obtain ⟨y, h_y, h⟩ := bnd h
 refine R_q _ rfl (v_call (ok_ref2_CheckParam h_y) (.cons (ov rfl) (.aggB rfl) <| .nil)) ?_
 refine R_q _ rfl (v_assign (ov rfl)) ?_
 refine R_nil ?_
 refine T_keep (kc 1 rfl <| kc 2 rfl <| kc 6 rfl <| kn) rfl ?_
 refine T_seq (T_reg ?_)
 refine R_q _ rfl (v_move (ov rfl)) ?_
 refine R_q _ rfl (v_neq (ov rfl) (ov rfl)) ?_
 refine R_nil ?_
 refine T_keep (kc 1 rfl <| kc 2 rfl <| kc 6 rfl <| kc 10 rfl <| kn) rfl ?_
 refine T_if h rfl (fun b10 h => ?_) (fun b10 h => ?_)
 ·
  refine T_keep (kc 6 rfl <| kn) rfl ?_
  refine T_seq (T_reg ?_)
  refine R_q _ rfl (v_move (ov rfl)) ?_
  refine R_q _ rfl (v_assign (ov rfl)) ?_
  refine R_q _ rfl (v_assign (ov rfl)) ?_
  refine R_nil ?_
  obtain rfl := rt (v := ([], y)) h
  refine T_ret (retq ?_ (.two (.tmp rfl (View.nils 3)) (.tmp rfl (Dat.view (.b rfl)))))
  rfl
 ·
  refine T_skip ?_
  refine T_seq ?_
  refine T_keep (kc 1 rfl <| kc 2 rfl <| kn) rfl ?_
  refine T_seq (T_reg ?_)
  refine R_q _ rfl (v_move (ov rfl)) ?_
  obtain ⟨y2, h_y2, h⟩ := bnd h
  refine R_q _ rfl (v_call (ok_ref5_outside h_y2) (.cons (ov rfl) (.b rfl) <| .cons (ov rfl) (.b rfl) <| .cons (ov rfl) (.b rfl) <| .nil)) ?_
  refine R_nil ?_
  refine T_keep (kc 1 rfl <| kc 2 rfl <| kc 13 rfl <| kn) rfl ?_
  refine T_if h rfl (fun b13 h => ?_) (fun b13 h => ?_)
  ·
   refine T_keep (kn) rfl ?_
   refine T_seq (T_reg ?_)
   refine R_q _ rfl (v_assign (ov rfl)) ?_
   refine R_q _ rfl (v_assign (ov rfl)) ?_
   refine R_nil ?_
   obtain rfl := rt (v := ([], 9)) h
   refine T_ret (retq ?_ (.two (.tmp rfl (View.nils 3)) (.tmp rfl (Dat.view (.b rfl)))))
   rfl
  ·
   refine T_skip ?_
   refine T_seq ?_
   refine T_keep (kc 1 rfl <| kc 2 rfl <| kn) rfl ?_
   refine T_seq (T_reg ?_)
   refine R_q _ rfl (v_move (ov rfl)) ?_
   obtain ⟨q, h_q, h⟩ := bnd h
   refine R_q _ rfl (v_remG (ov rfl) (ov rfl) h_q) ?_
   refine R_q _ rfl (v_neq (ov rfl) (ov rfl)) ?_
   refine R_nil ?_
   refine T_keep (kc 1 rfl <| kc 2 rfl <| kc 16 rfl <| kn) rfl ?_
   refine T_if h rfl (fun b16 h => ?_) (fun b16 h => ?_)
   ·
    refine T_keep (kn) rfl ?_
    refine T_seq (T_reg ?_)
    refine R_q _ rfl (v_assign (ov rfl)) ?_
    refine R_q _ rfl (v_assign (ov rfl)) ?_
    refine R_nil ?_
    obtain rfl := rt (v := ([], 2)) h
    refine T_ret (retq ?_ (.two (.tmp rfl (View.nils 3)) (.tmp rfl (Dat.view (.b rfl)))))
    rfl
   ·
    refine T_skip ?_
    refine T_keep (kc 1 rfl <| kc 2 rfl <| kn) rfl ?_
    refine T_seq (T_draw (cw := md0) (by kernel_rfl) ?_)
    refine D_q0 0 _ rfl (by kernel_rfl) rfl rfl (v_loadA_r (ov rfl) tA25 rfl rfl) ?_
    refine D_q0 1 _ rfl (by kernel_rfl) rfl rfl (v_loadA_r (ov rfl) tA25 rfl rfl) ?_
    refine D_q0 2 (.sl 25 (List.map R25 ([p] : List api_Param))) rfl (by kernel_rfl) rfl rfl (v_lit tL48 (.cons (cva (ov rfl)) rfl (pwD rfl) <| .nil) rfl rfl) ?_
    refine D_q0 3 _ rfl (by kernel_rfl) rfl rfl (v_build (ys := [_, _]) tPL50 tHA50 tZ50 (.cons (cvs (ov rfl) (cell1_b rfl)) <| .nil) rfl) ?_
    obtain ⟨y3, h_y3, h⟩ := bnd h
    refine D_q0 4 _ rfl (by kernel_rfl) rfl rfl (v_call (ok_ref5_cellsOf h_y3) (.cons (ov rfl) (.aggB rfl) <| .cons (ov rfl) (.b rfl) <| .nil)) ?_
    refine D_q0 5 _ rfl (by kernel_rfl) rfl rfl (v_move (ov rfl)) ?_
    obtain ⟨y4, h_y4, h⟩ := bnd h
    refine D_q0 6 _ rfl (by kernel_rfl) rfl rfl (v_call (ok_ref5_moments h_y4) (.cons (ov rfl) (.aggB rfl) <| .cons (ov rfl) (.b rfl) <| .cons (ov rfl) (.b rfl) <| .nil)) ?_
    refine D_q0 7 _ rfl (by kernel_rfl) rfl rfl (v_assign (ov rfl)) ?_
    refine D_q0 8 _ rfl (by kernel_rfl) rfl rfl (v_assign (ov rfl)) ?_
    refine D_done (by kernel_rfl) ?_
    obtain rfl := rt (v := (y4, 0)) h
    refine T_ret (retq ?_ (.two (.tmp rfl (Dat.view (.b rfl))) (.tmp rfl (Dat.view (.b rfl)))))
    rfl

theorem ok_series_check {s : api_Series} {r : Int × Int} (h : series_check s = some r) :
  CSpec Tryd.prog gl0 77 [.agg [.int .i64 s.Den, .sl 60 (List.map R60 s.Samples)]] (.tuple [.int .i64 r.1, .int .i64 r.2]) := by
 unfold series_check at h
 replace h := bnd0 h
 refine spec_of (by kernel_rfl) Tryd.func77 rfl rfl ?_
 intro w0 A
 refine T_seq (T_reg ?_)
 refine R_q _ rfl (v_boxD (cva (ov rfl)) rfl tZ_65 rfl) ?_
 refine R_q _ rfl (v_assign (ov rfl)) ?_
 refine R_q _ rfl (v_assign (ov rfl)) ?_
 refine R_nil ?_
 refine T_seq ?_
 refine T_keep (kc 1 rfl <| kn) rfl ?_
 refine T_seq (T_reg ?_)
 refine R_q _ rfl (v_fieldR (ov rfl) tF65_0) ?_
 refine R_q _ rfl (v_loadS_r (ov rfl) tS3 rfl) ?_
 obtain ⟨y, h_y, h⟩ := bnd h
 refine R_q _ rfl (v_call (ok_series_within h_y) (.cons (ov rfl) (.b rfl) <| .cons (ov rfl) (.b rfl) <| .cons (ov rfl) (.b rfl) <| .nil)) ?_
 refine R_q _ rfl (v_not (ov rfl)) ?_
 refine R_nil ?_
 refine T_keep (kc 1 rfl <| kc 9 rfl <| kn) rfl ?_
 refine T_if h rfl (fun b9 h => ?_) (fun b9 h => ?_)
 ·
  refine T_keep (kn) rfl ?_
  refine T_seq (T_reg ?_)
  refine R_q _ rfl (v_assign (ov rfl)) ?_
  refine R_q _ rfl (v_assign (ov rfl)) ?_
  refine R_nil ?_
  obtain rfl := rt (v := ((-1), 9)) h
  refine T_ret (retq ?_ (.two (.tmp rfl (Dat.view (.b rfl))) (.tmp rfl (Dat.view (.b rfl)))))
  rfl
 ·
  refine T_skip ?_
  refine T_seq ?_
  refine T_keep (kc 1 rfl <| kn) rfl ?_
  refine T_seq (T_reg ?_)
  refine R_q _ rfl (v_fieldR (ov rfl) tF65_1) ?_
  refine R_q _ rfl (v_loadS_r (ov rfl) tS63 rfl) ?_
  refine R_q _ rfl (v_len (slv_sl (ov rfl) tZ_60) tL63 (len_map _ _)) ?_
  refine R_q _ rfl (v_gtr (ov rfl) (ov rfl)) ?_
  refine R_nil ?_
  refine T_keep (kc 1 rfl <| kc 13 rfl <| kn) rfl ?_
  refine T_if h rfl (fun b13 h => ?_) (fun b13 h => ?_)
  ·
   refine T_keep (kn) rfl ?_
   refine T_seq (T_reg ?_)
   refine R_q _ rfl (v_assign (ov rfl)) ?_
   refine R_q _ rfl (v_assign (ov rfl)) ?_
   refine R_nil ?_
   obtain rfl := rt (v := ((-1), 3)) h
   refine T_ret (retq ?_ (.two (.tmp rfl (Dat.view (.b rfl))) (.tmp rfl (Dat.view (.b rfl)))))
   rfl
  ·
   refine T_skip ?_
   refine T_joinG (fun j => (.inr j)) (t0 ⟨[], []⟩) h (fun h => ?_) (fun j h => ?_)
   ·
    refine T_keep (kc 1 rfl <| kn) rfl ?_
    refine T_seq (T_reg ?_)
    refine R_q _ rfl (v_fieldR (ov rfl) tF65_1) ?_
    refine R_q _ rfl (v_loadS_r (ov rfl) tS63 rfl) ?_
    refine R_q _ rfl (v_len (slv_sl (ov rfl) tZ_60) tL63 (len_map _ _)) ?_
    refine R_q _ rfl (v_move (ov rfl)) ?_
    refine R_nil ?_
    refine T_block ?_
    obtain ⟨r1, hl1, ho1⟩ := bndL h
    refine T_loopG _ (t1 fun i => ⟨[(1, .rp [.int .i64 s.Den, .sl 60 (List.map R60 s.Samples)] 0), (15, .sl 60 (List.map R60 s.Samples)), (16, .int .i64 (s.Samples.length : Int)), (17, .int .i64 i)], []⟩) _ hl1 (Ent.sel [] (sd 1 rfl rfl <| sd 15 rfl rfl <| sd 16 rfl rfl <| sd 17 rfl rfl <| sn) (.nil) rfl rfl) (fun n1 s1 h => ?_)
    obtain ⟨i, rfl⟩ : ∃ x, x = s1 := ⟨_, rfl⟩
    replace h := t1i h
    refine t1T ?_
    unfold series_check_L1 at h
    refine T_seq (T_reg ?_)
    refine R_q _ rfl (v_lss (ov rfl) (ov rfl)) ?_
    refine R_nil ?_
    refine T_seq ?_
    refine T_if h rfl (fun b18 h => ?_) (fun b18 h => ?_)
    ·
     refine T_skip ?_
     refine T_seq ?_
     refine T_block ?_
     refine T_keep (kc 1 rfl <| kc 15 rfl <| kc 16 rfl <| kc 17 rfl <| kn) rfl ?_
     refine T_seq (T_reg ?_)
     refine R_q _ rfl (v_move (ov rfl)) ?_
     obtain ⟨x, h_x, h⟩ := bnd h
     refine R_q _ rfl (v_ixSG (ov rfl) (ov rfl) tL63 h_x) ?_
     refine R_q _ rfl (v_loadA_r (ov rfl) tA60 rfl rfl) ?_
     refine R_w _ _ rfl (w_alloc (row := [_, _, _]) 0 rfl tZ60 rfl tZ_60) ?_
     refine R_q _ rfl (v_assign (ov rfl)) ?_
     refine R_w _ _ rfl (w_store (ov rfl) (ov rfl) (cells_agg tA60 rfl) rfl rfl rfl (Nat.le_of_ble_eq_true rfl) (cell1_all rfl) rfl) ?_
     refine R_nil ?_
     refine T_block ?_
     refine T_keep (kc 1 rfl <| kc 4 rfl <| kc 5 rfl <| kc 15 rfl <| kc 16 rfl <| kc 17 rfl <| kn) rfl ?_
     refine T_seq (T_reg ?_)
     refine R_q _ rfl (v_fieldP (ov rfl) rfl rfl tF60_0) ?_
     refine R_q _ rfl (v_loadS (ov rfl) rfl rfl rfl tS3 rfl) ?_
     obtain ⟨y2, h_y2, h⟩ := bnd h
     refine R_q _ rfl (v_call (ok_series_within h_y2) (.cons (ov rfl) (.b rfl) <| .cons (ov rfl) (.b rfl) <| .cons (ov rfl) (.b rfl) <| .nil)) ?_
     refine R_q _ rfl (v_not (ov rfl)) ?_
     refine R_q _ rfl (v_move (ov rfl)) ?_
     refine R_q _ rfl (.guarded ((!y2) == false) rfl rfl rfl rfl fun h => v_fieldP (ov rfl) rfl rfl tF60_1) ?_
     refine R_q _ rfl (.guarded ((!y2) == false) rfl rfl rfl rfl fun h => v_loadS (ow rfl h) rfl rfl rfl tS3 rfl) ?_
     obtain ⟨y3, h_y3, h⟩ := bnd h
     refine R_q _ rfl (.guarded ((!y2) == false) rfl rfl rfl rfl fun h => v_call (ok_series_within (gdT h_y3 h)) (.cons (ow rfl h) (.b rfl) <| .cons (ov rfl) (.b rfl) <| .cons (ov rfl) (.b rfl) <| .nil)) ?_
     refine R_q _ rfl (.guarded ((!y2) == false) rfl rfl rfl rfl fun h => v_not (ow rfl h)) ?_
     refine R_q _ rfl (v_or (ov rfl) (fun hp => ow rfl (gF hp))) ?_
     refine R_q _ rfl (v_move (ov rfl)) ?_
     refine R_q _ rfl (.guarded (((!y2) || (!y3)) == false) rfl rfl rfl rfl fun h => v_fieldP (ov rfl) rfl rfl tF60_2) ?_
     refine R_q _ rfl (.guarded (((!y2) || (!y3)) == false) rfl rfl rfl rfl fun h => v_loadS (ow rfl h) rfl rfl rfl tS3 rfl) ?_
     obtain ⟨y4, h_y4, h⟩ := bnd h
     refine R_q _ rfl (.guarded (((!y2) || (!y3)) == false) rfl rfl rfl rfl fun h => v_call (ok_series_within (gdT h_y4 h)) (.cons (ow rfl h) (.b rfl) <| .cons (ov rfl) (.b rfl) <| .cons (ov rfl) (.b rfl) <| .nil)) ?_
     refine R_q _ rfl (.guarded (((!y2) || (!y3)) == false) rfl rfl rfl rfl fun h => v_not (ow rfl h)) ?_
     refine R_q _ rfl (v_or (ov rfl) (fun hp => ow rfl (gF hp))) ?_
     refine R_q _ rfl (v_assign (ov rfl)) ?_
     refine R_nil ?_
     refine T_keep (kc 1 rfl <| kc 4 rfl <| kc 5 rfl <| kc 15 rfl <| kc 16 rfl <| kc 17 rfl <| kc 22 rfl <| kn) rfl ?_
     refine T_if h rfl (fun b22 h => ?_) (fun b22 h => ?_)
     ·
      refine T_keep (kc 4 rfl <| kn) rfl ?_
      refine T_seq (T_reg ?_)
      refine R_q _ rfl (v_move (ov rfl)) ?_
      refine R_q _ rfl (v_assign (ov rfl)) ?_
      refine R_q _ rfl (v_assign (ov rfl)) ?_
      refine R_nil ?_
      rw [lx h] at ho1
      replace h := ho1
      obtain rfl := rt (v := (i, 9)) h
      refine T_ret (retq ?_ (.two (.tmp rfl (Dat.view (.b rfl))) (.tmp rfl (Dat.view (.b rfl)))))
      rfl
     ·
      refine T_keep (kc 1 rfl <| kc 4 rfl <| kc 5 rfl <| kc 15 rfl <| kc 16 rfl <| kc 17 rfl <| kn) rfl ?_
      refine T_seq (T_reg ?_)
      refine R_q _ rfl (v_fieldP (ov rfl) rfl rfl tF60_1) ?_
      refine R_q _ rfl (v_loadS (ov rfl) rfl rfl rfl tS3 rfl) ?_
      refine R_q _ rfl (v_neq (ov rfl) (ov rfl)) ?_
      refine R_q _ rfl (v_move (ov rfl)) ?_
      refine R_q _ rfl (.guarded ((!decide (x.N = 0)) == true) rfl rfl rfl rfl fun h => v_fieldP (ov rfl) rfl rfl tF60_2) ?_
      refine R_q _ rfl (.guarded ((!decide (x.N = 0)) == true) rfl rfl rfl rfl fun h => v_loadS (ow rfl h) rfl rfl rfl tS3 rfl) ?_
      refine R_q _ rfl (.guarded ((!decide (x.N = 0)) == true) rfl rfl rfl rfl fun h => v_leq (ow rfl h) (ov rfl)) ?_
      refine R_q _ rfl (v_and (ov rfl) (fun hp => ow rfl (gT hp))) ?_
      refine R_q _ rfl (v_assign (ov rfl)) ?_
      refine R_nil ?_
      refine T_keep (kc 1 rfl <| kc 4 rfl <| kc 5 rfl <| kc 15 rfl <| kc 16 rfl <| kc 17 rfl <| kc 40 rfl <| kn) rfl ?_
      refine T_if h rfl (fun b40 h => ?_) (fun b40 h => ?_)
      ·
       refine T_keep (kc 4 rfl <| kn) rfl ?_
       refine T_seq (T_reg ?_)
       refine R_q _ rfl (v_move (ov rfl)) ?_
       refine R_q _ rfl (v_assign (ov rfl)) ?_
       refine R_q _ rfl (v_assign (ov rfl)) ?_
       refine R_nil ?_
       rw [lx h] at ho1
       replace h := ho1
       obtain rfl := rt (v := (i, 2)) h
       refine T_ret (retq ?_ (.two (.tmp rfl (Dat.view (.b rfl))) (.tmp rfl (Dat.view (.b rfl)))))
       rfl
      ·
       refine T_keep (kc 1 rfl <| kc 4 rfl <| kc 5 rfl <| kc 15 rfl <| kc 16 rfl <| kc 17 rfl <| kn) rfl ?_
       refine T_seq (T_draw (cw := md0) (by kernel_rfl) ?_)
       refine D_q0 0 _ rfl (by kernel_rfl) rfl rfl (v_move (ov rfl)) ?_
       refine D_q0 1 _ rfl (by kernel_rfl) rfl rfl (v_gtr (ov rfl) (ov rfl)) ?_
       refine D_q0 2 _ rfl (by kernel_rfl) rfl rfl (v_move (ov rfl)) ?_
       refine D_q0 3 _ rfl (by kernel_rfl) rfl rfl (.guarded ((decide (0 < i)) == true) rfl rfl rfl rfl fun h => v_fieldP (ov rfl) rfl rfl tF60_0) ?_
       refine D_q0 4 _ rfl (by kernel_rfl) rfl rfl (.guarded ((decide (0 < i)) == true) rfl rfl rfl rfl fun h => v_loadS (ow rfl h) rfl rfl rfl tS3 rfl) ?_
       refine D_q0 5 _ rfl (by kernel_rfl) rfl rfl (.guarded ((decide (0 < i)) == true) rfl rfl rfl rfl fun h => v_fieldR (ov rfl) tF65_1) ?_
       refine D_q0 6 _ rfl (by kernel_rfl) rfl rfl (.guarded ((decide (0 < i)) == true) rfl rfl rfl rfl fun h => v_loadS_r (ow rfl h) tS63 rfl) ?_
       refine D_q0 7 _ rfl (by kernel_rfl) rfl rfl (.guarded ((decide (0 < i)) == true) rfl rfl rfl rfl fun h => v_move (ov rfl)) ?_
       refine D_q0 8 _ rfl (by kernel_rfl) rfl rfl (.guarded ((decide (0 < i)) == true) rfl rfl rfl rfl fun h => v_sub (ow rfl h) (ov rfl) rfl) ?_
       obtain ⟨x2, h_x2, h⟩ := bnd h
       refine D_q0 9 _ rfl (by kernel_rfl) rfl rfl (.guarded ((decide (0 < i)) == true) rfl rfl rfl rfl fun h => v_ixSG (ow rfl h) (ow rfl h) tL63 (gdT h_x2 h)) ?_
       refine D_q0 10 _ rfl (by kernel_rfl) rfl rfl (.guarded ((decide (0 < i)) == true) rfl rfl rfl rfl fun h => v_fieldR (ow rfl h) tF60_0) ?_
       refine D_q0 11 _ rfl (by kernel_rfl) rfl rfl (.guarded ((decide (0 < i)) == true) rfl rfl rfl rfl fun h => v_loadS_r (ow rfl h) tS3 rfl) ?_
       refine D_q0 12 _ rfl (by kernel_rfl) rfl rfl (.guarded ((decide (0 < i)) == true) rfl rfl rfl rfl fun h => v_leq (ow rfl h) (ow rfl h)) ?_
       refine D_q0 13 _ rfl (by kernel_rfl) rfl rfl (v_and (ov rfl) (fun hp => ow rfl (gT hp))) ?_
       refine D_q0 14 _ rfl (by kernel_rfl) rfl rfl (v_assign (ov rfl)) ?_
       refine D_done (by kernel_rfl) ?_
       refine T_keep (kc 1 rfl <| kc 4 rfl <| kc 15 rfl <| kc 16 rfl <| kc 17 rfl <| kc 50 rfl <| kn) rfl ?_
       refine T_if h rfl (fun b50 h => ?_) (fun b50 h => ?_)
       ·
        refine T_keep (kc 4 rfl <| kn) rfl ?_
        refine T_seq (T_reg ?_)
        refine R_q _ rfl (v_move (ov rfl)) ?_
        refine R_q _ rfl (v_assign (ov rfl)) ?_
        refine R_q _ rfl (v_assign (ov rfl)) ?_
        refine R_nil ?_
        rw [lx h] at ho1
        replace h := ho1
        obtain rfl := rt (v := (i, 10)) h
        refine T_ret (retq ?_ (.two (.tmp rfl (Dat.view (.b rfl))) (.tmp rfl (Dat.view (.b rfl)))))
        rfl
       ·
        refine T_skip ?_
        refine T_keep (kc 1 rfl <| kc 15 rfl <| kc 16 rfl <| kc 17 rfl <| kn) rfl ?_
        refine T_reg ?_
        refine R_q _ rfl (v_add (ov rfl) (ov rfl) rfl) ?_
        refine R_q _ rfl (v_move (ov rfl)) ?_
        refine R_nil ?_
        exact ⟨(i64 (i + 1)), h, Ent.sel [] (sd 1 rfl rfl <| sd 15 rfl rfl <| sd 16 rfl rfl <| sd 17 rfl rfl <| sn) (.nil) rfl rfl⟩
    ·
     refine T_exit ?_
     rw [lx h] at ho1
     replace h := ho1
     exact ⟨(), h, Ent.sel [] (sn) (.nil) rfl rfl⟩
   ·
    replace h := elr h
    cases j
    replace h := t0i h
    refine t0T ?_
    refine T_seq (T_reg ?_)
    refine R_q _ rfl (v_assign (ov rfl)) ?_
    refine R_q _ rfl (v_assign (ov rfl)) ?_
    refine R_nil ?_
    obtain rfl := rt (v := ((-1), 0)) h
    refine T_ret (retq ?_ (.two (.tmp rfl (Dat.view (.b rfl))) (.tmp rfl (Dat.view (.b rfl)))))
    rfl

theorem ok_series_Check {s : api_Series} {r : Int} (h : series_Check s = some r) :
  CSpec Tryd.prog gl0 51 [.agg [.int .i64 s.Den, .sl 60 (List.map R60 s.Samples)]] (.int .i64 r) := by
 unfold series_Check at h
 replace h := bnd0 h
 refine spec_of (by kernel_rfl) Tryd.func51 rfl rfl ?_
 intro w0 A
 refine T_seq (T_reg ?_)
 refine R_q _ rfl (v_boxD (cva (ov rfl)) rfl tZ_65 rfl) ?_
 refine R_q _ rfl (v_assign (ov rfl)) ?_
 refine R_nil ?_
 refine T_keep (kc 1 rfl <| kn) rfl ?_
 refine T_seq (T_reg ?_)
 refine R_q _ rfl (v_loadA_r (ov rfl) tA65 rfl rfl) ?_
 obtain ⟨y, h_y, h⟩ := bnd h
 refine R_q _ rfl (v_call (ok_series_check h_y) (.cons (ov rfl) (.aggB rfl) <| .nil)) ?_
 refine R_q _ rfl (v_move (ov rfl)) ?_
 refine R_q _ rfl (v_extract (ov rfl) rfl) ?_
 refine R_q _ rfl (v_extract (ov rfl) rfl) ?_
 refine R_q _ rfl (v_assign (ov rfl)) ?_
 refine R_q _ rfl (v_assign (ov rfl)) ?_
 refine R_nil ?_
 refine T_keep (kc 4 rfl <| kn) rfl ?_
 refine T_seq (T_reg ?_)
 refine R_q _ rfl (v_move (ov rfl)) ?_
 refine R_q _ rfl (v_assign (ov rfl)) ?_
 refine R_nil ?_
 obtain rfl := rt (v := y.2) h
 refine T_ret (retq ?_ (.one (.tmp rfl (Dat.view (.b rfl)))))
 rfl

theorem ok_slices_BinarySearchFunc_api_Sample_api_Sample_int {x : List api_Sample} {target : Int} {cmp : api_Sample → Int → Option Int} {r : Int × Bool} {cmp_f : FuncId} {cmp_c : List AV} (cmp_d : cmp_c.all datB = true) (cmp_h : ∀ (z0 : api_Sample) (z1 : Int) z, cmp z0 z1 = some z → CSpec Tryd.prog gl0 cmp_f ([.agg [.int .i64 z0.At, .int .i64 z0.N, .int .i64 z0.Mark], .int .i64 z1] ++ cmp_c) (.int .i64 z)) (h : slices_BinarySearchFunc_api_Sample_api_Sample_int x target cmp = some r) :
  CSpec Tryd.prog gl0 101 [.sl 60 (List.map R60 x), .int .i64 target, .fn cmp_f cmp_c] (.tuple [.int .i64 r.1, .bool r.2]) := by
 unfold slices_BinarySearchFunc_api_Sample_api_Sample_int at h
 replace h := bnd0 h
 refine spec_of (by kernel_rfl) Tryd.func101 rfl rfl ?_
 intro w0 A
 refine T_seq (T_reg ?_)
 refine R_q _ rfl (v_assign (ov rfl)) ?_
 refine R_q _ rfl (v_assign (ov rfl)) ?_
 refine R_nil ?_
 refine T_keep (kc 0 rfl <| kc 1 rfl <| kc 2 rfl <| kn) rfl ?_
 refine T_seq (T_reg ?_)
 refine R_q _ rfl (v_move (ov rfl)) ?_
 refine R_q _ rfl (v_len (slv_sl (ov rfl) tZ_60) tL63 (len_map _ _)) ?_
 refine R_q _ rfl (v_assign (ov rfl)) ?_
 refine R_nil ?_
 refine T_keep (kc 0 rfl <| kc 1 rfl <| kc 2 rfl <| kc 8 rfl <| kn) rfl ?_
 refine T_seq (T_reg ?_)
 refine R_q _ rfl (v_move (ov rfl)) ?_
 refine R_q _ rfl (v_assign (ov rfl)) ?_
 refine R_q _ rfl (v_assign (ov rfl)) ?_
 refine R_nil ?_
 refine T_joinG id (t1 fun i => ⟨[(0, .sl 60 (List.map R60 x)), (1, .int .i64 target), (2, .fn cmp_f cmp_c), (8, .int .i64 (x.length : Int)), (9, .int .i64 i)], []⟩) h (fun h => ?_) (fun j h => ?_)
 ·
  refine T_block ?_
  obtain ⟨r1, hl1, ho1⟩ := bndL h
  refine T_loopG _ (t2 fun i2 j => ⟨[(0, .sl 60 (List.map R60 x)), (1, .int .i64 target), (2, .fn cmp_f cmp_c), (8, .int .i64 (x.length : Int)), (9, .int .i64 i2), (10, .int .i64 j)], []⟩) _ hl1 (Ent.sel [] (sd 0 rfl rfl <| sd 1 rfl rfl <| sr 2 rfl (rFn (rld cmp_d)) <| sd 8 rfl rfl <| sd 9 rfl rfl <| sd 10 rfl rfl <| sn) (.nil) rfl rfl) (fun n1 s1 h => ?_)
  obtain ⟨i2, j⟩ := s1
  replace h := t2i h
  refine t2T ?_
  unfold slices_BinarySearchFunc_api_Sample_api_Sample_int_L1 at h
  refine T_seq ?_
  refine T_seq (T_reg ?_)
  refine R_q _ rfl (v_move (ov rfl)) ?_
  refine R_q _ rfl (v_move (ov rfl)) ?_
  refine R_q _ rfl (v_lss (ov rfl) (ov rfl)) ?_
  refine R_nil ?_
  refine T_keep (kc 0 rfl <| kc 1 rfl <| kc 2 rfl <| kc 8 rfl <| kc 9 rfl <| kc 10 rfl <| kc 17 rfl <| kn) rfl ?_
  refine T_if h rfl (fun b17 h => ?_) (fun b17 h => ?_)
  ·
   refine T_skip ?_
   refine T_block ?_
   refine T_keep (kc 0 rfl <| kc 1 rfl <| kc 2 rfl <| kc 8 rfl <| kc 9 rfl <| kc 10 rfl <| kn) rfl ?_
   refine T_seq (T_reg ?_)
   refine R_q _ rfl (v_move (ov rfl)) ?_
   refine R_q _ rfl (v_move (ov rfl)) ?_
   refine R_q _ rfl (v_add (ov rfl) (ov rfl) rfl) ?_
   refine R_q _ rfl (v_conv (ov rfl) tI3 tI101 rfl) ?_
   obtain ⟨q, h_q, h⟩ := bnd h
   refine R_q _ rfl (v_shrG (ov rfl) (ov rfl) h_q) ?_
   refine R_q _ rfl (v_conv (ov rfl) tI101 tI3 rfl) ?_
   refine R_q _ rfl (v_assign (ov rfl)) ?_
   refine R_nil ?_
   refine T_keep (kc 0 rfl <| kc 1 rfl <| kc 2 rfl <| kc 8 rfl <| kc 9 rfl <| kc 10 rfl <| kc 11 rfl <| kn) rfl ?_
   refine T_seq (T_reg ?_)
   refine R_q _ rfl (v_move (ov rfl)) ?_
   refine R_q _ rfl (v_move (ov rfl)) ?_
   refine R_q _ rfl (v_move (ov rfl)) ?_
   obtain ⟨x2, h_x2, h⟩ := bnd h
   refine R_q _ rfl (v_ixSG (ov rfl) (ov rfl) tL63 h_x2) ?_
   refine R_q _ rfl (v_loadA_r (ov rfl) tA60 rfl rfl) ?_
   refine R_q _ rfl (v_move (ov rfl)) ?_
   obtain ⟨y, h_y, h⟩ := bnd h
   refine R_q _ rfl (v_callC (ov rfl) cmp_d (cmp_h _ _ _ h_y) (.cons (ov rfl) (.aggB rfl) <| .cons (ov rfl) (.b rfl) <| .nil)) ?_
   refine R_q _ rfl (v_lss (ov rfl) (ov rfl)) ?_
   refine R_nil ?_
   refine T_keep (kc 0 rfl <| kc 1 rfl <| kc 2 rfl <| kc 8 rfl <| kc 9 rfl <| kc 10 rfl <| kc 11 rfl <| kc 31 rfl <| kn) rfl ?_
   refine T_if h rfl (fun b31 h => ?_) (fun b31 h => ?_)
   ·
    refine T_keep (kc 0 rfl <| kc 1 rfl <| kc 2 rfl <| kc 8 rfl <| kc 9 rfl <| kc 10 rfl <| kc 11 rfl <| kn) rfl ?_
    refine T_reg ?_
    refine R_q _ rfl (v_move (ov rfl)) ?_
    refine R_q _ rfl (v_add (ov rfl) (ov rfl) rfl) ?_
    refine R_q _ rfl (v_assign (ov rfl)) ?_
    refine R_nil ?_
    exact ⟨((i64 ((i64 q) + 1)), j), h, Ent.sel [] (sd 0 rfl rfl <| sd 1 rfl rfl <| sr 2 rfl (rFn (rld cmp_d)) <| sd 8 rfl rfl <| sd 9 rfl rfl <| sd 10 rfl rfl <| sn) (.nil) rfl rfl⟩
   ·
    refine T_keep (kc 0 rfl <| kc 1 rfl <| kc 2 rfl <| kc 8 rfl <| kc 9 rfl <| kc 10 rfl <| kc 11 rfl <| kn) rfl ?_
    refine T_reg ?_
    refine R_q _ rfl (v_move (ov rfl)) ?_
    refine R_q _ rfl (v_assign (ov rfl)) ?_
    refine R_nil ?_
    exact ⟨(i2, (i64 q)), h, Ent.sel [] (sd 0 rfl rfl <| sd 1 rfl rfl <| sr 2 rfl (rFn (rld cmp_d)) <| sd 8 rfl rfl <| sd 9 rfl rfl <| sd 10 rfl rfl <| sn) (.nil) rfl rfl⟩
  ·
   refine T_exit ?_
   rw [lx h] at ho1
   replace h := ho1
   exact ⟨i2, h, Ent.sel [] (sd 0 rfl rfl <| sd 1 rfl rfl <| sr 2 rfl (rFn (rld cmp_d)) <| sd 8 rfl rfl <| sd 9 rfl rfl <| sn) (.nil) rfl rfl⟩
 ·
  obtain ⟨i, rfl⟩ : ∃ x, x = j := ⟨_, rfl⟩
  replace h := t1i h
  refine t1T ?_
  refine T_seq (T_reg ?_)
  refine R_q _ rfl (v_move (ov rfl)) ?_
  refine R_q _ rfl (v_move (ov rfl)) ?_
  refine R_q _ rfl (v_move (ov rfl)) ?_
  refine R_q _ rfl (v_lss (ov rfl) (ov rfl)) ?_
  refine R_q _ rfl (v_move (ov rfl)) ?_
  refine R_q _ rfl (.guarded ((decide (i < (x.length : Int))) == true) rfl rfl rfl rfl fun h => v_move (ov rfl)) ?_
  refine R_q _ rfl (.guarded ((decide (i < (x.length : Int))) == true) rfl rfl rfl rfl fun h => v_move (ov rfl)) ?_
  refine R_q _ rfl (.guarded ((decide (i < (x.length : Int))) == true) rfl rfl rfl rfl fun h => v_move (ov rfl)) ?_
  obtain ⟨x3, h_x3, h⟩ := bnd h
  refine R_q _ rfl (.guarded ((decide (i < (x.length : Int))) == true) rfl rfl rfl rfl fun h => v_ixSG (ow rfl h) (ow rfl h) tL63 (gdT h_x3 h)) ?_
  refine R_q _ rfl (.guarded ((decide (i < (x.length : Int))) == true) rfl rfl rfl rfl fun h => v_loadA_r (ow rfl h) tA60 rfl rfl) ?_
  refine R_q _ rfl (.guarded ((decide (i < (x.length : Int))) == true) rfl rfl rfl rfl fun h => v_move (ov rfl)) ?_
  obtain ⟨y2, h_y2, h⟩ := bnd h
  refine R_q _ rfl (.guarded ((decide (i < (x.length : Int))) == true) rfl rfl rfl rfl fun h => v_callC (ow rfl h) cmp_d (cmp_h _ _ _ (gdT h_y2 h)) (.cons (ow rfl h) (.aggB rfl) <| .cons (ow rfl h) (.b rfl) <| .nil)) ?_
  refine R_q _ rfl (.guarded ((decide (i < (x.length : Int))) == true) rfl rfl rfl rfl fun h => v_eql (ow rfl h) (ov rfl)) ?_
  refine R_q _ rfl (v_and (ov rfl) (fun hp => ow rfl (gT hp))) ?_
  refine R_q _ rfl (v_assign (ov rfl)) ?_
  refine R_q _ rfl (v_assign (ov rfl)) ?_
  refine R_nil ?_
  obtain rfl := rt (v := (i, ((decide (i < (x.length : Int))) && (decide (y2 = 0))))) h
  refine T_ret (retq ?_ (.two (.tmp rfl (Dat.view (.b rfl))) (.tmp rfl (Dat.view (.b rfl)))))
  rfl

theorem ok_series_latest_1 {x : api_Sample} {at_ : Int} {r : Int} (h : series_latest_1 x at_ = some r) :
  CSpec Tryd.prog gl0 102 [.agg [.int .i64 x.At, .int .i64 x.N, .int .i64 x.Mark], .int .i64 at_] (.int .i64 r) := by
 unfold series_latest_1 at h
 replace h := bnd0 h
 refine spec_of (by kernel_rfl) Tryd.func102 rfl rfl ?_
 intro w0 A
 refine T_seq (T_reg ?_)
 refine R_q _ rfl (v_boxD (cva (ov rfl)) rfl tZ_60 rfl) ?_
 refine R_q _ rfl (v_assign (ov rfl)) ?_
 refine R_nil ?_
 refine T_keep (kc 1 rfl <| kc 2 rfl <| kc 4 rfl <| kn) rfl ?_
 refine T_seq (T_reg ?_)
 refine R_q _ rfl (v_fieldR (ov rfl) tF60_0) ?_
 refine R_q _ rfl (v_loadS_r (ov rfl) tS3 rfl) ?_
 refine R_q _ rfl (v_move (ov rfl)) ?_
 refine R_q _ rfl (v_sub (ov rfl) (ov rfl) rfl) ?_
 refine R_q _ rfl (v_assign (ov rfl)) ?_
 refine R_nil ?_
 obtain rfl := rt (v := (i64 (x.At - at_))) h
 refine T_ret (retq ?_ (.one (.tmp rfl (Dat.view (.b rfl)))))
 rfl

theorem ok_series_latest {s : api_Series} {at_ : Int} {r : Int} (h : series_latest s at_ = some r) :
  CSpec Tryd.prog gl0 78 [.agg [.int .i64 s.Den, .sl 60 (List.map R60 s.Samples)], .int .i64 at_] (.int .i64 r) := by
 unfold series_latest at h
 replace h := bnd0 h
 refine spec_of (by kernel_rfl) Tryd.func78 rfl rfl ?_
 intro w0 A
 refine T_seq (T_reg ?_)
 refine R_q _ rfl (v_boxD (cva (ov rfl)) rfl tZ_65 rfl) ?_
 refine R_q _ rfl (v_assign (ov rfl)) ?_
 refine R_nil ?_
 refine T_keep (kc 1 rfl <| kc 2 rfl <| kn) rfl ?_
 refine T_seq (T_reg ?_)
 refine R_q _ rfl (v_fieldR (ov rfl) tF65_1) ?_
 refine R_q _ rfl (v_loadS_r (ov rfl) tS63 rfl) ?_
 refine R_q _ rfl (v_move (ov rfl)) ?_
 obtain ⟨y, h_y, h⟩ := bnd h
 refine R_q _ rfl (v_call (ok_slices_BinarySearchFunc_api_Sample_api_Sample_int rfl (fun z0 z1 _ hz => ok_series_latest_1 hz) h_y) (.cons (ov rfl) (.b rfl) <| .cons (ov rfl) (.b rfl) <| .cons (ov rfl) (.fn) <| .nil)) ?_
 refine R_q _ rfl (v_move (ov rfl)) ?_
 refine R_q _ rfl (v_extract (ov rfl) rfl) ?_
 refine R_q _ rfl (v_extract (ov rfl) rfl) ?_
 refine R_q _ rfl (v_assign (ov rfl)) ?_
 refine R_q _ rfl (v_assign (ov rfl)) ?_
 refine R_nil ?_
 refine T_seq ?_
 refine T_keep (kc 5 rfl <| kc 6 rfl <| kn) rfl ?_
 refine T_seq (T_reg ?_)
 refine R_q _ rfl (v_move (ov rfl)) ?_
 refine R_nil ?_
 refine T_keep (kc 5 rfl <| kc 14 rfl <| kn) rfl ?_
 refine T_if h rfl (fun b14 h => ?_) (fun b14 h => ?_)
 ·
  refine T_keep (kc 5 rfl <| kn) rfl ?_
  refine T_seq (T_reg ?_)
  refine R_q _ rfl (v_move (ov rfl)) ?_
  refine R_q _ rfl (v_assign (ov rfl)) ?_
  refine R_nil ?_
  obtain rfl := rt (v := y.1) h
  refine T_ret (retq ?_ (.one (.tmp rfl (Dat.view (.b rfl)))))
  rfl
 ·
  refine T_skip ?_
  refine T_keep (kc 5 rfl <| kn) rfl ?_
  refine T_seq (T_reg ?_)
  refine R_q _ rfl (v_move (ov rfl)) ?_
  refine R_q _ rfl (v_sub (ov rfl) (ov rfl) rfl) ?_
  refine R_q _ rfl (v_assign (ov rfl)) ?_
  refine R_nil ?_
  obtain rfl := rt (v := (i64 (y.1 - 1))) h
  refine T_ret (retq ?_ (.one (.tmp rfl (Dat.view (.b rfl)))))
  rfl

theorem ok_series_solid {x : api_Sample} {r : Bool} (h : series_solid x = some r) :
  CSpec Tryd.prog gl0 79 [.agg [.int .i64 x.At, .int .i64 x.N, .int .i64 x.Mark]] (.bool r) := by
 unfold series_solid at h
 replace h := bnd0 h
 refine spec_of (by kernel_rfl) Tryd.func79 rfl rfl ?_
 intro w0 A
 refine T_seq (T_reg ?_)
 refine R_q _ rfl (v_boxD (cva (ov rfl)) rfl tZ_60 rfl) ?_
 refine R_q _ rfl (v_assign (ov rfl)) ?_
 refine R_nil ?_
 refine T_keep (kc 1 rfl <| kc 2 rfl <| kn) rfl ?_
 refine T_seq (T_reg ?_)
 refine R_q _ rfl (v_fieldR (ov rfl) tF60_2) ?_
 refine R_q _ rfl (v_loadS_r (ov rfl) tS3 rfl) ?_
 refine R_q _ rfl (v_geq (ov rfl) (ov rfl)) ?_
 refine R_q _ rfl (v_assign (ov rfl)) ?_
 refine R_nil ?_
 obtain rfl := rt (v := (decide (3 ≤ x.Mark))) h
 refine T_ret (retq ?_ (.one (.tmp rfl (Dat.view (.b rfl)))))
 rfl

theorem ok_series_hold {s : api_Series} {at_ : Int} {long : Int} {r : api_Sample × Bool} (h : series_hold s at_ long = some r) :
  CSpec Tryd.prog gl0 52 [.agg [.int .i64 s.Den, .sl 60 (List.map R60 s.Samples)], .int .i64 at_, .int .i64 long] (.tuple [.agg [.int .i64 r.1.At, .int .i64 r.1.N, .int .i64 r.1.Mark], .bool r.2]) := by
 unfold series_hold at h
 replace h := bnd0 h
 refine spec_of (by kernel_rfl) Tryd.func52 rfl rfl ?_
 intro w0 A
 refine T_seq (T_reg ?_)
 refine R_q _ rfl (v_boxD (cva (ov rfl)) rfl tZ_65 rfl) ?_
 refine R_w _ _ rfl (w_alloc (row := [_, _, _]) 0 rfl tZ60 rfl tZ_60) ?_
 refine R_q _ rfl (v_assign (ov rfl)) ?_
 refine R_nil ?_
 refine T_keep (kc 1 rfl <| kc 2 rfl <| kc 3 rfl <| kc 6 rfl <| kn) rfl ?_
 refine T_seq (T_reg ?_)
 refine R_q _ rfl (v_loadA_r (ov rfl) tA65 rfl rfl) ?_
 refine R_q _ rfl (v_move (ov rfl)) ?_
 obtain ⟨y, h_y, h⟩ := bnd h
 refine R_q _ rfl (v_call (ok_series_latest h_y) (.cons (ov rfl) (.aggB rfl) <| .cons (ov rfl) (.b rfl) <| .nil)) ?_
 refine R_q _ rfl (v_assign (ov rfl)) ?_
 refine R_nil ?_
 refine T_seq ?_
 refine T_keep (kc 1 rfl <| kc 2 rfl <| kc 3 rfl <| kc 6 rfl <| kc 8 rfl <| kn) rfl ?_
 refine T_seq (T_reg ?_)
 refine R_q _ rfl (v_move (ov rfl)) ?_
 refine R_q _ rfl (v_lss (ov rfl) (ov rfl)) ?_
 refine R_q _ rfl (v_move (ov rfl)) ?_
 refine R_q _ rfl (.guarded ((decide (y < 0)) == false) rfl rfl rfl rfl fun h => v_fieldR (ov rfl) tF65_1) ?_
 refine R_q _ rfl (.guarded ((decide (y < 0)) == false) rfl rfl rfl rfl fun h => v_loadS_r (ow rfl h) tS63 rfl) ?_
 refine R_q _ rfl (.guarded ((decide (y < 0)) == false) rfl rfl rfl rfl fun h => v_move (ov rfl)) ?_
 obtain ⟨x, h_x, h⟩ := bnd h
 refine R_q _ rfl (.guarded ((decide (y < 0)) == false) rfl rfl rfl rfl fun h => v_ixSG (ow rfl h) (ow rfl h) tL63 (gdT h_x h)) ?_
 refine R_q _ rfl (.guarded ((decide (y < 0)) == false) rfl rfl rfl rfl fun h => v_loadA_r (ow rfl h) tA60 rfl rfl) ?_
 obtain ⟨y2, h_y2, h⟩ := bnd h
 refine R_q _ rfl (.guarded ((decide (y < 0)) == false) rfl rfl rfl rfl fun h => v_call (ok_series_solid (gdT h_y2 h)) (.cons (ow rfl h) (.aggB rfl) <| .nil)) ?_
 refine R_q _ rfl (.guarded ((decide (y < 0)) == false) rfl rfl rfl rfl fun h => v_not (ow rfl h)) ?_
 refine R_q _ rfl (v_or (ov rfl) (fun hp => ow rfl (gF hp))) ?_
 refine R_q _ rfl (v_move (ov rfl)) ?_
 refine R_q _ rfl (.guarded (((decide (y < 0)) || (!y2)) == false) rfl rfl rfl rfl fun h => v_move (ov rfl)) ?_
 refine R_q _ rfl (.guarded (((decide (y < 0)) || (!y2)) == false) rfl rfl rfl rfl fun h => v_fieldR (ov rfl) tF65_1) ?_
 refine R_q _ rfl (.guarded (((decide (y < 0)) || (!y2)) == false) rfl rfl rfl rfl fun h => v_loadS_r (ow rfl h) tS63 rfl) ?_
 refine R_q _ rfl (.guarded (((decide (y < 0)) || (!y2)) == false) rfl rfl rfl rfl fun h => v_move (ov rfl)) ?_
 obtain ⟨x2, h_x2, h⟩ := bnd h
 refine R_q _ rfl (.guarded (((decide (y < 0)) || (!y2)) == false) rfl rfl rfl rfl fun h => v_ixSG (ow rfl h) (ow rfl h) tL63 (gdT h_x2 h)) ?_
 refine R_q _ rfl (.guarded (((decide (y < 0)) || (!y2)) == false) rfl rfl rfl rfl fun h => v_fieldR (ow rfl h) tF60_0) ?_
 refine R_q _ rfl (.guarded (((decide (y < 0)) || (!y2)) == false) rfl rfl rfl rfl fun h => v_loadS_r (ow rfl h) tS3 rfl) ?_
 refine R_q _ rfl (.guarded (((decide (y < 0)) || (!y2)) == false) rfl rfl rfl rfl fun h => v_sub (ow rfl h) (ow rfl h) rfl) ?_
 refine R_q _ rfl (.guarded (((decide (y < 0)) || (!y2)) == false) rfl rfl rfl rfl fun h => v_move (ov rfl)) ?_
 refine R_q _ rfl (.guarded (((decide (y < 0)) || (!y2)) == false) rfl rfl rfl rfl fun h => v_gtr (ow rfl h) (ow rfl h)) ?_
 refine R_q _ rfl (v_or (ov rfl) (fun hp => ow rfl (gF hp))) ?_
 refine R_nil ?_
 refine T_keep (kc 3 rfl <| kc 6 rfl <| kc 8 rfl <| kc 34 rfl <| kn) rfl ?_
 refine T_if h rfl (fun b34 h => ?_) (fun b34 h => ?_)
 ·
  refine T_keep (kc 6 rfl <| kn) rfl ?_
  refine T_seq (T_reg ?_)
  refine R_q _ rfl (v_build (ys := [_, _, _]) tPL60 tHA60 tZ60 (.nil) rfl) ?_
  refine R_w _ _ rfl (w_store (ov rfl) (ov rfl) (cells_agg tA60 rfl) rfl rfl rfl (Nat.le_of_ble_eq_true rfl) (cell1_all rfl) rfl) ?_
  refine R_q _ rfl (v_assign (ov rfl)) ?_
  refine R_nil ?_
  obtain rfl := rt (v := ((api_Sample.mk 0 0 0), false)) h
  refine T_ret (retq ?_ (.two (.agg rfl rfl rfl rfl tA60 rfl rfl (pwB rfl)) (.tmp rfl (Dat.view (.b rfl)))))
  rfl
 ·
  refine T_skip ?_
  refine T_keep (kc 3 rfl <| kc 6 rfl <| kc 8 rfl <| kn) rfl ?_
  refine T_seq (T_reg ?_)
  refine R_q _ rfl (v_fieldR (ov rfl) tF65_1) ?_
  refine R_q _ rfl (v_loadS_r (ov rfl) tS63 rfl) ?_
  refine R_q _ rfl (v_move (ov rfl)) ?_
  obtain ⟨x3, h_x3, h⟩ := bnd h
  refine R_q _ rfl (v_ixSG (ov rfl) (ov rfl) tL63 h_x3) ?_
  refine R_q _ rfl (v_loadA_r (ov rfl) tA60 rfl rfl) ?_
  refine R_w _ _ rfl (w_store (ov rfl) (ov rfl) (cells_agg tA60 rfl) rfl rfl rfl (Nat.le_of_ble_eq_true rfl) (cell1_all rfl) rfl) ?_
  refine R_q _ rfl (v_assign (ov rfl)) ?_
  refine R_nil ?_
  obtain rfl := rt (v := (x3, true)) h
  refine T_ret (retq ?_ (.two (.agg rfl rfl rfl rfl tA60 rfl rfl (pwB rfl)) (.tmp rfl (Dat.view (.b rfl)))))
  rfl

theorem ok_series_Hold {s : api_Series} {at_ : Int} {long : Int} {r : api_Sample × Bool × Int} (h : series_Hold s at_ long = some r) :
  CSpec Tryd.prog gl0 23 [.agg [.int .i64 s.Den, .sl 60 (List.map R60 s.Samples)], .int .i64 at_, .int .i64 long] (.tuple [.agg [.int .i64 r.1.At, .int .i64 r.1.N, .int .i64 r.1.Mark], .bool r.2.1, .int .i64 r.2.2]) := by
 unfold series_Hold at h
 replace h := bnd0 h
 refine spec_of (by kernel_rfl) Tryd.func23 rfl rfl ?_
 intro w0 A
 refine T_seq (T_reg ?_)
 refine R_q _ rfl (v_boxD (cva (ov rfl)) rfl tZ_65 rfl) ?_
 refine R_w _ _ rfl (w_alloc (row := [_, _, _]) 0 rfl tZ60 rfl tZ_60) ?_
 refine R_q _ rfl (v_assign (ov rfl)) ?_
 refine R_q _ rfl (v_assign (ov rfl)) ?_
 refine R_nil ?_
 refine T_seq ?_
 refine T_keep (kc 1 rfl <| kc 2 rfl <| kc 3 rfl <| kc 6 rfl <| kn) rfl ?_
 refine T_seq (T_reg ?_)
 refine R_q _ rfl (v_loadA_r (ov rfl) tA65 rfl rfl) ?_
 obtain ⟨y, h_y, h⟩ := bnd h
 refine R_q _ rfl (v_call (ok_series_Check h_y) (.cons (ov rfl) (.aggB rfl) <| .nil)) ?_
 refine R_q _ rfl (v_assign (ov rfl)) ?_
 refine R_nil ?_
 refine T_keep (kc 1 rfl <| kc 2 rfl <| kc 3 rfl <| kc 6 rfl <| kc 9 rfl <| kn) rfl ?_
 refine T_seq (T_reg ?_)
 refine R_q _ rfl (v_move (ov rfl)) ?_
 refine R_q _ rfl (v_neq (ov rfl) (ov rfl)) ?_
 refine R_nil ?_
 refine T_keep (kc 1 rfl <| kc 2 rfl <| kc 3 rfl <| kc 6 rfl <| kc 9 rfl <| kc 15 rfl <| kn) rfl ?_
 refine T_if h rfl (fun b15 h => ?_) (fun b15 h => ?_)
 ·
  refine T_keep (kc 6 rfl <| kc 9 rfl <| kn) rfl ?_
  refine T_seq (T_reg ?_)
  refine R_q _ rfl (v_build (ys := [_, _, _]) tPL60 tHA60 tZ60 (.nil) rfl) ?_
  refine R_q _ rfl (v_move (ov rfl)) ?_
  refine R_w _ _ rfl (w_store (ov rfl) (ov rfl) (cells_agg tA60 rfl) rfl rfl rfl (Nat.le_of_ble_eq_true rfl) (cell1_all rfl) rfl) ?_
  refine R_q _ rfl (v_assign (ov rfl)) ?_
  refine R_q _ rfl (v_assign (ov rfl)) ?_
  refine R_nil ?_
  obtain rfl := rt (v := ((api_Sample.mk 0 0 0), false, y)) h
  refine T_ret (retq ?_ (.three (.agg rfl rfl rfl rfl tA60 rfl rfl (pwB rfl)) (.tmp rfl (Dat.view (.b rfl))) (.tmp rfl (Dat.view (.b rfl)))))
  rfl
 ·
  refine T_skip ?_
  refine T_seq ?_
  refine T_keep (kc 1 rfl <| kc 2 rfl <| kc 3 rfl <| kc 6 rfl <| kn) rfl ?_
  refine T_seq (T_reg ?_)
  refine R_q _ rfl (v_move (ov rfl)) ?_
  obtain ⟨y2, h_y2, h⟩ := bnd h
  refine R_q _ rfl (v_call (ok_series_within h_y2) (.cons (ov rfl) (.b rfl) <| .cons (ov rfl) (.b rfl) <| .cons (ov rfl) (.b rfl) <| .nil)) ?_
  refine R_q _ rfl (v_not (ov rfl)) ?_
  refine R_q _ rfl (v_move (ov rfl)) ?_
  refine R_q _ rfl (.guarded ((!y2) == false) rfl rfl rfl rfl fun h => v_move (ov rfl)) ?_
  obtain ⟨y3, h_y3, h⟩ := bnd h
  refine R_q _ rfl (.guarded ((!y2) == false) rfl rfl rfl rfl fun h => v_call (ok_series_within (gdT h_y3 h)) (.cons (ow rfl h) (.b rfl) <| .cons (ov rfl) (.b rfl) <| .cons (ov rfl) (.b rfl) <| .nil)) ?_
  refine R_q _ rfl (.guarded ((!y2) == false) rfl rfl rfl rfl fun h => v_not (ow rfl h)) ?_
  refine R_q _ rfl (v_or (ov rfl) (fun hp => ow rfl (gF hp))) ?_
  refine R_nil ?_
  refine T_keep (kc 1 rfl <| kc 2 rfl <| kc 3 rfl <| kc 6 rfl <| kc 25 rfl <| kn) rfl ?_
  refine T_if h rfl (fun b25 h => ?_) (fun b25 h => ?_)
  ·
   refine T_keep (kc 6 rfl <| kn) rfl ?_
   refine T_seq (T_reg ?_)
   refine R_q _ rfl (v_build (ys := [_, _, _]) tPL60 tHA60 tZ60 (.nil) rfl) ?_
   refine R_w _ _ rfl (w_store (ov rfl) (ov rfl) (cells_agg tA60 rfl) rfl rfl rfl (Nat.le_of_ble_eq_true rfl) (cell1_all rfl) rfl) ?_
   refine R_q _ rfl (v_assign (ov rfl)) ?_
   refine R_q _ rfl (v_assign (ov rfl)) ?_
   refine R_nil ?_
   obtain rfl := rt (v := ((api_Sample.mk 0 0 0), false, 9)) h
   refine T_ret (retq ?_ (.three (.agg rfl rfl rfl rfl tA60 rfl rfl (pwB rfl)) (.tmp rfl (Dat.view (.b rfl))) (.tmp rfl (Dat.view (.b rfl)))))
   rfl
  ·
   refine T_skip ?_
   refine T_keep (kc 1 rfl <| kc 2 rfl <| kc 3 rfl <| kc 6 rfl <| kn) rfl ?_
   refine T_seq (T_reg ?_)
   refine R_q _ rfl (v_loadA_r (ov rfl) tA65 rfl rfl) ?_
   refine R_q _ rfl (v_move (ov rfl)) ?_
   refine R_q _ rfl (v_move (ov rfl)) ?_
   obtain ⟨y4, h_y4, h⟩ := bnd h
   refine R_q _ rfl (v_call (ok_series_hold h_y4) (.cons (ov rfl) (.aggB rfl) <| .cons (ov rfl) (.b rfl) <| .cons (ov rfl) (.b rfl) <| .nil)) ?_
   refine R_q _ rfl (v_move (ov rfl)) ?_
   refine R_q _ rfl (v_extract (ov rfl) rfl) ?_
   refine R_q _ rfl (v_extract (ov rfl) rfl) ?_
   refine R_w _ _ rfl (w_alloc (row := [_, _, _]) 1 rfl tZ60 rfl tZ_60) ?_
   refine R_w _ _ rfl (w_store (ov rfl) (ov rfl) (cells_agg tA60 rfl) rfl rfl rfl (Nat.le_of_ble_eq_true rfl) (cell1_all rfl) rfl) ?_
   refine R_q _ rfl (v_assign (ov rfl)) ?_
   refine R_nil ?_
   refine T_keep (kc 6 rfl <| kc 10 rfl <| kc 11 rfl <| kn) rfl ?_
   refine T_seq (T_reg ?_)
   refine R_q _ rfl (v_loadA (ov rfl) rfl rfl rfl tA60 rfl rfl) ?_
   refine R_q _ rfl (v_move (ov rfl)) ?_
   refine R_w _ _ rfl (w_store (ov rfl) (ov rfl) (cells_agg tA60 rfl) rfl rfl rfl (Nat.le_of_ble_eq_true rfl) (cell1_all rfl) rfl) ?_
   refine R_q _ rfl (v_assign (ov rfl)) ?_
   refine R_q _ rfl (v_assign (ov rfl)) ?_
   refine R_nil ?_
   obtain rfl := rt (v := (y4.1, y4.2, 0)) h
   refine T_ret (retq ?_ (.three (.agg rfl rfl rfl rfl tA60 rfl rfl (pwB rfl)) (.tmp rfl (Dat.view (.b rfl))) (.tmp rfl (Dat.view (.b rfl)))))
   rfl

theorem ok_law5_holds  {r : Bool} (h : law5_holds  = some r) :
  CSpec Tryd.prog gl0 8 [] (.bool r) := by
 unfold law5_holds at h
 replace h := bnd0 h
 refine spec_of (by kernel_rfl) Tryd.func8 rfl rfl ?_
 intro w0 A
 refine T_seq (T_reg ?_)
 refine R_q _ rfl (v_assign (ov rfl)) ?_
 refine R_nil ?_
 refine T_keep (kn) rfl ?_
 refine T_seq (T_reg ?_)
 refine R_q _ rfl (v_build (ys := [_, _, _]) tPL60 tHA60 tZ60 (.cons (cvs (ov rfl) (cell1_b rfl)) <| .cons (cvs (ov rfl) (cell1_b rfl)) <| .cons (cvs (ov rfl) (cell1_b rfl)) <| .nil) rfl) ?_
 refine R_q (.sl 60 (List.map R60 ([(api_Sample.mk 5 7 4)] : List api_Sample))) rfl (v_lit tL63 (.cons (cva (ov rfl)) rfl (pwD rfl) <| .nil) rfl rfl) ?_
 refine R_q _ rfl (v_build (ys := [_, _]) tPL65 tHA65 tZ65 (.cons (cvs (ov rfl) (cell1_b rfl)) <| .cons (cvs (ov rfl) (cell1_b rfl)) <| .nil) rfl) ?_
 obtain ⟨y, h_y, h⟩ := bnd h
 refine R_q _ rfl (v_call (ok_series_Hold h_y) (.cons (ov rfl) (.aggB rfl) <| .cons (ov rfl) (.b rfl) <| .cons (ov rfl) (.b rfl) <| .nil)) ?_
 refine R_q _ rfl (v_move (ov rfl)) ?_
 refine R_q _ rfl (v_extract (ov rfl) rfl) ?_
 refine R_q _ rfl (v_extract (ov rfl) rfl) ?_
 refine R_q _ rfl (v_extract (ov rfl) rfl) ?_
 refine R_w _ _ rfl (w_alloc (row := [_, _, _]) 0 rfl tZ60 rfl tZ_60) ?_
 refine R_w _ _ rfl (w_store (ov rfl) (ov rfl) (cells_agg tA60 rfl) rfl rfl rfl (Nat.le_of_ble_eq_true rfl) (cell1_all rfl) rfl) ?_
 refine R_q _ rfl (v_assign (ov rfl)) ?_
 refine R_q _ rfl (v_assign (ov rfl)) ?_
 refine R_nil ?_
 refine T_keep (kc 1 rfl <| kc 2 rfl <| kc 3 rfl <| kn) rfl ?_
 refine T_seq (T_reg ?_)
 refine R_q _ rfl (v_move (ov rfl)) ?_
 refine R_q _ rfl (v_move (ov rfl)) ?_
 refine R_q _ rfl (.guarded (y.2.1 == true) rfl rfl rfl rfl fun h => v_move (ov rfl)) ?_
 refine R_q _ rfl (.guarded (y.2.1 == true) rfl rfl rfl rfl fun h => v_eql (ow rfl h) (ov rfl)) ?_
 refine R_q _ rfl (v_and (ov rfl) (fun hp => ow rfl (gT hp))) ?_
 refine R_q _ rfl (v_move (ov rfl)) ?_
 refine R_q _ rfl (.guarded ((y.2.1 && (decide (y.2.2 = 0))) == true) rfl rfl rfl rfl fun h => v_loadA (ov rfl) rfl rfl rfl tA60 rfl rfl) ?_
 refine R_q _ rfl (.guarded ((y.2.1 && (decide (y.2.2 = 0))) == true) rfl rfl rfl rfl fun h => v_build (ys := [_, _, _]) tPL60 tHA60 tZ60 (.cons (cvs (ov rfl) (cell1_b rfl)) <| .cons (cvs (ov rfl) (cell1_b rfl)) <| .cons (cvs (ov rfl) (cell1_b rfl)) <| .nil) rfl) ?_
 refine R_q _ rfl (.guarded ((y.2.1 && (decide (y.2.2 = 0))) == true) rfl rfl rfl rfl fun h => v_eqlS tFS60 (ow rfl h) (ow rfl h) (.aggB rfl) (.aggB rfl) rfl rfl) ?_
 refine R_q _ rfl (v_and (ov rfl) (fun hp => ow rfl (gT hp))) ?_
 refine R_q _ rfl (v_assign (ov rfl)) ?_
 refine R_nil ?_
 obtain rfl := rt (v := ((y.2.1 && (decide (y.2.2 = 0))) && (decide (y.1.At = 5) && (decide (y.1.N = 7) && (decide (y.1.Mark = 4) && true))))) h
 refine T_ret (retq ?_ (.one (.tmp rfl (Dat.view (.b rfl)))))
 rfl

theorem ok_law5_SeriesTimesMatchSpec {p : api_Param} {first : Int} {r : Bool} (h : law5_SeriesTimesMatchSpec p first = some r) :
  CSpec Tryd.prog gl0 3 [.agg [.str p.Name, .int .i64 p.Kind, .sl 113 (List.map R113 p.Parts), .int .i64 p.First, .int .i64 p.Every, .int .i64 p.Times, .int .i64 p.Step, .sl 9 (List.map R9 p.Names)], .int .i64 first] (.bool r) := by
 unfold law5_SeriesTimesMatchSpec at h
 replace h := bnd0 h
 refine spec_of (by kernel_rfl) Tryd.func3 rfl rfl ?_
 intro w0 A
 refine T_seq (T_reg ?_)
 refine R_q _ rfl (v_boxD (cva (ov rfl)) rfl tZ_25 rfl) ?_
 refine R_q _ rfl (v_assign (ov rfl)) ?_
 refine R_nil ?_
 refine T_keep (kc 1 rfl <| kc 2 rfl <| kn) rfl ?_
 refine T_seq (T_reg ?_)
 refine R_q _ rfl (v_loadA_r (ov rfl) tA25 rfl rfl) ?_
 refine R_q _ rfl (v_move (ov rfl)) ?_
 obtain ⟨y, h_y, h⟩ := bnd h
 refine R_q _ rfl (v_call (ok_series_Times h_y) (.cons (ov rfl) (.aggB rfl) <| .cons (ov rfl) (.b rfl) <| .nil)) ?_
 refine R_q _ rfl (v_move (ov rfl)) ?_
 refine R_q _ rfl (v_extract (ov rfl) rfl) ?_
 refine R_q _ rfl (v_extract (ov rfl) rfl) ?_
 refine R_q _ rfl (v_assign (ov rfl)) ?_
 refine R_q _ rfl (v_assign (ov rfl)) ?_
 refine R_nil ?_
 refine T_seq ?_
 refine T_keep (kc 1 rfl <| kc 2 rfl <| kc 5 rfl <| kc 6 rfl <| kn) rfl ?_
 refine T_seq (T_draw (cw := md0) (by kernel_rfl) ?_)
 refine D_q0 0 _ rfl (by kernel_rfl) rfl rfl (v_move (ov rfl)) ?_
 refine D_q0 1 _ rfl (by kernel_rfl) rfl rfl (v_move (ov rfl)) ?_
 obtain ⟨y2, h_y2, h⟩ := bnd h
 refine D_q0 2 _ rfl (by kernel_rfl) rfl rfl (v_call (ok_law5_ints h_y2) (.cons (ov rfl) (.b rfl) <| .cons (ov rfl) (.b rfl) <| .nil)) ?_
 refine D_q0 3 _ rfl (by kernel_rfl) rfl rfl (v_loadA_r (ov rfl) tA25 rfl rfl) ?_
 refine D_q0 4 _ rfl (by kernel_rfl) rfl rfl (v_move (ov rfl)) ?_
 obtain ⟨y3, h_y3, h⟩ := bnd h
 refine D_q0 5 _ rfl (by kernel_rfl) rfl rfl (v_call (ok_ref5_Times h_y3) (.cons (ov rfl) (.aggB rfl) <| .cons (ov rfl) (.b rfl) <| .nil)) ?_
 refine D_q0 6 _ rfl (by kernel_rfl) rfl rfl (v_extract (ov rfl) rfl) ?_
 refine D_q0 7 _ rfl (by kernel_rfl) rfl rfl (v_extract (ov rfl) rfl) ?_
 obtain ⟨y4, h_y4, h⟩ := bnd h
 refine D_q0 8 _ rfl (by kernel_rfl) rfl rfl (v_call (ok_law5_ints h_y4) (.cons (ov rfl) (.b rfl) <| .cons (ov rfl) (.b rfl) <| .nil)) ?_
 refine D_q0 9 _ rfl (by kernel_rfl) rfl rfl (v_neqStr (ov rfl) (ov rfl)) ?_
 refine D_done (by kernel_rfl) ?_
 refine T_keep (kc 5 rfl <| kc 23 rfl <| kn) rfl ?_
 refine T_if h rfl (fun b23 h => ?_) (fun b23 h => ?_)
 ·
  refine T_keep (kn) rfl ?_
  refine T_seq (T_reg ?_)
  refine R_q _ rfl (v_assign (ov rfl)) ?_
  refine R_nil ?_
  obtain rfl := rt (v := false) h
  refine T_ret (retq ?_ (.one (.tmp rfl (Dat.view (.b rfl)))))
  rfl
 ·
  refine T_skip ?_
  refine T_joinG (fun j => (.inr j)) (t0 ⟨[], []⟩) h (fun h => ?_) (fun j h => ?_)
  ·
   refine T_keep (kc 5 rfl <| kn) rfl ?_
   refine T_seq (T_reg ?_)
   refine R_q _ rfl (v_assign (ov rfl)) ?_
   refine R_nil ?_
   refine T_block ?_
   obtain ⟨r1, hl1, ho1⟩ := bndL h
   refine T_loopG _ (t1 fun i => ⟨[(5, .sl 3 (List.map R3 y.1)), (7, .int .i64 i)], []⟩) _ hl1 (Ent.sel [] (sd 5 rfl rfl <| sd 7 rfl rfl <| sn) (.nil) rfl rfl) (fun n1 s1 h => ?_)
   obtain ⟨i, rfl⟩ : ∃ x, x = s1 := ⟨_, rfl⟩
   replace h := t1i h
   refine t1T ?_
   unfold law5_SeriesTimesMatchSpec_L1 at h
   refine T_seq ?_
   refine T_seq (T_reg ?_)
   refine R_q _ rfl (v_move (ov rfl)) ?_
   refine R_q _ rfl (v_move (ov rfl)) ?_
   refine R_q _ rfl (v_len (slv_sl (ov rfl) tZ_3) tL26 (len_map _ _)) ?_
   refine R_q _ rfl (v_lss (ov rfl) (ov rfl)) ?_
   refine R_nil ?_
   refine T_keep (kc 5 rfl <| kc 7 rfl <| kc 27 rfl <| kn) rfl ?_
   refine T_if h rfl (fun b27 h => ?_) (fun b27 h => ?_)
   ·
    refine T_skip ?_
    refine T_seq ?_
    refine T_block ?_
    refine T_keep (kc 5 rfl <| kc 7 rfl <| kn) rfl ?_
    refine T_seq (T_draw (cw := md0) (by kernel_rfl) ?_)
    refine D_q0 0 _ rfl (by kernel_rfl) rfl rfl (v_move (ov rfl)) ?_
    refine D_q0 1 _ rfl (by kernel_rfl) rfl rfl (v_move (ov rfl)) ?_
    obtain ⟨x, h_x, h⟩ := bnd h
    refine D_q0 2 _ rfl (by kernel_rfl) rfl rfl (v_ixSG (ov rfl) (ov rfl) tL26 h_x) ?_
    refine D_q0 3 _ rfl (by kernel_rfl) rfl rfl (v_loadS_r (ov rfl) tS3 rfl) ?_
    refine D_q0 4 _ rfl (by kernel_rfl) rfl rfl (v_move (ov rfl)) ?_
    refine D_q0 5 _ rfl (by kernel_rfl) rfl rfl (v_move (ov rfl)) ?_
    refine D_q0 6 _ rfl (by kernel_rfl) rfl rfl (v_sub (ov rfl) (ov rfl) rfl) ?_
    obtain ⟨x2, h_x2, h⟩ := bnd h
    refine D_q0 7 _ rfl (by kernel_rfl) rfl rfl (v_ixSG (ov rfl) (ov rfl) tL26 h_x2) ?_
    refine D_q0 8 _ rfl (by kernel_rfl) rfl rfl (v_loadS_r (ov rfl) tS3 rfl) ?_
    refine D_q0 9 _ rfl (by kernel_rfl) rfl rfl (v_leq (ov rfl) (ov rfl)) ?_
    refine D_done (by kernel_rfl) ?_
    refine T_keep (kc 5 rfl <| kc 7 rfl <| kc 39 rfl <| kn) rfl ?_
    refine T_if h rfl (fun b39 h => ?_) (fun b39 h => ?_)
    ·
     refine T_keep (kn) rfl ?_
     refine T_seq (T_reg ?_)
     refine R_q _ rfl (v_assign (ov rfl)) ?_
     refine R_nil ?_
     rw [lx h] at ho1
     replace h := ho1
     obtain rfl := rt (v := false) h
     refine T_ret (retq ?_ (.one (.tmp rfl (Dat.view (.b rfl)))))
     rfl
    ·
     refine T_skip ?_
     refine T_keep (kc 5 rfl <| kc 7 rfl <| kn) rfl ?_
     refine T_reg ?_
     refine R_q _ rfl (v_move (ov rfl)) ?_
     refine R_q _ rfl (v_add (ov rfl) (ov rfl) rfl) ?_
     refine R_q _ rfl (v_assign (ov rfl)) ?_
     refine R_nil ?_
     exact ⟨(i64 (i + 1)), h, Ent.sel [] (sd 5 rfl rfl <| sd 7 rfl rfl <| sn) (.nil) rfl rfl⟩
   ·
    refine T_exit ?_
    rw [lx h] at ho1
    replace h := ho1
    exact ⟨(), h, Ent.sel [] (sn) (.nil) rfl rfl⟩
  ·
   replace h := elr h
   cases j
   replace h := t0i h
   refine t0T ?_
   refine T_seq (T_reg ?_)
   obtain ⟨y5, h_y5, h⟩ := bnd h
   refine R_q _ rfl (v_call (ok_law5_holds h_y5) (.nil)) ?_
   refine R_q _ rfl (v_assign (ov rfl)) ?_
   refine R_nil ?_
   obtain rfl := rt (v := y5) h
   refine T_ret (retq ?_ (.one (.tmp rfl (Dat.view (.b rfl)))))
   rfl
end Go.Proofs.YtciaeohnkfnamaaDoor
