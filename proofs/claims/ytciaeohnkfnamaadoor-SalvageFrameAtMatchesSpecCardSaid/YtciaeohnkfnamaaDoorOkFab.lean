/- A text of the proof: a verified executor of the program form, or the contracts of the functions that the law reaches. -/
import Derived.Test.YtciaeohnkfnamaaDoorOkFaa
set_option linter.all false
namespace Go.Proofs.YtciaeohnkfnamaaDoor
open Go Go.Vx
set_option maxRecDepth 10000
set_option maxHeartbeats 1000000
set_option linter.unusedVariables false
theorem ok_salvage_certain_o {h_ : List Int} {r : (List api_Found)} (h : salvage_certain h_ = some r) :
  GSpec Tryd.prog gl0 105 [.sl 5 (List.map R5 h_)] [] (.own 0 r.length) [some ⟨141, List.map R141 r⟩] := by
 unfold salvage_certain at h
 replace h := bnd0 h
 refine gspec_of (by kernel_rfl) Tryd.func105 rfl rfl ?_
 intro w0 A W φ0
 refine T_seq (T_reg ?_)
 refine R_q _ rfl (v_assign (ov rfl)) ?_
 refine R_nil ?_
 refine T_keep (kc 0 rfl <| kn) rfl ?_
 refine T_seq (T_reg ?_)
 refine R_q _ rfl (v_move (ov rfl)) ?_
 obtain ⟨y, h_y, h⟩ := bnd h
 refine R_q _ rfl (v_call (ok_salvage_scan h_y) (.cons (ov rfl) (.b rfl) <| .nil)) ?_
 refine R_q _ rfl (v_assign (ov rfl)) ?_
 refine R_nil ?_
 refine T_keep (kc 3 rfl <| kn) rfl ?_
 refine T_seq (T_reg ?_)
 refine R_q _ rfl (v_assign (ov rfl)) ?_
 refine R_nil ?_
 refine T_joinG id (t1 fun out => ⟨[(4, .own 0 out.length)], [some ⟨141, List.map R141 out⟩]⟩) h (fun h => ?_) (fun j h => ?_)
 ·
  refine T_seq (T_reg ?_)
  refine R_q _ rfl (v_move (ov rfl)) ?_
  refine R_q _ rfl (v_len (slv_sl (ov rfl) tZ_141) tL137 (len_map _ _)) ?_
  refine R_q _ rfl (v_move (ov rfl)) ?_
  refine R_nil ?_
  refine T_block ?_
  obtain ⟨r1, hl1, ho1⟩ := bndL h
  refine T_loopG _ (t2 fun out2 i => ⟨[(3, .sl 141 (List.map R141 y)), (4, .own 0 out2.length), (9, .sl 141 (List.map R141 y)), (10, .int .i64 (y.length : Int)), (11, .int .i64 i)], [some ⟨141, List.map R141 out2⟩]⟩) _ hl1 (Ent.sel [none] (sd 3 rfl rfl <| sr 4 rfl (.row rfl) <| sd 9 rfl rfl <| sd 10 rfl rfl <| sd 11 rfl rfl <| sn) (.row 141 <| .nil) rfl rfl) (fun n1 s1 h => ?_)
  obtain ⟨out2, i⟩ := s1
  replace h := t2i h
  refine t2T ?_
  unfold salvage_certain_L1 at h
  refine T_seq (T_reg ?_)
  refine R_q _ rfl (v_lss (ov rfl) (ov rfl)) ?_
  refine R_nil ?_
  refine T_seq ?_
  refine T_if h rfl (fun b12 h => ?_) (fun b12 h => ?_)
  ·
   refine T_skip ?_
   refine T_seq ?_
   refine T_block ?_
   refine T_keep (kc 3 rfl <| kc 4 rfl <| kc 9 rfl <| kc 10 rfl <| kc 11 rfl <| kn) rfl ?_
   refine T_seq (T_reg ?_)
   refine R_q _ rfl (v_move (ov rfl)) ?_
   obtain ⟨x, h_x, h⟩ := bnd h
   refine R_q _ rfl (v_ixSG (ov rfl) (ov rfl) tL137 h_x) ?_
   refine R_q _ rfl (v_loadA_r (ov rfl) tA141 (at_sub (at_all (lnC (n := 64) (lnA (m := 64) (n := 0) arL (lnN))))) (lnC (n := 64) (lnA (m := 64) (n := 0) arL (lnN)))) ?_
   refine R_w _ _ rfl (w_alloc (row := (.int .i64 0) :: ((List.map C36 (Vector.replicate 64 0).toList) ++ ([]))) 1 rfl tZ141 (by kernel_rfl) (by exact Eq.symm (Eq.trans (b := 65) (lnC (n := 64) (lnA (m := 64) (n := 0) arL (lnN))) tZ_141.symm))) ?_
   refine R_q _ rfl (v_assign (ov rfl)) ?_
   refine R_w _ _ rfl (w_store (ov rfl) (ov rfl) (cells_agg tA141 (lnC (n := 64) (lnA (m := 64) (n := 0) arL (lnN)))) rfl rfl rfl (put_le (at_all (lnC (n := 64) (lnA (m := 64) (n := 0) arL (lnN)))) (lnC (n := 64) (lnA (m := 64) (n := 0) arL (lnN)))) (cell1_all (alC rfl (alA (arC fun _ => rfl) (alN)))) (put_all (Eq.trans (lnC (n := 64) (lnA (m := 64) (n := 0) arL (lnN))) (Eq.symm (lnC (n := 64) (lnA (m := 64) (n := 0) arL (lnN))))))) ?_
   refine R_nil ?_
   refine T_keep (kc 3 rfl <| kc 4 rfl <| kc 5 rfl <| kc 6 rfl <| kc 9 rfl <| kc 10 rfl <| kc 11 rfl <| kn) rfl ?_
   refine T_seq (T_draw (cw := md0) (by kernel_rfl) ?_)
   refine D_q0 0 _ rfl (by kernel_rfl) rfl rfl (v_move (ov rfl)) ?_
   refine D_q0 1 _ rfl (by kernel_rfl) rfl rfl (v_eql (ov rfl) (ov rfl)) ?_
   refine D_q0 2 _ rfl (by kernel_rfl) rfl rfl (v_move (ov rfl)) ?_
   refine D_q0 3 _ rfl (by kernel_rfl) rfl rfl (.guarded ((decide (i = 0)) == false) rfl rfl rfl rfl fun h => v_fieldP (ov rfl) rfl rfl tF141_0) ?_
   refine D_q0 4 _ rfl (by kernel_rfl) rfl rfl (.guarded ((decide (i = 0)) == false) rfl rfl rfl rfl fun h => v_loadS (ow rfl h) rfl rfl rfl tS3 (at_get (at0 (hdc (n := 0) hd0)))) ?_
   refine D_q0 5 _ rfl (by kernel_rfl) rfl rfl (.guarded ((decide (i = 0)) == false) rfl rfl rfl rfl fun h => v_move (ov rfl)) ?_
   refine D_q0 6 _ rfl (by kernel_rfl) rfl rfl (.guarded ((decide (i = 0)) == false) rfl rfl rfl rfl fun h => v_move (ov rfl)) ?_
   refine D_q0 7 _ rfl (by kernel_rfl) rfl rfl (.guarded ((decide (i = 0)) == false) rfl rfl rfl rfl fun h => v_sub (ow rfl h) (ov rfl) rfl) ?_
   obtain ⟨x2, h_x2, h⟩ := bnd h
   refine D_q0 8 _ rfl (by kernel_rfl) rfl rfl (.guarded ((decide (i = 0)) == false) rfl rfl rfl rfl fun h => v_ixSG (ow rfl h) (ow rfl h) tL137 (gdT h_x2 h)) ?_
   refine D_q0 9 _ rfl (by kernel_rfl) rfl rfl (.guarded ((decide (i = 0)) == false) rfl rfl rfl rfl fun h => v_fieldR (ow rfl h) tF141_0) ?_
   refine D_q0 10 _ rfl (by kernel_rfl) rfl rfl (.guarded ((decide (i = 0)) == false) rfl rfl rfl rfl fun h => v_loadS_r (ow rfl h) tS3 (at_get (at0 (hdc (n := 0) hd0)))) ?_
   refine D_q0 11 _ rfl (by kernel_rfl) rfl rfl (.guarded ((decide (i = 0)) == false) rfl rfl rfl rfl fun h => v_sub (ow rfl h) (ow rfl h) rfl) ?_
   refine D_q0 12 _ rfl (by kernel_rfl) rfl rfl (.guarded ((decide (i = 0)) == false) rfl rfl rfl rfl fun h => v_geq (ow rfl h) (ov rfl)) ?_
   refine D_q0 13 _ rfl (by kernel_rfl) rfl rfl (v_or (ov rfl) (fun hp => ow rfl (gF hp))) ?_
   refine D_q0 14 _ rfl (by kernel_rfl) rfl rfl (v_move (ov rfl)) ?_
   refine D_q0 15 _ rfl (by kernel_rfl) rfl rfl (.guarded (((decide (i = 0)) || (decide (192 ≤ (i64 (x.At - x2.At))))) == true) rfl rfl rfl rfl fun h => v_move (ov rfl)) ?_
   refine D_q0 16 _ rfl (by kernel_rfl) rfl rfl (.guarded (((decide (i = 0)) || (decide (192 ≤ (i64 (x.At - x2.At))))) == true) rfl rfl rfl rfl fun h => v_move (ov rfl)) ?_
   refine D_q0 17 _ rfl (by kernel_rfl) rfl rfl (.guarded (((decide (i = 0)) || (decide (192 ≤ (i64 (x.At - x2.At))))) == true) rfl rfl rfl rfl fun h => v_len (slv_sl (ow rfl h) tZ_141) tL137 (len_map _ _)) ?_
   refine D_q0 18 _ rfl (by kernel_rfl) rfl rfl (.guarded (((decide (i = 0)) || (decide (192 ≤ (i64 (x.At - x2.At))))) == true) rfl rfl rfl rfl fun h => v_sub (ow rfl h) (ov rfl) rfl) ?_
   refine D_q0 19 _ rfl (by kernel_rfl) rfl rfl (.guarded (((decide (i = 0)) || (decide (192 ≤ (i64 (x.At - x2.At))))) == true) rfl rfl rfl rfl fun h => v_eql (ow rfl h) (ow rfl h)) ?_
   refine D_q0 20 _ rfl (by kernel_rfl) rfl rfl (.guarded (((decide (i = 0)) || (decide (192 ≤ (i64 (x.At - x2.At))))) == true) rfl rfl rfl rfl fun h => v_move (ow rfl h)) ?_
   refine D_q0 21 _ rfl (by kernel_rfl) rfl rfl (.guarded2 ((((decide (i = 0)) || (decide (192 ≤ (i64 (x.At - x2.At))))) == true) && ((decide (i = (i64 ((y.length : Int) - 1)))) == false)) rfl rfl rfl rfl fun h => v_move (ov rfl)) ?_
   refine D_q0 22 _ rfl (by kernel_rfl) rfl rfl (.guarded2 ((((decide (i = 0)) || (decide (192 ≤ (i64 (x.At - x2.At))))) == true) && ((decide (i = (i64 ((y.length : Int) - 1)))) == false)) rfl rfl rfl rfl fun h => v_move (ov rfl)) ?_
   refine D_q0 23 _ rfl (by kernel_rfl) rfl rfl (.guarded2 ((((decide (i = 0)) || (decide (192 ≤ (i64 (x.At - x2.At))))) == true) && ((decide (i = (i64 ((y.length : Int) - 1)))) == false)) rfl rfl rfl rfl fun h => v_add (ow rfl h) (ov rfl) rfl) ?_
   obtain ⟨x3, h_x3, h⟩ := bnd h
   refine D_q0 24 _ rfl (by kernel_rfl) rfl rfl (.guarded2 ((((decide (i = 0)) || (decide (192 ≤ (i64 (x.At - x2.At))))) == true) && ((decide (i = (i64 ((y.length : Int) - 1)))) == false)) rfl rfl rfl rfl fun h => v_ixSG (ow rfl h) (ow rfl h) tL137 (gdT h_x3 h)) ?_
   refine D_q0 25 _ rfl (by kernel_rfl) rfl rfl (.guarded2 ((((decide (i = 0)) || (decide (192 ≤ (i64 (x.At - x2.At))))) == true) && ((decide (i = (i64 ((y.length : Int) - 1)))) == false)) rfl rfl rfl rfl fun h => v_fieldR (ow rfl h) tF141_0) ?_
   refine D_q0 26 _ rfl (by kernel_rfl) rfl rfl (.guarded2 ((((decide (i = 0)) || (decide (192 ≤ (i64 (x.At - x2.At))))) == true) && ((decide (i = (i64 ((y.length : Int) - 1)))) == false)) rfl rfl rfl rfl fun h => v_loadS_r (ow rfl h) tS3 (at_get (at0 (hdc (n := 0) hd0)))) ?_
   refine D_q0 27 _ rfl (by kernel_rfl) rfl rfl (.guarded2 ((((decide (i = 0)) || (decide (192 ≤ (i64 (x.At - x2.At))))) == true) && ((decide (i = (i64 ((y.length : Int) - 1)))) == false)) rfl rfl rfl rfl fun h => v_fieldP (ov rfl) rfl rfl tF141_0) ?_
   refine D_q0 28 _ rfl (by kernel_rfl) rfl rfl (.guarded2 ((((decide (i = 0)) || (decide (192 ≤ (i64 (x.At - x2.At))))) == true) && ((decide (i = (i64 ((y.length : Int) - 1)))) == false)) rfl rfl rfl rfl fun h => v_loadS (ow rfl h) rfl rfl rfl tS3 (at_get (at0 (hdc (n := 0) hd0)))) ?_
   refine D_q0 29 _ rfl (by kernel_rfl) rfl rfl (.guarded2 ((((decide (i = 0)) || (decide (192 ≤ (i64 (x.At - x2.At))))) == true) && ((decide (i = (i64 ((y.length : Int) - 1)))) == false)) rfl rfl rfl rfl fun h => v_sub (ow rfl h) (ow rfl h) rfl) ?_
   refine D_q0 30 _ rfl (by kernel_rfl) rfl rfl (.guarded2 ((((decide (i = 0)) || (decide (192 ≤ (i64 (x.At - x2.At))))) == true) && ((decide (i = (i64 ((y.length : Int) - 1)))) == false)) rfl rfl rfl rfl fun h => v_geq (ow rfl h) (ov rfl)) ?_
   refine D_q0 31 _ rfl (by kernel_rfl) rfl rfl (.guarded (((decide (i = 0)) || (decide (192 ≤ (i64 (x.At - x2.At))))) == true) rfl rfl rfl rfl fun h => v_or (ow rfl h) (fun hp => ow rfl (gA h (gF hp)))) ?_
   refine D_q0 32 _ rfl (by kernel_rfl) rfl rfl (v_and (ov rfl) (fun hp => ow rfl (gT hp))) ?_
   refine D_done (by kernel_rfl) ?_
   refine T_keep (kc 3 rfl <| kc 4 rfl <| kc 6 rfl <| kc 9 rfl <| kc 10 rfl <| kc 11 rfl <| kc 48 rfl <| kn) rfl ?_
   refine T_if h rfl (fun b48 h => ?_) (fun b48 h => ?_)
   ·
    refine T_keep (kc 3 rfl <| kc 4 rfl <| kc 6 rfl <| kc 9 rfl <| kc 10 rfl <| kc 11 rfl <| kn) rfl ?_
    refine T_reg ?_
    refine R_q _ rfl (v_move (ov rfl)) ?_
    refine R_q _ rfl (v_loadA (ov rfl) rfl rfl rfl tA141 (at_sub (at_all (lnC (n := 64) (lnA (m := 64) (n := 0) arL (lnN))))) (lnC (n := 64) (lnA (m := 64) (n := 0) arL (lnN))) (hns := nsC rfl (nsA (nsM fun _ => rfl) (nsR rfl)))) ?_
    refine R_q (.sl 141 (List.map R141 ([x] : List api_Found))) rfl (v_lit tL137 (.cons (cva (ov rfl)) (lnC (n := 64) (lnA (m := 64) (n := 0) arL (lnN))) (pwD (alC rfl (alA (arD fun _ => rfl) (alN)))) <| .nil) rfl rfl) ?_
    obtain ⟨l, h_l, h⟩ := bnd h
    refine R_w _ _ rfl (w_appendG (ov rfl) (slv_sl (ov rfl) tZ_141) tL137 rfl rfl rfl (fun x => cell1_all (E141 x)) rfl h_l) ?_
    refine R_q _ rfl (v_assign (ov rfl)) ?_
    refine R_nil ?_
    refine T_keep (kc 3 rfl <| kc 4 rfl <| kc 9 rfl <| kc 10 rfl <| kc 11 rfl <| kn) rfl ?_
    refine T_reg ?_
    refine R_q _ rfl (v_add (ov rfl) (ov rfl) rfl) ?_
    refine R_q _ rfl (v_move (ov rfl)) ?_
    refine R_nil ?_
    exact ⟨(l, (i64 (i + 1))), h, Ent.sel [some 0] (sd 3 rfl rfl <| sr 4 rfl (.own _ rfl) <| sd 9 rfl rfl <| sd 10 rfl rfl <| sd 11 rfl rfl <| sn) (.cons rfl (roM D141) <| .nil) rfl rfl⟩
   ·
    refine T_skip ?_
    refine T_keep (kc 3 rfl <| kc 4 rfl <| kc 9 rfl <| kc 10 rfl <| kc 11 rfl <| kn) rfl ?_
    refine T_reg ?_
    refine R_q _ rfl (v_add (ov rfl) (ov rfl) rfl) ?_
    refine R_q _ rfl (v_move (ov rfl)) ?_
    refine R_nil ?_
    exact ⟨(out2, (i64 (i + 1))), h, Ent.sel [some 0] (sd 3 rfl rfl <| sr 4 rfl (.own _ rfl) <| sd 9 rfl rfl <| sd 10 rfl rfl <| sd 11 rfl rfl <| sn) (.cons rfl (roM D141) <| .nil) rfl rfl⟩
  ·
   refine T_exit ?_
   rw [lx h] at ho1
   replace h := ho1
   exact ⟨out2, h, Ent.sel [some 0] (sr 4 rfl (.own _ rfl) <| sn) (.cons rfl (roM D141) <| .nil) rfl rfl⟩
 ·
  obtain ⟨out, rfl⟩ : ∃ x, x = j := ⟨_, rfl⟩
  replace h := t1i h
  refine t1T ?_
  refine T_seq (T_reg ?_)
  refine R_q _ rfl (v_move (ov rfl)) ?_
  refine R_q _ rfl (v_assign (ov rfl)) ?_
  refine R_nil ?_
  obtain rfl := rt (v := out) h
  refine T_ret ?_
  exact retg [some 0] rfl (.cons (.tmp rfl) <| .nil) (.cons rfl (roM D141) <| .nil) rfl rfl (.own _ rfl)

theorem ok_frame_Number {f : Vector Int 64} {r : Int × Bool} (h : frame_Number f = some r) :
  CSpec Tryd.prog gl0 106 [.agg (List.map C36 f.toList)] (.tuple [.int .i64 r.1, .bool r.2]) := by
 unfold frame_Number at h
 replace h := bnd0 h
 refine spec_of (by kernel_rfl) Tryd.func106 rfl rfl ?_
 intro w0 A
 refine T_seq (T_reg ?_)
 refine R_q _ rfl (v_boxD (cva (ov rfl)) arL tZ_38 (arD fun _ => rfl)) ?_
 refine R_q _ rfl (v_assign (ov rfl)) ?_
 refine R_q _ rfl (v_assign (ov rfl)) ?_
 refine R_nil ?_
 refine T_seq ?_
 refine T_keep (kc 1 rfl <| kn) rfl ?_
 refine T_seq (T_reg ?_)
 obtain ⟨x, h_x, h⟩ := bnd h
 refine R_q _ rfl (v_ixRG (ov rfl) (ov rfl) tR38 h_x) ?_
 refine R_q _ rfl (v_loadS_r (ov rfl) tS36 (at_get (at_at (o := 0) (o' := ((Int.toNat 1) * 1)) (at_all arL) (at_v1 h_x)))) ?_
 obtain ⟨y, h_y, h⟩ := bnd h
 refine R_q _ rfl (v_call (ok_frame_odd h_y) (.cons (ov rfl) (.b rfl) <| .nil)) ?_
 refine R_q _ rfl (v_not (ov rfl)) ?_
 refine R_q _ rfl (v_move (ov rfl)) ?_
 obtain ⟨x2, h_x2, h⟩ := bnd h
 refine R_q _ rfl (.guarded ((!y) == false) rfl rfl rfl rfl fun h => v_ixRG (ov rfl) (ov rfl) tR38 (gdT h_x2 h)) ?_
 refine R_q _ rfl (.guarded ((!y) == false) rfl rfl rfl rfl fun h => v_loadS_r (ow rfl h) tS36 (at_get (at_at (o := 0) (o' := ((Int.toNat 2) * 1)) (at_all arL) (at_v1 (gdT h_x2 h))))) ?_
 obtain ⟨y2, h_y2, h⟩ := bnd h
 refine R_q _ rfl (.guarded ((!y) == false) rfl rfl rfl rfl fun h => v_call (ok_frame_odd (gdT h_y2 h)) (.cons (ow rfl h) (.b rfl) <| .nil)) ?_
 refine R_q _ rfl (.guarded ((!y) == false) rfl rfl rfl rfl fun h => v_not (ow rfl h)) ?_
 refine R_q _ rfl (v_or (ov rfl) (fun hp => ow rfl (gF hp))) ?_
 refine R_nil ?_
 refine T_keep (kc 1 rfl <| kc 13 rfl <| kn) rfl ?_
 refine T_if h rfl (fun b13 h => ?_) (fun b13 h => ?_)
 ·
  refine T_keep (kn) rfl ?_
  refine T_seq (T_reg ?_)
  refine R_q _ rfl (v_assign (ov rfl)) ?_
  refine R_q _ rfl (v_assign (ov rfl)) ?_
  refine R_nil ?_
  obtain rfl := rt (v := (0, false)) h
  refine T_ret (retq ?_ (.two (.tmp rfl (Dat.view (.b rfl))) (.tmp rfl (Dat.view (.b rfl)))))
  rfl
 ·
  refine T_skip ?_
  refine T_keep (kc 1 rfl <| kn) rfl ?_
  refine T_seq (T_reg ?_)
  obtain ⟨y3, h_y3, h⟩ := bnd h
  refine R_q _ rfl (v_call (ok_frame_numberOf h_y3) (.cons (ov rfl) (.b rfl) <| .nil)) ?_
  refine R_q _ rfl (v_assign (ov rfl)) ?_
  refine R_q _ rfl (v_assign (ov rfl)) ?_
  refine R_nil ?_
  obtain rfl := rt (v := (y3, true)) h
  refine T_ret (retq ?_ (.two (.tmp rfl (Dat.view (.b rfl))) (.tmp rfl (Dat.view (.b rfl)))))
  rfl

theorem ok_salvage_newFinder {h_ : List Int} {r : salvage_finder} (h : salvage_newFinder h_ = some r) :
  CSpec Tryd.prog gl0 86 [.sl 5 (List.map R5 h_)] (.rp [.sl 5 (List.map R5 r.h_), .sl 141 (List.map R141 r.certain), .sl 3 (List.map R3 r.numbers), .any] 0) := by
 unfold salvage_newFinder at h
 replace h := bnd0 h
 refine spec_of (by kernel_rfl) Tryd.func86 rfl rfl ?_
 intro w0 A
 refine T_seq (T_reg ?_)
 refine R_q _ rfl (v_assign (ov rfl)) ?_
 refine R_nil ?_
 refine T_keep (kc 0 rfl <| kn) rfl ?_
 refine T_seq (T_reg ?_)
 refine R_q _ rfl (v_move (ov rfl)) ?_
 refine R_q _ rfl (v_move (ov rfl)) ?_
 obtain ⟨y, h_y, h⟩ := bnd h
 refine R_w _ _ rfl (w_callG [] (ok_salvage_certain_o h_y) (.cons (ov rfl) (.dat rfl) <| .nil) (.nil) rfl (.lent 0 (.inr ⟨Nat.le_of_ble_eq_true rfl, rfl⟩) rfl (roM D141) <| .nil) rfl rfl (.own _ (.inr ⟨Nat.le_of_ble_eq_true rfl, rfl⟩))) ?_
 refine R_w _ _ rfl (w_makeMap 1 rfl tMp97) ?_
 refine R_q _ rfl (v_build (ys := [_, _, _, _]) tPL139 tHA139 tZ139 (.cons (cvs (ov rfl) (cell1_b rfl)) <| .cons (cvs (ov rfl) (cell1_b rfl)) <| .cons (cvs (ov rfl) (cell1_b rfl)) <| .nil) rfl) ?_
 refine R_w _ _ rfl (w_box 2 rfl (ov rfl) tA139 rfl) ?_
 refine R_q _ rfl (v_assign (ov rfl)) ?_
 refine R_nil ?_
 refine T_joinG id (t2 fun numbers at__ => ⟨[(3, .ptr 0 1 0 0)], [some ⟨139, [[.sl 5 (List.map R5 h_), .own 1 y.length, .own 2 numbers.length, .mref 3 1]]⟩, some ⟨141, List.map R141 y⟩, some ⟨3, List.map R3 numbers⟩, some ⟨97, [[.mcon (List.map (mrow FK3 FV3) at__)]]⟩]⟩) h (fun h => ?_) (fun j h => ?_)
 ·
  refine T_keep (kc 3 rfl <| kn) rfl ?_
  refine T_seq (T_reg ?_)
  refine R_q _ rfl (v_move (ov rfl)) ?_
  refine R_q _ rfl (v_nilCheckP (ov rfl) rfl rfl) ?_
  refine R_q _ rfl (v_fieldP (ov rfl) rfl rfl tF139_1) ?_
  refine R_q _ rfl (v_loadS (ov rfl) rfl rfl rfl tS137 rfl) ?_
  refine R_q _ rfl (v_lenO (ov rfl) rfl rfl tL137) ?_
  refine R_q _ rfl (v_move (ov rfl)) ?_
  refine R_nil ?_
  refine T_block ?_
  obtain ⟨r1, hl1, ho1⟩ := bndL h
  refine T_loopG _ (t3 fun numbers2 at__2 i => ⟨[(3, .ptr 0 1 0 0), (17, .own 1 y.length), (18, .int .i64 (y.length : Int)), (19, .int .i64 i)], [some ⟨139, [[.sl 5 (List.map R5 h_), .own 1 y.length, .own 2 numbers2.length, .mref 3 1]]⟩, some ⟨141, List.map R141 y⟩, some ⟨3, List.map R3 numbers2⟩, some ⟨97, [[.mcon (List.map (mrow FK3 FV3) at__2)]]⟩]⟩) _ hl1 (Ent.sel [some 2, some 0, none, some 1] (sr 3 rfl (.ptr _ _ _ rfl) <| sr 17 rfl (.own _ rfl) <| sd 18 rfl rfl <| sd 19 rfl rfl <| sn) (.cons rfl (ro1 (by exact tZ_139.symm) (rlc (.dat rfl) <| rlc (.own _ rfl) <| rlc (.row rfl) <| rlc (.mref _ rfl) <| rln)) <| .cons rfl (roM D141) <| .row 3 <| .cons rfl (roMap (fk := FK3) (fv := FV3) (m := ([] : List (Int × Int))) tZ_97 (fun _ => .dat rfl) (fun _ => .ren (.dat rfl))) <| .nil) rfl rfl) (fun n1 s1 h => ?_)
  obtain ⟨numbers2, at__2, i⟩ := s1
  replace h := t3i h
  refine t3T ?_
  unfold salvage_newFinder_L1 at h
  refine T_seq (T_reg ?_)
  refine R_q _ rfl (v_lss (ov rfl) (ov rfl)) ?_
  refine R_nil ?_
  refine T_seq ?_
  refine T_if h rfl (fun b20 h => ?_) (fun b20 h => ?_)
  ·
   refine T_skip ?_
   refine T_joinG id (t2 fun numbers3 at__3 => ⟨[(3, .ptr 0 1 0 0), (17, .own 1 y.length), (18, .int .i64 (y.length : Int)), (19, .int .i64 i)], [some ⟨139, [[.sl 5 (List.map R5 h_), .own 1 y.length, .own 2 numbers3.length, .mref 3 1]]⟩, some ⟨141, List.map R141 y⟩, some ⟨3, List.map R3 numbers3⟩, some ⟨97, [[.mcon (List.map (mrow FK3 FV3) at__3)]]⟩]⟩) h (fun h => ?_) (fun j h => ?_)
   ·
    refine T_block ?_
    refine T_keep (kc 3 rfl <| kc 17 rfl <| kc 18 rfl <| kc 19 rfl <| kn) rfl ?_
    refine T_seq (T_reg ?_)
    refine R_q _ rfl (v_move (ov rfl)) ?_
    obtain ⟨x, h_x, h⟩ := bnd h
    refine R_q _ rfl (v_ixOG (ov rfl) (ov rfl) tL137 rfl rfl h_x) ?_
    refine R_q _ rfl (v_loadAR (ov rfl) rfl rfl h_x tA141 (at_sub (at_all (lnC (n := 64) (lnA (m := 64) (n := 0) arL (lnN))))) (lnC (n := 64) (lnA (m := 64) (n := 0) arL (lnN))) (hns := nsC rfl (nsA (nsM fun _ => rfl) (nsR rfl)))) ?_
    refine R_w _ _ rfl (w_alloc (row := (.int .i64 0) :: ((List.map C36 (Vector.replicate 64 0).toList) ++ ([]))) 4 rfl tZ141 (by kernel_rfl) (by exact Eq.symm (Eq.trans (b := 65) (lnC (n := 64) (lnA (m := 64) (n := 0) arL (lnN))) tZ_141.symm))) ?_
    refine R_q _ rfl (v_assign (ov rfl)) ?_
    refine R_w _ _ rfl (w_store (ov rfl) (ov rfl) (cells_agg tA141 (lnC (n := 64) (lnA (m := 64) (n := 0) arL (lnN)))) rfl rfl rfl (put_le (at_all (lnC (n := 64) (lnA (m := 64) (n := 0) arL (lnN)))) (lnC (n := 64) (lnA (m := 64) (n := 0) arL (lnN)))) (cell1_all (alC rfl (alA (arC fun _ => rfl) (alN)))) (put_all (Eq.trans (lnC (n := 64) (lnA (m := 64) (n := 0) arL (lnN))) (Eq.symm (lnC (n := 64) (lnA (m := 64) (n := 0) arL (lnN))))))) ?_
    refine R_nil ?_
    refine T_keep (kc 3 rfl <| kc 4 rfl <| kc 5 rfl <| kc 17 rfl <| kc 18 rfl <| kc 19 rfl <| kn) rfl ?_
    refine T_seq (T_reg ?_)
    refine R_q _ rfl (v_fieldP (ov rfl) rfl rfl tF141_1) ?_
    refine R_q _ rfl (v_loadA (ov rfl) rfl rfl rfl tA38 (at_sub (atc (o := 0) (at0 (hdw arL)))) arL (hns := (nsM fun _ => rfl))) ?_
    obtain ⟨y2, h_y2, h⟩ := bnd h
    refine R_q _ rfl (v_call (ok_frame_Number h_y2) (.cons (ov rfl) (.aggB (arD fun _ => rfl)) <| .nil)) ?_
    refine R_q _ rfl (v_move (ov rfl)) ?_
    refine R_q _ rfl (v_extract (ov rfl) rfl) ?_
    refine R_q _ rfl (v_extract (ov rfl) rfl) ?_
    refine R_q _ rfl (v_assign (ov rfl)) ?_
    refine R_q _ rfl (v_assign (ov rfl)) ?_
    refine R_nil ?_
    refine T_keep (kc 3 rfl <| kc 4 rfl <| kc 5 rfl <| kc 6 rfl <| kc 17 rfl <| kc 18 rfl <| kc 19 rfl <| kn) rfl ?_
    refine T_draw (cw := md0) (by kernel_rfl) ?_
    refine D_q0 7 _ rfl (by kernel_rfl) rfl rfl (v_move (ov rfl)) ?_
    refine D_q0 8 _ rfl (by kernel_rfl) rfl rfl (v_nilCheckP (ov rfl) rfl rfl) ?_
    refine D_q0 9 _ rfl (by kernel_rfl) rfl rfl (v_fieldP (ov rfl) rfl rfl tF139_2) ?_
    refine D_q0 10 _ rfl (by kernel_rfl) rfl rfl (v_loadS (ov rfl) rfl rfl rfl tS26 rfl) ?_
    refine D_q0 11 _ rfl (by kernel_rfl) rfl rfl (v_move (ov rfl)) ?_
    refine D_q0 12 (.sl 3 (List.map R3 ([y2.1] : List Int))) rfl (by kernel_rfl) rfl rfl (v_lit tL26 (.cons (cvs (ov rfl) (cell1_b rfl)) rfl (.cons (.b rfl) .nil) <| .nil) rfl rfl) ?_
    refine D_free 0 _ rfl (by kernel_rfl) rfl rfl (fun hp' => v_move (ov rfl)) ?_
    refine D_free 1 _ rfl (by kernel_rfl) rfl rfl (fun hp' => v_move (ov rfl)) ?_
    refine D_free 14 _ rfl (by kernel_rfl) rfl rfl (fun hp' => v_move (ov rfl)) ?_
    obtain ⟨l, h_l, h⟩ := bnd h
    refine D_many [2, 5, 13] (by kernel_rfl) (.q rfl rfl rfl (v_nilCheckP (ov rfl) rfl rfl) ?_ <| .q rfl rfl rfl (v_fieldP (ov rfl) rfl rfl tF141_0) ?_ <| .w rfl rfl rfl (fun h => by cases h) (fun h => by cases h) (w_appendG (ov rfl) (slv_sl (ov rfl) tZ_3) tL26 rfl rfl rfl (fun _ => cell1_all rfl) rfl h_l) ?_ <| .nil) 
    ·
     refine D_many [3, 5, 13] (by kernel_rfl) (.q rfl rfl rfl (v_fieldP (ov rfl) rfl rfl tF139_3) ?_ <| .q rfl rfl rfl (v_fieldP (ov rfl) rfl rfl tF141_0) ?_ <| .w rfl rfl rfl (fun h => by cases h) (fun h => by cases h) (w_appendG (ov rfl) (slv_sl (ov rfl) tZ_3) tL26 rfl rfl rfl (fun _ => cell1_all rfl) rfl h_l) ?_ <| .nil) 
     ·
      refine D_many [4, 5, 13] (by kernel_rfl) (.q rfl rfl rfl (v_loadS (ov rfl) rfl rfl rfl tS97 rfl) ?_ <| .q rfl rfl rfl (v_fieldP (ov rfl) rfl rfl tF141_0) ?_ <| .w rfl rfl rfl (fun h => by cases h) (fun h => by cases h) (w_appendG (ov rfl) (slv_sl (ov rfl) tZ_3) tL26 rfl rfl rfl (fun _ => cell1_all rfl) rfl h_l) ?_ <| .nil) 
      ·
       refine D_twoQ 5 13 rfl rfl (by kernel_rfl) rfl rfl rfl rfl (fun h => by cases h) (fun h => by cases h) (v_fieldP (ov rfl) rfl rfl tF141_0) (w_appendG (ov rfl) (slv_sl (ov rfl) tZ_3) tL26 rfl rfl rfl (fun _ => cell1_all rfl) rfl h_l) ?_ ?_
       ·
        refine D_twoQ 6 13 rfl rfl (by kernel_rfl) rfl rfl rfl rfl (fun h => by cases h) (fun h => by cases h) (v_loadS (ov rfl) rfl rfl rfl tS3 (at_get (at0 (hdc (n := 0) hd0)))) (w_appendG (ov rfl) (slv_sl (ov rfl) tZ_3) tL26 rfl rfl rfl (fun _ => cell1_all rfl) rfl h_l) ?_ ?_
        ·
         refine D_one 13 _ _ rfl (by kernel_rfl) rfl rfl (fun h => by cases h) (fun h => by cases h) (w_appendG (ov rfl) (slv_sl (ov rfl) tZ_3) tL26 rfl rfl rfl (fun _ => cell1_all rfl) rfl h_l) ?_
         refine D_q0 15 _ rfl (by kernel_rfl) rfl rfl (v_nilCheckP (ov rfl) rfl rfl) ?_
         refine D_q0 16 _ rfl (by kernel_rfl) rfl rfl (v_fieldP (ov rfl) rfl rfl tF139_2) ?_
         refine D_one 17 _ _ rfl (by kernel_rfl) rfl rfl (fun h => by cases h) (fun h => by cases h) (w_store (ov rfl) (ov rfl) (cells_scal tS26) rfl rfl rfl (Nat.le_of_ble_eq_true rfl) (cell1_all rfl) rfl) ?_
         refine D_one 18 _ _ rfl (by kernel_rfl) rfl rfl (fun h => by cases h) (fun h => by cases h) (w_mapEntry (m := at__2) (fk := FK3) (fv := FV3) (k := x.At) (z0 := 0) (ov rfl) (ov rfl) tMp97 tKO3 rfl (fun _ => .b rfl) (zero_scal tZV3 rfl)) ?_
         refine D_q0 19 _ rfl (by kernel_rfl) rfl rfl (v_extract (ov rfl) rfl) ?_
         refine D_one 20 _ _ rfl (by kernel_rfl) rfl rfl (fun h => by cases h) (fun h => by cases h) (w_entryStore (m := at__2) (fk := FK3) (fv := FV3) (k := x.At) (v := i) (ov rfl) (ov rfl) (ov rfl) tMp97 rfl) ?_
         refine D_done (by kernel_rfl) ?_
         exact ⟨(l, (mput kqI at__2 x.At i)), h, Ent.sel [some 0, some 1, some 2, some 3] (sr 3 rfl (.ptr _ _ _ rfl) <| sr 17 rfl (.own _ rfl) <| sd 18 rfl rfl <| sd 19 rfl rfl <| sn) (.cons rfl (ro1 (by exact tZ_139.symm) (rlc (.dat rfl) <| rlc (.own _ rfl) <| rlc (.own _ rfl) <| rlc (.mref _ rfl) <| rln)) <| .cons rfl (roM D141) <| .cons rfl (roM D3) <| .cons rfl (roMap (fk := FK3) (fv := FV3) (m := (mput kqI at__2 x.At i)) tZ_97 (fun _ => .dat rfl) (fun _ => .ren (.dat rfl))) <| .nil) rfl rfl⟩
        ·
         refine D_q0 15 _ rfl (by kernel_rfl) rfl rfl (v_nilCheckP (ov rfl) rfl rfl) ?_
         refine D_q0 16 _ rfl (by kernel_rfl) rfl rfl (v_fieldP (ov rfl) rfl rfl tF139_2) ?_
         refine D_twoQ 6 17 rfl rfl (by kernel_rfl) rfl rfl rfl rfl (fun h => by cases h) (fun h => by cases h) (v_loadS (ov rfl) rfl rfl rfl tS3 (at_get (at0 (hdc (n := 0) hd0)))) (w_store (ov rfl) (ov rfl) (cells_scal tS26) rfl rfl rfl (Nat.le_of_ble_eq_true rfl) (cell1_all rfl) rfl) ?_ ?_
         ·
          refine D_one 17 _ _ rfl (by kernel_rfl) rfl rfl (fun h => by cases h) (fun h => by cases h) (w_store (ov rfl) (ov rfl) (cells_scal tS26) rfl rfl rfl (Nat.le_of_ble_eq_true rfl) (cell1_all rfl) rfl) ?_
          refine D_one 18 _ _ rfl (by kernel_rfl) rfl rfl (fun h => by cases h) (fun h => by cases h) (w_mapEntry (m := at__2) (fk := FK3) (fv := FV3) (k := x.At) (z0 := 0) (ov rfl) (ov rfl) tMp97 tKO3 rfl (fun _ => .b rfl) (zero_scal tZV3 rfl)) ?_
          refine D_q0 19 _ rfl (by kernel_rfl) rfl rfl (v_extract (ov rfl) rfl) ?_
          refine D_one 20 _ _ rfl (by kernel_rfl) rfl rfl (fun h => by cases h) (fun h => by cases h) (w_entryStore (m := at__2) (fk := FK3) (fv := FV3) (k := x.At) (v := i) (ov rfl) (ov rfl) (ov rfl) tMp97 rfl) ?_
          refine D_done (by kernel_rfl) ?_
          exact ⟨(l, (mput kqI at__2 x.At i)), h, Ent.sel [some 0, some 1, some 2, some 3] (sr 3 rfl (.ptr _ _ _ rfl) <| sr 17 rfl (.own _ rfl) <| sd 18 rfl rfl <| sd 19 rfl rfl <| sn) (.cons rfl (ro1 (by exact tZ_139.symm) (rlc (.dat rfl) <| rlc (.own _ rfl) <| rlc (.own _ rfl) <| rlc (.mref _ rfl) <| rln)) <| .cons rfl (roM D141) <| .cons rfl (roM D3) <| .cons rfl (roMap (fk := FK3) (fv := FV3) (m := (mput kqI at__2 x.At i)) tZ_97 (fun _ => .dat rfl) (fun _ => .ren (.dat rfl))) <| .nil) rfl rfl⟩
         ·
          refine D_q0 6 _ rfl (by kernel_rfl) rfl rfl (v_loadS (ov rfl) rfl rfl rfl tS3 (at_get (at0 (hdc (n := 0) hd0)))) ?_
          refine D_one 18 _ _ rfl (by kernel_rfl) rfl rfl (fun h => by cases h) (fun h => by cases h) (w_mapEntry (m := at__2) (fk := FK3) (fv := FV3) (k := x.At) (z0 := 0) (ov rfl) (ov rfl) tMp97 tKO3 rfl (fun _ => .b rfl) (zero_scal tZV3 rfl)) ?_
          refine D_q0 19 _ rfl (by kernel_rfl) rfl rfl (v_extract (ov rfl) rfl) ?_
          refine D_one 20 _ _ rfl (by kernel_rfl) rfl rfl (fun h => by cases h) (fun h => by cases h) (w_entryStore (m := at__2) (fk := FK3) (fv := FV3) (k := x.At) (v := i) (ov rfl) (ov rfl) (ov rfl) tMp97 rfl) ?_
          refine D_done (by kernel_rfl) ?_
          exact ⟨(l, (mput kqI at__2 x.At i)), h, Ent.sel [some 0, some 1, some 2, some 3] (sr 3 rfl (.ptr _ _ _ rfl) <| sr 17 rfl (.own _ rfl) <| sd 18 rfl rfl <| sd 19 rfl rfl <| sn) (.cons rfl (ro1 (by exact tZ_139.symm) (rlc (.dat rfl) <| rlc (.own _ rfl) <| rlc (.own _ rfl) <| rlc (.mref _ rfl) <| rln)) <| .cons rfl (roM D141) <| .cons rfl (roM D3) <| .cons rfl (roMap (fk := FK3) (fv := FV3) (m := (mput kqI at__2 x.At i)) tZ_97 (fun _ => .dat rfl) (fun _ => .ren (.dat rfl))) <| .nil) rfl rfl⟩
       ·
        refine D_q0 15 _ rfl (by kernel_rfl) rfl rfl (v_nilCheckP (ov rfl) rfl rfl) ?_
        refine D_q0 16 _ rfl (by kernel_rfl) rfl rfl (v_fieldP (ov rfl) rfl rfl tF139_2) ?_
        refine D_twoQ 5 17 rfl rfl (by kernel_rfl) rfl rfl rfl rfl (fun h => by cases h) (fun h => by cases h) (v_fieldP (ov rfl) rfl rfl tF141_0) (w_store (ov rfl) (ov rfl) (cells_scal tS26) rfl rfl rfl (Nat.le_of_ble_eq_true rfl) (cell1_all rfl) rfl) ?_ ?_
        ·
         refine D_twoQ 6 17 rfl rfl (by kernel_rfl) rfl rfl rfl rfl (fun h => by cases h) (fun h => by cases h) (v_loadS (ov rfl) rfl rfl rfl tS3 (at_get (at0 (hdc (n := 0) hd0)))) (w_store (ov rfl) (ov rfl) (cells_scal tS26) rfl rfl rfl (Nat.le_of_ble_eq_true rfl) (cell1_all rfl) rfl) ?_ ?_
         ·
          refine D_one 17 _ _ rfl (by kernel_rfl) rfl rfl (fun h => by cases h) (fun h => by cases h) (w_store (ov rfl) (ov rfl) (cells_scal tS26) rfl rfl rfl (Nat.le_of_ble_eq_true rfl) (cell1_all rfl) rfl) ?_
          refine D_one 18 _ _ rfl (by kernel_rfl) rfl rfl (fun h => by cases h) (fun h => by cases h) (w_mapEntry (m := at__2) (fk := FK3) (fv := FV3) (k := x.At) (z0 := 0) (ov rfl) (ov rfl) tMp97 tKO3 rfl (fun _ => .b rfl) (zero_scal tZV3 rfl)) ?_
          refine D_q0 19 _ rfl (by kernel_rfl) rfl rfl (v_extract (ov rfl) rfl) ?_
          refine D_one 20 _ _ rfl (by kernel_rfl) rfl rfl (fun h => by cases h) (fun h => by cases h) (w_entryStore (m := at__2) (fk := FK3) (fv := FV3) (k := x.At) (v := i) (ov rfl) (ov rfl) (ov rfl) tMp97 rfl) ?_
          refine D_done (by kernel_rfl) ?_
          exact ⟨(l, (mput kqI at__2 x.At i)), h, Ent.sel [some 0, some 1, some 2, some 3] (sr 3 rfl (.ptr _ _ _ rfl) <| sr 17 rfl (.own _ rfl) <| sd 18 rfl rfl <| sd 19 rfl rfl <| sn) (.cons rfl (ro1 (by exact tZ_139.symm) (rlc (.dat rfl) <| rlc (.own _ rfl) <| rlc (.own _ rfl) <| rlc (.mref _ rfl) <| rln)) <| .cons rfl (roM D141) <| .cons rfl (roM D3) <| .cons rfl (roMap (fk := FK3) (fv := FV3) (m := (mput kqI at__2 x.At i)) tZ_97 (fun _ => .dat rfl) (fun _ => .ren (.dat rfl))) <| .nil) rfl rfl⟩
         ·
          refine D_q0 6 _ rfl (by kernel_rfl) rfl rfl (v_loadS (ov rfl) rfl rfl rfl tS3 (at_get (at0 (hdc (n := 0) hd0)))) ?_
          refine D_one 18 _ _ rfl (by kernel_rfl) rfl rfl (fun h => by cases h) (fun h => by cases h) (w_mapEntry (m := at__2) (fk := FK3) (fv := FV3) (k := x.At) (z0 := 0) (ov rfl) (ov rfl) tMp97 tKO3 rfl (fun _ => .b rfl) (zero_scal tZV3 rfl)) ?_
          refine D_q0 19 _ rfl (by kernel_rfl) rfl rfl (v_extract (ov rfl) rfl) ?_
          refine D_one 20 _ _ rfl (by kernel_rfl) rfl rfl (fun h => by cases h) (fun h => by cases h) (w_entryStore (m := at__2) (fk := FK3) (fv := FV3) (k := x.At) (v := i) (ov rfl) (ov rfl) (ov rfl) tMp97 rfl) ?_
          refine D_done (by kernel_rfl) ?_
          exact ⟨(l, (mput kqI at__2 x.At i)), h, Ent.sel [some 0, some 1, some 2, some 3] (sr 3 rfl (.ptr _ _ _ rfl) <| sr 17 rfl (.own _ rfl) <| sd 18 rfl rfl <| sd 19 rfl rfl <| sn) (.cons rfl (ro1 (by exact tZ_139.symm) (rlc (.dat rfl) <| rlc (.own _ rfl) <| rlc (.own _ rfl) <| rlc (.mref _ rfl) <| rln)) <| .cons rfl (roM D141) <| .cons rfl (roM D3) <| .cons rfl (roMap (fk := FK3) (fv := FV3) (m := (mput kqI at__2 x.At i)) tZ_97 (fun _ => .dat rfl) (fun _ => .ren (.dat rfl))) <| .nil) rfl rfl⟩
        ·
         refine D_q0 5 _ rfl (by kernel_rfl) rfl rfl (v_fieldP (ov rfl) rfl rfl tF141_0) ?_
         refine D_q0 6 _ rfl (by kernel_rfl) rfl rfl (v_loadS (ov rfl) rfl rfl rfl tS3 (at_get (at0 (hdc (n := 0) hd0)))) ?_
         refine D_one 18 _ _ rfl (by kernel_rfl) rfl rfl (fun h => by cases h) (fun h => by cases h) (w_mapEntry (m := at__2) (fk := FK3) (fv := FV3) (k := x.At) (z0 := 0) (ov rfl) (ov rfl) tMp97 tKO3 rfl (fun _ => .b rfl) (zero_scal tZV3 rfl)) ?_
         refine D_q0 19 _ rfl (by kernel_rfl) rfl rfl (v_extract (ov rfl) rfl) ?_
         refine D_one 20 _ _ rfl (by kernel_rfl) rfl rfl (fun h => by cases h) (fun h => by cases h) (w_entryStore (m := at__2) (fk := FK3) (fv := FV3) (k := x.At) (v := i) (ov rfl) (ov rfl) (ov rfl) tMp97 rfl) ?_
         refine D_done (by kernel_rfl) ?_
         exact ⟨(l, (mput kqI at__2 x.At i)), h, Ent.sel [some 0, some 1, some 2, some 3] (sr 3 rfl (.ptr _ _ _ rfl) <| sr 17 rfl (.own _ rfl) <| sd 18 rfl rfl <| sd 19 rfl rfl <| sn) (.cons rfl (ro1 (by exact tZ_139.symm) (rlc (.dat rfl) <| rlc (.own _ rfl) <| rlc (.own _ rfl) <| rlc (.mref _ rfl) <| rln)) <| .cons rfl (roM D141) <| .cons rfl (roM D3) <| .cons rfl (roMap (fk := FK3) (fv := FV3) (m := (mput kqI at__2 x.At i)) tZ_97 (fun _ => .dat rfl) (fun _ => .ren (.dat rfl))) <| .nil) rfl rfl⟩
      ·
       refine D_many [4, 6, 13] (by kernel_rfl) (.q rfl rfl rfl (v_loadS (ov rfl) rfl rfl rfl tS97 rfl) ?_ <| .q rfl rfl rfl (v_loadS (ov rfl) rfl rfl rfl tS3 (at_get (at0 (hdc (n := 0) hd0)))) ?_ <| .w rfl rfl rfl (fun h => by cases h) (fun h => by cases h) (w_appendG (ov rfl) (slv_sl (ov rfl) tZ_3) tL26 rfl rfl rfl (fun _ => cell1_all rfl) rfl h_l) ?_ <| .nil) 
       ·
        refine D_twoQ 6 13 rfl rfl (by kernel_rfl) rfl rfl rfl rfl (fun h => by cases h) (fun h => by cases h) (v_loadS (ov rfl) rfl rfl rfl tS3 (at_get (at0 (hdc (n := 0) hd0)))) (w_appendG (ov rfl) (slv_sl (ov rfl) tZ_3) tL26 rfl rfl rfl (fun _ => cell1_all rfl) rfl h_l) ?_ ?_
        ·
         refine D_one 13 _ _ rfl (by kernel_rfl) rfl rfl (fun h => by cases h) (fun h => by cases h) (w_appendG (ov rfl) (slv_sl (ov rfl) tZ_3) tL26 rfl rfl rfl (fun _ => cell1_all rfl) rfl h_l) ?_
         refine D_q0 15 _ rfl (by kernel_rfl) rfl rfl (v_nilCheckP (ov rfl) rfl rfl) ?_
         refine D_q0 16 _ rfl (by kernel_rfl) rfl rfl (v_fieldP (ov rfl) rfl rfl tF139_2) ?_
         refine D_one 17 _ _ rfl (by kernel_rfl) rfl rfl (fun h => by cases h) (fun h => by cases h) (w_store (ov rfl) (ov rfl) (cells_scal tS26) rfl rfl rfl (Nat.le_of_ble_eq_true rfl) (cell1_all rfl) rfl) ?_
         refine D_one 18 _ _ rfl (by kernel_rfl) rfl rfl (fun h => by cases h) (fun h => by cases h) (w_mapEntry (m := at__2) (fk := FK3) (fv := FV3) (k := x.At) (z0 := 0) (ov rfl) (ov rfl) tMp97 tKO3 rfl (fun _ => .b rfl) (zero_scal tZV3 rfl)) ?_
         refine D_q0 19 _ rfl (by kernel_rfl) rfl rfl (v_extract (ov rfl) rfl) ?_
         refine D_one 20 _ _ rfl (by kernel_rfl) rfl rfl (fun h => by cases h) (fun h => by cases h) (w_entryStore (m := at__2) (fk := FK3) (fv := FV3) (k := x.At) (v := i) (ov rfl) (ov rfl) (ov rfl) tMp97 rfl) ?_
         refine D_done (by kernel_rfl) ?_
         exact ⟨(l, (mput kqI at__2 x.At i)), h, Ent.sel [some 0, some 1, some 2, some 3] (sr 3 rfl (.ptr _ _ _ rfl) <| sr 17 rfl (.own _ rfl) <| sd 18 rfl rfl <| sd 19 rfl rfl <| sn) (.cons rfl (ro1 (by exact tZ_139.symm) (rlc (.dat rfl) <| rlc (.own _ rfl) <| rlc (.own _ rfl) <| rlc (.mref _ rfl) <| rln)) <| .cons rfl (roM D141) <| .cons rfl (roM D3) <| .cons rfl (roMap (fk := FK3) (fv := FV3) (m := (mput kqI at__2 x.At i)) tZ_97 (fun _ => .dat rfl) (fun _ => .ren (.dat rfl))) <| .nil) rfl rfl⟩
        ·
         refine D_q0 15 _ rfl (by kernel_rfl) rfl rfl (v_nilCheckP (ov rfl) rfl rfl) ?_
         refine D_q0 16 _ rfl (by kernel_rfl) rfl rfl (v_fieldP (ov rfl) rfl rfl tF139_2) ?_
         refine D_twoQ 6 17 rfl rfl (by kernel_rfl) rfl rfl rfl rfl (fun h => by cases h) (fun h => by cases h) (v_loadS (ov rfl) rfl rfl rfl tS3 (at_get (at0 (hdc (n := 0) hd0)))) (w_store (ov rfl) (ov rfl) (cells_scal tS26) rfl rfl rfl (Nat.le_of_ble_eq_true rfl) (cell1_all rfl) rfl) ?_ ?_
         ·
          refine D_one 17 _ _ rfl (by kernel_rfl) rfl rfl (fun h => by cases h) (fun h => by cases h) (w_store (ov rfl) (ov rfl) (cells_scal tS26) rfl rfl rfl (Nat.le_of_ble_eq_true rfl) (cell1_all rfl) rfl) ?_
          refine D_one 18 _ _ rfl (by kernel_rfl) rfl rfl (fun h => by cases h) (fun h => by cases h) (w_mapEntry (m := at__2) (fk := FK3) (fv := FV3) (k := x.At) (z0 := 0) (ov rfl) (ov rfl) tMp97 tKO3 rfl (fun _ => .b rfl) (zero_scal tZV3 rfl)) ?_
          refine D_q0 19 _ rfl (by kernel_rfl) rfl rfl (v_extract (ov rfl) rfl) ?_
          refine D_one 20 _ _ rfl (by kernel_rfl) rfl rfl (fun h => by cases h) (fun h => by cases h) (w_entryStore (m := at__2) (fk := FK3) (fv := FV3) (k := x.At) (v := i) (ov rfl) (ov rfl) (ov rfl) tMp97 rfl) ?_
          refine D_done (by kernel_rfl) ?_
          exact ⟨(l, (mput kqI at__2 x.At i)), h, Ent.sel [some 0, some 1, some 2, some 3] (sr 3 rfl (.ptr _ _ _ rfl) <| sr 17 rfl (.own _ rfl) <| sd 18 rfl rfl <| sd 19 rfl rfl <| sn) (.cons rfl (ro1 (by exact tZ_139.symm) (rlc (.dat rfl) <| rlc (.own _ rfl) <| rlc (.own _ rfl) <| rlc (.mref _ rfl) <| rln)) <| .cons rfl (roM D141) <| .cons rfl (roM D3) <| .cons rfl (roMap (fk := FK3) (fv := FV3) (m := (mput kqI at__2 x.At i)) tZ_97 (fun _ => .dat rfl) (fun _ => .ren (.dat rfl))) <| .nil) rfl rfl⟩
         ·
          refine D_q0 6 _ rfl (by kernel_rfl) rfl rfl (v_loadS (ov rfl) rfl rfl rfl tS3 (at_get (at0 (hdc (n := 0) hd0)))) ?_
          refine D_one 18 _ _ rfl (by kernel_rfl) rfl rfl (fun h => by cases h) (fun h => by cases h) (w_mapEntry (m := at__2) (fk := FK3) (fv := FV3) (k := x.At) (z0 := 0) (ov rfl) (ov rfl) tMp97 tKO3 rfl (fun _ => .b rfl) (zero_scal tZV3 rfl)) ?_
          refine D_q0 19 _ rfl (by kernel_rfl) rfl rfl (v_extract (ov rfl) rfl) ?_
          refine D_one 20 _ _ rfl (by kernel_rfl) rfl rfl (fun h => by cases h) (fun h => by cases h) (w_entryStore (m := at__2) (fk := FK3) (fv := FV3) (k := x.At) (v := i) (ov rfl) (ov rfl) (ov rfl) tMp97 rfl) ?_
          refine D_done (by kernel_rfl) ?_
          exact ⟨(l, (mput kqI at__2 x.At i)), h, Ent.sel [some 0, some 1, some 2, some 3] (sr 3 rfl (.ptr _ _ _ rfl) <| sr 17 rfl (.own _ rfl) <| sd 18 rfl rfl <| sd 19 rfl rfl <| sn) (.cons rfl (ro1 (by exact tZ_139.symm) (rlc (.dat rfl) <| rlc (.own _ rfl) <| rlc (.own _ rfl) <| rlc (.mref _ rfl) <| rln)) <| .cons rfl (roM D141) <| .cons rfl (roM D3) <| .cons rfl (roMap (fk := FK3) (fv := FV3) (m := (mput kqI at__2 x.At i)) tZ_97 (fun _ => .dat rfl) (fun _ => .ren (.dat rfl))) <| .nil) rfl rfl⟩
       ·
        refine D_twoQ 4 13 rfl rfl (by kernel_rfl) rfl rfl rfl rfl (fun h => by cases h) (fun h => by cases h) (v_loadS (ov rfl) rfl rfl rfl tS97 rfl) (w_appendG (ov rfl) (slv_sl (ov rfl) tZ_3) tL26 rfl rfl rfl (fun _ => cell1_all rfl) rfl h_l) ?_ ?_
        ·
         refine D_one 13 _ _ rfl (by kernel_rfl) rfl rfl (fun h => by cases h) (fun h => by cases h) (w_appendG (ov rfl) (slv_sl (ov rfl) tZ_3) tL26 rfl rfl rfl (fun _ => cell1_all rfl) rfl h_l) ?_
         refine D_q0 15 _ rfl (by kernel_rfl) rfl rfl (v_nilCheckP (ov rfl) rfl rfl) ?_
         refine D_q0 16 _ rfl (by kernel_rfl) rfl rfl (v_fieldP (ov rfl) rfl rfl tF139_2) ?_
         refine D_one 17 _ _ rfl (by kernel_rfl) rfl rfl (fun h => by cases h) (fun h => by cases h) (w_store (ov rfl) (ov rfl) (cells_scal tS26) rfl rfl rfl (Nat.le_of_ble_eq_true rfl) (cell1_all rfl) rfl) ?_
         refine D_one 18 _ _ rfl (by kernel_rfl) rfl rfl (fun h => by cases h) (fun h => by cases h) (w_mapEntry (m := at__2) (fk := FK3) (fv := FV3) (k := x.At) (z0 := 0) (ov rfl) (ov rfl) tMp97 tKO3 rfl (fun _ => .b rfl) (zero_scal tZV3 rfl)) ?_
         refine D_q0 19 _ rfl (by kernel_rfl) rfl rfl (v_extract (ov rfl) rfl) ?_
         refine D_one 20 _ _ rfl (by kernel_rfl) rfl rfl (fun h => by cases h) (fun h => by cases h) (w_entryStore (m := at__2) (fk := FK3) (fv := FV3) (k := x.At) (v := i) (ov rfl) (ov rfl) (ov rfl) tMp97 rfl) ?_
         refine D_done (by kernel_rfl) ?_
         exact ⟨(l, (mput kqI at__2 x.At i)), h, Ent.sel [some 0, some 1, some 2, some 3] (sr 3 rfl (.ptr _ _ _ rfl) <| sr 17 rfl (.own _ rfl) <| sd 18 rfl rfl <| sd 19 rfl rfl <| sn) (.cons rfl (ro1 (by exact tZ_139.symm) (rlc (.dat rfl) <| rlc (.own _ rfl) <| rlc (.own _ rfl) <| rlc (.mref _ rfl) <| rln)) <| .cons rfl (roM D141) <| .cons rfl (roM D3) <| .cons rfl (roMap (fk := FK3) (fv := FV3) (m := (mput kqI at__2 x.At i)) tZ_97 (fun _ => .dat rfl) (fun _ => .ren (.dat rfl))) <| .nil) rfl rfl⟩
        ·
         refine D_q0 4 _ rfl (by kernel_rfl) rfl rfl (v_loadS (ov rfl) rfl rfl rfl tS97 rfl) ?_
         refine D_q0 15 _ rfl (by kernel_rfl) rfl rfl (v_nilCheckP (ov rfl) rfl rfl) ?_
         refine D_q0 16 _ rfl (by kernel_rfl) rfl rfl (v_fieldP (ov rfl) rfl rfl tF139_2) ?_
         refine D_one 17 _ _ rfl (by kernel_rfl) rfl rfl (fun h => by cases h) (fun h => by cases h) (w_store (ov rfl) (ov rfl) (cells_scal tS26) rfl rfl rfl (Nat.le_of_ble_eq_true rfl) (cell1_all rfl) rfl) ?_
         refine D_one 18 _ _ rfl (by kernel_rfl) rfl rfl (fun h => by cases h) (fun h => by cases h) (w_mapEntry (m := at__2) (fk := FK3) (fv := FV3) (k := x.At) (z0 := 0) (ov rfl) (ov rfl) tMp97 tKO3 rfl (fun _ => .b rfl) (zero_scal tZV3 rfl)) ?_
         refine D_q0 19 _ rfl (by kernel_rfl) rfl rfl (v_extract (ov rfl) rfl) ?_
         refine D_one 20 _ _ rfl (by kernel_rfl) rfl rfl (fun h => by cases h) (fun h => by cases h) (w_entryStore (m := at__2) (fk := FK3) (fv := FV3) (k := x.At) (v := i) (ov rfl) (ov rfl) (ov rfl) tMp97 rfl) ?_
         refine D_done (by kernel_rfl) ?_
         exact ⟨(l, (mput kqI at__2 x.At i)), h, Ent.sel [some 0, some 1, some 2, some 3] (sr 3 rfl (.ptr _ _ _ rfl) <| sr 17 rfl (.own _ rfl) <| sd 18 rfl rfl <| sd 19 rfl rfl <| sn) (.cons rfl (ro1 (by exact tZ_139.symm) (rlc (.dat rfl) <| rlc (.own _ rfl) <| rlc (.own _ rfl) <| rlc (.mref _ rfl) <| rln)) <| .cons rfl (roM D141) <| .cons rfl (roM D3) <| .cons rfl (roMap (fk := FK3) (fv := FV3) (m := (mput kqI at__2 x.At i)) tZ_97 (fun _ => .dat rfl) (fun _ => .ren (.dat rfl))) <| .nil) rfl rfl⟩
       ·
        refine D_q0 4 _ rfl (by kernel_rfl) rfl rfl (v_loadS (ov rfl) rfl rfl rfl tS97 rfl) ?_
        refine D_q0 15 _ rfl (by kernel_rfl) rfl rfl (v_nilCheckP (ov rfl) rfl rfl) ?_
        refine D_q0 16 _ rfl (by kernel_rfl) rfl rfl (v_fieldP (ov rfl) rfl rfl tF139_2) ?_
        refine D_twoQ 6 17 rfl rfl (by kernel_rfl) rfl rfl rfl rfl (fun h => by cases h) (fun h => by cases h) (v_loadS (ov rfl) rfl rfl rfl tS3 (at_get (at0 (hdc (n := 0) hd0)))) (w_store (ov rfl) (ov rfl) (cells_scal tS26) rfl rfl rfl (Nat.le_of_ble_eq_true rfl) (cell1_all rfl) rfl) ?_ ?_
        ·
         refine D_one 17 _ _ rfl (by kernel_rfl) rfl rfl (fun h => by cases h) (fun h => by cases h) (w_store (ov rfl) (ov rfl) (cells_scal tS26) rfl rfl rfl (Nat.le_of_ble_eq_true rfl) (cell1_all rfl) rfl) ?_
         refine D_one 18 _ _ rfl (by kernel_rfl) rfl rfl (fun h => by cases h) (fun h => by cases h) (w_mapEntry (m := at__2) (fk := FK3) (fv := FV3) (k := x.At) (z0 := 0) (ov rfl) (ov rfl) tMp97 tKO3 rfl (fun _ => .b rfl) (zero_scal tZV3 rfl)) ?_
         refine D_q0 19 _ rfl (by kernel_rfl) rfl rfl (v_extract (ov rfl) rfl) ?_
         refine D_one 20 _ _ rfl (by kernel_rfl) rfl rfl (fun h => by cases h) (fun h => by cases h) (w_entryStore (m := at__2) (fk := FK3) (fv := FV3) (k := x.At) (v := i) (ov rfl) (ov rfl) (ov rfl) tMp97 rfl) ?_
         refine D_done (by kernel_rfl) ?_
         exact ⟨(l, (mput kqI at__2 x.At i)), h, Ent.sel [some 0, some 1, some 2, some 3] (sr 3 rfl (.ptr _ _ _ rfl) <| sr 17 rfl (.own _ rfl) <| sd 18 rfl rfl <| sd 19 rfl rfl <| sn) (.cons rfl (ro1 (by exact tZ_139.symm) (rlc (.dat rfl) <| rlc (.own _ rfl) <| rlc (.own _ rfl) <| rlc (.mref _ rfl) <| rln)) <| .cons rfl (roM D141) <| .cons rfl (roM D3) <| .cons rfl (roMap (fk := FK3) (fv := FV3) (m := (mput kqI at__2 x.At i)) tZ_97 (fun _ => .dat rfl) (fun _ => .ren (.dat rfl))) <| .nil) rfl rfl⟩
        ·
         refine D_q0 6 _ rfl (by kernel_rfl) rfl rfl (v_loadS (ov rfl) rfl rfl rfl tS3 (at_get (at0 (hdc (n := 0) hd0)))) ?_
         refine D_one 18 _ _ rfl (by kernel_rfl) rfl rfl (fun h => by cases h) (fun h => by cases h) (w_mapEntry (m := at__2) (fk := FK3) (fv := FV3) (k := x.At) (z0 := 0) (ov rfl) (ov rfl) tMp97 tKO3 rfl (fun _ => .b rfl) (zero_scal tZV3 rfl)) ?_
         refine D_q0 19 _ rfl (by kernel_rfl) rfl rfl (v_extract (ov rfl) rfl) ?_
         refine D_one 20 _ _ rfl (by kernel_rfl) rfl rfl (fun h => by cases h) (fun h => by cases h) (w_entryStore (m := at__2) (fk := FK3) (fv := FV3) (k := x.At) (v := i) (ov rfl) (ov rfl) (ov rfl) tMp97 rfl) ?_
         refine D_done (by kernel_rfl) ?_
         exact ⟨(l, (mput kqI at__2 x.At i)), h, Ent.sel [some 0, some 1, some 2, some 3] (sr 3 rfl (.ptr _ _ _ rfl) <| sr 17 rfl (.own _ rfl) <| sd 18 rfl rfl <| sd 19 rfl rfl <| sn) (.cons rfl (ro1 (by exact tZ_139.symm) (rlc (.dat rfl) <| rlc (.own _ rfl) <| rlc (.own _ rfl) <| rlc (.mref _ rfl) <| rln)) <| .cons rfl (roM D141) <| .cons rfl (roM D3) <| .cons rfl (roMap (fk := FK3) (fv := FV3) (m := (mput kqI at__2 x.At i)) tZ_97 (fun _ => .dat rfl) (fun _ => .ren (.dat rfl))) <| .nil) rfl rfl⟩
      ·
       refine D_q0 4 _ rfl (by kernel_rfl) rfl rfl (v_loadS (ov rfl) rfl rfl rfl tS97 rfl) ?_
       refine D_q0 15 _ rfl (by kernel_rfl) rfl rfl (v_nilCheckP (ov rfl) rfl rfl) ?_
       refine D_q0 16 _ rfl (by kernel_rfl) rfl rfl (v_fieldP (ov rfl) rfl rfl tF139_2) ?_
       refine D_twoQ 5 17 rfl rfl (by kernel_rfl) rfl rfl rfl rfl (fun h => by cases h) (fun h => by cases h) (v_fieldP (ov rfl) rfl rfl tF141_0) (w_store (ov rfl) (ov rfl) (cells_scal tS26) rfl rfl rfl (Nat.le_of_ble_eq_true rfl) (cell1_all rfl) rfl) ?_ ?_
       ·
        refine D_twoQ 6 17 rfl rfl (by kernel_rfl) rfl rfl rfl rfl (fun h => by cases h) (fun h => by cases h) (v_loadS (ov rfl) rfl rfl rfl tS3 (at_get (at0 (hdc (n := 0) hd0)))) (w_store (ov rfl) (ov rfl) (cells_scal tS26) rfl rfl rfl (Nat.le_of_ble_eq_true rfl) (cell1_all rfl) rfl) ?_ ?_
        ·
         refine D_one 17 _ _ rfl (by kernel_rfl) rfl rfl (fun h => by cases h) (fun h => by cases h) (w_store (ov rfl) (ov rfl) (cells_scal tS26) rfl rfl rfl (Nat.le_of_ble_eq_true rfl) (cell1_all rfl) rfl) ?_
         refine D_one 18 _ _ rfl (by kernel_rfl) rfl rfl (fun h => by cases h) (fun h => by cases h) (w_mapEntry (m := at__2) (fk := FK3) (fv := FV3) (k := x.At) (z0 := 0) (ov rfl) (ov rfl) tMp97 tKO3 rfl (fun _ => .b rfl) (zero_scal tZV3 rfl)) ?_
         refine D_q0 19 _ rfl (by kernel_rfl) rfl rfl (v_extract (ov rfl) rfl) ?_
         refine D_one 20 _ _ rfl (by kernel_rfl) rfl rfl (fun h => by cases h) (fun h => by cases h) (w_entryStore (m := at__2) (fk := FK3) (fv := FV3) (k := x.At) (v := i) (ov rfl) (ov rfl) (ov rfl) tMp97 rfl) ?_
         refine D_done (by kernel_rfl) ?_
         exact ⟨(l, (mput kqI at__2 x.At i)), h, Ent.sel [some 0, some 1, some 2, some 3] (sr 3 rfl (.ptr _ _ _ rfl) <| sr 17 rfl (.own _ rfl) <| sd 18 rfl rfl <| sd 19 rfl rfl <| sn) (.cons rfl (ro1 (by exact tZ_139.symm) (rlc (.dat rfl) <| rlc (.own _ rfl) <| rlc (.own _ rfl) <| rlc (.mref _ rfl) <| rln)) <| .cons rfl (roM D141) <| .cons rfl (roM D3) <| .cons rfl (roMap (fk := FK3) (fv := FV3) (m := (mput kqI at__2 x.At i)) tZ_97 (fun _ => .dat rfl) (fun _ => .ren (.dat rfl))) <| .nil) rfl rfl⟩
        ·
         refine D_q0 6 _ rfl (by kernel_rfl) rfl rfl (v_loadS (ov rfl) rfl rfl rfl tS3 (at_get (at0 (hdc (n := 0) hd0)))) ?_
         refine D_one 18 _ _ rfl (by kernel_rfl) rfl rfl (fun h => by cases h) (fun h => by cases h) (w_mapEntry (m := at__2) (fk := FK3) (fv := FV3) (k := x.At) (z0 := 0) (ov rfl) (ov rfl) tMp97 tKO3 rfl (fun _ => .b rfl) (zero_scal tZV3 rfl)) ?_
         refine D_q0 19 _ rfl (by kernel_rfl) rfl rfl (v_extract (ov rfl) rfl) ?_
         refine D_one 20 _ _ rfl (by kernel_rfl) rfl rfl (fun h => by cases h) (fun h => by cases h) (w_entryStore (m := at__2) (fk := FK3) (fv := FV3) (k := x.At) (v := i) (ov rfl) (ov rfl) (ov rfl) tMp97 rfl) ?_
         refine D_done (by kernel_rfl) ?_
         exact ⟨(l, (mput kqI at__2 x.At i)), h, Ent.sel [some 0, some 1, some 2, some 3] (sr 3 rfl (.ptr _ _ _ rfl) <| sr 17 rfl (.own _ rfl) <| sd 18 rfl rfl <| sd 19 rfl rfl <| sn) (.cons rfl (ro1 (by exact tZ_139.symm) (rlc (.dat rfl) <| rlc (.own _ rfl) <| rlc (.own _ rfl) <| rlc (.mref _ rfl) <| rln)) <| .cons rfl (roM D141) <| .cons rfl (roM D3) <| .cons rfl (roMap (fk := FK3) (fv := FV3) (m := (mput kqI at__2 x.At i)) tZ_97 (fun _ => .dat rfl) (fun _ => .ren (.dat rfl))) <| .nil) rfl rfl⟩
       ·
        refine D_q0 5 _ rfl (by kernel_rfl) rfl rfl (v_fieldP (ov rfl) rfl rfl tF141_0) ?_
        refine D_q0 6 _ rfl (by kernel_rfl) rfl rfl (v_loadS (ov rfl) rfl rfl rfl tS3 (at_get (at0 (hdc (n := 0) hd0)))) ?_
        refine D_one 18 _ _ rfl (by kernel_rfl) rfl rfl (fun h => by cases h) (fun h => by cases h) (w_mapEntry (m := at__2) (fk := FK3) (fv := FV3) (k := x.At) (z0 := 0) (ov rfl) (ov rfl) tMp97 tKO3 rfl (fun _ => .b rfl) (zero_scal tZV3 rfl)) ?_
        refine D_q0 19 _ rfl (by kernel_rfl) rfl rfl (v_extract (ov rfl) rfl) ?_
        refine D_one 20 _ _ rfl (by kernel_rfl) rfl rfl (fun h => by cases h) (fun h => by cases h) (w_entryStore (m := at__2) (fk := FK3) (fv := FV3) (k := x.At) (v := i) (ov rfl) (ov rfl) (ov rfl) tMp97 rfl) ?_
        refine D_done (by kernel_rfl) ?_
        exact ⟨(l, (mput kqI at__2 x.At i)), h, Ent.sel [some 0, some 1, some 2, some 3] (sr 3 rfl (.ptr _ _ _ rfl) <| sr 17 rfl (.own _ rfl) <| sd 18 rfl rfl <| sd 19 rfl rfl <| sn) (.cons rfl (ro1 (by exact tZ_139.symm) (rlc (.dat rfl) <| rlc (.own _ rfl) <| rlc (.own _ rfl) <| rlc (.mref _ rfl) <| rln)) <| .cons rfl (roM D141) <| .cons rfl (roM D3) <| .cons rfl (roMap (fk := FK3) (fv := FV3) (m := (mput kqI at__2 x.At i)) tZ_97 (fun _ => .dat rfl) (fun _ => .ren (.dat rfl))) <| .nil) rfl rfl⟩
     ·
      refine D_many [3, 6, 13] (by kernel_rfl) (.q rfl rfl rfl (v_fieldP (ov rfl) rfl rfl tF139_3) ?_ <| .q rfl rfl rfl (v_loadS (ov rfl) rfl rfl rfl tS3 (at_get (at0 (hdc (n := 0) hd0)))) ?_ <| .w rfl rfl rfl (fun h => by cases h) (fun h => by cases h) (w_appendG (ov rfl) (slv_sl (ov rfl) tZ_3) tL26 rfl rfl rfl (fun _ => cell1_all rfl) rfl h_l) ?_ <| .nil) 
      ·
       refine D_many [4, 6, 13] (by kernel_rfl) (.q rfl rfl rfl (v_loadS (ov rfl) rfl rfl rfl tS97 rfl) ?_ <| .q rfl rfl rfl (v_loadS (ov rfl) rfl rfl rfl tS3 (at_get (at0 (hdc (n := 0) hd0)))) ?_ <| .w rfl rfl rfl (fun h => by cases h) (fun h => by cases h) (w_appendG (ov rfl) (slv_sl (ov rfl) tZ_3) tL26 rfl rfl rfl (fun _ => cell1_all rfl) rfl h_l) ?_ <| .nil) 
       ·
        refine D_twoQ 6 13 rfl rfl (by kernel_rfl) rfl rfl rfl rfl (fun h => by cases h) (fun h => by cases h) (v_loadS (ov rfl) rfl rfl rfl tS3 (at_get (at0 (hdc (n := 0) hd0)))) (w_appendG (ov rfl) (slv_sl (ov rfl) tZ_3) tL26 rfl rfl rfl (fun _ => cell1_all rfl) rfl h_l) ?_ ?_
        ·
         refine D_one 13 _ _ rfl (by kernel_rfl) rfl rfl (fun h => by cases h) (fun h => by cases h) (w_appendG (ov rfl) (slv_sl (ov rfl) tZ_3) tL26 rfl rfl rfl (fun _ => cell1_all rfl) rfl h_l) ?_
         refine D_q0 15 _ rfl (by kernel_rfl) rfl rfl (v_nilCheckP (ov rfl) rfl rfl) ?_
         refine D_q0 16 _ rfl (by kernel_rfl) rfl rfl (v_fieldP (ov rfl) rfl rfl tF139_2) ?_
         refine D_one 17 _ _ rfl (by kernel_rfl) rfl rfl (fun h => by cases h) (fun h => by cases h) (w_store (ov rfl) (ov rfl) (cells_scal tS26) rfl rfl rfl (Nat.le_of_ble_eq_true rfl) (cell1_all rfl) rfl) ?_
         refine D_one 18 _ _ rfl (by kernel_rfl) rfl rfl (fun h => by cases h) (fun h => by cases h) (w_mapEntry (m := at__2) (fk := FK3) (fv := FV3) (k := x.At) (z0 := 0) (ov rfl) (ov rfl) tMp97 tKO3 rfl (fun _ => .b rfl) (zero_scal tZV3 rfl)) ?_
         refine D_q0 19 _ rfl (by kernel_rfl) rfl rfl (v_extract (ov rfl) rfl) ?_
         refine D_one 20 _ _ rfl (by kernel_rfl) rfl rfl (fun h => by cases h) (fun h => by cases h) (w_entryStore (m := at__2) (fk := FK3) (fv := FV3) (k := x.At) (v := i) (ov rfl) (ov rfl) (ov rfl) tMp97 rfl) ?_
         refine D_done (by kernel_rfl) ?_
         exact ⟨(l, (mput kqI at__2 x.At i)), h, Ent.sel [some 0, some 1, some 2, some 3] (sr 3 rfl (.ptr _ _ _ rfl) <| sr 17 rfl (.own _ rfl) <| sd 18 rfl rfl <| sd 19 rfl rfl <| sn) (.cons rfl (ro1 (by exact tZ_139.symm) (rlc (.dat rfl) <| rlc (.own _ rfl) <| rlc (.own _ rfl) <| rlc (.mref _ rfl) <| rln)) <| .cons rfl (roM D141) <| .cons rfl (roM D3) <| .cons rfl (roMap (fk := FK3) (fv := FV3) (m := (mput kqI at__2 x.At i)) tZ_97 (fun _ => .dat rfl) (fun _ => .ren (.dat rfl))) <| .nil) rfl rfl⟩
        ·
         refine D_q0 15 _ rfl (by kernel_rfl) rfl rfl (v_nilCheckP (ov rfl) rfl rfl) ?_
         refine D_q0 16 _ rfl (by kernel_rfl) rfl rfl (v_fieldP (ov rfl) rfl rfl tF139_2) ?_
         refine D_twoQ 6 17 rfl rfl (by kernel_rfl) rfl rfl rfl rfl (fun h => by cases h) (fun h => by cases h) (v_loadS (ov rfl) rfl rfl rfl tS3 (at_get (at0 (hdc (n := 0) hd0)))) (w_store (ov rfl) (ov rfl) (cells_scal tS26) rfl rfl rfl (Nat.le_of_ble_eq_true rfl) (cell1_all rfl) rfl) ?_ ?_
         ·
          refine D_one 17 _ _ rfl (by kernel_rfl) rfl rfl (fun h => by cases h) (fun h => by cases h) (w_store (ov rfl) (ov rfl) (cells_scal tS26) rfl rfl rfl (Nat.le_of_ble_eq_true rfl) (cell1_all rfl) rfl) ?_
          refine D_one 18 _ _ rfl (by kernel_rfl) rfl rfl (fun h => by cases h) (fun h => by cases h) (w_mapEntry (m := at__2) (fk := FK3) (fv := FV3) (k := x.At) (z0 := 0) (ov rfl) (ov rfl) tMp97 tKO3 rfl (fun _ => .b rfl) (zero_scal tZV3 rfl)) ?_
          refine D_q0 19 _ rfl (by kernel_rfl) rfl rfl (v_extract (ov rfl) rfl) ?_
          refine D_one 20 _ _ rfl (by kernel_rfl) rfl rfl (fun h => by cases h) (fun h => by cases h) (w_entryStore (m := at__2) (fk := FK3) (fv := FV3) (k := x.At) (v := i) (ov rfl) (ov rfl) (ov rfl) tMp97 rfl) ?_
          refine D_done (by kernel_rfl) ?_
          exact ⟨(l, (mput kqI at__2 x.At i)), h, Ent.sel [some 0, some 1, some 2, some 3] (sr 3 rfl (.ptr _ _ _ rfl) <| sr 17 rfl (.own _ rfl) <| sd 18 rfl rfl <| sd 19 rfl rfl <| sn) (.cons rfl (ro1 (by exact tZ_139.symm) (rlc (.dat rfl) <| rlc (.own _ rfl) <| rlc (.own _ rfl) <| rlc (.mref _ rfl) <| rln)) <| .cons rfl (roM D141) <| .cons rfl (roM D3) <| .cons rfl (roMap (fk := FK3) (fv := FV3) (m := (mput kqI at__2 x.At i)) tZ_97 (fun _ => .dat rfl) (fun _ => .ren (.dat rfl))) <| .nil) rfl rfl⟩
         ·
          refine D_q0 6 _ rfl (by kernel_rfl) rfl rfl (v_loadS (ov rfl) rfl rfl rfl tS3 (at_get (at0 (hdc (n := 0) hd0)))) ?_
          refine D_one 18 _ _ rfl (by kernel_rfl) rfl rfl (fun h => by cases h) (fun h => by cases h) (w_mapEntry (m := at__2) (fk := FK3) (fv := FV3) (k := x.At) (z0 := 0) (ov rfl) (ov rfl) tMp97 tKO3 rfl (fun _ => .b rfl) (zero_scal tZV3 rfl)) ?_
          refine D_q0 19 _ rfl (by kernel_rfl) rfl rfl (v_extract (ov rfl) rfl) ?_
          refine D_one 20 _ _ rfl (by kernel_rfl) rfl rfl (fun h => by cases h) (fun h => by cases h) (w_entryStore (m := at__2) (fk := FK3) (fv := FV3) (k := x.At) (v := i) (ov rfl) (ov rfl) (ov rfl) tMp97 rfl) ?_
          refine D_done (by kernel_rfl) ?_
          exact ⟨(l, (mput kqI at__2 x.At i)), h, Ent.sel [some 0, some 1, some 2, some 3] (sr 3 rfl (.ptr _ _ _ rfl) <| sr 17 rfl (.own _ rfl) <| sd 18 rfl rfl <| sd 19 rfl rfl <| sn) (.cons rfl (ro1 (by exact tZ_139.symm) (rlc (.dat rfl) <| rlc (.own _ rfl) <| rlc (.own _ rfl) <| rlc (.mref _ rfl) <| rln)) <| .cons rfl (roM D141) <| .cons rfl (roM D3) <| .cons rfl (roMap (fk := FK3) (fv := FV3) (m := (mput kqI at__2 x.At i)) tZ_97 (fun _ => .dat rfl) (fun _ => .ren (.dat rfl))) <| .nil) rfl rfl⟩
       ·
        refine D_twoQ 4 13 rfl rfl (by kernel_rfl) rfl rfl rfl rfl (fun h => by cases h) (fun h => by cases h) (v_loadS (ov rfl) rfl rfl rfl tS97 rfl) (w_appendG (ov rfl) (slv_sl (ov rfl) tZ_3) tL26 rfl rfl rfl (fun _ => cell1_all rfl) rfl h_l) ?_ ?_
        ·
         refine D_one 13 _ _ rfl (by kernel_rfl) rfl rfl (fun h => by cases h) (fun h => by cases h) (w_appendG (ov rfl) (slv_sl (ov rfl) tZ_3) tL26 rfl rfl rfl (fun _ => cell1_all rfl) rfl h_l) ?_
         refine D_q0 15 _ rfl (by kernel_rfl) rfl rfl (v_nilCheckP (ov rfl) rfl rfl) ?_
         refine D_q0 16 _ rfl (by kernel_rfl) rfl rfl (v_fieldP (ov rfl) rfl rfl tF139_2) ?_
         refine D_one 17 _ _ rfl (by kernel_rfl) rfl rfl (fun h => by cases h) (fun h => by cases h) (w_store (ov rfl) (ov rfl) (cells_scal tS26) rfl rfl rfl (Nat.le_of_ble_eq_true rfl) (cell1_all rfl) rfl) ?_
         refine D_one 18 _ _ rfl (by kernel_rfl) rfl rfl (fun h => by cases h) (fun h => by cases h) (w_mapEntry (m := at__2) (fk := FK3) (fv := FV3) (k := x.At) (z0 := 0) (ov rfl) (ov rfl) tMp97 tKO3 rfl (fun _ => .b rfl) (zero_scal tZV3 rfl)) ?_
         refine D_q0 19 _ rfl (by kernel_rfl) rfl rfl (v_extract (ov rfl) rfl) ?_
         refine D_one 20 _ _ rfl (by kernel_rfl) rfl rfl (fun h => by cases h) (fun h => by cases h) (w_entryStore (m := at__2) (fk := FK3) (fv := FV3) (k := x.At) (v := i) (ov rfl) (ov rfl) (ov rfl) tMp97 rfl) ?_
         refine D_done (by kernel_rfl) ?_
         exact ⟨(l, (mput kqI at__2 x.At i)), h, Ent.sel [some 0, some 1, some 2, some 3] (sr 3 rfl (.ptr _ _ _ rfl) <| sr 17 rfl (.own _ rfl) <| sd 18 rfl rfl <| sd 19 rfl rfl <| sn) (.cons rfl (ro1 (by exact tZ_139.symm) (rlc (.dat rfl) <| rlc (.own _ rfl) <| rlc (.own _ rfl) <| rlc (.mref _ rfl) <| rln)) <| .cons rfl (roM D141) <| .cons rfl (roM D3) <| .cons rfl (roMap (fk := FK3) (fv := FV3) (m := (mput kqI at__2 x.At i)) tZ_97 (fun _ => .dat rfl) (fun _ => .ren (.dat rfl))) <| .nil) rfl rfl⟩
        ·
         refine D_q0 4 _ rfl (by kernel_rfl) rfl rfl (v_loadS (ov rfl) rfl rfl rfl tS97 rfl) ?_
         refine D_q0 15 _ rfl (by kernel_rfl) rfl rfl (v_nilCheckP (ov rfl) rfl rfl) ?_
         refine D_q0 16 _ rfl (by kernel_rfl) rfl rfl (v_fieldP (ov rfl) rfl rfl tF139_2) ?_
         refine D_one 17 _ _ rfl (by kernel_rfl) rfl rfl (fun h => by cases h) (fun h => by cases h) (w_store (ov rfl) (ov rfl) (cells_scal tS26) rfl rfl rfl (Nat.le_of_ble_eq_true rfl) (cell1_all rfl) rfl) ?_
         refine D_one 18 _ _ rfl (by kernel_rfl) rfl rfl (fun h => by cases h) (fun h => by cases h) (w_mapEntry (m := at__2) (fk := FK3) (fv := FV3) (k := x.At) (z0 := 0) (ov rfl) (ov rfl) tMp97 tKO3 rfl (fun _ => .b rfl) (zero_scal tZV3 rfl)) ?_
         refine D_q0 19 _ rfl (by kernel_rfl) rfl rfl (v_extract (ov rfl) rfl) ?_
         refine D_one 20 _ _ rfl (by kernel_rfl) rfl rfl (fun h => by cases h) (fun h => by cases h) (w_entryStore (m := at__2) (fk := FK3) (fv := FV3) (k := x.At) (v := i) (ov rfl) (ov rfl) (ov rfl) tMp97 rfl) ?_
         refine D_done (by kernel_rfl) ?_
         exact ⟨(l, (mput kqI at__2 x.At i)), h, Ent.sel [some 0, some 1, some 2, some 3] (sr 3 rfl (.ptr _ _ _ rfl) <| sr 17 rfl (.own _ rfl) <| sd 18 rfl rfl <| sd 19 rfl rfl <| sn) (.cons rfl (ro1 (by exact tZ_139.symm) (rlc (.dat rfl) <| rlc (.own _ rfl) <| rlc (.own _ rfl) <| rlc (.mref _ rfl) <| rln)) <| .cons rfl (roM D141) <| .cons rfl (roM D3) <| .cons rfl (roMap (fk := FK3) (fv := FV3) (m := (mput kqI at__2 x.At i)) tZ_97 (fun _ => .dat rfl) (fun _ => .ren (.dat rfl))) <| .nil) rfl rfl⟩
       ·
        refine D_q0 4 _ rfl (by kernel_rfl) rfl rfl (v_loadS (ov rfl) rfl rfl rfl tS97 rfl) ?_
        refine D_q0 15 _ rfl (by kernel_rfl) rfl rfl (v_nilCheckP (ov rfl) rfl rfl) ?_
        refine D_q0 16 _ rfl (by kernel_rfl) rfl rfl (v_fieldP (ov rfl) rfl rfl tF139_2) ?_
        refine D_twoQ 6 17 rfl rfl (by kernel_rfl) rfl rfl rfl rfl (fun h => by cases h) (fun h => by cases h) (v_loadS (ov rfl) rfl rfl rfl tS3 (at_get (at0 (hdc (n := 0) hd0)))) (w_store (ov rfl) (ov rfl) (cells_scal tS26) rfl rfl rfl (Nat.le_of_ble_eq_true rfl) (cell1_all rfl) rfl) ?_ ?_
        ·
         refine D_one 17 _ _ rfl (by kernel_rfl) rfl rfl (fun h => by cases h) (fun h => by cases h) (w_store (ov rfl) (ov rfl) (cells_scal tS26) rfl rfl rfl (Nat.le_of_ble_eq_true rfl) (cell1_all rfl) rfl) ?_
         refine D_one 18 _ _ rfl (by kernel_rfl) rfl rfl (fun h => by cases h) (fun h => by cases h) (w_mapEntry (m := at__2) (fk := FK3) (fv := FV3) (k := x.At) (z0 := 0) (ov rfl) (ov rfl) tMp97 tKO3 rfl (fun _ => .b rfl) (zero_scal tZV3 rfl)) ?_
         refine D_q0 19 _ rfl (by kernel_rfl) rfl rfl (v_extract (ov rfl) rfl) ?_
         refine D_one 20 _ _ rfl (by kernel_rfl) rfl rfl (fun h => by cases h) (fun h => by cases h) (w_entryStore (m := at__2) (fk := FK3) (fv := FV3) (k := x.At) (v := i) (ov rfl) (ov rfl) (ov rfl) tMp97 rfl) ?_
         refine D_done (by kernel_rfl) ?_
         exact ⟨(l, (mput kqI at__2 x.At i)), h, Ent.sel [some 0, some 1, some 2, some 3] (sr 3 rfl (.ptr _ _ _ rfl) <| sr 17 rfl (.own _ rfl) <| sd 18 rfl rfl <| sd 19 rfl rfl <| sn) (.cons rfl (ro1 (by exact tZ_139.symm) (rlc (.dat rfl) <| rlc (.own _ rfl) <| rlc (.own _ rfl) <| rlc (.mref _ rfl) <| rln)) <| .cons rfl (roM D141) <| .cons rfl (roM D3) <| .cons rfl (roMap (fk := FK3) (fv := FV3) (m := (mput kqI at__2 x.At i)) tZ_97 (fun _ => .dat rfl) (fun _ => .ren (.dat rfl))) <| .nil) rfl rfl⟩
        ·
         refine D_q0 6 _ rfl (by kernel_rfl) rfl rfl (v_loadS (ov rfl) rfl rfl rfl tS3 (at_get (at0 (hdc (n := 0) hd0)))) ?_
         refine D_one 18 _ _ rfl (by kernel_rfl) rfl rfl (fun h => by cases h) (fun h => by cases h) (w_mapEntry (m := at__2) (fk := FK3) (fv := FV3) (k := x.At) (z0 := 0) (ov rfl) (ov rfl) tMp97 tKO3 rfl (fun _ => .b rfl) (zero_scal tZV3 rfl)) ?_
         refine D_q0 19 _ rfl (by kernel_rfl) rfl rfl (v_extract (ov rfl) rfl) ?_
         refine D_one 20 _ _ rfl (by kernel_rfl) rfl rfl (fun h => by cases h) (fun h => by cases h) (w_entryStore (m := at__2) (fk := FK3) (fv := FV3) (k := x.At) (v := i) (ov rfl) (ov rfl) (ov rfl) tMp97 rfl) ?_
         refine D_done (by kernel_rfl) ?_
         exact ⟨(l, (mput kqI at__2 x.At i)), h, Ent.sel [some 0, some 1, some 2, some 3] (sr 3 rfl (.ptr _ _ _ rfl) <| sr 17 rfl (.own _ rfl) <| sd 18 rfl rfl <| sd 19 rfl rfl <| sn) (.cons rfl (ro1 (by exact tZ_139.symm) (rlc (.dat rfl) <| rlc (.own _ rfl) <| rlc (.own _ rfl) <| rlc (.mref _ rfl) <| rln)) <| .cons rfl (roM D141) <| .cons rfl (roM D3) <| .cons rfl (roMap (fk := FK3) (fv := FV3) (m := (mput kqI at__2 x.At i)) tZ_97 (fun _ => .dat rfl) (fun _ => .ren (.dat rfl))) <| .nil) rfl rfl⟩
      ·
       refine D_twoQ 3 13 rfl rfl (by kernel_rfl) rfl rfl rfl rfl (fun h => by cases h) (fun h => by cases h) (v_fieldP (ov rfl) rfl rfl tF139_3) (w_appendG (ov rfl) (slv_sl (ov rfl) tZ_3) tL26 rfl rfl rfl (fun _ => cell1_all rfl) rfl h_l) ?_ ?_
       ·
        refine D_twoQ 4 13 rfl rfl (by kernel_rfl) rfl rfl rfl rfl (fun h => by cases h) (fun h => by cases h) (v_loadS (ov rfl) rfl rfl rfl tS97 rfl) (w_appendG (ov rfl) (slv_sl (ov rfl) tZ_3) tL26 rfl rfl rfl (fun _ => cell1_all rfl) rfl h_l) ?_ ?_
        ·
         refine D_one 13 _ _ rfl (by kernel_rfl) rfl rfl (fun h => by cases h) (fun h => by cases h) (w_appendG (ov rfl) (slv_sl (ov rfl) tZ_3) tL26 rfl rfl rfl (fun _ => cell1_all rfl) rfl h_l) ?_
         refine D_q0 15 _ rfl (by kernel_rfl) rfl rfl (v_nilCheckP (ov rfl) rfl rfl) ?_
         refine D_q0 16 _ rfl (by kernel_rfl) rfl rfl (v_fieldP (ov rfl) rfl rfl tF139_2) ?_
         refine D_one 17 _ _ rfl (by kernel_rfl) rfl rfl (fun h => by cases h) (fun h => by cases h) (w_store (ov rfl) (ov rfl) (cells_scal tS26) rfl rfl rfl (Nat.le_of_ble_eq_true rfl) (cell1_all rfl) rfl) ?_
         refine D_one 18 _ _ rfl (by kernel_rfl) rfl rfl (fun h => by cases h) (fun h => by cases h) (w_mapEntry (m := at__2) (fk := FK3) (fv := FV3) (k := x.At) (z0 := 0) (ov rfl) (ov rfl) tMp97 tKO3 rfl (fun _ => .b rfl) (zero_scal tZV3 rfl)) ?_
         refine D_q0 19 _ rfl (by kernel_rfl) rfl rfl (v_extract (ov rfl) rfl) ?_
         refine D_one 20 _ _ rfl (by kernel_rfl) rfl rfl (fun h => by cases h) (fun h => by cases h) (w_entryStore (m := at__2) (fk := FK3) (fv := FV3) (k := x.At) (v := i) (ov rfl) (ov rfl) (ov rfl) tMp97 rfl) ?_
         refine D_done (by kernel_rfl) ?_
         exact ⟨(l, (mput kqI at__2 x.At i)), h, Ent.sel [some 0, some 1, some 2, some 3] (sr 3 rfl (.ptr _ _ _ rfl) <| sr 17 rfl (.own _ rfl) <| sd 18 rfl rfl <| sd 19 rfl rfl <| sn) (.cons rfl (ro1 (by exact tZ_139.symm) (rlc (.dat rfl) <| rlc (.own _ rfl) <| rlc (.own _ rfl) <| rlc (.mref _ rfl) <| rln)) <| .cons rfl (roM D141) <| .cons rfl (roM D3) <| .cons rfl (roMap (fk := FK3) (fv := FV3) (m := (mput kqI at__2 x.At i)) tZ_97 (fun _ => .dat rfl) (fun _ => .ren (.dat rfl))) <| .nil) rfl rfl⟩
        ·
         refine D_q0 4 _ rfl (by kernel_rfl) rfl rfl (v_loadS (ov rfl) rfl rfl rfl tS97 rfl) ?_
         refine D_q0 15 _ rfl (by kernel_rfl) rfl rfl (v_nilCheckP (ov rfl) rfl rfl) ?_
         refine D_q0 16 _ rfl (by kernel_rfl) rfl rfl (v_fieldP (ov rfl) rfl rfl tF139_2) ?_
         refine D_one 17 _ _ rfl (by kernel_rfl) rfl rfl (fun h => by cases h) (fun h => by cases h) (w_store (ov rfl) (ov rfl) (cells_scal tS26) rfl rfl rfl (Nat.le_of_ble_eq_true rfl) (cell1_all rfl) rfl) ?_
         refine D_one 18 _ _ rfl (by kernel_rfl) rfl rfl (fun h => by cases h) (fun h => by cases h) (w_mapEntry (m := at__2) (fk := FK3) (fv := FV3) (k := x.At) (z0 := 0) (ov rfl) (ov rfl) tMp97 tKO3 rfl (fun _ => .b rfl) (zero_scal tZV3 rfl)) ?_
         refine D_q0 19 _ rfl (by kernel_rfl) rfl rfl (v_extract (ov rfl) rfl) ?_
         refine D_one 20 _ _ rfl (by kernel_rfl) rfl rfl (fun h => by cases h) (fun h => by cases h) (w_entryStore (m := at__2) (fk := FK3) (fv := FV3) (k := x.At) (v := i) (ov rfl) (ov rfl) (ov rfl) tMp97 rfl) ?_
         refine D_done (by kernel_rfl) ?_
         exact ⟨(l, (mput kqI at__2 x.At i)), h, Ent.sel [some 0, some 1, some 2, some 3] (sr 3 rfl (.ptr _ _ _ rfl) <| sr 17 rfl (.own _ rfl) <| sd 18 rfl rfl <| sd 19 rfl rfl <| sn) (.cons rfl (ro1 (by exact tZ_139.symm) (rlc (.dat rfl) <| rlc (.own _ rfl) <| rlc (.own _ rfl) <| rlc (.mref _ rfl) <| rln)) <| .cons rfl (roM D141) <| .cons rfl (roM D3) <| .cons rfl (roMap (fk := FK3) (fv := FV3) (m := (mput kqI at__2 x.At i)) tZ_97 (fun _ => .dat rfl) (fun _ => .ren (.dat rfl))) <| .nil) rfl rfl⟩
       ·
        refine D_q0 3 _ rfl (by kernel_rfl) rfl rfl (v_fieldP (ov rfl) rfl rfl tF139_3) ?_
        refine D_q0 4 _ rfl (by kernel_rfl) rfl rfl (v_loadS (ov rfl) rfl rfl rfl tS97 rfl) ?_
        refine D_q0 15 _ rfl (by kernel_rfl) rfl rfl (v_nilCheckP (ov rfl) rfl rfl) ?_
        refine D_q0 16 _ rfl (by kernel_rfl) rfl rfl (v_fieldP (ov rfl) rfl rfl tF139_2) ?_
        refine D_one 17 _ _ rfl (by kernel_rfl) rfl rfl (fun h => by cases h) (fun h => by cases h) (w_store (ov rfl) (ov rfl) (cells_scal tS26) rfl rfl rfl (Nat.le_of_ble_eq_true rfl) (cell1_all rfl) rfl) ?_
        refine D_one 18 _ _ rfl (by kernel_rfl) rfl rfl (fun h => by cases h) (fun h => by cases h) (w_mapEntry (m := at__2) (fk := FK3) (fv := FV3) (k := x.At) (z0 := 0) (ov rfl) (ov rfl) tMp97 tKO3 rfl (fun _ => .b rfl) (zero_scal tZV3 rfl)) ?_
        refine D_q0 19 _ rfl (by kernel_rfl) rfl rfl (v_extract (ov rfl) rfl) ?_
        refine D_one 20 _ _ rfl (by kernel_rfl) rfl rfl (fun h => by cases h) (fun h => by cases h) (w_entryStore (m := at__2) (fk := FK3) (fv := FV3) (k := x.At) (v := i) (ov rfl) (ov rfl) (ov rfl) tMp97 rfl) ?_
        refine D_done (by kernel_rfl) ?_
        exact ⟨(l, (mput kqI at__2 x.At i)), h, Ent.sel [some 0, some 1, some 2, some 3] (sr 3 rfl (.ptr _ _ _ rfl) <| sr 17 rfl (.own _ rfl) <| sd 18 rfl rfl <| sd 19 rfl rfl <| sn) (.cons rfl (ro1 (by exact tZ_139.symm) (rlc (.dat rfl) <| rlc (.own _ rfl) <| rlc (.own _ rfl) <| rlc (.mref _ rfl) <| rln)) <| .cons rfl (roM D141) <| .cons rfl (roM D3) <| .cons rfl (roMap (fk := FK3) (fv := FV3) (m := (mput kqI at__2 x.At i)) tZ_97 (fun _ => .dat rfl) (fun _ => .ren (.dat rfl))) <| .nil) rfl rfl⟩
      ·
       refine D_q0 3 _ rfl (by kernel_rfl) rfl rfl (v_fieldP (ov rfl) rfl rfl tF139_3) ?_
       refine D_q0 4 _ rfl (by kernel_rfl) rfl rfl (v_loadS (ov rfl) rfl rfl rfl tS97 rfl) ?_
       refine D_q0 15 _ rfl (by kernel_rfl) rfl rfl (v_nilCheckP (ov rfl) rfl rfl) ?_
       refine D_q0 16 _ rfl (by kernel_rfl) rfl rfl (v_fieldP (ov rfl) rfl rfl tF139_2) ?_
       refine D_twoQ 6 17 rfl rfl (by kernel_rfl) rfl rfl rfl rfl (fun h => by cases h) (fun h => by cases h) (v_loadS (ov rfl) rfl rfl rfl tS3 (at_get (at0 (hdc (n := 0) hd0)))) (w_store (ov rfl) (ov rfl) (cells_scal tS26) rfl rfl rfl (Nat.le_of_ble_eq_true rfl) (cell1_all rfl) rfl) ?_ ?_
       ·
        refine D_one 17 _ _ rfl (by kernel_rfl) rfl rfl (fun h => by cases h) (fun h => by cases h) (w_store (ov rfl) (ov rfl) (cells_scal tS26) rfl rfl rfl (Nat.le_of_ble_eq_true rfl) (cell1_all rfl) rfl) ?_
        refine D_one 18 _ _ rfl (by kernel_rfl) rfl rfl (fun h => by cases h) (fun h => by cases h) (w_mapEntry (m := at__2) (fk := FK3) (fv := FV3) (k := x.At) (z0 := 0) (ov rfl) (ov rfl) tMp97 tKO3 rfl (fun _ => .b rfl) (zero_scal tZV3 rfl)) ?_
        refine D_q0 19 _ rfl (by kernel_rfl) rfl rfl (v_extract (ov rfl) rfl) ?_
        refine D_one 20 _ _ rfl (by kernel_rfl) rfl rfl (fun h => by cases h) (fun h => by cases h) (w_entryStore (m := at__2) (fk := FK3) (fv := FV3) (k := x.At) (v := i) (ov rfl) (ov rfl) (ov rfl) tMp97 rfl) ?_
        refine D_done (by kernel_rfl) ?_
        exact ⟨(l, (mput kqI at__2 x.At i)), h, Ent.sel [some 0, some 1, some 2, some 3] (sr 3 rfl (.ptr _ _ _ rfl) <| sr 17 rfl (.own _ rfl) <| sd 18 rfl rfl <| sd 19 rfl rfl <| sn) (.cons rfl (ro1 (by exact tZ_139.symm) (rlc (.dat rfl) <| rlc (.own _ rfl) <| rlc (.own _ rfl) <| rlc (.mref _ rfl) <| rln)) <| .cons rfl (roM D141) <| .cons rfl (roM D3) <| .cons rfl (roMap (fk := FK3) (fv := FV3) (m := (mput kqI at__2 x.At i)) tZ_97 (fun _ => .dat rfl) (fun _ => .ren (.dat rfl))) <| .nil) rfl rfl⟩
       ·
        refine D_q0 6 _ rfl (by kernel_rfl) rfl rfl (v_loadS (ov rfl) rfl rfl rfl tS3 (at_get (at0 (hdc (n := 0) hd0)))) ?_
        refine D_one 18 _ _ rfl (by kernel_rfl) rfl rfl (fun h => by cases h) (fun h => by cases h) (w_mapEntry (m := at__2) (fk := FK3) (fv := FV3) (k := x.At) (z0 := 0) (ov rfl) (ov rfl) tMp97 tKO3 rfl (fun _ => .b rfl) (zero_scal tZV3 rfl)) ?_
        refine D_q0 19 _ rfl (by kernel_rfl) rfl rfl (v_extract (ov rfl) rfl) ?_
        refine D_one 20 _ _ rfl (by kernel_rfl) rfl rfl (fun h => by cases h) (fun h => by cases h) (w_entryStore (m := at__2) (fk := FK3) (fv := FV3) (k := x.At) (v := i) (ov rfl) (ov rfl) (ov rfl) tMp97 rfl) ?_
        refine D_done (by kernel_rfl) ?_
        exact ⟨(l, (mput kqI at__2 x.At i)), h, Ent.sel [some 0, some 1, some 2, some 3] (sr 3 rfl (.ptr _ _ _ rfl) <| sr 17 rfl (.own _ rfl) <| sd 18 rfl rfl <| sd 19 rfl rfl <| sn) (.cons rfl (ro1 (by exact tZ_139.symm) (rlc (.dat rfl) <| rlc (.own _ rfl) <| rlc (.own _ rfl) <| rlc (.mref _ rfl) <| rln)) <| .cons rfl (roM D141) <| .cons rfl (roM D3) <| .cons rfl (roMap (fk := FK3) (fv := FV3) (m := (mput kqI at__2 x.At i)) tZ_97 (fun _ => .dat rfl) (fun _ => .ren (.dat rfl))) <| .nil) rfl rfl⟩
     ·
      refine D_q0 3 _ rfl (by kernel_rfl) rfl rfl (v_fieldP (ov rfl) rfl rfl tF139_3) ?_
      refine D_q0 4 _ rfl (by kernel_rfl) rfl rfl (v_loadS (ov rfl) rfl rfl rfl tS97 rfl) ?_
      refine D_q0 15 _ rfl (by kernel_rfl) rfl rfl (v_nilCheckP (ov rfl) rfl rfl) ?_
      refine D_q0 16 _ rfl (by kernel_rfl) rfl rfl (v_fieldP (ov rfl) rfl rfl tF139_2) ?_
      refine D_twoQ 5 17 rfl rfl (by kernel_rfl) rfl rfl rfl rfl (fun h => by cases h) (fun h => by cases h) (v_fieldP (ov rfl) rfl rfl tF141_0) (w_store (ov rfl) (ov rfl) (cells_scal tS26) rfl rfl rfl (Nat.le_of_ble_eq_true rfl) (cell1_all rfl) rfl) ?_ ?_
      ·
       refine D_twoQ 6 17 rfl rfl (by kernel_rfl) rfl rfl rfl rfl (fun h => by cases h) (fun h => by cases h) (v_loadS (ov rfl) rfl rfl rfl tS3 (at_get (at0 (hdc (n := 0) hd0)))) (w_store (ov rfl) (ov rfl) (cells_scal tS26) rfl rfl rfl (Nat.le_of_ble_eq_true rfl) (cell1_all rfl) rfl) ?_ ?_
       ·
        refine D_one 17 _ _ rfl (by kernel_rfl) rfl rfl (fun h => by cases h) (fun h => by cases h) (w_store (ov rfl) (ov rfl) (cells_scal tS26) rfl rfl rfl (Nat.le_of_ble_eq_true rfl) (cell1_all rfl) rfl) ?_
        refine D_one 18 _ _ rfl (by kernel_rfl) rfl rfl (fun h => by cases h) (fun h => by cases h) (w_mapEntry (m := at__2) (fk := FK3) (fv := FV3) (k := x.At) (z0 := 0) (ov rfl) (ov rfl) tMp97 tKO3 rfl (fun _ => .b rfl) (zero_scal tZV3 rfl)) ?_
        refine D_q0 19 _ rfl (by kernel_rfl) rfl rfl (v_extract (ov rfl) rfl) ?_
        refine D_one 20 _ _ rfl (by kernel_rfl) rfl rfl (fun h => by cases h) (fun h => by cases h) (w_entryStore (m := at__2) (fk := FK3) (fv := FV3) (k := x.At) (v := i) (ov rfl) (ov rfl) (ov rfl) tMp97 rfl) ?_
        refine D_done (by kernel_rfl) ?_
        exact ⟨(l, (mput kqI at__2 x.At i)), h, Ent.sel [some 0, some 1, some 2, some 3] (sr 3 rfl (.ptr _ _ _ rfl) <| sr 17 rfl (.own _ rfl) <| sd 18 rfl rfl <| sd 19 rfl rfl <| sn) (.cons rfl (ro1 (by exact tZ_139.symm) (rlc (.dat rfl) <| rlc (.own _ rfl) <| rlc (.own _ rfl) <| rlc (.mref _ rfl) <| rln)) <| .cons rfl (roM D141) <| .cons rfl (roM D3) <| .cons rfl (roMap (fk := FK3) (fv := FV3) (m := (mput kqI at__2 x.At i)) tZ_97 (fun _ => .dat rfl) (fun _ => .ren (.dat rfl))) <| .nil) rfl rfl⟩
       ·
        refine D_q0 6 _ rfl (by kernel_rfl) rfl rfl (v_loadS (ov rfl) rfl rfl rfl tS3 (at_get (at0 (hdc (n := 0) hd0)))) ?_
        refine D_one 18 _ _ rfl (by kernel_rfl) rfl rfl (fun h => by cases h) (fun h => by cases h) (w_mapEntry (m := at__2) (fk := FK3) (fv := FV3) (k := x.At) (z0 := 0) (ov rfl) (ov rfl) tMp97 tKO3 rfl (fun _ => .b rfl) (zero_scal tZV3 rfl)) ?_
        refine D_q0 19 _ rfl (by kernel_rfl) rfl rfl (v_extract (ov rfl) rfl) ?_
        refine D_one 20 _ _ rfl (by kernel_rfl) rfl rfl (fun h => by cases h) (fun h => by cases h) (w_entryStore (m := at__2) (fk := FK3) (fv := FV3) (k := x.At) (v := i) (ov rfl) (ov rfl) (ov rfl) tMp97 rfl) ?_
        refine D_done (by kernel_rfl) ?_
        exact ⟨(l, (mput kqI at__2 x.At i)), h, Ent.sel [some 0, some 1, some 2, some 3] (sr 3 rfl (.ptr _ _ _ rfl) <| sr 17 rfl (.own _ rfl) <| sd 18 rfl rfl <| sd 19 rfl rfl <| sn) (.cons rfl (ro1 (by exact tZ_139.symm) (rlc (.dat rfl) <| rlc (.own _ rfl) <| rlc (.own _ rfl) <| rlc (.mref _ rfl) <| rln)) <| .cons rfl (roM D141) <| .cons rfl (roM D3) <| .cons rfl (roMap (fk := FK3) (fv := FV3) (m := (mput kqI at__2 x.At i)) tZ_97 (fun _ => .dat rfl) (fun _ => .ren (.dat rfl))) <| .nil) rfl rfl⟩
      ·
       refine D_q0 5 _ rfl (by kernel_rfl) rfl rfl (v_fieldP (ov rfl) rfl rfl tF141_0) ?_
       refine D_q0 6 _ rfl (by kernel_rfl) rfl rfl (v_loadS (ov rfl) rfl rfl rfl tS3 (at_get (at0 (hdc (n := 0) hd0)))) ?_
       refine D_one 18 _ _ rfl (by kernel_rfl) rfl rfl (fun h => by cases h) (fun h => by cases h) (w_mapEntry (m := at__2) (fk := FK3) (fv := FV3) (k := x.At) (z0 := 0) (ov rfl) (ov rfl) tMp97 tKO3 rfl (fun _ => .b rfl) (zero_scal tZV3 rfl)) ?_
       refine D_q0 19 _ rfl (by kernel_rfl) rfl rfl (v_extract (ov rfl) rfl) ?_
       refine D_one 20 _ _ rfl (by kernel_rfl) rfl rfl (fun h => by cases h) (fun h => by cases h) (w_entryStore (m := at__2) (fk := FK3) (fv := FV3) (k := x.At) (v := i) (ov rfl) (ov rfl) (ov rfl) tMp97 rfl) ?_
       refine D_done (by kernel_rfl) ?_
       exact ⟨(l, (mput kqI at__2 x.At i)), h, Ent.sel [some 0, some 1, some 2, some 3] (sr 3 rfl (.ptr _ _ _ rfl) <| sr 17 rfl (.own _ rfl) <| sd 18 rfl rfl <| sd 19 rfl rfl <| sn) (.cons rfl (ro1 (by exact tZ_139.symm) (rlc (.dat rfl) <| rlc (.own _ rfl) <| rlc (.own _ rfl) <| rlc (.mref _ rfl) <| rln)) <| .cons rfl (roM D141) <| .cons rfl (roM D3) <| .cons rfl (roMap (fk := FK3) (fv := FV3) (m := (mput kqI at__2 x.At i)) tZ_97 (fun _ => .dat rfl) (fun _ => .ren (.dat rfl))) <| .nil) rfl rfl⟩
    ·
     refine D_many [2, 6, 13] (by kernel_rfl) (.q rfl rfl rfl (v_nilCheckP (ov rfl) rfl rfl) ?_ <| .q rfl rfl rfl (v_loadS (ov rfl) rfl rfl rfl tS3 (at_get (at0 (hdc (n := 0) hd0)))) ?_ <| .w rfl rfl rfl (fun h => by cases h) (fun h => by cases h) (w_appendG (ov rfl) (slv_sl (ov rfl) tZ_3) tL26 rfl rfl rfl (fun _ => cell1_all rfl) rfl h_l) ?_ <| .nil) 
     ·
      refine D_many [3, 6, 13] (by kernel_rfl) (.q rfl rfl rfl (v_fieldP (ov rfl) rfl rfl tF139_3) ?_ <| .q rfl rfl rfl (v_loadS (ov rfl) rfl rfl rfl tS3 (at_get (at0 (hdc (n := 0) hd0)))) ?_ <| .w rfl rfl rfl (fun h => by cases h) (fun h => by cases h) (w_appendG (ov rfl) (slv_sl (ov rfl) tZ_3) tL26 rfl rfl rfl (fun _ => cell1_all rfl) rfl h_l) ?_ <| .nil) 
      ·
       refine D_many [4, 6, 13] (by kernel_rfl) (.q rfl rfl rfl (v_loadS (ov rfl) rfl rfl rfl tS97 rfl) ?_ <| .q rfl rfl rfl (v_loadS (ov rfl) rfl rfl rfl tS3 (at_get (at0 (hdc (n := 0) hd0)))) ?_ <| .w rfl rfl rfl (fun h => by cases h) (fun h => by cases h) (w_appendG (ov rfl) (slv_sl (ov rfl) tZ_3) tL26 rfl rfl rfl (fun _ => cell1_all rfl) rfl h_l) ?_ <| .nil) 
       ·
        refine D_twoQ 6 13 rfl rfl (by kernel_rfl) rfl rfl rfl rfl (fun h => by cases h) (fun h => by cases h) (v_loadS (ov rfl) rfl rfl rfl tS3 (at_get (at0 (hdc (n := 0) hd0)))) (w_appendG (ov rfl) (slv_sl (ov rfl) tZ_3) tL26 rfl rfl rfl (fun _ => cell1_all rfl) rfl h_l) ?_ ?_
        ·
         refine D_one 13 _ _ rfl (by kernel_rfl) rfl rfl (fun h => by cases h) (fun h => by cases h) (w_appendG (ov rfl) (slv_sl (ov rfl) tZ_3) tL26 rfl rfl rfl (fun _ => cell1_all rfl) rfl h_l) ?_
         refine D_q0 15 _ rfl (by kernel_rfl) rfl rfl (v_nilCheckP (ov rfl) rfl rfl) ?_
         refine D_q0 16 _ rfl (by kernel_rfl) rfl rfl (v_fieldP (ov rfl) rfl rfl tF139_2) ?_
         refine D_one 17 _ _ rfl (by kernel_rfl) rfl rfl (fun h => by cases h) (fun h => by cases h) (w_store (ov rfl) (ov rfl) (cells_scal tS26) rfl rfl rfl (Nat.le_of_ble_eq_true rfl) (cell1_all rfl) rfl) ?_
         refine D_one 18 _ _ rfl (by kernel_rfl) rfl rfl (fun h => by cases h) (fun h => by cases h) (w_mapEntry (m := at__2) (fk := FK3) (fv := FV3) (k := x.At) (z0 := 0) (ov rfl) (ov rfl) tMp97 tKO3 rfl (fun _ => .b rfl) (zero_scal tZV3 rfl)) ?_
         refine D_q0 19 _ rfl (by kernel_rfl) rfl rfl (v_extract (ov rfl) rfl) ?_
         refine D_one 20 _ _ rfl (by kernel_rfl) rfl rfl (fun h => by cases h) (fun h => by cases h) (w_entryStore (m := at__2) (fk := FK3) (fv := FV3) (k := x.At) (v := i) (ov rfl) (ov rfl) (ov rfl) tMp97 rfl) ?_
         refine D_done (by kernel_rfl) ?_
         exact ⟨(l, (mput kqI at__2 x.At i)), h, Ent.sel [some 0, some 1, some 2, some 3] (sr 3 rfl (.ptr _ _ _ rfl) <| sr 17 rfl (.own _ rfl) <| sd 18 rfl rfl <| sd 19 rfl rfl <| sn) (.cons rfl (ro1 (by exact tZ_139.symm) (rlc (.dat rfl) <| rlc (.own _ rfl) <| rlc (.own _ rfl) <| rlc (.mref _ rfl) <| rln)) <| .cons rfl (roM D141) <| .cons rfl (roM D3) <| .cons rfl (roMap (fk := FK3) (fv := FV3) (m := (mput kqI at__2 x.At i)) tZ_97 (fun _ => .dat rfl) (fun _ => .ren (.dat rfl))) <| .nil) rfl rfl⟩
        ·
         refine D_q0 15 _ rfl (by kernel_rfl) rfl rfl (v_nilCheckP (ov rfl) rfl rfl) ?_
         refine D_q0 16 _ rfl (by kernel_rfl) rfl rfl (v_fieldP (ov rfl) rfl rfl tF139_2) ?_
         refine D_twoQ 6 17 rfl rfl (by kernel_rfl) rfl rfl rfl rfl (fun h => by cases h) (fun h => by cases h) (v_loadS (ov rfl) rfl rfl rfl tS3 (at_get (at0 (hdc (n := 0) hd0)))) (w_store (ov rfl) (ov rfl) (cells_scal tS26) rfl rfl rfl (Nat.le_of_ble_eq_true rfl) (cell1_all rfl) rfl) ?_ ?_
         ·
          refine D_one 17 _ _ rfl (by kernel_rfl) rfl rfl (fun h => by cases h) (fun h => by cases h) (w_store (ov rfl) (ov rfl) (cells_scal tS26) rfl rfl rfl (Nat.le_of_ble_eq_true rfl) (cell1_all rfl) rfl) ?_
          refine D_one 18 _ _ rfl (by kernel_rfl) rfl rfl (fun h => by cases h) (fun h => by cases h) (w_mapEntry (m := at__2) (fk := FK3) (fv := FV3) (k := x.At) (z0 := 0) (ov rfl) (ov rfl) tMp97 tKO3 rfl (fun _ => .b rfl) (zero_scal tZV3 rfl)) ?_
          refine D_q0 19 _ rfl (by kernel_rfl) rfl rfl (v_extract (ov rfl) rfl) ?_
          refine D_one 20 _ _ rfl (by kernel_rfl) rfl rfl (fun h => by cases h) (fun h => by cases h) (w_entryStore (m := at__2) (fk := FK3) (fv := FV3) (k := x.At) (v := i) (ov rfl) (ov rfl) (ov rfl) tMp97 rfl) ?_
          refine D_done (by kernel_rfl) ?_
          exact ⟨(l, (mput kqI at__2 x.At i)), h, Ent.sel [some 0, some 1, some 2, some 3] (sr 3 rfl (.ptr _ _ _ rfl) <| sr 17 rfl (.own _ rfl) <| sd 18 rfl rfl <| sd 19 rfl rfl <| sn) (.cons rfl (ro1 (by exact tZ_139.symm) (rlc (.dat rfl) <| rlc (.own _ rfl) <| rlc (.own _ rfl) <| rlc (.mref _ rfl) <| rln)) <| .cons rfl (roM D141) <| .cons rfl (roM D3) <| .cons rfl (roMap (fk := FK3) (fv := FV3) (m := (mput kqI at__2 x.At i)) tZ_97 (fun _ => .dat rfl) (fun _ => .ren (.dat rfl))) <| .nil) rfl rfl⟩
         ·
          refine D_q0 6 _ rfl (by kernel_rfl) rfl rfl (v_loadS (ov rfl) rfl rfl rfl tS3 (at_get (at0 (hdc (n := 0) hd0)))) ?_
          refine D_one 18 _ _ rfl (by kernel_rfl) rfl rfl (fun h => by cases h) (fun h => by cases h) (w_mapEntry (m := at__2) (fk := FK3) (fv := FV3) (k := x.At) (z0 := 0) (ov rfl) (ov rfl) tMp97 tKO3 rfl (fun _ => .b rfl) (zero_scal tZV3 rfl)) ?_
          refine D_q0 19 _ rfl (by kernel_rfl) rfl rfl (v_extract (ov rfl) rfl) ?_
          refine D_one 20 _ _ rfl (by kernel_rfl) rfl rfl (fun h => by cases h) (fun h => by cases h) (w_entryStore (m := at__2) (fk := FK3) (fv := FV3) (k := x.At) (v := i) (ov rfl) (ov rfl) (ov rfl) tMp97 rfl) ?_
          refine D_done (by kernel_rfl) ?_
          exact ⟨(l, (mput kqI at__2 x.At i)), h, Ent.sel [some 0, some 1, some 2, some 3] (sr 3 rfl (.ptr _ _ _ rfl) <| sr 17 rfl (.own _ rfl) <| sd 18 rfl rfl <| sd 19 rfl rfl <| sn) (.cons rfl (ro1 (by exact tZ_139.symm) (rlc (.dat rfl) <| rlc (.own _ rfl) <| rlc (.own _ rfl) <| rlc (.mref _ rfl) <| rln)) <| .cons rfl (roM D141) <| .cons rfl (roM D3) <| .cons rfl (roMap (fk := FK3) (fv := FV3) (m := (mput kqI at__2 x.At i)) tZ_97 (fun _ => .dat rfl) (fun _ => .ren (.dat rfl))) <| .nil) rfl rfl⟩
       ·
        refine D_twoQ 4 13 rfl rfl (by kernel_rfl) rfl rfl rfl rfl (fun h => by cases h) (fun h => by cases h) (v_loadS (ov rfl) rfl rfl rfl tS97 rfl) (w_appendG (ov rfl) (slv_sl (ov rfl) tZ_3) tL26 rfl rfl rfl (fun _ => cell1_all rfl) rfl h_l) ?_ ?_
        ·
         refine D_one 13 _ _ rfl (by kernel_rfl) rfl rfl (fun h => by cases h) (fun h => by cases h) (w_appendG (ov rfl) (slv_sl (ov rfl) tZ_3) tL26 rfl rfl rfl (fun _ => cell1_all rfl) rfl h_l) ?_
         refine D_q0 15 _ rfl (by kernel_rfl) rfl rfl (v_nilCheckP (ov rfl) rfl rfl) ?_
         refine D_q0 16 _ rfl (by kernel_rfl) rfl rfl (v_fieldP (ov rfl) rfl rfl tF139_2) ?_
         refine D_one 17 _ _ rfl (by kernel_rfl) rfl rfl (fun h => by cases h) (fun h => by cases h) (w_store (ov rfl) (ov rfl) (cells_scal tS26) rfl rfl rfl (Nat.le_of_ble_eq_true rfl) (cell1_all rfl) rfl) ?_
         refine D_one 18 _ _ rfl (by kernel_rfl) rfl rfl (fun h => by cases h) (fun h => by cases h) (w_mapEntry (m := at__2) (fk := FK3) (fv := FV3) (k := x.At) (z0 := 0) (ov rfl) (ov rfl) tMp97 tKO3 rfl (fun _ => .b rfl) (zero_scal tZV3 rfl)) ?_
         refine D_q0 19 _ rfl (by kernel_rfl) rfl rfl (v_extract (ov rfl) rfl) ?_
         refine D_one 20 _ _ rfl (by kernel_rfl) rfl rfl (fun h => by cases h) (fun h => by cases h) (w_entryStore (m := at__2) (fk := FK3) (fv := FV3) (k := x.At) (v := i) (ov rfl) (ov rfl) (ov rfl) tMp97 rfl) ?_
         refine D_done (by kernel_rfl) ?_
         exact ⟨(l, (mput kqI at__2 x.At i)), h, Ent.sel [some 0, some 1, some 2, some 3] (sr 3 rfl (.ptr _ _ _ rfl) <| sr 17 rfl (.own _ rfl) <| sd 18 rfl rfl <| sd 19 rfl rfl <| sn) (.cons rfl (ro1 (by exact tZ_139.symm) (rlc (.dat rfl) <| rlc (.own _ rfl) <| rlc (.own _ rfl) <| rlc (.mref _ rfl) <| rln)) <| .cons rfl (roM D141) <| .cons rfl (roM D3) <| .cons rfl (roMap (fk := FK3) (fv := FV3) (m := (mput kqI at__2 x.At i)) tZ_97 (fun _ => .dat rfl) (fun _ => .ren (.dat rfl))) <| .nil) rfl rfl⟩
        ·
         refine D_q0 4 _ rfl (by kernel_rfl) rfl rfl (v_loadS (ov rfl) rfl rfl rfl tS97 rfl) ?_
         refine D_q0 15 _ rfl (by kernel_rfl) rfl rfl (v_nilCheckP (ov rfl) rfl rfl) ?_
         refine D_q0 16 _ rfl (by kernel_rfl) rfl rfl (v_fieldP (ov rfl) rfl rfl tF139_2) ?_
         refine D_one 17 _ _ rfl (by kernel_rfl) rfl rfl (fun h => by cases h) (fun h => by cases h) (w_store (ov rfl) (ov rfl) (cells_scal tS26) rfl rfl rfl (Nat.le_of_ble_eq_true rfl) (cell1_all rfl) rfl) ?_
         refine D_one 18 _ _ rfl (by kernel_rfl) rfl rfl (fun h => by cases h) (fun h => by cases h) (w_mapEntry (m := at__2) (fk := FK3) (fv := FV3) (k := x.At) (z0 := 0) (ov rfl) (ov rfl) tMp97 tKO3 rfl (fun _ => .b rfl) (zero_scal tZV3 rfl)) ?_
         refine D_q0 19 _ rfl (by kernel_rfl) rfl rfl (v_extract (ov rfl) rfl) ?_
         refine D_one 20 _ _ rfl (by kernel_rfl) rfl rfl (fun h => by cases h) (fun h => by cases h) (w_entryStore (m := at__2) (fk := FK3) (fv := FV3) (k := x.At) (v := i) (ov rfl) (ov rfl) (ov rfl) tMp97 rfl) ?_
         refine D_done (by kernel_rfl) ?_
         exact ⟨(l, (mput kqI at__2 x.At i)), h, Ent.sel [some 0, some 1, some 2, some 3] (sr 3 rfl (.ptr _ _ _ rfl) <| sr 17 rfl (.own _ rfl) <| sd 18 rfl rfl <| sd 19 rfl rfl <| sn) (.cons rfl (ro1 (by exact tZ_139.symm) (rlc (.dat rfl) <| rlc (.own _ rfl) <| rlc (.own _ rfl) <| rlc (.mref _ rfl) <| rln)) <| .cons rfl (roM D141) <| .cons rfl (roM D3) <| .cons rfl (roMap (fk := FK3) (fv := FV3) (m := (mput kqI at__2 x.At i)) tZ_97 (fun _ => .dat rfl) (fun _ => .ren (.dat rfl))) <| .nil) rfl rfl⟩
       ·
        refine D_q0 4 _ rfl (by kernel_rfl) rfl rfl (v_loadS (ov rfl) rfl rfl rfl tS97 rfl) ?_
        refine D_q0 15 _ rfl (by kernel_rfl) rfl rfl (v_nilCheckP (ov rfl) rfl rfl) ?_
        refine D_q0 16 _ rfl (by kernel_rfl) rfl rfl (v_fieldP (ov rfl) rfl rfl tF139_2) ?_
        refine D_twoQ 6 17 rfl rfl (by kernel_rfl) rfl rfl rfl rfl (fun h => by cases h) (fun h => by cases h) (v_loadS (ov rfl) rfl rfl rfl tS3 (at_get (at0 (hdc (n := 0) hd0)))) (w_store (ov rfl) (ov rfl) (cells_scal tS26) rfl rfl rfl (Nat.le_of_ble_eq_true rfl) (cell1_all rfl) rfl) ?_ ?_
        ·
         refine D_one 17 _ _ rfl (by kernel_rfl) rfl rfl (fun h => by cases h) (fun h => by cases h) (w_store (ov rfl) (ov rfl) (cells_scal tS26) rfl rfl rfl (Nat.le_of_ble_eq_true rfl) (cell1_all rfl) rfl) ?_
         refine D_one 18 _ _ rfl (by kernel_rfl) rfl rfl (fun h => by cases h) (fun h => by cases h) (w_mapEntry (m := at__2) (fk := FK3) (fv := FV3) (k := x.At) (z0 := 0) (ov rfl) (ov rfl) tMp97 tKO3 rfl (fun _ => .b rfl) (zero_scal tZV3 rfl)) ?_
         refine D_q0 19 _ rfl (by kernel_rfl) rfl rfl (v_extract (ov rfl) rfl) ?_
         refine D_one 20 _ _ rfl (by kernel_rfl) rfl rfl (fun h => by cases h) (fun h => by cases h) (w_entryStore (m := at__2) (fk := FK3) (fv := FV3) (k := x.At) (v := i) (ov rfl) (ov rfl) (ov rfl) tMp97 rfl) ?_
         refine D_done (by kernel_rfl) ?_
         exact ⟨(l, (mput kqI at__2 x.At i)), h, Ent.sel [some 0, some 1, some 2, some 3] (sr 3 rfl (.ptr _ _ _ rfl) <| sr 17 rfl (.own _ rfl) <| sd 18 rfl rfl <| sd 19 rfl rfl <| sn) (.cons rfl (ro1 (by exact tZ_139.symm) (rlc (.dat rfl) <| rlc (.own _ rfl) <| rlc (.own _ rfl) <| rlc (.mref _ rfl) <| rln)) <| .cons rfl (roM D141) <| .cons rfl (roM D3) <| .cons rfl (roMap (fk := FK3) (fv := FV3) (m := (mput kqI at__2 x.At i)) tZ_97 (fun _ => .dat rfl) (fun _ => .ren (.dat rfl))) <| .nil) rfl rfl⟩
        ·
         refine D_q0 6 _ rfl (by kernel_rfl) rfl rfl (v_loadS (ov rfl) rfl rfl rfl tS3 (at_get (at0 (hdc (n := 0) hd0)))) ?_
         refine D_one 18 _ _ rfl (by kernel_rfl) rfl rfl (fun h => by cases h) (fun h => by cases h) (w_mapEntry (m := at__2) (fk := FK3) (fv := FV3) (k := x.At) (z0 := 0) (ov rfl) (ov rfl) tMp97 tKO3 rfl (fun _ => .b rfl) (zero_scal tZV3 rfl)) ?_
         refine D_q0 19 _ rfl (by kernel_rfl) rfl rfl (v_extract (ov rfl) rfl) ?_
         refine D_one 20 _ _ rfl (by kernel_rfl) rfl rfl (fun h => by cases h) (fun h => by cases h) (w_entryStore (m := at__2) (fk := FK3) (fv := FV3) (k := x.At) (v := i) (ov rfl) (ov rfl) (ov rfl) tMp97 rfl) ?_
         refine D_done (by kernel_rfl) ?_
         exact ⟨(l, (mput kqI at__2 x.At i)), h, Ent.sel [some 0, some 1, some 2, some 3] (sr 3 rfl (.ptr _ _ _ rfl) <| sr 17 rfl (.own _ rfl) <| sd 18 rfl rfl <| sd 19 rfl rfl <| sn) (.cons rfl (ro1 (by exact tZ_139.symm) (rlc (.dat rfl) <| rlc (.own _ rfl) <| rlc (.own _ rfl) <| rlc (.mref _ rfl) <| rln)) <| .cons rfl (roM D141) <| .cons rfl (roM D3) <| .cons rfl (roMap (fk := FK3) (fv := FV3) (m := (mput kqI at__2 x.At i)) tZ_97 (fun _ => .dat rfl) (fun _ => .ren (.dat rfl))) <| .nil) rfl rfl⟩
      ·
       refine D_twoQ 3 13 rfl rfl (by kernel_rfl) rfl rfl rfl rfl (fun h => by cases h) (fun h => by cases h) (v_fieldP (ov rfl) rfl rfl tF139_3) (w_appendG (ov rfl) (slv_sl (ov rfl) tZ_3) tL26 rfl rfl rfl (fun _ => cell1_all rfl) rfl h_l) ?_ ?_
       ·
        refine D_twoQ 4 13 rfl rfl (by kernel_rfl) rfl rfl rfl rfl (fun h => by cases h) (fun h => by cases h) (v_loadS (ov rfl) rfl rfl rfl tS97 rfl) (w_appendG (ov rfl) (slv_sl (ov rfl) tZ_3) tL26 rfl rfl rfl (fun _ => cell1_all rfl) rfl h_l) ?_ ?_
        ·
         refine D_one 13 _ _ rfl (by kernel_rfl) rfl rfl (fun h => by cases h) (fun h => by cases h) (w_appendG (ov rfl) (slv_sl (ov rfl) tZ_3) tL26 rfl rfl rfl (fun _ => cell1_all rfl) rfl h_l) ?_
         refine D_q0 15 _ rfl (by kernel_rfl) rfl rfl (v_nilCheckP (ov rfl) rfl rfl) ?_
         refine D_q0 16 _ rfl (by kernel_rfl) rfl rfl (v_fieldP (ov rfl) rfl rfl tF139_2) ?_
         refine D_one 17 _ _ rfl (by kernel_rfl) rfl rfl (fun h => by cases h) (fun h => by cases h) (w_store (ov rfl) (ov rfl) (cells_scal tS26) rfl rfl rfl (Nat.le_of_ble_eq_true rfl) (cell1_all rfl) rfl) ?_
         refine D_one 18 _ _ rfl (by kernel_rfl) rfl rfl (fun h => by cases h) (fun h => by cases h) (w_mapEntry (m := at__2) (fk := FK3) (fv := FV3) (k := x.At) (z0 := 0) (ov rfl) (ov rfl) tMp97 tKO3 rfl (fun _ => .b rfl) (zero_scal tZV3 rfl)) ?_
         refine D_q0 19 _ rfl (by kernel_rfl) rfl rfl (v_extract (ov rfl) rfl) ?_
         refine D_one 20 _ _ rfl (by kernel_rfl) rfl rfl (fun h => by cases h) (fun h => by cases h) (w_entryStore (m := at__2) (fk := FK3) (fv := FV3) (k := x.At) (v := i) (ov rfl) (ov rfl) (ov rfl) tMp97 rfl) ?_
         refine D_done (by kernel_rfl) ?_
         exact ⟨(l, (mput kqI at__2 x.At i)), h, Ent.sel [some 0, some 1, some 2, some 3] (sr 3 rfl (.ptr _ _ _ rfl) <| sr 17 rfl (.own _ rfl) <| sd 18 rfl rfl <| sd 19 rfl rfl <| sn) (.cons rfl (ro1 (by exact tZ_139.symm) (rlc (.dat rfl) <| rlc (.own _ rfl) <| rlc (.own _ rfl) <| rlc (.mref _ rfl) <| rln)) <| .cons rfl (roM D141) <| .cons rfl (roM D3) <| .cons rfl (roMap (fk := FK3) (fv := FV3) (m := (mput kqI at__2 x.At i)) tZ_97 (fun _ => .dat rfl) (fun _ => .ren (.dat rfl))) <| .nil) rfl rfl⟩
        ·
         refine D_q0 4 _ rfl (by kernel_rfl) rfl rfl (v_loadS (ov rfl) rfl rfl rfl tS97 rfl) ?_
         refine D_q0 15 _ rfl (by kernel_rfl) rfl rfl (v_nilCheckP (ov rfl) rfl rfl) ?_
         refine D_q0 16 _ rfl (by kernel_rfl) rfl rfl (v_fieldP (ov rfl) rfl rfl tF139_2) ?_
         refine D_one 17 _ _ rfl (by kernel_rfl) rfl rfl (fun h => by cases h) (fun h => by cases h) (w_store (ov rfl) (ov rfl) (cells_scal tS26) rfl rfl rfl (Nat.le_of_ble_eq_true rfl) (cell1_all rfl) rfl) ?_
         refine D_one 18 _ _ rfl (by kernel_rfl) rfl rfl (fun h => by cases h) (fun h => by cases h) (w_mapEntry (m := at__2) (fk := FK3) (fv := FV3) (k := x.At) (z0 := 0) (ov rfl) (ov rfl) tMp97 tKO3 rfl (fun _ => .b rfl) (zero_scal tZV3 rfl)) ?_
         refine D_q0 19 _ rfl (by kernel_rfl) rfl rfl (v_extract (ov rfl) rfl) ?_
         refine D_one 20 _ _ rfl (by kernel_rfl) rfl rfl (fun h => by cases h) (fun h => by cases h) (w_entryStore (m := at__2) (fk := FK3) (fv := FV3) (k := x.At) (v := i) (ov rfl) (ov rfl) (ov rfl) tMp97 rfl) ?_
         refine D_done (by kernel_rfl) ?_
         exact ⟨(l, (mput kqI at__2 x.At i)), h, Ent.sel [some 0, some 1, some 2, some 3] (sr 3 rfl (.ptr _ _ _ rfl) <| sr 17 rfl (.own _ rfl) <| sd 18 rfl rfl <| sd 19 rfl rfl <| sn) (.cons rfl (ro1 (by exact tZ_139.symm) (rlc (.dat rfl) <| rlc (.own _ rfl) <| rlc (.own _ rfl) <| rlc (.mref _ rfl) <| rln)) <| .cons rfl (roM D141) <| .cons rfl (roM D3) <| .cons rfl (roMap (fk := FK3) (fv := FV3) (m := (mput kqI at__2 x.At i)) tZ_97 (fun _ => .dat rfl) (fun _ => .ren (.dat rfl))) <| .nil) rfl rfl⟩
       ·
        refine D_q0 3 _ rfl (by kernel_rfl) rfl rfl (v_fieldP (ov rfl) rfl rfl tF139_3) ?_
        refine D_q0 4 _ rfl (by kernel_rfl) rfl rfl (v_loadS (ov rfl) rfl rfl rfl tS97 rfl) ?_
        refine D_q0 15 _ rfl (by kernel_rfl) rfl rfl (v_nilCheckP (ov rfl) rfl rfl) ?_
        refine D_q0 16 _ rfl (by kernel_rfl) rfl rfl (v_fieldP (ov rfl) rfl rfl tF139_2) ?_
        refine D_one 17 _ _ rfl (by kernel_rfl) rfl rfl (fun h => by cases h) (fun h => by cases h) (w_store (ov rfl) (ov rfl) (cells_scal tS26) rfl rfl rfl (Nat.le_of_ble_eq_true rfl) (cell1_all rfl) rfl) ?_
        refine D_one 18 _ _ rfl (by kernel_rfl) rfl rfl (fun h => by cases h) (fun h => by cases h) (w_mapEntry (m := at__2) (fk := FK3) (fv := FV3) (k := x.At) (z0 := 0) (ov rfl) (ov rfl) tMp97 tKO3 rfl (fun _ => .b rfl) (zero_scal tZV3 rfl)) ?_
        refine D_q0 19 _ rfl (by kernel_rfl) rfl rfl (v_extract (ov rfl) rfl) ?_
        refine D_one 20 _ _ rfl (by kernel_rfl) rfl rfl (fun h => by cases h) (fun h => by cases h) (w_entryStore (m := at__2) (fk := FK3) (fv := FV3) (k := x.At) (v := i) (ov rfl) (ov rfl) (ov rfl) tMp97 rfl) ?_
        refine D_done (by kernel_rfl) ?_
        exact ⟨(l, (mput kqI at__2 x.At i)), h, Ent.sel [some 0, some 1, some 2, some 3] (sr 3 rfl (.ptr _ _ _ rfl) <| sr 17 rfl (.own _ rfl) <| sd 18 rfl rfl <| sd 19 rfl rfl <| sn) (.cons rfl (ro1 (by exact tZ_139.symm) (rlc (.dat rfl) <| rlc (.own _ rfl) <| rlc (.own _ rfl) <| rlc (.mref _ rfl) <| rln)) <| .cons rfl (roM D141) <| .cons rfl (roM D3) <| .cons rfl (roMap (fk := FK3) (fv := FV3) (m := (mput kqI at__2 x.At i)) tZ_97 (fun _ => .dat rfl) (fun _ => .ren (.dat rfl))) <| .nil) rfl rfl⟩
      ·
       refine D_q0 3 _ rfl (by kernel_rfl) rfl rfl (v_fieldP (ov rfl) rfl rfl tF139_3) ?_
       refine D_q0 4 _ rfl (by kernel_rfl) rfl rfl (v_loadS (ov rfl) rfl rfl rfl tS97 rfl) ?_
       refine D_q0 15 _ rfl (by kernel_rfl) rfl rfl (v_nilCheckP (ov rfl) rfl rfl) ?_
       refine D_q0 16 _ rfl (by kernel_rfl) rfl rfl (v_fieldP (ov rfl) rfl rfl tF139_2) ?_
       refine D_twoQ 6 17 rfl rfl (by kernel_rfl) rfl rfl rfl rfl (fun h => by cases h) (fun h => by cases h) (v_loadS (ov rfl) rfl rfl rfl tS3 (at_get (at0 (hdc (n := 0) hd0)))) (w_store (ov rfl) (ov rfl) (cells_scal tS26) rfl rfl rfl (Nat.le_of_ble_eq_true rfl) (cell1_all rfl) rfl) ?_ ?_
       ·
        refine D_one 17 _ _ rfl (by kernel_rfl) rfl rfl (fun h => by cases h) (fun h => by cases h) (w_store (ov rfl) (ov rfl) (cells_scal tS26) rfl rfl rfl (Nat.le_of_ble_eq_true rfl) (cell1_all rfl) rfl) ?_
        refine D_one 18 _ _ rfl (by kernel_rfl) rfl rfl (fun h => by cases h) (fun h => by cases h) (w_mapEntry (m := at__2) (fk := FK3) (fv := FV3) (k := x.At) (z0 := 0) (ov rfl) (ov rfl) tMp97 tKO3 rfl (fun _ => .b rfl) (zero_scal tZV3 rfl)) ?_
        refine D_q0 19 _ rfl (by kernel_rfl) rfl rfl (v_extract (ov rfl) rfl) ?_
        refine D_one 20 _ _ rfl (by kernel_rfl) rfl rfl (fun h => by cases h) (fun h => by cases h) (w_entryStore (m := at__2) (fk := FK3) (fv := FV3) (k := x.At) (v := i) (ov rfl) (ov rfl) (ov rfl) tMp97 rfl) ?_
        refine D_done (by kernel_rfl) ?_
        exact ⟨(l, (mput kqI at__2 x.At i)), h, Ent.sel [some 0, some 1, some 2, some 3] (sr 3 rfl (.ptr _ _ _ rfl) <| sr 17 rfl (.own _ rfl) <| sd 18 rfl rfl <| sd 19 rfl rfl <| sn) (.cons rfl (ro1 (by exact tZ_139.symm) (rlc (.dat rfl) <| rlc (.own _ rfl) <| rlc (.own _ rfl) <| rlc (.mref _ rfl) <| rln)) <| .cons rfl (roM D141) <| .cons rfl (roM D3) <| .cons rfl (roMap (fk := FK3) (fv := FV3) (m := (mput kqI at__2 x.At i)) tZ_97 (fun _ => .dat rfl) (fun _ => .ren (.dat rfl))) <| .nil) rfl rfl⟩
       ·
        refine D_q0 6 _ rfl (by kernel_rfl) rfl rfl (v_loadS (ov rfl) rfl rfl rfl tS3 (at_get (at0 (hdc (n := 0) hd0)))) ?_
        refine D_one 18 _ _ rfl (by kernel_rfl) rfl rfl (fun h => by cases h) (fun h => by cases h) (w_mapEntry (m := at__2) (fk := FK3) (fv := FV3) (k := x.At) (z0 := 0) (ov rfl) (ov rfl) tMp97 tKO3 rfl (fun _ => .b rfl) (zero_scal tZV3 rfl)) ?_
        refine D_q0 19 _ rfl (by kernel_rfl) rfl rfl (v_extract (ov rfl) rfl) ?_
        refine D_one 20 _ _ rfl (by kernel_rfl) rfl rfl (fun h => by cases h) (fun h => by cases h) (w_entryStore (m := at__2) (fk := FK3) (fv := FV3) (k := x.At) (v := i) (ov rfl) (ov rfl) (ov rfl) tMp97 rfl) ?_
        refine D_done (by kernel_rfl) ?_
        exact ⟨(l, (mput kqI at__2 x.At i)), h, Ent.sel [some 0, some 1, some 2, some 3] (sr 3 rfl (.ptr _ _ _ rfl) <| sr 17 rfl (.own _ rfl) <| sd 18 rfl rfl <| sd 19 rfl rfl <| sn) (.cons rfl (ro1 (by exact tZ_139.symm) (rlc (.dat rfl) <| rlc (.own _ rfl) <| rlc (.own _ rfl) <| rlc (.mref _ rfl) <| rln)) <| .cons rfl (roM D141) <| .cons rfl (roM D3) <| .cons rfl (roMap (fk := FK3) (fv := FV3) (m := (mput kqI at__2 x.At i)) tZ_97 (fun _ => .dat rfl) (fun _ => .ren (.dat rfl))) <| .nil) rfl rfl⟩
     ·
      refine D_twoQ 2 13 rfl rfl (by kernel_rfl) rfl rfl rfl rfl (fun h => by cases h) (fun h => by cases h) (v_nilCheckP (ov rfl) rfl rfl) (w_appendG (ov rfl) (slv_sl (ov rfl) tZ_3) tL26 rfl rfl rfl (fun _ => cell1_all rfl) rfl h_l) ?_ ?_
      ·
       refine D_twoQ 3 13 rfl rfl (by kernel_rfl) rfl rfl rfl rfl (fun h => by cases h) (fun h => by cases h) (v_fieldP (ov rfl) rfl rfl tF139_3) (w_appendG (ov rfl) (slv_sl (ov rfl) tZ_3) tL26 rfl rfl rfl (fun _ => cell1_all rfl) rfl h_l) ?_ ?_
       ·
        refine D_twoQ 4 13 rfl rfl (by kernel_rfl) rfl rfl rfl rfl (fun h => by cases h) (fun h => by cases h) (v_loadS (ov rfl) rfl rfl rfl tS97 rfl) (w_appendG (ov rfl) (slv_sl (ov rfl) tZ_3) tL26 rfl rfl rfl (fun _ => cell1_all rfl) rfl h_l) ?_ ?_
        ·
         refine D_one 13 _ _ rfl (by kernel_rfl) rfl rfl (fun h => by cases h) (fun h => by cases h) (w_appendG (ov rfl) (slv_sl (ov rfl) tZ_3) tL26 rfl rfl rfl (fun _ => cell1_all rfl) rfl h_l) ?_
         refine D_q0 15 _ rfl (by kernel_rfl) rfl rfl (v_nilCheckP (ov rfl) rfl rfl) ?_
         refine D_q0 16 _ rfl (by kernel_rfl) rfl rfl (v_fieldP (ov rfl) rfl rfl tF139_2) ?_
         refine D_one 17 _ _ rfl (by kernel_rfl) rfl rfl (fun h => by cases h) (fun h => by cases h) (w_store (ov rfl) (ov rfl) (cells_scal tS26) rfl rfl rfl (Nat.le_of_ble_eq_true rfl) (cell1_all rfl) rfl) ?_
         refine D_one 18 _ _ rfl (by kernel_rfl) rfl rfl (fun h => by cases h) (fun h => by cases h) (w_mapEntry (m := at__2) (fk := FK3) (fv := FV3) (k := x.At) (z0 := 0) (ov rfl) (ov rfl) tMp97 tKO3 rfl (fun _ => .b rfl) (zero_scal tZV3 rfl)) ?_
         refine D_q0 19 _ rfl (by kernel_rfl) rfl rfl (v_extract (ov rfl) rfl) ?_
         refine D_one 20 _ _ rfl (by kernel_rfl) rfl rfl (fun h => by cases h) (fun h => by cases h) (w_entryStore (m := at__2) (fk := FK3) (fv := FV3) (k := x.At) (v := i) (ov rfl) (ov rfl) (ov rfl) tMp97 rfl) ?_
         refine D_done (by kernel_rfl) ?_
         exact ⟨(l, (mput kqI at__2 x.At i)), h, Ent.sel [some 0, some 1, some 2, some 3] (sr 3 rfl (.ptr _ _ _ rfl) <| sr 17 rfl (.own _ rfl) <| sd 18 rfl rfl <| sd 19 rfl rfl <| sn) (.cons rfl (ro1 (by exact tZ_139.symm) (rlc (.dat rfl) <| rlc (.own _ rfl) <| rlc (.own _ rfl) <| rlc (.mref _ rfl) <| rln)) <| .cons rfl (roM D141) <| .cons rfl (roM D3) <| .cons rfl (roMap (fk := FK3) (fv := FV3) (m := (mput kqI at__2 x.At i)) tZ_97 (fun _ => .dat rfl) (fun _ => .ren (.dat rfl))) <| .nil) rfl rfl⟩
        ·
         refine D_q0 4 _ rfl (by kernel_rfl) rfl rfl (v_loadS (ov rfl) rfl rfl rfl tS97 rfl) ?_
         refine D_q0 15 _ rfl (by kernel_rfl) rfl rfl (v_nilCheckP (ov rfl) rfl rfl) ?_
         refine D_q0 16 _ rfl (by kernel_rfl) rfl rfl (v_fieldP (ov rfl) rfl rfl tF139_2) ?_
         refine D_one 17 _ _ rfl (by kernel_rfl) rfl rfl (fun h => by cases h) (fun h => by cases h) (w_store (ov rfl) (ov rfl) (cells_scal tS26) rfl rfl rfl (Nat.le_of_ble_eq_true rfl) (cell1_all rfl) rfl) ?_
         refine D_one 18 _ _ rfl (by kernel_rfl) rfl rfl (fun h => by cases h) (fun h => by cases h) (w_mapEntry (m := at__2) (fk := FK3) (fv := FV3) (k := x.At) (z0 := 0) (ov rfl) (ov rfl) tMp97 tKO3 rfl (fun _ => .b rfl) (zero_scal tZV3 rfl)) ?_
         refine D_q0 19 _ rfl (by kernel_rfl) rfl rfl (v_extract (ov rfl) rfl) ?_
         refine D_one 20 _ _ rfl (by kernel_rfl) rfl rfl (fun h => by cases h) (fun h => by cases h) (w_entryStore (m := at__2) (fk := FK3) (fv := FV3) (k := x.At) (v := i) (ov rfl) (ov rfl) (ov rfl) tMp97 rfl) ?_
         refine D_done (by kernel_rfl) ?_
         exact ⟨(l, (mput kqI at__2 x.At i)), h, Ent.sel [some 0, some 1, some 2, some 3] (sr 3 rfl (.ptr _ _ _ rfl) <| sr 17 rfl (.own _ rfl) <| sd 18 rfl rfl <| sd 19 rfl rfl <| sn) (.cons rfl (ro1 (by exact tZ_139.symm) (rlc (.dat rfl) <| rlc (.own _ rfl) <| rlc (.own _ rfl) <| rlc (.mref _ rfl) <| rln)) <| .cons rfl (roM D141) <| .cons rfl (roM D3) <| .cons rfl (roMap (fk := FK3) (fv := FV3) (m := (mput kqI at__2 x.At i)) tZ_97 (fun _ => .dat rfl) (fun _ => .ren (.dat rfl))) <| .nil) rfl rfl⟩
       ·
        refine D_q0 3 _ rfl (by kernel_rfl) rfl rfl (v_fieldP (ov rfl) rfl rfl tF139_3) ?_
        refine D_q0 4 _ rfl (by kernel_rfl) rfl rfl (v_loadS (ov rfl) rfl rfl rfl tS97 rfl) ?_
        refine D_q0 15 _ rfl (by kernel_rfl) rfl rfl (v_nilCheckP (ov rfl) rfl rfl) ?_
        refine D_q0 16 _ rfl (by kernel_rfl) rfl rfl (v_fieldP (ov rfl) rfl rfl tF139_2) ?_
        refine D_one 17 _ _ rfl (by kernel_rfl) rfl rfl (fun h => by cases h) (fun h => by cases h) (w_store (ov rfl) (ov rfl) (cells_scal tS26) rfl rfl rfl (Nat.le_of_ble_eq_true rfl) (cell1_all rfl) rfl) ?_
        refine D_one 18 _ _ rfl (by kernel_rfl) rfl rfl (fun h => by cases h) (fun h => by cases h) (w_mapEntry (m := at__2) (fk := FK3) (fv := FV3) (k := x.At) (z0 := 0) (ov rfl) (ov rfl) tMp97 tKO3 rfl (fun _ => .b rfl) (zero_scal tZV3 rfl)) ?_
        refine D_q0 19 _ rfl (by kernel_rfl) rfl rfl (v_extract (ov rfl) rfl) ?_
        refine D_one 20 _ _ rfl (by kernel_rfl) rfl rfl (fun h => by cases h) (fun h => by cases h) (w_entryStore (m := at__2) (fk := FK3) (fv := FV3) (k := x.At) (v := i) (ov rfl) (ov rfl) (ov rfl) tMp97 rfl) ?_
        refine D_done (by kernel_rfl) ?_
        exact ⟨(l, (mput kqI at__2 x.At i)), h, Ent.sel [some 0, some 1, some 2, some 3] (sr 3 rfl (.ptr _ _ _ rfl) <| sr 17 rfl (.own _ rfl) <| sd 18 rfl rfl <| sd 19 rfl rfl <| sn) (.cons rfl (ro1 (by exact tZ_139.symm) (rlc (.dat rfl) <| rlc (.own _ rfl) <| rlc (.own _ rfl) <| rlc (.mref _ rfl) <| rln)) <| .cons rfl (roM D141) <| .cons rfl (roM D3) <| .cons rfl (roMap (fk := FK3) (fv := FV3) (m := (mput kqI at__2 x.At i)) tZ_97 (fun _ => .dat rfl) (fun _ => .ren (.dat rfl))) <| .nil) rfl rfl⟩
      ·
       refine D_q0 2 _ rfl (by kernel_rfl) rfl rfl (v_nilCheckP (ov rfl) rfl rfl) ?_
       refine D_q0 3 _ rfl (by kernel_rfl) rfl rfl (v_fieldP (ov rfl) rfl rfl tF139_3) ?_
       refine D_q0 4 _ rfl (by kernel_rfl) rfl rfl (v_loadS (ov rfl) rfl rfl rfl tS97 rfl) ?_
       refine D_q0 15 _ rfl (by kernel_rfl) rfl rfl (v_nilCheckP (ov rfl) rfl rfl) ?_
       refine D_q0 16 _ rfl (by kernel_rfl) rfl rfl (v_fieldP (ov rfl) rfl rfl tF139_2) ?_
       refine D_one 17 _ _ rfl (by kernel_rfl) rfl rfl (fun h => by cases h) (fun h => by cases h) (w_store (ov rfl) (ov rfl) (cells_scal tS26) rfl rfl rfl (Nat.le_of_ble_eq_true rfl) (cell1_all rfl) rfl) ?_
       refine D_one 18 _ _ rfl (by kernel_rfl) rfl rfl (fun h => by cases h) (fun h => by cases h) (w_mapEntry (m := at__2) (fk := FK3) (fv := FV3) (k := x.At) (z0 := 0) (ov rfl) (ov rfl) tMp97 tKO3 rfl (fun _ => .b rfl) (zero_scal tZV3 rfl)) ?_
       refine D_q0 19 _ rfl (by kernel_rfl) rfl rfl (v_extract (ov rfl) rfl) ?_
       refine D_one 20 _ _ rfl (by kernel_rfl) rfl rfl (fun h => by cases h) (fun h => by cases h) (w_entryStore (m := at__2) (fk := FK3) (fv := FV3) (k := x.At) (v := i) (ov rfl) (ov rfl) (ov rfl) tMp97 rfl) ?_
       refine D_done (by kernel_rfl) ?_
       exact ⟨(l, (mput kqI at__2 x.At i)), h, Ent.sel [some 0, some 1, some 2, some 3] (sr 3 rfl (.ptr _ _ _ rfl) <| sr 17 rfl (.own _ rfl) <| sd 18 rfl rfl <| sd 19 rfl rfl <| sn) (.cons rfl (ro1 (by exact tZ_139.symm) (rlc (.dat rfl) <| rlc (.own _ rfl) <| rlc (.own _ rfl) <| rlc (.mref _ rfl) <| rln)) <| .cons rfl (roM D141) <| .cons rfl (roM D3) <| .cons rfl (roMap (fk := FK3) (fv := FV3) (m := (mput kqI at__2 x.At i)) tZ_97 (fun _ => .dat rfl) (fun _ => .ren (.dat rfl))) <| .nil) rfl rfl⟩
     ·
      refine D_q0 2 _ rfl (by kernel_rfl) rfl rfl (v_nilCheckP (ov rfl) rfl rfl) ?_
      refine D_q0 3 _ rfl (by kernel_rfl) rfl rfl (v_fieldP (ov rfl) rfl rfl tF139_3) ?_
      refine D_q0 4 _ rfl (by kernel_rfl) rfl rfl (v_loadS (ov rfl) rfl rfl rfl tS97 rfl) ?_
      refine D_q0 15 _ rfl (by kernel_rfl) rfl rfl (v_nilCheckP (ov rfl) rfl rfl) ?_
      refine D_q0 16 _ rfl (by kernel_rfl) rfl rfl (v_fieldP (ov rfl) rfl rfl tF139_2) ?_
      refine D_twoQ 6 17 rfl rfl (by kernel_rfl) rfl rfl rfl rfl (fun h => by cases h) (fun h => by cases h) (v_loadS (ov rfl) rfl rfl rfl tS3 (at_get (at0 (hdc (n := 0) hd0)))) (w_store (ov rfl) (ov rfl) (cells_scal tS26) rfl rfl rfl (Nat.le_of_ble_eq_true rfl) (cell1_all rfl) rfl) ?_ ?_
      ·
       refine D_one 17 _ _ rfl (by kernel_rfl) rfl rfl (fun h => by cases h) (fun h => by cases h) (w_store (ov rfl) (ov rfl) (cells_scal tS26) rfl rfl rfl (Nat.le_of_ble_eq_true rfl) (cell1_all rfl) rfl) ?_
       refine D_one 18 _ _ rfl (by kernel_rfl) rfl rfl (fun h => by cases h) (fun h => by cases h) (w_mapEntry (m := at__2) (fk := FK3) (fv := FV3) (k := x.At) (z0 := 0) (ov rfl) (ov rfl) tMp97 tKO3 rfl (fun _ => .b rfl) (zero_scal tZV3 rfl)) ?_
       refine D_q0 19 _ rfl (by kernel_rfl) rfl rfl (v_extract (ov rfl) rfl) ?_
       refine D_one 20 _ _ rfl (by kernel_rfl) rfl rfl (fun h => by cases h) (fun h => by cases h) (w_entryStore (m := at__2) (fk := FK3) (fv := FV3) (k := x.At) (v := i) (ov rfl) (ov rfl) (ov rfl) tMp97 rfl) ?_
       refine D_done (by kernel_rfl) ?_
       exact ⟨(l, (mput kqI at__2 x.At i)), h, Ent.sel [some 0, some 1, some 2, some 3] (sr 3 rfl (.ptr _ _ _ rfl) <| sr 17 rfl (.own _ rfl) <| sd 18 rfl rfl <| sd 19 rfl rfl <| sn) (.cons rfl (ro1 (by exact tZ_139.symm) (rlc (.dat rfl) <| rlc (.own _ rfl) <| rlc (.own _ rfl) <| rlc (.mref _ rfl) <| rln)) <| .cons rfl (roM D141) <| .cons rfl (roM D3) <| .cons rfl (roMap (fk := FK3) (fv := FV3) (m := (mput kqI at__2 x.At i)) tZ_97 (fun _ => .dat rfl) (fun _ => .ren (.dat rfl))) <| .nil) rfl rfl⟩
      ·
       refine D_q0 6 _ rfl (by kernel_rfl) rfl rfl (v_loadS (ov rfl) rfl rfl rfl tS3 (at_get (at0 (hdc (n := 0) hd0)))) ?_
       refine D_one 18 _ _ rfl (by kernel_rfl) rfl rfl (fun h => by cases h) (fun h => by cases h) (w_mapEntry (m := at__2) (fk := FK3) (fv := FV3) (k := x.At) (z0 := 0) (ov rfl) (ov rfl) tMp97 tKO3 rfl (fun _ => .b rfl) (zero_scal tZV3 rfl)) ?_
       refine D_q0 19 _ rfl (by kernel_rfl) rfl rfl (v_extract (ov rfl) rfl) ?_
       refine D_one 20 _ _ rfl (by kernel_rfl) rfl rfl (fun h => by cases h) (fun h => by cases h) (w_entryStore (m := at__2) (fk := FK3) (fv := FV3) (k := x.At) (v := i) (ov rfl) (ov rfl) (ov rfl) tMp97 rfl) ?_
       refine D_done (by kernel_rfl) ?_
       exact ⟨(l, (mput kqI at__2 x.At i)), h, Ent.sel [some 0, some 1, some 2, some 3] (sr 3 rfl (.ptr _ _ _ rfl) <| sr 17 rfl (.own _ rfl) <| sd 18 rfl rfl <| sd 19 rfl rfl <| sn) (.cons rfl (ro1 (by exact tZ_139.symm) (rlc (.dat rfl) <| rlc (.own _ rfl) <| rlc (.own _ rfl) <| rlc (.mref _ rfl) <| rln)) <| .cons rfl (roM D141) <| .cons rfl (roM D3) <| .cons rfl (roMap (fk := FK3) (fv := FV3) (m := (mput kqI at__2 x.At i)) tZ_97 (fun _ => .dat rfl) (fun _ => .ren (.dat rfl))) <| .nil) rfl rfl⟩
    ·
     refine D_q0 2 _ rfl (by kernel_rfl) rfl rfl (v_nilCheckP (ov rfl) rfl rfl) ?_
     refine D_q0 3 _ rfl (by kernel_rfl) rfl rfl (v_fieldP (ov rfl) rfl rfl tF139_3) ?_
     refine D_q0 4 _ rfl (by kernel_rfl) rfl rfl (v_loadS (ov rfl) rfl rfl rfl tS97 rfl) ?_
     refine D_q0 15 _ rfl (by kernel_rfl) rfl rfl (v_nilCheckP (ov rfl) rfl rfl) ?_
     refine D_q0 16 _ rfl (by kernel_rfl) rfl rfl (v_fieldP (ov rfl) rfl rfl tF139_2) ?_
     refine D_twoQ 5 17 rfl rfl (by kernel_rfl) rfl rfl rfl rfl (fun h => by cases h) (fun h => by cases h) (v_fieldP (ov rfl) rfl rfl tF141_0) (w_store (ov rfl) (ov rfl) (cells_scal tS26) rfl rfl rfl (Nat.le_of_ble_eq_true rfl) (cell1_all rfl) rfl) ?_ ?_
     ·
      refine D_twoQ 6 17 rfl rfl (by kernel_rfl) rfl rfl rfl rfl (fun h => by cases h) (fun h => by cases h) (v_loadS (ov rfl) rfl rfl rfl tS3 (at_get (at0 (hdc (n := 0) hd0)))) (w_store (ov rfl) (ov rfl) (cells_scal tS26) rfl rfl rfl (Nat.le_of_ble_eq_true rfl) (cell1_all rfl) rfl) ?_ ?_
      ·
       refine D_one 17 _ _ rfl (by kernel_rfl) rfl rfl (fun h => by cases h) (fun h => by cases h) (w_store (ov rfl) (ov rfl) (cells_scal tS26) rfl rfl rfl (Nat.le_of_ble_eq_true rfl) (cell1_all rfl) rfl) ?_
       refine D_one 18 _ _ rfl (by kernel_rfl) rfl rfl (fun h => by cases h) (fun h => by cases h) (w_mapEntry (m := at__2) (fk := FK3) (fv := FV3) (k := x.At) (z0 := 0) (ov rfl) (ov rfl) tMp97 tKO3 rfl (fun _ => .b rfl) (zero_scal tZV3 rfl)) ?_
       refine D_q0 19 _ rfl (by kernel_rfl) rfl rfl (v_extract (ov rfl) rfl) ?_
       refine D_one 20 _ _ rfl (by kernel_rfl) rfl rfl (fun h => by cases h) (fun h => by cases h) (w_entryStore (m := at__2) (fk := FK3) (fv := FV3) (k := x.At) (v := i) (ov rfl) (ov rfl) (ov rfl) tMp97 rfl) ?_
       refine D_done (by kernel_rfl) ?_
       exact ⟨(l, (mput kqI at__2 x.At i)), h, Ent.sel [some 0, some 1, some 2, some 3] (sr 3 rfl (.ptr _ _ _ rfl) <| sr 17 rfl (.own _ rfl) <| sd 18 rfl rfl <| sd 19 rfl rfl <| sn) (.cons rfl (ro1 (by exact tZ_139.symm) (rlc (.dat rfl) <| rlc (.own _ rfl) <| rlc (.own _ rfl) <| rlc (.mref _ rfl) <| rln)) <| .cons rfl (roM D141) <| .cons rfl (roM D3) <| .cons rfl (roMap (fk := FK3) (fv := FV3) (m := (mput kqI at__2 x.At i)) tZ_97 (fun _ => .dat rfl) (fun _ => .ren (.dat rfl))) <| .nil) rfl rfl⟩
      ·
       refine D_q0 6 _ rfl (by kernel_rfl) rfl rfl (v_loadS (ov rfl) rfl rfl rfl tS3 (at_get (at0 (hdc (n := 0) hd0)))) ?_
       refine D_one 18 _ _ rfl (by kernel_rfl) rfl rfl (fun h => by cases h) (fun h => by cases h) (w_mapEntry (m := at__2) (fk := FK3) (fv := FV3) (k := x.At) (z0 := 0) (ov rfl) (ov rfl) tMp97 tKO3 rfl (fun _ => .b rfl) (zero_scal tZV3 rfl)) ?_
       refine D_q0 19 _ rfl (by kernel_rfl) rfl rfl (v_extract (ov rfl) rfl) ?_
       refine D_one 20 _ _ rfl (by kernel_rfl) rfl rfl (fun h => by cases h) (fun h => by cases h) (w_entryStore (m := at__2) (fk := FK3) (fv := FV3) (k := x.At) (v := i) (ov rfl) (ov rfl) (ov rfl) tMp97 rfl) ?_
       refine D_done (by kernel_rfl) ?_
       exact ⟨(l, (mput kqI at__2 x.At i)), h, Ent.sel [some 0, some 1, some 2, some 3] (sr 3 rfl (.ptr _ _ _ rfl) <| sr 17 rfl (.own _ rfl) <| sd 18 rfl rfl <| sd 19 rfl rfl <| sn) (.cons rfl (ro1 (by exact tZ_139.symm) (rlc (.dat rfl) <| rlc (.own _ rfl) <| rlc (.own _ rfl) <| rlc (.mref _ rfl) <| rln)) <| .cons rfl (roM D141) <| .cons rfl (roM D3) <| .cons rfl (roMap (fk := FK3) (fv := FV3) (m := (mput kqI at__2 x.At i)) tZ_97 (fun _ => .dat rfl) (fun _ => .ren (.dat rfl))) <| .nil) rfl rfl⟩
     ·
      refine D_q0 5 _ rfl (by kernel_rfl) rfl rfl (v_fieldP (ov rfl) rfl rfl tF141_0) ?_
      refine D_q0 6 _ rfl (by kernel_rfl) rfl rfl (v_loadS (ov rfl) rfl rfl rfl tS3 (at_get (at0 (hdc (n := 0) hd0)))) ?_
      refine D_one 18 _ _ rfl (by kernel_rfl) rfl rfl (fun h => by cases h) (fun h => by cases h) (w_mapEntry (m := at__2) (fk := FK3) (fv := FV3) (k := x.At) (z0 := 0) (ov rfl) (ov rfl) tMp97 tKO3 rfl (fun _ => .b rfl) (zero_scal tZV3 rfl)) ?_
      refine D_q0 19 _ rfl (by kernel_rfl) rfl rfl (v_extract (ov rfl) rfl) ?_
      refine D_one 20 _ _ rfl (by kernel_rfl) rfl rfl (fun h => by cases h) (fun h => by cases h) (w_entryStore (m := at__2) (fk := FK3) (fv := FV3) (k := x.At) (v := i) (ov rfl) (ov rfl) (ov rfl) tMp97 rfl) ?_
      refine D_done (by kernel_rfl) ?_
      exact ⟨(l, (mput kqI at__2 x.At i)), h, Ent.sel [some 0, some 1, some 2, some 3] (sr 3 rfl (.ptr _ _ _ rfl) <| sr 17 rfl (.own _ rfl) <| sd 18 rfl rfl <| sd 19 rfl rfl <| sn) (.cons rfl (ro1 (by exact tZ_139.symm) (rlc (.dat rfl) <| rlc (.own _ rfl) <| rlc (.own _ rfl) <| rlc (.mref _ rfl) <| rln)) <| .cons rfl (roM D141) <| .cons rfl (roM D3) <| .cons rfl (roMap (fk := FK3) (fv := FV3) (m := (mput kqI at__2 x.At i)) tZ_97 (fun _ => .dat rfl) (fun _ => .ren (.dat rfl))) <| .nil) rfl rfl⟩
   ·
    obtain ⟨numbers3, at__3⟩ := j
    replace h := t2i h
    refine t2T ?_
    refine T_reg ?_
    refine R_q _ rfl (v_add (ov rfl) (ov rfl) rfl) ?_
    refine R_q _ rfl (v_move (ov rfl)) ?_
    refine R_nil ?_
    exact ⟨(numbers3, at__3, (i64 (i + 1))), h, Ent.sel [some 0, some 1, some 2, some 3] (sr 3 rfl (.ptr _ _ _ rfl) <| sr 17 rfl (.own _ rfl) <| sd 18 rfl rfl <| sd 19 rfl rfl <| sn) (.cons rfl (ro1 (by exact tZ_139.symm) (rlc (.dat rfl) <| rlc (.own _ rfl) <| rlc (.own _ rfl) <| rlc (.mref _ rfl) <| rln)) <| .cons rfl (roM D141) <| .cons rfl (roM D3) <| .cons rfl (roMap (fk := FK3) (fv := FV3) (m := at__3) tZ_97 (fun _ => .dat rfl) (fun _ => .ren (.dat rfl))) <| .nil) rfl rfl⟩
  ·
   refine T_exit ?_
   rw [lx h] at ho1
   replace h := ho1
   exact ⟨(numbers2, at__2), h, Ent.sel [some 0, some 1, some 2, some 3] (sr 3 rfl (.ptr _ _ _ rfl) <| sn) (.cons rfl (ro1 (by exact tZ_139.symm) (rlc (.dat rfl) <| rlc (.own _ rfl) <| rlc (.own _ rfl) <| rlc (.mref _ rfl) <| rln)) <| .cons rfl (roM D141) <| .cons rfl (roM D3) <| .cons rfl (roMap (fk := FK3) (fv := FV3) (m := at__2) tZ_97 (fun _ => .dat rfl) (fun _ => .ren (.dat rfl))) <| .nil) rfl rfl⟩
 ·
  obtain ⟨numbers, at__⟩ := j
  replace h := t2i h
  refine t2T ?_
  refine T_seq (T_reg ?_)
  refine R_q _ rfl (v_move (ov rfl)) ?_
  refine R_q _ rfl (v_assign (ov rfl)) ?_
  refine R_nil ?_
  obtain rfl := rt (v := (salvage_finder.mk h_ y numbers ())) h
  refine T_ent (Ent.sel [some 0, none, none, some 3] (sr 2 rfl (.ptr (r' := 0) _ _ _ rfl) <| sr 3 rfl (.ptr (r' := 0) _ _ _ rfl) <| sr 50 rfl (.ptr (r' := 0) _ _ _ rfl) <| sn) (.cons rfl (ro1 (by exact tZ_139.symm) (rlc (.dat rfl) <| rlc (frzM rfl rfl rfl D141) <| rlc (frzM rfl rfl rfl D3) <| rlc (.mref (r' := 3) _ rfl) <| rln)) <| .row 141 <| .row 3 <| .cons rfl (roMap (fk := FK3) (fv := FV3) (m := at__) tZ_97 (fun _ => .dat rfl) (fun _ => .ren (.dat rfl))) <| .nil) rfl rfl) ?_
  refine T_ent (Ent.sel [some 0, some 1, some 2, some 3] (sr 2 rfl (.ptr (r' := 0) _ _ _ rfl) <| sr 3 rfl (.ptr (r' := 0) _ _ _ rfl) <| sr 50 rfl (.ptr (r' := 0) _ _ _ rfl) <| sn) (.cons rfl (ro1 (by exact tZ_139.symm) (rlc (.dat rfl) <| rlc (.dat rfl) <| rlc (.dat rfl) <| rlc (.out _) <| rln)) <| .cons rfl (roE) <| .cons rfl (roE) <| .cons rfl (roMap (fk := FK3) (fv := FV3) (m := at__) tZ_97 (fun _ => .dat rfl) (fun _ => .ren (.dat rfl))) <| .nil) rfl rfl) ?_
  refine T_ent (Ent.sel [none, some 1, some 2, some 3] (sr 2 rfl (.frp ⟨rfl, ⟨_, rfl⟩, rfl, rfl⟩) <| sr 3 rfl (.frp ⟨rfl, ⟨_, rfl⟩, rfl, rfl⟩) <| sr 50 rfl (.frp ⟨rfl, ⟨_, rfl⟩, rfl, rfl⟩) <| sn) (.row 139 <| .cons rfl (roE) <| .cons rfl (roE) <| .cons rfl (roMap (fk := FK3) (fv := FV3) (m := at__) tZ_97 (fun _ => .dat rfl) (fun _ => .ren (.dat rfl))) <| .nil) rfl rfl) ?_
  refine T_ret (retq ?_ (.one (.tmp rfl (Dat.view (.b rfl)))))
  rfl

theorem ok_salvage_filled {state : Int} {r : (Vector Int 64)} (h : salvage_filled state = some r) :
  CSpec Tryd.prog gl0 87 [.int .i64 state] (.agg (List.map C3 r.toList)) := by
 unfold salvage_filled at h
 replace h := bnd0 h
 refine spec_of (by kernel_rfl) Tryd.func87 rfl rfl ?_
 intro w0 A
 refine T_seq (T_reg ?_)
 refine R_w _ _ rfl (w_alloc (row := (List.map C3 (Vector.replicate 64 0).toList)) 0 rfl tZ79 rfl tZ_79) ?_
 refine R_nil ?_
 refine T_seq (T_reg ?_)
 refine R_w _ _ rfl (w_alloc (row := (List.map C3 (Vector.replicate 64 0).toList)) 1 rfl tZ79 rfl tZ_79) ?_
 refine R_nil ?_
 refine T_joinG id (t1 fun out => ⟨[(2, .ptr 0 1 0 0), (3, .ptr 1 1 0 0)], [some ⟨79, [(List.map C3 (Vector.replicate 64 0).toList)]⟩, some ⟨79, [(List.map C3 out.toList)]⟩]⟩) h (fun h => ?_) (fun j h => ?_)
 ·
  refine T_seq (T_reg ?_)
  refine R_q _ rfl (v_move (ov rfl)) ?_
  refine R_nil ?_
  refine T_block ?_
  obtain ⟨r1, hl1, ho1⟩ := bndL h
  refine T_loopG _ (t2 fun out2 i => ⟨[(0, .int .i64 state), (2, .ptr 0 1 0 0), (3, .ptr 1 1 0 0), (5, .int .i64 i)], [some ⟨79, [(List.map C3 (Vector.replicate 64 0).toList)]⟩, some ⟨79, [(List.map C3 out2.toList)]⟩]⟩) _ hl1 (Ent.sel [some 0, some 1] (sd 0 rfl rfl <| sr 2 rfl (.ptr _ _ _ rfl) <| sr 3 rfl (.ptr _ _ _ rfl) <| sd 5 rfl rfl <| sn) (.cons rfl (ro1 (by exact Eq.trans (b := 64) arL tZ_79.symm) (rld (arD fun _ => rfl))) <| .cons rfl (ro1 (by exact Eq.trans (b := 64) arL tZ_79.symm) (rld (arD fun _ => rfl))) <| .nil) rfl rfl) (fun n1 s1 h => ?_)
  obtain ⟨out2, i⟩ := s1
  replace h := t2i h
  refine t2T ?_
  unfold salvage_filled_L1 at h
  refine T_seq (T_reg ?_)
  refine R_q _ rfl (v_lss (ov rfl) (ov rfl)) ?_
  refine R_nil ?_
  refine T_seq ?_
  refine T_if h rfl (fun b6 h => ?_) (fun b6 h => ?_)
  ·
   refine T_skip ?_
   refine T_seq ?_
   refine T_block ?_
   refine T_keep (kc 0 rfl <| kc 2 rfl <| kc 3 rfl <| kc 5 rfl <| kn) rfl ?_
   refine T_seq (T_reg ?_)
   refine R_q _ rfl (v_move (ov rfl)) ?_
   refine R_q _ rfl (v_assign (ov rfl)) ?_
   refine R_nil ?_
   refine T_keep (kc 0 rfl <| kc 2 rfl <| kc 3 rfl <| kc 4 rfl <| kc 5 rfl <| kn) rfl ?_
   refine T_reg ?_
   refine R_q _ rfl (v_move (ov rfl)) ?_
   refine R_q _ rfl (v_move (ov rfl)) ?_
   obtain ⟨x, h_x, h⟩ := bnd h
   refine R_q _ rfl (v_ixAG (ov rfl) (ov rfl) tR79 rfl rfl h_x) ?_
   refine R_w _ _ rfl (w_store (ov rfl) (ov rfl) (cells_scal tS3) rfl rfl rfl (arB h_x) (cell1_all rfl) (arS h_x)) ?_
   refine R_nil ?_
   refine T_keep (kc 0 rfl <| kc 2 rfl <| kc 3 rfl <| kc 5 rfl <| kn) rfl ?_
   refine T_reg ?_
   refine R_q _ rfl (v_add (ov rfl) (ov rfl) rfl) ?_
   refine R_q _ rfl (v_move (ov rfl)) ?_
   refine R_nil ?_
   exact ⟨((vset out2 i state), (i64 (i + 1))), h, Ent.sel [some 0, some 1] (sd 0 rfl rfl <| sr 2 rfl (.ptr _ _ _ rfl) <| sr 3 rfl (.ptr _ _ _ rfl) <| sd 5 rfl rfl <| sn) (.cons rfl (ro1 (by exact Eq.trans (b := 64) arL tZ_79.symm) (rld (arD fun _ => rfl))) <| .cons rfl (ro1 (by exact Eq.trans (b := 64) arL tZ_79.symm) (rld (arD fun _ => rfl))) <| .nil) rfl rfl⟩
  ·
   refine T_exit ?_
   rw [lx h] at ho1
   replace h := ho1
   exact ⟨out2, h, Ent.sel [some 0, some 1] (sr 2 rfl (.ptr _ _ _ rfl) <| sr 3 rfl (.ptr _ _ _ rfl) <| sn) (.cons rfl (ro1 (by exact Eq.trans (b := 64) arL tZ_79.symm) (rld (arD fun _ => rfl))) <| .cons rfl (ro1 (by exact Eq.trans (b := 64) arL tZ_79.symm) (rld (arD fun _ => rfl))) <| .nil) rfl rfl⟩
 ·
  obtain ⟨out, rfl⟩ : ∃ x, x = j := ⟨_, rfl⟩
  replace h := t1i h
  refine t1T ?_
  refine T_seq (T_reg ?_)
  refine R_q _ rfl (v_loadA (ov rfl) rfl rfl rfl tA79 (at_sub (at_all arL)) arL (hns := (nsM fun _ => rfl))) ?_
  refine R_w _ _ rfl (w_store (ov rfl) (ov rfl) (cells_agg tA79 arL) rfl rfl rfl (put_le (at_all arL) arL) (cell1_all (arC fun _ => rfl)) (put_all (Eq.trans arL (Eq.symm arL)))) ?_
  refine R_nil ?_
  obtain rfl := rt (v := out) h
  refine T_ret (retq ?_ (.one (.agg rfl rfl rfl rfl tA79 (at_sub (at_all arL)) arL (pwB (arD fun _ => rfl)) (hns := (nsM fun _ => rfl)))))
  rfl

theorem ok_slices_BinarySearchFunc_api_Found_api_Found_int {x : List api_Found} {target : Int} {cmp : api_Found → Int → Option Int} {r : Int × Bool} {cmp_f : FuncId} {cmp_c : List AV} (cmp_d : cmp_c.all datB = true) (cmp_h : ∀ (z0 : api_Found) (z1 : Int) z, cmp z0 z1 = some z → CSpec Tryd.prog gl0 cmp_f ([.agg ((.int .i64 z0.At) :: ((List.map C36 z0.Frame.toList) ++ ([]))), .int .i64 z1] ++ cmp_c) (.int .i64 z)) (h : slices_BinarySearchFunc_api_Found_api_Found_int x target cmp = some r) :
  CSpec Tryd.prog gl0 129 [.sl 141 (List.map R141 x), .int .i64 target, .fn cmp_f cmp_c] (.tuple [.int .i64 r.1, .bool r.2]) := by
 unfold slices_BinarySearchFunc_api_Found_api_Found_int at h
 replace h := bnd0 h
 refine spec_of (by kernel_rfl) Tryd.func129 rfl rfl ?_
 intro w0 A
 refine T_seq (T_reg ?_)
 refine R_q _ rfl (v_assign (ov rfl)) ?_
 refine R_q _ rfl (v_assign (ov rfl)) ?_
 refine R_nil ?_
 refine T_keep (kc 0 rfl <| kc 1 rfl <| kc 2 rfl <| kn) rfl ?_
 refine T_seq (T_reg ?_)
 refine R_q _ rfl (v_move (ov rfl)) ?_
 refine R_q _ rfl (v_len (slv_sl (ov rfl) tZ_141) tL137 (len_map _ _)) ?_
 refine R_q _ rfl (v_assign (ov rfl)) ?_
 refine R_nil ?_
 refine T_keep (kc 0 rfl <| kc 1 rfl <| kc 2 rfl <| kc 8 rfl <| kn) rfl ?_
 refine T_seq (T_reg ?_)
 refine R_q _ rfl (v_move (ov rfl)) ?_
 refine R_q _ rfl (v_assign (ov rfl)) ?_
 refine R_q _ rfl (v_assign (ov rfl)) ?_
 refine R_nil ?_
 refine T_joinG id (t1 fun i => ⟨[(0, .sl 141 (List.map R141 x)), (1, .int .i64 target), (2, .fn cmp_f cmp_c), (8, .int .i64 (x.length : Int)), (9, .int .i64 i)], []⟩) h (fun h => ?_) (fun j h => ?_)
 ·
  refine T_block ?_
  obtain ⟨r1, hl1, ho1⟩ := bndL h
  refine T_loopG _ (t2 fun i2 j => ⟨[(0, .sl 141 (List.map R141 x)), (1, .int .i64 target), (2, .fn cmp_f cmp_c), (8, .int .i64 (x.length : Int)), (9, .int .i64 i2), (10, .int .i64 j)], []⟩) _ hl1 (Ent.sel [] (sd 0 rfl rfl <| sd 1 rfl rfl <| sr 2 rfl (rFn (rld cmp_d)) <| sd 8 rfl rfl <| sd 9 rfl rfl <| sd 10 rfl rfl <| sn) (.nil) rfl rfl) (fun n1 s1 h => ?_)
  obtain ⟨i2, j⟩ := s1
  replace h := t2i h
  refine t2T ?_
  unfold slices_BinarySearchFunc_api_Found_api_Found_int_L1 at h
  refine T_seq ?_
  refine T_seq (T_reg ?_)
  refine R_q _ rfl (v_move (ov rfl)) ?_
  refine R_q _ rfl (v_move (ov rfl)) ?_
  refine R_q _ rfl (v_lss (ov rfl) (ov rfl)) ?_
  refine R_nil ?_
  refine T_keep (kc 0 rfl <| kc 1 rfl <| kc 2 rfl <| kc 8 rfl <| kc 9 rfl <| kc 10 rfl <| kc 17 rfl <| kn) rfl ?_
  refine T_if h rfl (fun b17 h => ?_) (fun b17 h => ?_)
  ·
   refine T_skip ?_
   refine T_block ?_
   refine T_keep (kc 0 rfl <| kc 1 rfl <| kc 2 rfl <| kc 8 rfl <| kc 9 rfl <| kc 10 rfl <| kn) rfl ?_
   refine T_seq (T_reg ?_)
   refine R_q _ rfl (v_move (ov rfl)) ?_
   refine R_q _ rfl (v_move (ov rfl)) ?_
   refine R_q _ rfl (v_add (ov rfl) (ov rfl) rfl) ?_
   refine R_q _ rfl (v_conv (ov rfl) tI3 tI101 rfl) ?_
   obtain ⟨q, h_q, h⟩ := bnd h
   refine R_q _ rfl (v_shrG (ov rfl) (ov rfl) h_q) ?_
   refine R_q _ rfl (v_conv (ov rfl) tI101 tI3 rfl) ?_
   refine R_q _ rfl (v_assign (ov rfl)) ?_
   refine R_nil ?_
   refine T_keep (kc 0 rfl <| kc 1 rfl <| kc 2 rfl <| kc 8 rfl <| kc 9 rfl <| kc 10 rfl <| kc 11 rfl <| kn) rfl ?_
   refine T_seq (T_reg ?_)
   refine R_q _ rfl (v_move (ov rfl)) ?_
   refine R_q _ rfl (v_move (ov rfl)) ?_
   refine R_q _ rfl (v_move (ov rfl)) ?_
   obtain ⟨x2, h_x2, h⟩ := bnd h
   refine R_q _ rfl (v_ixSG (ov rfl) (ov rfl) tL137 h_x2) ?_
   refine R_q _ rfl (v_loadA_r (ov rfl) tA141 (at_sub (at_all (lnC (n := 64) (lnA (m := 64) (n := 0) arL (lnN))))) (lnC (n := 64) (lnA (m := 64) (n := 0) arL (lnN)))) ?_
   refine R_q _ rfl (v_move (ov rfl)) ?_
   obtain ⟨y, h_y, h⟩ := bnd h
   refine R_q _ rfl (v_callC (ov rfl) cmp_d (cmp_h _ _ _ h_y) (.cons (ov rfl) (.aggB (alC rfl (alA (arD fun _ => rfl) (alN)))) <| .cons (ov rfl) (.b rfl) <| .nil)) ?_
   refine R_q _ rfl (v_lss (ov rfl) (ov rfl)) ?_
   refine R_nil ?_
   refine T_keep (kc 0 rfl <| kc 1 rfl <| kc 2 rfl <| kc 8 rfl <| kc 9 rfl <| kc 10 rfl <| kc 11 rfl <| kc 31 rfl <| kn) rfl ?_
   refine T_if h rfl (fun b31 h => ?_) (fun b31 h => ?_)
   ·
    refine T_keep (kc 0 rfl <| kc 1 rfl <| kc 2 rfl <| kc 8 rfl <| kc 9 rfl <| kc 10 rfl <| kc 11 rfl <| kn) rfl ?_
    refine T_reg ?_
    refine R_q _ rfl (v_move (ov rfl)) ?_
    refine R_q _ rfl (v_add (ov rfl) (ov rfl) rfl) ?_
    refine R_q _ rfl (v_assign (ov rfl)) ?_
    refine R_nil ?_
    exact ⟨((i64 ((i64 q) + 1)), j), h, Ent.sel [] (sd 0 rfl rfl <| sd 1 rfl rfl <| sr 2 rfl (rFn (rld cmp_d)) <| sd 8 rfl rfl <| sd 9 rfl rfl <| sd 10 rfl rfl <| sn) (.nil) rfl rfl⟩
   ·
    refine T_keep (kc 0 rfl <| kc 1 rfl <| kc 2 rfl <| kc 8 rfl <| kc 9 rfl <| kc 10 rfl <| kc 11 rfl <| kn) rfl ?_
    refine T_reg ?_
    refine R_q _ rfl (v_move (ov rfl)) ?_
    refine R_q _ rfl (v_assign (ov rfl)) ?_
    refine R_nil ?_
    exact ⟨(i2, (i64 q)), h, Ent.sel [] (sd 0 rfl rfl <| sd 1 rfl rfl <| sr 2 rfl (rFn (rld cmp_d)) <| sd 8 rfl rfl <| sd 9 rfl rfl <| sd 10 rfl rfl <| sn) (.nil) rfl rfl⟩
  ·
   refine T_exit ?_
   rw [lx h] at ho1
   replace h := ho1
   exact ⟨i2, h, Ent.sel [] (sd 0 rfl rfl <| sd 1 rfl rfl <| sr 2 rfl (rFn (rld cmp_d)) <| sd 8 rfl rfl <| sd 9 rfl rfl <| sn) (.nil) rfl rfl⟩
 ·
  obtain ⟨i, rfl⟩ : ∃ x, x = j := ⟨_, rfl⟩
  replace h := t1i h
  refine t1T ?_
  refine T_seq (T_reg ?_)
  refine R_q _ rfl (v_move (ov rfl)) ?_
  refine R_q _ rfl (v_move (ov rfl)) ?_
  refine R_q _ rfl (v_move (ov rfl)) ?_
  refine R_q _ rfl (v_lss (ov rfl) (ov rfl)) ?_
  refine R_q _ rfl (v_move (ov rfl)) ?_
  refine R_q _ rfl (.guarded ((decide (i < (x.length : Int))) == true) rfl rfl rfl rfl fun h => v_move (ov rfl)) ?_
  refine R_q _ rfl (.guarded ((decide (i < (x.length : Int))) == true) rfl rfl rfl rfl fun h => v_move (ov rfl)) ?_
  refine R_q _ rfl (.guarded ((decide (i < (x.length : Int))) == true) rfl rfl rfl rfl fun h => v_move (ov rfl)) ?_
  obtain ⟨x3, h_x3, h⟩ := bnd h
  refine R_q _ rfl (.guarded ((decide (i < (x.length : Int))) == true) rfl rfl rfl rfl fun h => v_ixSG (ow rfl h) (ow rfl h) tL137 (gdT h_x3 h)) ?_
  refine R_q _ rfl (.guarded ((decide (i < (x.length : Int))) == true) rfl rfl rfl rfl fun h => v_loadA_r (ow rfl h) tA141 (at_sub (at_all (lnC (n := 64) (lnA (m := 64) (n := 0) arL (lnN))))) (lnC (n := 64) (lnA (m := 64) (n := 0) arL (lnN)))) ?_
  refine R_q _ rfl (.guarded ((decide (i < (x.length : Int))) == true) rfl rfl rfl rfl fun h => v_move (ov rfl)) ?_
  obtain ⟨y2, h_y2, h⟩ := bnd h
  refine R_q _ rfl (.guarded ((decide (i < (x.length : Int))) == true) rfl rfl rfl rfl fun h => v_callC (ow rfl h) cmp_d (cmp_h _ _ _ (gdT h_y2 h)) (.cons (ow rfl h) (.aggB (alC rfl (alA (arD fun _ => rfl) (alN)))) <| .cons (ow rfl h) (.b rfl) <| .nil)) ?_
  refine R_q _ rfl (.guarded ((decide (i < (x.length : Int))) == true) rfl rfl rfl rfl fun h => v_eql (ow rfl h) (ov rfl)) ?_
  refine R_q _ rfl (v_and (ov rfl) (fun hp => ow rfl (gT hp))) ?_
  refine R_q _ rfl (v_assign (ov rfl)) ?_
  refine R_q _ rfl (v_assign (ov rfl)) ?_
  refine R_nil ?_
  obtain rfl := rt (v := (i, ((decide (i < (x.length : Int))) && (decide (y2 = 0))))) h
  refine T_ret (retq ?_ (.two (.tmp rfl (Dat.view (.b rfl))) (.tmp rfl (Dat.view (.b rfl)))))
  rfl

theorem ok_salvage_finder_nearest_1 {c_ : api_Found} {at_ : Int} {r : Int} (h : salvage_finder_nearest_1 c_ at_ = some r) :
  CSpec Tryd.prog gl0 130 [.agg ((.int .i64 c_.At) :: ((List.map C36 c_.Frame.toList) ++ ([]))), .int .i64 at_] (.int .i64 r) := by
 unfold salvage_finder_nearest_1 at h
 replace h := bnd0 h
 refine spec_of (by kernel_rfl) Tryd.func130 rfl rfl ?_
 intro w0 A
 refine T_seq (T_reg ?_)
 refine R_q _ rfl (v_boxD (cva (ov rfl)) (lnC (n := 64) (lnA (m := 64) (n := 0) arL (lnN))) tZ_141 (alC rfl (alA (arD fun _ => rfl) (alN)))) ?_
 refine R_q _ rfl (v_assign (ov rfl)) ?_
 refine R_nil ?_
 refine T_keep (kc 1 rfl <| kc 2 rfl <| kc 4 rfl <| kn) rfl ?_
 refine T_seq (T_reg ?_)
 refine R_q _ rfl (v_fieldR (ov rfl) tF141_0) ?_
 refine R_q _ rfl (v_loadS_r (ov rfl) tS3 (at_get (at0 (hdc (n := 0) hd0)))) ?_
 refine R_q _ rfl (v_move (ov rfl)) ?_
 refine R_q _ rfl (v_sub (ov rfl) (ov rfl) rfl) ?_
 refine R_q _ rfl (v_assign (ov rfl)) ?_
 refine R_nil ?_
 obtain rfl := rt (v := (i64 (c_.At - at_))) h
 refine T_ret (retq ?_ (.one (.tmp rfl (Dat.view (.b rfl)))))
 rfl

theorem ok_salvage_finder_nearest {x : salvage_finder} {place : Int} {r : Int} (h : salvage_finder_nearest x place = some r) :
  CSpec Tryd.prog gl0 107 [.rp [.sl 5 (List.map R5 x.h_), .sl 141 (List.map R141 x.certain), .sl 3 (List.map R3 x.numbers), .any] 0, .int .i64 place] (.int .i64 r) := by
 unfold salvage_finder_nearest at h
 replace h := bnd0 h
 refine spec_of (by kernel_rfl) Tryd.func107 rfl rfl ?_
 intro w0 A
 refine T_seq (T_reg ?_)
 refine R_q _ rfl (v_assign (ov rfl)) ?_
 refine R_nil ?_
 refine T_keep (kc 0 rfl <| kc 1 rfl <| kn) rfl ?_
 refine T_seq (T_reg ?_)
 refine R_q _ rfl (v_move (ov rfl)) ?_
 refine R_q _ rfl (v_nilCheckR (ov rfl)) ?_
 refine R_q _ rfl (v_fieldR (ov rfl) tF139_1) ?_
 refine R_q _ rfl (v_loadS_r (ov rfl) tS137 rfl) ?_
 refine R_q _ rfl (v_move (ov rfl)) ?_
 obtain ⟨y, h_y, h⟩ := bnd h
 refine R_q _ rfl (v_call (ok_slices_BinarySearchFunc_api_Found_api_Found_int rfl (fun z0 z1 _ hz => ok_salvage_finder_nearest_1 hz) h_y) (.cons (ov rfl) (.b rfl) <| .cons (ov rfl) (.b rfl) <| .cons (ov rfl) (.fn) <| .nil)) ?_
 refine R_q _ rfl (v_move (ov rfl)) ?_
 refine R_q _ rfl (v_extract (ov rfl) rfl) ?_
 refine R_q _ rfl (v_extract (ov rfl) rfl) ?_
 refine R_q _ rfl (v_assign (ov rfl)) ?_
 refine R_q _ rfl (v_assign (ov rfl)) ?_
 refine R_nil ?_
 refine T_seq ?_
 refine T_keep (kc 0 rfl <| kc 1 rfl <| kc 5 rfl <| kn) rfl ?_
 refine T_seq (T_draw (cw := md0) (by kernel_rfl) ?_)
 refine D_q0 0 _ rfl (by kernel_rfl) rfl rfl (v_move (ov rfl)) ?_
 refine D_q0 1 _ rfl (by kernel_rfl) rfl rfl (v_move (ov rfl)) ?_
 refine D_q0 2 _ rfl (by kernel_rfl) rfl rfl (v_nilCheckR (ov rfl)) ?_
 refine D_q0 3 _ rfl (by kernel_rfl) rfl rfl (v_fieldR (ov rfl) tF139_1) ?_
 refine D_q0 4 _ rfl (by kernel_rfl) rfl rfl (v_loadS_r (ov rfl) tS137 rfl) ?_
 refine D_q0 5 _ rfl (by kernel_rfl) rfl rfl (v_len (slv_sl (ov rfl) tZ_141) tL137 (len_map _ _)) ?_
 refine D_q0 6 _ rfl (by kernel_rfl) rfl rfl (v_eql (ov rfl) (ov rfl)) ?_
 refine D_q0 7 _ rfl (by kernel_rfl) rfl rfl (v_move (ov rfl)) ?_
 refine D_q0 8 _ rfl (by kernel_rfl) rfl rfl (.guarded ((decide (y.1 = (x.certain.length : Int))) == false) rfl rfl rfl rfl fun h => v_move (ov rfl)) ?_
 refine D_q0 9 _ rfl (by kernel_rfl) rfl rfl (.guarded ((decide (y.1 = (x.certain.length : Int))) == false) rfl rfl rfl rfl fun h => v_gtr (ow rfl h) (ov rfl)) ?_
 refine D_q0 10 _ rfl (by kernel_rfl) rfl rfl (.guarded ((decide (y.1 = (x.certain.length : Int))) == false) rfl rfl rfl rfl fun h => v_move (ow rfl h)) ?_
 refine D_q0 11 _ rfl (by kernel_rfl) rfl rfl (.guarded2 (((decide (y.1 = (x.certain.length : Int))) == false) && ((decide (0 < y.1)) == true)) rfl rfl rfl rfl fun h => v_move (ov rfl)) ?_
 refine D_q0 12 _ rfl (by kernel_rfl) rfl rfl (.guarded2 (((decide (y.1 = (x.certain.length : Int))) == false) && ((decide (0 < y.1)) == true)) rfl rfl rfl rfl fun h => v_move (ov rfl)) ?_
 refine D_q0 13 _ rfl (by kernel_rfl) rfl rfl (.guarded2 (((decide (y.1 = (x.certain.length : Int))) == false) && ((decide (0 < y.1)) == true)) rfl rfl rfl rfl fun h => v_nilCheckR (ow rfl h)) ?_
 refine D_q0 14 _ rfl (by kernel_rfl) rfl rfl (.guarded2 (((decide (y.1 = (x.certain.length : Int))) == false) && ((decide (0 < y.1)) == true)) rfl rfl rfl rfl fun h => v_fieldR (ow rfl h) tF139_1) ?_
 refine D_q0 15 _ rfl (by kernel_rfl) rfl rfl (.guarded2 (((decide (y.1 = (x.certain.length : Int))) == false) && ((decide (0 < y.1)) == true)) rfl rfl rfl rfl fun h => v_loadS_r (ow rfl h) tS137 rfl) ?_
 refine D_q0 16 _ rfl (by kernel_rfl) rfl rfl (.guarded2 (((decide (y.1 = (x.certain.length : Int))) == false) && ((decide (0 < y.1)) == true)) rfl rfl rfl rfl fun h => v_move (ov rfl)) ?_
 refine D_q0 17 _ rfl (by kernel_rfl) rfl rfl (.guarded2 (((decide (y.1 = (x.certain.length : Int))) == false) && ((decide (0 < y.1)) == true)) rfl rfl rfl rfl fun h => v_sub (ow rfl h) (ov rfl) rfl) ?_
 obtain ⟨x2, h_x2, h⟩ := bnd h
 refine D_q0 18 _ rfl (by kernel_rfl) rfl rfl (.guarded2 (((decide (y.1 = (x.certain.length : Int))) == false) && ((decide (0 < y.1)) == true)) rfl rfl rfl rfl fun h => v_ixSG (ow rfl h) (ow rfl h) tL137 (gdT h_x2 h)) ?_
 refine D_q0 19 _ rfl (by kernel_rfl) rfl rfl (.guarded2 (((decide (y.1 = (x.certain.length : Int))) == false) && ((decide (0 < y.1)) == true)) rfl rfl rfl rfl fun h => v_fieldR (ow rfl h) tF141_0) ?_
 refine D_q0 20 _ rfl (by kernel_rfl) rfl rfl (.guarded2 (((decide (y.1 = (x.certain.length : Int))) == false) && ((decide (0 < y.1)) == true)) rfl rfl rfl rfl fun h => v_loadS_r (ow rfl h) tS3 (at_get (at0 (hdc (n := 0) hd0)))) ?_
 refine D_q0 21 _ rfl (by kernel_rfl) rfl rfl (.guarded2 (((decide (y.1 = (x.certain.length : Int))) == false) && ((decide (0 < y.1)) == true)) rfl rfl rfl rfl fun h => v_sub (ow rfl h) (ow rfl h) rfl) ?_
 refine D_q0 22 _ rfl (by kernel_rfl) rfl rfl (.guarded2 (((decide (y.1 = (x.certain.length : Int))) == false) && ((decide (0 < y.1)) == true)) rfl rfl rfl rfl fun h => v_move (ov rfl)) ?_
 refine D_q0 23 _ rfl (by kernel_rfl) rfl rfl (.guarded2 (((decide (y.1 = (x.certain.length : Int))) == false) && ((decide (0 < y.1)) == true)) rfl rfl rfl rfl fun h => v_nilCheckR (ow rfl h)) ?_
 refine D_q0 24 _ rfl (by kernel_rfl) rfl rfl (.guarded2 (((decide (y.1 = (x.certain.length : Int))) == false) && ((decide (0 < y.1)) == true)) rfl rfl rfl rfl fun h => v_fieldR (ow rfl h) tF139_1) ?_
 refine D_q0 25 _ rfl (by kernel_rfl) rfl rfl (.guarded2 (((decide (y.1 = (x.certain.length : Int))) == false) && ((decide (0 < y.1)) == true)) rfl rfl rfl rfl fun h => v_loadS_r (ow rfl h) tS137 rfl) ?_
 refine D_q0 26 _ rfl (by kernel_rfl) rfl rfl (.guarded2 (((decide (y.1 = (x.certain.length : Int))) == false) && ((decide (0 < y.1)) == true)) rfl rfl rfl rfl fun h => v_move (ov rfl)) ?_
 obtain ⟨x3, h_x3, h⟩ := bnd h
 refine D_q0 27 _ rfl (by kernel_rfl) rfl rfl (.guarded2 (((decide (y.1 = (x.certain.length : Int))) == false) && ((decide (0 < y.1)) == true)) rfl rfl rfl rfl fun h => v_ixSG (ow rfl h) (ow rfl h) tL137 (gdT h_x3 h)) ?_
 refine D_q0 28 _ rfl (by kernel_rfl) rfl rfl (.guarded2 (((decide (y.1 = (x.certain.length : Int))) == false) && ((decide (0 < y.1)) == true)) rfl rfl rfl rfl fun h => v_fieldR (ow rfl h) tF141_0) ?_
 refine D_q0 29 _ rfl (by kernel_rfl) rfl rfl (.guarded2 (((decide (y.1 = (x.certain.length : Int))) == false) && ((decide (0 < y.1)) == true)) rfl rfl rfl rfl fun h => v_loadS_r (ow rfl h) tS3 (at_get (at0 (hdc (n := 0) hd0)))) ?_
 refine D_q0 30 _ rfl (by kernel_rfl) rfl rfl (.guarded2 (((decide (y.1 = (x.certain.length : Int))) == false) && ((decide (0 < y.1)) == true)) rfl rfl rfl rfl fun h => v_move (ov rfl)) ?_
 refine D_q0 31 _ rfl (by kernel_rfl) rfl rfl (.guarded2 (((decide (y.1 = (x.certain.length : Int))) == false) && ((decide (0 < y.1)) == true)) rfl rfl rfl rfl fun h => v_sub (ow rfl h) (ow rfl h) rfl) ?_
 refine D_q0 32 _ rfl (by kernel_rfl) rfl rfl (.guarded2 (((decide (y.1 = (x.certain.length : Int))) == false) && ((decide (0 < y.1)) == true)) rfl rfl rfl rfl fun h => v_leq (ow rfl h) (ow rfl h)) ?_
 refine D_q0 33 _ rfl (by kernel_rfl) rfl rfl (.guarded ((decide (y.1 = (x.certain.length : Int))) == false) rfl rfl rfl rfl fun h => v_and (ow rfl h) (fun hp => ow rfl (gA h (gT hp)))) ?_
 refine D_q0 34 _ rfl (by kernel_rfl) rfl rfl (v_or (ov rfl) (fun hp => ow rfl (gF hp))) ?_
 refine D_done (by kernel_rfl) ?_
 refine T_keep (kc 5 rfl <| kc 50 rfl <| kn) rfl ?_
 refine T_if h rfl (fun b50 h => ?_) (fun b50 h => ?_)
 ·
  refine T_keep (kc 5 rfl <| kn) rfl ?_
  refine T_seq (T_reg ?_)
  refine R_q _ rfl (v_move (ov rfl)) ?_
  refine R_q _ rfl (v_sub (ov rfl) (ov rfl) rfl) ?_
  refine R_q _ rfl (v_assign (ov rfl)) ?_
  refine R_nil ?_
  obtain rfl := rt (v := (i64 (y.1 - 1))) h
  refine T_ret (retq ?_ (.one (.tmp rfl (Dat.view (.b rfl)))))
  rfl
 ·
  refine T_skip ?_
  refine T_keep (kc 5 rfl <| kn) rfl ?_
  refine T_seq (T_reg ?_)
  refine R_q _ rfl (v_move (ov rfl)) ?_
  refine R_q _ rfl (v_assign (ov rfl)) ?_
  refine R_nil ?_
  obtain rfl := rt (v := y.1) h
  refine T_ret (retq ?_ (.one (.tmp rfl (Dat.view (.b rfl)))))
  rfl

theorem ok_salvage_size {n : Int} {r : Int} (h : salvage_size n = some r) :
  CSpec Tryd.prog gl0 108 [.int .i64 n] (.int .i64 r) := by
 unfold salvage_size at h
 replace h := bnd0 h
 refine spec_of (by kernel_rfl) Tryd.func108 rfl rfl ?_
 intro w0 A
 refine T_seq (T_reg ?_)
 refine R_q _ rfl (v_assign (ov rfl)) ?_
 refine R_nil ?_
 refine T_seq (T_reg ?_)
 refine R_q _ rfl (v_move (ov rfl)) ?_
 refine R_q _ rfl (v_move (ov rfl)) ?_
 refine R_q _ rfl (v_neg (ov rfl) rfl) ?_
 refine R_q _ rfl (v_max (ov rfl) (ov rfl) rfl) ?_
 refine R_q _ rfl (v_assign (ov rfl)) ?_
 refine R_nil ?_
 obtain rfl := rt (v := (max n (i64 (-n)))) h
 refine T_ret (retq ?_ (.one (.tmp rfl (Dat.view (.b rfl)))))
 rfl

theorem ok_salvage_finder_places {x : salvage_finder} {i : Int} {r : (List Int)} (h : salvage_finder_places x i = some r) :
  CSpec Tryd.prog gl0 88 [.rp [.sl 5 (List.map R5 x.h_), .sl 141 (List.map R141 x.certain), .sl 3 (List.map R3 x.numbers), .any] 0, .int .i64 i] (.sl 3 (List.map R3 r)) := by
 unfold salvage_finder_places at h
 replace h := bnd0 h
 refine spec_of (by kernel_rfl) Tryd.func88 rfl rfl ?_
 intro w0 A
 refine T_seq (T_reg ?_)
 refine R_q _ rfl (v_assign (ov rfl)) ?_
 refine R_nil ?_
 refine T_keep (kc 0 rfl <| kc 1 rfl <| kn) rfl ?_
 refine T_seq (T_reg ?_)
 refine R_q _ rfl (v_assign (ov rfl)) ?_
 refine R_nil ?_
 refine T_seq (T_reg ?_)
 refine R_q _ rfl (v_move (ov rfl)) ?_
 refine R_q _ rfl (v_nilCheckR (ov rfl)) ?_
 refine R_q _ rfl (v_fieldR (ov rfl) tF139_1) ?_
 refine R_q _ rfl (v_loadS_r (ov rfl) tS137 rfl) ?_
 refine R_q _ rfl (v_move (ov rfl)) ?_
 obtain ⟨x2, h_x2, h⟩ := bnd h
 refine R_q _ rfl (v_ixSG (ov rfl) (ov rfl) tL137 h_x2) ?_
 refine R_q _ rfl (v_fieldR (ov rfl) tF141_0) ?_
 refine R_q _ rfl (v_loadS_r (ov rfl) tS3 (at_get (at0 (hdc (n := 0) hd0)))) ?_
 refine R_q _ rfl (v_assign (ov rfl)) ?_
 refine R_nil ?_
 refine T_joinG id (t1 fun out => ⟨[(5, .own 0 out.length)], [some ⟨3, List.map R3 out⟩]⟩) h (fun h => ?_) (fun j h => ?_)
 ·
  refine T_keep (kc 0 rfl <| kc 1 rfl <| kc 5 rfl <| kc 6 rfl <| kn) rfl ?_
  refine T_seq (T_reg ?_)
  refine R_q (.sl 3 (List.map R3 ([(-194), 194] : List Int))) rfl (v_lit tL26 (.cons (cvs (ov rfl) (cell1_b rfl)) rfl (.cons (.b rfl) .nil) <| .cons (cvs (ov rfl) (cell1_b rfl)) rfl (.cons (.b rfl) .nil) <| .nil) rfl rfl) ?_
  refine R_q _ rfl (v_len (slv_sl (ov rfl) tZ_3) tL26 (len_map _ _)) ?_
  refine R_q _ rfl (v_move (ov rfl)) ?_
  refine R_nil ?_
  refine T_block ?_
  obtain ⟨r1, hl1, ho1⟩ := bndL h
  refine T_loopG _ (t2 fun out2 i2 => ⟨[(0, .rp [.sl 5 (List.map R5 x.h_), .sl 141 (List.map R141 x.certain), .sl 3 (List.map R3 x.numbers), .any] 0), (1, .int .i64 i), (5, .own 0 out2.length), (6, .int .i64 x2.At), (19, .sl 3 (List.map R3 ([(-194), 194] : List Int))), (20, .int .i64 (([(-194), 194] : List Int).length : Int)), (21, .int .i64 i2)], [some ⟨3, List.map R3 out2⟩]⟩) _ hl1 (Ent.sel [none] (sd 0 rfl rfl <| sd 1 rfl rfl <| sr 5 rfl (.row rfl) <| sd 6 rfl rfl <| sd 19 rfl rfl <| sd 20 rfl rfl <| sd 21 rfl rfl <| sn) (.row 3 <| .nil) rfl rfl) (fun n1 s1 h => ?_)
  obtain ⟨out2, i2⟩ := s1
  replace h := t2i h
  refine t2T ?_
  unfold salvage_finder_places_L1 at h
  refine T_seq (T_reg ?_)
  refine R_q _ rfl (v_lss (ov rfl) (ov rfl)) ?_
  refine R_nil ?_
  refine T_seq ?_
  refine T_if h rfl (fun b22 h => ?_) (fun b22 h => ?_)
  ·
   refine T_skip ?_
   refine T_joinG id (t1 fun out3 => ⟨[(0, .rp [.sl 5 (List.map R5 x.h_), .sl 141 (List.map R141 x.certain), .sl 3 (List.map R3 x.numbers), .any] 0), (1, .int .i64 i), (5, .own 0 out3.length), (6, .int .i64 x2.At), (19, .sl 3 (List.map R3 ([(-194), 194] : List Int))), (20, .int .i64 (([(-194), 194] : List Int).length : Int)), (21, .int .i64 i2)], [some ⟨3, List.map R3 out3⟩]⟩) h (fun h => ?_) (fun j h => ?_)
   ·
    refine T_block ?_
    refine T_keep (kc 0 rfl <| kc 1 rfl <| kc 5 rfl <| kc 6 rfl <| kc 19 rfl <| kc 20 rfl <| kc 21 rfl <| kn) rfl ?_
    refine T_seq (T_reg ?_)
    obtain ⟨x3, h_x3, h⟩ := bnd h
    refine R_q _ rfl (v_ixSG (ov rfl) (ov rfl) tL26 h_x3) ?_
    refine R_q _ rfl (v_loadS_r (ov rfl) tS3 rfl) ?_
    refine R_q _ rfl (v_assign (ov rfl)) ?_
    refine R_nil ?_
    refine T_keep (kc 0 rfl <| kc 1 rfl <| kc 5 rfl <| kc 6 rfl <| kc 8 rfl <| kc 19 rfl <| kc 20 rfl <| kc 21 rfl <| kn) rfl ?_
    refine T_seq (T_reg ?_)
    refine R_q _ rfl (v_move (ov rfl)) ?_
    refine R_q _ rfl (v_move (ov rfl)) ?_
    refine R_q _ rfl (v_add (ov rfl) (ov rfl) rfl) ?_
    refine R_q _ rfl (v_assign (ov rfl)) ?_
    refine R_nil ?_
    refine T_block ?_
    obtain ⟨r2, hl2, ho2⟩ := bndL h
    refine T_loopG _ (t2 fun out4 p => ⟨[(0, .rp [.sl 5 (List.map R5 x.h_), .sl 141 (List.map R141 x.certain), .sl 3 (List.map R3 x.numbers), .any] 0), (1, .int .i64 i), (5, .own 0 out4.length), (6, .int .i64 x2.At), (8, .int .i64 x3), (9, .int .i64 p), (19, .sl 3 (List.map R3 ([(-194), 194] : List Int))), (20, .int .i64 (([(-194), 194] : List Int).length : Int)), (21, .int .i64 i2)], [some ⟨3, List.map R3 out4⟩]⟩) _ hl2 (Ent.sel [some 0] (sd 0 rfl rfl <| sd 1 rfl rfl <| sr 5 rfl (.own _ rfl) <| sd 6 rfl rfl <| sd 8 rfl rfl <| sd 9 rfl rfl <| sd 19 rfl rfl <| sd 20 rfl rfl <| sd 21 rfl rfl <| sn) (.cons rfl (roM D3) <| .nil) rfl rfl) (fun n2 s2 h => ?_)
    obtain ⟨out4, p⟩ := s2
    replace h := t2i h
    refine t2T ?_
    unfold salvage_finder_places_L2 at h
    refine T_seq ?_
    refine T_seq (T_reg ?_)
    refine R_q _ rfl (v_move (ov rfl)) ?_
    refine R_q _ rfl (v_gtr (ov rfl) (ov rfl)) ?_
    refine R_q _ rfl (v_move (ov rfl)) ?_
    refine R_q _ rfl (.guarded ((decide ((-192) < p)) == true) rfl rfl rfl rfl fun h => v_move (ov rfl)) ?_
    refine R_q _ rfl (.guarded ((decide ((-192) < p)) == true) rfl rfl rfl rfl fun h => v_move (ov rfl)) ?_
    refine R_q _ rfl (.guarded ((decide ((-192) < p)) == true) rfl rfl rfl rfl fun h => v_nilCheckR (ow rfl h)) ?_
    refine R_q _ rfl (.guarded ((decide ((-192) < p)) == true) rfl rfl rfl rfl fun h => v_fieldR (ow rfl h) tF139_0) ?_
    refine R_q _ rfl (.guarded ((decide ((-192) < p)) == true) rfl rfl rfl rfl fun h => v_loadS_r (ow rfl h) tS33 rfl) ?_
    refine R_q _ rfl (.guarded ((decide ((-192) < p)) == true) rfl rfl rfl rfl fun h => v_len (slv_sl (ow rfl h) tZ_5) tL33 (len_map _ _)) ?_
    refine R_q _ rfl (.guarded ((decide ((-192) < p)) == true) rfl rfl rfl rfl fun h => v_lss (ow rfl h) (ow rfl h)) ?_
    refine R_q _ rfl (v_and (ov rfl) (fun hp => ow rfl (gT hp))) ?_
    refine R_nil ?_
    refine T_keep (kc 0 rfl <| kc 1 rfl <| kc 5 rfl <| kc 6 rfl <| kc 8 rfl <| kc 9 rfl <| kc 19 rfl <| kc 20 rfl <| kc 21 rfl <| kc 38 rfl <| kn) rfl ?_
    refine T_if h rfl (fun b38 h => ?_) (fun b38 h => ?_)
    ·
     refine T_skip ?_
     refine T_joinG (fun j => (.inr j)) (t1 fun out5 => ⟨[(0, .rp [.sl 5 (List.map R5 x.h_), .sl 141 (List.map R141 x.certain), .sl 3 (List.map R3 x.numbers), .any] 0), (1, .int .i64 i), (5, .own 0 out5.length), (6, .int .i64 x2.At), (8, .int .i64 x3), (9, .int .i64 p), (19, .sl 3 (List.map R3 ([(-194), 194] : List Int))), (20, .int .i64 (([(-194), 194] : List Int).length : Int)), (21, .int .i64 i2)], [some ⟨3, List.map R3 out5⟩]⟩) h (fun h => ?_) (fun j h => ?_)
     ·
      refine T_block ?_
      refine T_keep (kc 0 rfl <| kc 1 rfl <| kc 5 rfl <| kc 6 rfl <| kc 8 rfl <| kc 9 rfl <| kc 19 rfl <| kc 20 rfl <| kc 21 rfl <| kn) rfl ?_
      refine T_seq (T_reg ?_)
      refine R_q _ rfl (v_move (ov rfl)) ?_
      refine R_q _ rfl (v_move (ov rfl)) ?_
      obtain ⟨y, h_y, h⟩ := bnd h
      refine R_q _ rfl (v_call (ok_salvage_finder_nearest h_y) (.cons (ov rfl) (.b rfl) <| .cons (ov rfl) (.b rfl) <| .nil)) ?_
      refine R_q _ rfl (v_assign (ov rfl)) ?_
      refine R_nil ?_
      refine T_seq ?_
      refine T_keep (kc 0 rfl <| kc 1 rfl <| kc 5 rfl <| kc 6 rfl <| kc 8 rfl <| kc 9 rfl <| kc 10 rfl <| kc 19 rfl <| kc 20 rfl <| kc 21 rfl <| kn) rfl ?_
      refine T_seq (T_reg ?_)
      refine R_q _ rfl (v_move (ov rfl)) ?_
      refine R_q _ rfl (v_move (ov rfl)) ?_
      refine R_q _ rfl (v_neq (ov rfl) (ov rfl)) ?_
      refine R_nil ?_
      refine T_keep (kc 0 rfl <| kc 1 rfl <| kc 5 rfl <| kc 6 rfl <| kc 8 rfl <| kc 9 rfl <| kc 10 rfl <| kc 19 rfl <| kc 20 rfl <| kc 21 rfl <| kc 47 rfl <| kn) rfl ?_
      refine T_if h rfl (fun b47 h => ?_) (fun b47 h => ?_)
      ·
       refine T_exit ?_
       rw [lx h] at ho2
       replace h := ho2
       exact ⟨out4, h, Ent.sel [some 0] (sd 0 rfl rfl <| sd 1 rfl rfl <| sr 5 rfl (.own _ rfl) <| sd 6 rfl rfl <| sd 19 rfl rfl <| sd 20 rfl rfl <| sd 21 rfl rfl <| sn) (.cons rfl (roM D3) <| .nil) rfl rfl⟩
      ·
       refine T_skip ?_
       refine T_keep (kc 0 rfl <| kc 1 rfl <| kc 5 rfl <| kc 6 rfl <| kc 8 rfl <| kc 9 rfl <| kc 10 rfl <| kc 19 rfl <| kc 20 rfl <| kc 21 rfl <| kn) rfl ?_
       refine T_seq (T_reg ?_)
       refine R_q _ rfl (v_move (ov rfl)) ?_
       refine R_q _ rfl (v_nilCheckR (ov rfl)) ?_
       refine R_q _ rfl (v_fieldR (ov rfl) tF139_1) ?_
       refine R_q _ rfl (v_loadS_r (ov rfl) tS137 rfl) ?_
       refine R_q _ rfl (v_move (ov rfl)) ?_
       obtain ⟨x4, h_x4, h⟩ := bnd h
       refine R_q _ rfl (v_ixSG (ov rfl) (ov rfl) tL137 h_x4) ?_
       refine R_q _ rfl (v_fieldR (ov rfl) tF141_0) ?_
       refine R_q _ rfl (v_loadS_r (ov rfl) tS3 (at_get (at0 (hdc (n := 0) hd0)))) ?_
       refine R_q _ rfl (v_move (ov rfl)) ?_
       refine R_q _ rfl (v_sub (ov rfl) (ov rfl) rfl) ?_
       obtain ⟨y2, h_y2, h⟩ := bnd h
       refine R_q _ rfl (v_call (ok_salvage_size h_y2) (.cons (ov rfl) (.b rfl) <| .nil)) ?_
       refine R_q _ rfl (v_geq (ov rfl) (ov rfl)) ?_
       refine R_nil ?_
       refine T_keep (kc 0 rfl <| kc 1 rfl <| kc 5 rfl <| kc 6 rfl <| kc 8 rfl <| kc 9 rfl <| kc 19 rfl <| kc 20 rfl <| kc 21 rfl <| kc 59 rfl <| kn) rfl ?_
       refine T_if h rfl (fun b59 h => ?_) (fun b59 h => ?_)
       ·
        refine T_keep (kc 0 rfl <| kc 1 rfl <| kc 5 rfl <| kc 6 rfl <| kc 8 rfl <| kc 9 rfl <| kc 19 rfl <| kc 20 rfl <| kc 21 rfl <| kn) rfl ?_
        refine T_reg ?_
        refine R_q _ rfl (v_move (ov rfl)) ?_
        refine R_q _ rfl (v_move (ov rfl)) ?_
        refine R_q (.sl 3 (List.map R3 ([p] : List Int))) rfl (v_lit tL26 (.cons (cvs (ov rfl) (cell1_b rfl)) rfl (.cons (.b rfl) .nil) <| .nil) rfl rfl) ?_
        obtain ⟨l, h_l, h⟩ := bnd h
        refine R_w _ _ rfl (w_appendG (ov rfl) (slv_sl (ov rfl) tZ_3) tL26 rfl rfl rfl (fun _ => cell1_all rfl) rfl h_l) ?_
        refine R_q _ rfl (v_assign (ov rfl)) ?_
        refine R_nil ?_
        exact ⟨l, h, Ent.sel [some 0] (sd 0 rfl rfl <| sd 1 rfl rfl <| sr 5 rfl (.own _ rfl) <| sd 6 rfl rfl <| sd 8 rfl rfl <| sd 9 rfl rfl <| sd 19 rfl rfl <| sd 20 rfl rfl <| sd 21 rfl rfl <| sn) (.cons rfl (roM D3) <| .nil) rfl rfl⟩
       ·
        refine T_skip ?_
        exact ⟨out4, h, Ent.sel [some 0] (sd 0 rfl rfl <| sd 1 rfl rfl <| sr 5 rfl (.own _ rfl) <| sd 6 rfl rfl <| sd 8 rfl rfl <| sd 9 rfl rfl <| sd 19 rfl rfl <| sd 20 rfl rfl <| sd 21 rfl rfl <| sn) (.cons rfl (roM D3) <| .nil) rfl rfl⟩
     ·
      replace h := elr h
      obtain ⟨out5, rfl⟩ : ∃ x, x = j := ⟨_, rfl⟩
      replace h := t1i h
      refine t1T ?_
      refine T_reg ?_
      refine R_q _ rfl (v_move (ov rfl)) ?_
      refine R_q _ rfl (v_move (ov rfl)) ?_
      refine R_q _ rfl (v_add (ov rfl) (ov rfl) rfl) ?_
      refine R_q _ rfl (v_assign (ov rfl)) ?_
      refine R_nil ?_
      exact ⟨(out5, (i64 (p + x3))), h, Ent.sel [some 0] (sd 0 rfl rfl <| sd 1 rfl rfl <| sr 5 rfl (.own _ rfl) <| sd 6 rfl rfl <| sd 8 rfl rfl <| sd 9 rfl rfl <| sd 19 rfl rfl <| sd 20 rfl rfl <| sd 21 rfl rfl <| sn) (.cons rfl (roM D3) <| .nil) rfl rfl⟩
    ·
     refine T_exit ?_
     rw [lx h] at ho2
     replace h := ho2
     exact ⟨out4, h, Ent.sel [some 0] (sd 0 rfl rfl <| sd 1 rfl rfl <| sr 5 rfl (.own _ rfl) <| sd 6 rfl rfl <| sd 19 rfl rfl <| sd 20 rfl rfl <| sd 21 rfl rfl <| sn) (.cons rfl (roM D3) <| .nil) rfl rfl⟩
   ·
    obtain ⟨out3, rfl⟩ : ∃ x, x = j := ⟨_, rfl⟩
    replace h := t1i h
    refine t1T ?_
    refine T_reg ?_
    refine R_q _ rfl (v_add (ov rfl) (ov rfl) rfl) ?_
    refine R_q _ rfl (v_move (ov rfl)) ?_
    refine R_nil ?_
    exact ⟨(out3, (i64 (i2 + 1))), h, Ent.sel [some 0] (sd 0 rfl rfl <| sd 1 rfl rfl <| sr 5 rfl (.own _ rfl) <| sd 6 rfl rfl <| sd 19 rfl rfl <| sd 20 rfl rfl <| sd 21 rfl rfl <| sn) (.cons rfl (roM D3) <| .nil) rfl rfl⟩
  ·
   refine T_exit ?_
   rw [lx h] at ho1
   replace h := ho1
   exact ⟨out2, h, Ent.sel [some 0] (sr 5 rfl (.own _ rfl) <| sn) (.cons rfl (roM D3) <| .nil) rfl rfl⟩
 ·
  obtain ⟨out, rfl⟩ : ∃ x, x = j := ⟨_, rfl⟩
  replace h := t1i h
  refine t1T ?_
  refine T_seq (T_reg ?_)
  refine R_q _ rfl (v_move (ov rfl)) ?_
  refine R_q _ rfl (v_assign (ov rfl)) ?_
  refine R_nil ?_
  obtain rfl := rt (v := out) h
  refine T_ret (retq ?_ (.one (.tmp rfl (View.ownM rfl rfl D3))))
  rfl

theorem ok_salvage_own {f : Vector Int 64} {whole : Vector Bool 64} {r : Int × Bool} (h : salvage_own f whole = some r) :
  CSpec Tryd.prog gl0 131 [.agg (List.map C36 f.toList), .agg (List.map C4 whole.toList)] (.tuple [.int .i64 r.1, .bool r.2]) := by
 unfold salvage_own at h
 replace h := bnd0 h
 refine spec_of (by kernel_rfl) Tryd.func131 rfl rfl ?_
 intro w0 A
 refine T_seq (T_reg ?_)
 refine R_q _ rfl (v_boxD (cva (ov rfl)) arL tZ_38 (arD fun _ => rfl)) ?_
 refine R_q _ rfl (v_boxD (cva (ov rfl)) arL tZ_39 (arD fun _ => rfl)) ?_
 refine R_q _ rfl (v_assign (ov rfl)) ?_
 refine R_q _ rfl (v_assign (ov rfl)) ?_
 refine R_nil ?_
 refine T_seq ?_
 refine T_keep (kc 2 rfl <| kc 3 rfl <| kn) rfl ?_
 refine T_seq (T_reg ?_)
 obtain ⟨x, h_x, h⟩ := bnd h
 refine R_q _ rfl (v_ixRG (ov rfl) (ov rfl) tR39 h_x) ?_
 refine R_q _ rfl (v_loadS_r (ov rfl) tS4 (at_get (at_at (o := 0) (o' := ((Int.toNat 0) * 1)) (at_all arL) (at_v1 h_x)))) ?_
 refine R_q _ rfl (v_not (ov rfl)) ?_
 refine R_q _ rfl (v_move (ov rfl)) ?_
 obtain ⟨x2, h_x2, h⟩ := bnd h
 refine R_q _ rfl (.guarded ((!x) == false) rfl rfl rfl rfl fun h => v_ixRG (ov rfl) (ov rfl) tR39 (gdT h_x2 h)) ?_
 refine R_q _ rfl (.guarded ((!x) == false) rfl rfl rfl rfl fun h => v_loadS_r (ow rfl h) tS4 (at_get (at_at (o := 0) (o' := ((Int.toNat 1) * 1)) (at_all arL) (at_v1 (gdT h_x2 h))))) ?_
 refine R_q _ rfl (.guarded ((!x) == false) rfl rfl rfl rfl fun h => v_not (ow rfl h)) ?_
 refine R_q _ rfl (v_or (ov rfl) (fun hp => ow rfl (gF hp))) ?_
 refine R_q _ rfl (v_move (ov rfl)) ?_
 obtain ⟨x3, h_x3, h⟩ := bnd h
 refine R_q _ rfl (.guarded (((!x) || (!x2)) == false) rfl rfl rfl rfl fun h => v_ixRG (ov rfl) (ov rfl) tR39 (gdT h_x3 h)) ?_
 refine R_q _ rfl (.guarded (((!x) || (!x2)) == false) rfl rfl rfl rfl fun h => v_loadS_r (ow rfl h) tS4 (at_get (at_at (o := 0) (o' := ((Int.toNat 2) * 1)) (at_all arL) (at_v1 (gdT h_x3 h))))) ?_
 refine R_q _ rfl (.guarded (((!x) || (!x2)) == false) rfl rfl rfl rfl fun h => v_not (ow rfl h)) ?_
 refine R_q _ rfl (v_or (ov rfl) (fun hp => ow rfl (gF hp))) ?_
 refine R_nil ?_
 refine T_keep (kc 2 rfl <| kc 22 rfl <| kn) rfl ?_
 refine T_if h rfl (fun b22 h => ?_) (fun b22 h => ?_)
 ·
  refine T_keep (kn) rfl ?_
  refine T_seq (T_reg ?_)
  refine R_q _ rfl (v_assign (ov rfl)) ?_
  refine R_q _ rfl (v_assign (ov rfl)) ?_
  refine R_nil ?_
  obtain rfl := rt (v := (0, false)) h
  refine T_ret (retq ?_ (.two (.tmp rfl (Dat.view (.b rfl))) (.tmp rfl (Dat.view (.b rfl)))))
  rfl
 ·
  refine T_skip ?_
  refine T_keep (kc 2 rfl <| kn) rfl ?_
  refine T_seq (T_reg ?_)
  refine R_q _ rfl (v_loadA_r (ov rfl) tA38 (at_sub (at_all arL)) arL) ?_
  obtain ⟨y, h_y, h⟩ := bnd h
  refine R_q _ rfl (v_call (ok_frame_Number h_y) (.cons (ov rfl) (.aggB (arD fun _ => rfl)) <| .nil)) ?_
  refine R_q _ rfl (v_move (ov rfl)) ?_
  refine R_q _ rfl (v_extract (ov rfl) rfl) ?_
  refine R_q _ rfl (v_extract (ov rfl) rfl) ?_
  refine R_q _ rfl (v_assign (ov rfl)) ?_
  refine R_q _ rfl (v_assign (ov rfl)) ?_
  refine R_nil ?_
  refine T_keep (kc 2 rfl <| kc 6 rfl <| kc 7 rfl <| kn) rfl ?_
  refine T_seq (T_reg ?_)
  refine R_q _ rfl (v_move (ov rfl)) ?_
  obtain ⟨y2, h_y2, h⟩ := bnd h
  refine R_q _ rfl (v_call (ok_frame_Sync h_y2) (.cons (ov rfl) (.b rfl) <| .nil)) ?_
  refine R_q _ rfl (v_move (ov rfl)) ?_
  refine R_q _ rfl (v_extract (ov rfl) rfl) ?_
  refine R_q _ rfl (v_extract (ov rfl) rfl) ?_
  refine R_q _ rfl (v_assign (ov rfl)) ?_
  refine R_q _ rfl (v_assign (ov rfl)) ?_
  refine R_nil ?_
  refine T_keep (kc 2 rfl <| kc 6 rfl <| kc 7 rfl <| kc 8 rfl <| kn) rfl ?_
  refine T_seq (T_draw (cw := md0) (by kernel_rfl) ?_)
  refine D_q0 0 _ rfl (by kernel_rfl) rfl rfl (v_move (ov rfl)) ?_
  refine D_q0 1 _ rfl (by kernel_rfl) rfl rfl (v_move (ov rfl)) ?_
  refine D_q0 2 _ rfl (by kernel_rfl) rfl rfl (v_move (ov rfl)) ?_
  obtain ⟨x4, h_x4, h⟩ := bnd h
  refine D_q0 3 _ rfl (by kernel_rfl) rfl rfl (.guarded (y.2 == true) rfl rfl rfl rfl fun h => v_ixRG (ov rfl) (ov rfl) tR38 (gdT h_x4 h)) ?_
  refine D_q0 4 _ rfl (by kernel_rfl) rfl rfl (.guarded (y.2 == true) rfl rfl rfl rfl fun h => v_loadS_r (ow rfl h) tS36 (at_get (at_at (o := 0) (o' := ((Int.toNat 0) * 1)) (at_all arL) (at_v1 (gdT h_x4 h))))) ?_
  refine D_q0 5 _ rfl (by kernel_rfl) rfl rfl (.guarded (y.2 == true) rfl rfl rfl rfl fun h => v_move (ov rfl)) ?_
  refine D_q0 6 _ rfl (by kernel_rfl) rfl rfl (.guarded (y.2 == true) rfl rfl rfl rfl fun h => v_conv (ow rfl h) tI3 tI36 rfl) ?_
  refine D_q0 7 _ rfl (by kernel_rfl) rfl rfl (.guarded (y.2 == true) rfl rfl rfl rfl fun h => v_eql (ow rfl h) (ow rfl h)) ?_
  refine D_q0 8 _ rfl (by kernel_rfl) rfl rfl (v_and (ov rfl) (fun hp => ow rfl (gT hp))) ?_
  refine D_q0 9 _ rfl (by kernel_rfl) rfl rfl (v_assign (ov rfl)) ?_
  refine D_q0 10 _ rfl (by kernel_rfl) rfl rfl (v_assign (ov rfl)) ?_
  refine D_done (by kernel_rfl) ?_
  obtain rfl := rt (v := (y.1, (y.2 && (decide (x4 = (u16 y2.1)))))) h
  refine T_ret (retq ?_ (.two (.tmp rfl (Dat.view (.b rfl))) (.tmp rfl (Dat.view (.b rfl)))))
  rfl

theorem ok_salvage_finder_other {x : salvage_finder} {i : Int} {place : Int} {r : Int} (h : salvage_finder_other x i place = some r) :
  CSpec Tryd.prog gl0 132 [.rp [.sl 5 (List.map R5 x.h_), .sl 141 (List.map R141 x.certain), .sl 3 (List.map R3 x.numbers), .any] 0, .int .i64 i, .int .i64 place] (.int .i64 r) := by
 unfold salvage_finder_other at h
 replace h := bnd0 h
 refine spec_of (by kernel_rfl) Tryd.func132 rfl rfl ?_
 intro w0 A
 refine T_seq (T_reg ?_)
 refine R_q _ rfl (v_assign (ov rfl)) ?_
 refine R_nil ?_
 refine T_keep (kc 0 rfl <| kc 1 rfl <| kc 2 rfl <| kn) rfl ?_
 refine T_seq (T_reg ?_)
 refine R_q _ rfl (v_assign (ov rfl)) ?_
 refine R_q _ rfl (v_assign (ov rfl)) ?_
 refine R_nil ?_
 refine T_joinG id (t1 fun best => ⟨[(7, .int .i64 best)], []⟩) h (fun h => ?_) (fun j h => ?_)
 ·
  refine T_seq (T_reg ?_)
  refine R_q _ rfl (v_move (ov rfl)) ?_
  refine R_q _ rfl (v_nilCheckR (ov rfl)) ?_
  refine R_q _ rfl (v_fieldR (ov rfl) tF139_1) ?_
  refine R_q _ rfl (v_loadS_r (ov rfl) tS137 rfl) ?_
  refine R_q _ rfl (v_len (slv_sl (ov rfl) tZ_141) tL137 (len_map _ _)) ?_
  refine R_q _ rfl (v_move (ov rfl)) ?_
  refine R_nil ?_
  refine T_block ?_
  obtain ⟨r1, hl1, ho1⟩ := bndL h
  refine T_loopG _ (t3 fun best2 least i2 => ⟨[(0, .rp [.sl 5 (List.map R5 x.h_), .sl 141 (List.map R141 x.certain), .sl 3 (List.map R3 x.numbers), .any] 0), (1, .int .i64 i), (2, .int .i64 place), (7, .int .i64 best2), (8, .int .i64 least), (15, .sl 141 (List.map R141 x.certain)), (16, .int .i64 (x.certain.length : Int)), (17, .int .i64 i2)], []⟩) _ hl1 (Ent.sel [] (sd 0 rfl rfl <| sd 1 rfl rfl <| sd 2 rfl rfl <| sd 7 rfl rfl <| sd 8 rfl rfl <| sd 15 rfl rfl <| sd 16 rfl rfl <| sd 17 rfl rfl <| sn) (.nil) rfl rfl) (fun n1 s1 h => ?_)
  obtain ⟨best2, least, i2⟩ := s1
  replace h := t3i h
  refine t3T ?_
  unfold salvage_finder_other_L1 at h
  refine T_seq (T_reg ?_)
  refine R_q _ rfl (v_lss (ov rfl) (ov rfl)) ?_
  refine R_nil ?_
  refine T_seq ?_
  refine T_if h rfl (fun b18 h => ?_) (fun b18 h => ?_)
  ·
   refine T_skip ?_
   refine T_seq ?_
   refine T_block ?_
   refine T_keep (kc 0 rfl <| kc 1 rfl <| kc 2 rfl <| kc 7 rfl <| kc 8 rfl <| kc 15 rfl <| kc 16 rfl <| kc 17 rfl <| kn) rfl ?_
   refine T_seq (T_reg ?_)
   refine R_q _ rfl (v_move (ov rfl)) ?_
   obtain ⟨x2, h_x2, h⟩ := bnd h
   refine R_q _ rfl (v_ixSG (ov rfl) (ov rfl) tL137 h_x2) ?_
   refine R_q _ rfl (v_loadA_r (ov rfl) tA141 (at_sub (at_all (lnC (n := 64) (lnA (m := 64) (n := 0) arL (lnN))))) (lnC (n := 64) (lnA (m := 64) (n := 0) arL (lnN)))) ?_
   refine R_w _ _ rfl (w_alloc (row := (.int .i64 0) :: ((List.map C36 (Vector.replicate 64 0).toList) ++ ([]))) 0 rfl tZ141 (by kernel_rfl) (by exact Eq.symm (Eq.trans (b := 65) (lnC (n := 64) (lnA (m := 64) (n := 0) arL (lnN))) tZ_141.symm))) ?_
   refine R_q _ rfl (v_assign (ov rfl)) ?_
   refine R_w _ _ rfl (w_store (ov rfl) (ov rfl) (cells_agg tA141 (lnC (n := 64) (lnA (m := 64) (n := 0) arL (lnN)))) rfl rfl rfl (put_le (at_all (lnC (n := 64) (lnA (m := 64) (n := 0) arL (lnN)))) (lnC (n := 64) (lnA (m := 64) (n := 0) arL (lnN)))) (cell1_all (alC rfl (alA (arC fun _ => rfl) (alN)))) (put_all (Eq.trans (lnC (n := 64) (lnA (m := 64) (n := 0) arL (lnN))) (Eq.symm (lnC (n := 64) (lnA (m := 64) (n := 0) arL (lnN))))))) ?_
   refine R_nil ?_
   refine T_seq ?_
   refine T_keep (kc 0 rfl <| kc 1 rfl <| kc 2 rfl <| kc 7 rfl <| kc 8 rfl <| kc 9 rfl <| kc 10 rfl <| kc 15 rfl <| kc 16 rfl <| kc 17 rfl <| kn) rfl ?_
   refine T_seq (T_draw (cw := md0) (by kernel_rfl) ?_)
   refine D_q0 0 _ rfl (by kernel_rfl) rfl rfl (v_move (ov rfl)) ?_
   refine D_q0 1 _ rfl (by kernel_rfl) rfl rfl (v_move (ov rfl)) ?_
   refine D_q0 2 _ rfl (by kernel_rfl) rfl rfl (v_eql (ov rfl) (ov rfl)) ?_
   refine D_q0 3 _ rfl (by kernel_rfl) rfl rfl (v_move (ov rfl)) ?_
   refine D_q0 4 _ rfl (by kernel_rfl) rfl rfl (.guarded ((decide (i2 = i)) == false) rfl rfl rfl rfl fun h => v_fieldP (ov rfl) rfl rfl tF141_0) ?_
   refine D_q0 5 _ rfl (by kernel_rfl) rfl rfl (.guarded ((decide (i2 = i)) == false) rfl rfl rfl rfl fun h => v_loadS (ow rfl h) rfl rfl rfl tS3 (at_get (at0 (hdc (n := 0) hd0)))) ?_
   refine D_q0 6 _ rfl (by kernel_rfl) rfl rfl (.guarded ((decide (i2 = i)) == false) rfl rfl rfl rfl fun h => v_move (ov rfl)) ?_
   refine D_q0 7 _ rfl (by kernel_rfl) rfl rfl (.guarded ((decide (i2 = i)) == false) rfl rfl rfl rfl fun h => v_nilCheckR (ow rfl h)) ?_
   refine D_q0 8 _ rfl (by kernel_rfl) rfl rfl (.guarded ((decide (i2 = i)) == false) rfl rfl rfl rfl fun h => v_fieldR (ow rfl h) tF139_1) ?_
   refine D_q0 9 _ rfl (by kernel_rfl) rfl rfl (.guarded ((decide (i2 = i)) == false) rfl rfl rfl rfl fun h => v_loadS_r (ow rfl h) tS137 rfl) ?_
   refine D_q0 10 _ rfl (by kernel_rfl) rfl rfl (.guarded ((decide (i2 = i)) == false) rfl rfl rfl rfl fun h => v_move (ov rfl)) ?_
   obtain ⟨x3, h_x3, h⟩ := bnd h
   refine D_q0 11 _ rfl (by kernel_rfl) rfl rfl (.guarded ((decide (i2 = i)) == false) rfl rfl rfl rfl fun h => v_ixSG (ow rfl h) (ow rfl h) tL137 (gdT h_x3 h)) ?_
   refine D_q0 12 _ rfl (by kernel_rfl) rfl rfl (.guarded ((decide (i2 = i)) == false) rfl rfl rfl rfl fun h => v_fieldR (ow rfl h) tF141_0) ?_
   refine D_q0 13 _ rfl (by kernel_rfl) rfl rfl (.guarded ((decide (i2 = i)) == false) rfl rfl rfl rfl fun h => v_loadS_r (ow rfl h) tS3 (at_get (at0 (hdc (n := 0) hd0)))) ?_
   refine D_q0 14 _ rfl (by kernel_rfl) rfl rfl (.guarded ((decide (i2 = i)) == false) rfl rfl rfl rfl fun h => v_sub (ow rfl h) (ow rfl h) rfl) ?_
   obtain ⟨q, h_q, h⟩ := bnd h
   refine D_q0 15 _ rfl (by kernel_rfl) rfl rfl (.guarded ((decide (i2 = i)) == false) rfl rfl rfl rfl fun h => v_remG (ow rfl h) (ov rfl) (gdT h_q h)) ?_
   refine D_q0 16 _ rfl (by kernel_rfl) rfl rfl (.guarded ((decide (i2 = i)) == false) rfl rfl rfl rfl fun h => v_neq (ow rfl h) (ov rfl)) ?_
   refine D_q0 17 _ rfl (by kernel_rfl) rfl rfl (v_or (ov rfl) (fun hp => ow rfl (gF hp))) ?_
   refine D_done (by kernel_rfl) ?_
   refine T_keep (kc 0 rfl <| kc 1 rfl <| kc 2 rfl <| kc 7 rfl <| kc 8 rfl <| kc 9 rfl <| kc 10 rfl <| kc 15 rfl <| kc 16 rfl <| kc 17 rfl <| kc 39 rfl <| kn) rfl ?_
   refine T_if h rfl (fun b39 h => ?_) (fun b39 h => ?_)
   ·
    refine T_exit ?_
    refine T_keep (kc 0 rfl <| kc 1 rfl <| kc 2 rfl <| kc 7 rfl <| kc 8 rfl <| kc 15 rfl <| kc 16 rfl <| kc 17 rfl <| kn) rfl ?_
    refine T_reg ?_
    refine R_q _ rfl (v_add (ov rfl) (ov rfl) rfl) ?_
    refine R_q _ rfl (v_move (ov rfl)) ?_
    refine R_nil ?_
    exact ⟨(best2, least, (i64 (i2 + 1))), h, Ent.sel [] (sd 0 rfl rfl <| sd 1 rfl rfl <| sd 2 rfl rfl <| sd 7 rfl rfl <| sd 8 rfl rfl <| sd 15 rfl rfl <| sd 16 rfl rfl <| sd 17 rfl rfl <| sn) (.nil) rfl rfl⟩
   ·
    refine T_skip ?_
    refine T_keep (kc 0 rfl <| kc 1 rfl <| kc 2 rfl <| kc 7 rfl <| kc 8 rfl <| kc 9 rfl <| kc 10 rfl <| kc 15 rfl <| kc 16 rfl <| kc 17 rfl <| kn) rfl ?_
    refine T_seq (T_reg ?_)
    refine R_q _ rfl (v_fieldP (ov rfl) rfl rfl tF141_0) ?_
    refine R_q _ rfl (v_loadS (ov rfl) rfl rfl rfl tS3 (at_get (at0 (hdc (n := 0) hd0)))) ?_
    refine R_q _ rfl (v_move (ov rfl)) ?_
    refine R_q _ rfl (v_sub (ov rfl) (ov rfl) rfl) ?_
    obtain ⟨y, h_y, h⟩ := bnd h
    refine R_q _ rfl (v_call (ok_salvage_size h_y) (.cons (ov rfl) (.b rfl) <| .nil)) ?_
    refine R_q _ rfl (v_assign (ov rfl)) ?_
    refine R_nil ?_
    refine T_keep (kc 0 rfl <| kc 1 rfl <| kc 2 rfl <| kc 7 rfl <| kc 8 rfl <| kc 9 rfl <| kc 11 rfl <| kc 15 rfl <| kc 16 rfl <| kc 17 rfl <| kn) rfl ?_
    refine T_seq (T_reg ?_)
    refine R_q _ rfl (v_move (ov rfl)) ?_
    refine R_q _ rfl (v_lss (ov rfl) (ov rfl)) ?_
    refine R_q _ rfl (v_move (ov rfl)) ?_
    refine R_q _ rfl (.guarded ((decide (best2 < 0)) == false) rfl rfl rfl rfl fun h => v_move (ov rfl)) ?_
    refine R_q _ rfl (.guarded ((decide (best2 < 0)) == false) rfl rfl rfl rfl fun h => v_move (ov rfl)) ?_
    refine R_q _ rfl (.guarded ((decide (best2 < 0)) == false) rfl rfl rfl rfl fun h => v_lss (ow rfl h) (ow rfl h)) ?_
    refine R_q _ rfl (v_or (ov rfl) (fun hp => ow rfl (gF hp))) ?_
    refine R_nil ?_
    refine T_keep (kc 0 rfl <| kc 1 rfl <| kc 2 rfl <| kc 7 rfl <| kc 8 rfl <| kc 9 rfl <| kc 11 rfl <| kc 15 rfl <| kc 16 rfl <| kc 17 rfl <| kc 51 rfl <| kn) rfl ?_
    refine T_if h rfl (fun b51 h => ?_) (fun b51 h => ?_)
    ·
     refine T_keep (kc 0 rfl <| kc 1 rfl <| kc 2 rfl <| kc 7 rfl <| kc 8 rfl <| kc 9 rfl <| kc 11 rfl <| kc 15 rfl <| kc 16 rfl <| kc 17 rfl <| kn) rfl ?_
     refine T_reg ?_
     refine R_q _ rfl (v_move (ov rfl)) ?_
     refine R_q _ rfl (v_move (ov rfl)) ?_
     refine R_q _ rfl (v_assign (ov rfl)) ?_
     refine R_q _ rfl (v_assign (ov rfl)) ?_
     refine R_nil ?_
     refine T_keep (kc 0 rfl <| kc 1 rfl <| kc 2 rfl <| kc 7 rfl <| kc 8 rfl <| kc 15 rfl <| kc 16 rfl <| kc 17 rfl <| kn) rfl ?_
     refine T_reg ?_
     refine R_q _ rfl (v_add (ov rfl) (ov rfl) rfl) ?_
     refine R_q _ rfl (v_move (ov rfl)) ?_
     refine R_nil ?_
     exact ⟨(i2, y, (i64 (i2 + 1))), h, Ent.sel [] (sd 0 rfl rfl <| sd 1 rfl rfl <| sd 2 rfl rfl <| sd 7 rfl rfl <| sd 8 rfl rfl <| sd 15 rfl rfl <| sd 16 rfl rfl <| sd 17 rfl rfl <| sn) (.nil) rfl rfl⟩
    ·
     refine T_skip ?_
     refine T_keep (kc 0 rfl <| kc 1 rfl <| kc 2 rfl <| kc 7 rfl <| kc 8 rfl <| kc 15 rfl <| kc 16 rfl <| kc 17 rfl <| kn) rfl ?_
     refine T_reg ?_
     refine R_q _ rfl (v_add (ov rfl) (ov rfl) rfl) ?_
     refine R_q _ rfl (v_move (ov rfl)) ?_
     refine R_nil ?_
     exact ⟨(best2, least, (i64 (i2 + 1))), h, Ent.sel [] (sd 0 rfl rfl <| sd 1 rfl rfl <| sd 2 rfl rfl <| sd 7 rfl rfl <| sd 8 rfl rfl <| sd 15 rfl rfl <| sd 16 rfl rfl <| sd 17 rfl rfl <| sn) (.nil) rfl rfl⟩
  ·
   refine T_exit ?_
   rw [lx h] at ho1
   replace h := ho1
   exact ⟨best2, h, Ent.sel [] (sd 7 rfl rfl <| sn) (.nil) rfl rfl⟩
 ·
  obtain ⟨best, rfl⟩ : ∃ x, x = j := ⟨_, rfl⟩
  replace h := t1i h
  refine t1T ?_
  refine T_seq (T_reg ?_)
  refine R_q _ rfl (v_move (ov rfl)) ?_
  refine R_q _ rfl (v_assign (ov rfl)) ?_
  refine R_nil ?_
  obtain rfl := rt (v := best) h
  refine T_ret (retq ?_ (.one (.tmp rfl (Dat.view (.b rfl)))))
  rfl

theorem ok_salvage_within {n : Int} {low : Int} {high : Int} {r : Bool} (h : salvage_within n low high = some r) :
  CSpec Tryd.prog gl0 133 [.int .i64 n, .int .i64 low, .int .i64 high] (.bool r) := by
 unfold salvage_within at h
 replace h := bnd0 h
 refine spec_of (by kernel_rfl) Tryd.func133 rfl rfl ?_
 intro w0 A
 refine T_seq (T_reg ?_)
 refine R_q _ rfl (v_assign (ov rfl)) ?_
 refine R_nil ?_
 refine T_seq (T_reg ?_)
 refine R_q _ rfl (v_move (ov rfl)) ?_
 refine R_q _ rfl (v_move (ov rfl)) ?_
 refine R_q _ rfl (v_geq (ov rfl) (ov rfl)) ?_
 refine R_q _ rfl (v_move (ov rfl)) ?_
 refine R_q _ rfl (.guarded ((decide (low ≤ n)) == true) rfl rfl rfl rfl fun h => v_move (ov rfl)) ?_
 refine R_q _ rfl (.guarded ((decide (low ≤ n)) == true) rfl rfl rfl rfl fun h => v_move (ov rfl)) ?_
 refine R_q _ rfl (.guarded ((decide (low ≤ n)) == true) rfl rfl rfl rfl fun h => v_leq (ow rfl h) (ow rfl h)) ?_
 refine R_q _ rfl (v_and (ov rfl) (fun hp => ow rfl (gT hp))) ?_
 refine R_q _ rfl (v_assign (ov rfl)) ?_
 refine R_nil ?_
 obtain rfl := rt (v := ((decide (low ≤ n)) && (decide (n ≤ high)))) h
 refine T_ret (retq ?_ (.one (.tmp rfl (Dat.view (.b rfl)))))
 rfl

theorem ok_salvage_finder_number {x : salvage_finder} {i : Int} {place : Int} {f : Vector Int 64} {whole : Vector Bool 64} {r : Int × Bool} (h : salvage_finder_number x i place f whole = some r) :
  CSpec Tryd.prog gl0 109 [.rp [.sl 5 (List.map R5 x.h_), .sl 141 (List.map R141 x.certain), .sl 3 (List.map R3 x.numbers), .any] 0, .int .i64 i, .int .i64 place, .agg (List.map C36 f.toList), .agg (List.map C4 whole.toList)] (.tuple [.int .i64 r.1, .bool r.2]) := by
 unfold salvage_finder_number at h
 replace h := bnd0 h
 refine spec_of (by kernel_rfl) Tryd.func109 rfl rfl ?_
 intro w0 A
 refine T_seq (T_reg ?_)
 refine R_q _ rfl (v_boxD (cva (ov rfl)) arL tZ_38 (arD fun _ => rfl)) ?_
 refine R_q _ rfl (v_boxD (cva (ov rfl)) arL tZ_39 (arD fun _ => rfl)) ?_
 refine R_q _ rfl (v_assign (ov rfl)) ?_
 refine R_q _ rfl (v_assign (ov rfl)) ?_
 refine R_nil ?_
 refine T_seq ?_
 refine T_keep (kc 0 rfl <| kc 1 rfl <| kc 2 rfl <| kc 8 rfl <| kc 9 rfl <| kn) rfl ?_
 refine T_seq (T_reg ?_)
 refine R_q _ rfl (v_loadA_r (ov rfl) tA38 (at_sub (at_all arL)) arL) ?_
 refine R_q _ rfl (v_loadA_r (ov rfl) tA39 (at_sub (at_all arL)) arL) ?_
 obtain ⟨y, h_y, h⟩ := bnd h
 refine R_q _ rfl (v_call (ok_salvage_own h_y) (.cons (ov rfl) (.aggB (arD fun _ => rfl)) <| .cons (ov rfl) (.aggB (arD fun _ => rfl)) <| .nil)) ?_
 refine R_q _ rfl (v_move (ov rfl)) ?_
 refine R_q _ rfl (v_extract (ov rfl) rfl) ?_
 refine R_q _ rfl (v_extract (ov rfl) rfl) ?_
 refine R_q _ rfl (v_assign (ov rfl)) ?_
 refine R_q _ rfl (v_assign (ov rfl)) ?_
 refine R_nil ?_
 refine T_keep (kc 0 rfl <| kc 1 rfl <| kc 2 rfl <| kc 12 rfl <| kc 13 rfl <| kn) rfl ?_
 refine T_seq (T_reg ?_)
 refine R_q _ rfl (v_move (ov rfl)) ?_
 refine R_nil ?_
 refine T_keep (kc 0 rfl <| kc 1 rfl <| kc 2 rfl <| kc 12 rfl <| kc 25 rfl <| kn) rfl ?_
 refine T_if h rfl (fun b25 h => ?_) (fun b25 h => ?_)
 ·
  refine T_keep (kc 12 rfl <| kn) rfl ?_
  refine T_seq (T_reg ?_)
  refine R_q _ rfl (v_move (ov rfl)) ?_
  refine R_q _ rfl (v_assign (ov rfl)) ?_
  refine R_q _ rfl (v_assign (ov rfl)) ?_
  refine R_nil ?_
  obtain rfl := rt (v := (y.1, true)) h
  refine T_ret (retq ?_ (.two (.tmp rfl (Dat.view (.b rfl))) (.tmp rfl (Dat.view (.b rfl)))))
  rfl
 ·
  refine T_skip ?_
  refine T_keep (kc 0 rfl <| kc 1 rfl <| kc 2 rfl <| kn) rfl ?_
  refine T_seq (T_reg ?_)
  refine R_q _ rfl (v_move (ov rfl)) ?_
  refine R_q _ rfl (v_move (ov rfl)) ?_
  refine R_q _ rfl (v_move (ov rfl)) ?_
  obtain ⟨y2, h_y2, h⟩ := bnd h
  refine R_q _ rfl (v_call (ok_salvage_finder_other h_y2) (.cons (ov rfl) (.b rfl) <| .cons (ov rfl) (.b rfl) <| .cons (ov rfl) (.b rfl) <| .nil)) ?_
  refine R_q _ rfl (v_assign (ov rfl)) ?_
  refine R_nil ?_
  refine T_seq ?_
  refine T_keep (kc 0 rfl <| kc 1 rfl <| kc 2 rfl <| kc 14 rfl <| kn) rfl ?_
  refine T_seq (T_reg ?_)
  refine R_q _ rfl (v_move (ov rfl)) ?_
  refine R_q _ rfl (v_lss (ov rfl) (ov rfl)) ?_
  refine R_nil ?_
  refine T_keep (kc 0 rfl <| kc 1 rfl <| kc 2 rfl <| kc 14 rfl <| kc 32 rfl <| kn) rfl ?_
  refine T_if h rfl (fun b32 h => ?_) (fun b32 h => ?_)
  ·
   refine T_keep (kn) rfl ?_
   refine T_seq (T_reg ?_)
   refine R_q _ rfl (v_assign (ov rfl)) ?_
   refine R_q _ rfl (v_assign (ov rfl)) ?_
   refine R_nil ?_
   obtain rfl := rt (v := (0, false)) h
   refine T_ret (retq ?_ (.two (.tmp rfl (Dat.view (.b rfl))) (.tmp rfl (Dat.view (.b rfl)))))
   rfl
  ·
   refine T_skip ?_
   refine T_keep (kc 0 rfl <| kc 1 rfl <| kc 2 rfl <| kc 14 rfl <| kn) rfl ?_
   refine T_seq (T_draw (cw := md0) (by kernel_rfl) ?_)
   refine D_q0 0 _ rfl (by kernel_rfl) rfl rfl (v_move (ov rfl)) ?_
   refine D_q0 1 _ rfl (by kernel_rfl) rfl rfl (v_move (ov rfl)) ?_
   refine D_q0 2 _ rfl (by kernel_rfl) rfl rfl (v_nilCheckR (ov rfl)) ?_
   refine D_q0 3 _ rfl (by kernel_rfl) rfl rfl (v_fieldR (ov rfl) tF139_1) ?_
   refine D_q0 4 _ rfl (by kernel_rfl) rfl rfl (v_loadS_r (ov rfl) tS137 rfl) ?_
   refine D_q0 5 _ rfl (by kernel_rfl) rfl rfl (v_move (ov rfl)) ?_
   obtain ⟨x2, h_x2, h⟩ := bnd h
   refine D_q0 6 _ rfl (by kernel_rfl) rfl rfl (v_ixSG (ov rfl) (ov rfl) tL137 h_x2) ?_
   refine D_q0 7 _ rfl (by kernel_rfl) rfl rfl (v_fieldR (ov rfl) tF141_0) ?_
   refine D_q0 8 _ rfl (by kernel_rfl) rfl rfl (v_loadS_r (ov rfl) tS3 (at_get (at0 (hdc (n := 0) hd0)))) ?_
   refine D_q0 9 _ rfl (by kernel_rfl) rfl rfl (v_sub (ov rfl) (ov rfl) rfl) ?_
   obtain ⟨q, h_q, h⟩ := bnd h
   refine D_q0 10 _ rfl (by kernel_rfl) rfl rfl (v_quoG (ov rfl) (ov rfl) h_q) ?_
   refine D_q0 11 _ rfl (by kernel_rfl) rfl rfl (v_move (ov rfl)) ?_
   refine D_q0 12 _ rfl (by kernel_rfl) rfl rfl (v_nilCheckR (ov rfl)) ?_
   refine D_q0 13 _ rfl (by kernel_rfl) rfl rfl (v_fieldR (ov rfl) tF139_1) ?_
   refine D_q0 14 _ rfl (by kernel_rfl) rfl rfl (v_loadS_r (ov rfl) tS137 rfl) ?_
   refine D_q0 15 _ rfl (by kernel_rfl) rfl rfl (v_move (ov rfl)) ?_
   obtain ⟨x3, h_x3, h⟩ := bnd h
   refine D_q0 16 _ rfl (by kernel_rfl) rfl rfl (v_ixSG (ov rfl) (ov rfl) tL137 h_x3) ?_
   refine D_q0 17 _ rfl (by kernel_rfl) rfl rfl (v_fieldR (ov rfl) tF141_0) ?_
   refine D_q0 18 _ rfl (by kernel_rfl) rfl rfl (v_loadS_r (ov rfl) tS3 (at_get (at0 (hdc (n := 0) hd0)))) ?_
   refine D_q0 19 _ rfl (by kernel_rfl) rfl rfl (v_move (ov rfl)) ?_
   refine D_q0 20 _ rfl (by kernel_rfl) rfl rfl (v_nilCheckR (ov rfl)) ?_
   refine D_q0 21 _ rfl (by kernel_rfl) rfl rfl (v_fieldR (ov rfl) tF139_1) ?_
   refine D_q0 22 _ rfl (by kernel_rfl) rfl rfl (v_loadS_r (ov rfl) tS137 rfl) ?_
   refine D_q0 23 _ rfl (by kernel_rfl) rfl rfl (v_move (ov rfl)) ?_
   obtain ⟨x4, h_x4, h⟩ := bnd h
   refine D_q0 24 _ rfl (by kernel_rfl) rfl rfl (v_ixSG (ov rfl) (ov rfl) tL137 h_x4) ?_
   refine D_q0 25 _ rfl (by kernel_rfl) rfl rfl (v_fieldR (ov rfl) tF141_0) ?_
   refine D_q0 26 _ rfl (by kernel_rfl) rfl rfl (v_loadS_r (ov rfl) tS3 (at_get (at0 (hdc (n := 0) hd0)))) ?_
   refine D_q0 27 _ rfl (by kernel_rfl) rfl rfl (v_sub (ov rfl) (ov rfl) rfl) ?_
   obtain ⟨q2, h_q2, h⟩ := bnd h
   refine D_q0 28 _ rfl (by kernel_rfl) rfl rfl (v_quoG (ov rfl) (ov rfl) h_q2) ?_
   refine D_q0 29 _ rfl (by kernel_rfl) rfl rfl (v_assign (ov rfl)) ?_
   refine D_q0 30 _ rfl (by kernel_rfl) rfl rfl (v_assign (ov rfl)) ?_
   refine D_done (by kernel_rfl) ?_
   refine T_keep (kc 0 rfl <| kc 1 rfl <| kc 14 rfl <| kc 15 rfl <| kc 16 rfl <| kn) rfl ?_
   refine T_seq (T_draw (cw := md0) (by kernel_rfl) ?_)
   refine D_q0 0 _ rfl (by kernel_rfl) rfl rfl (v_move (ov rfl)) ?_
   refine D_q0 1 _ rfl (by kernel_rfl) rfl rfl (v_nilCheckR (ov rfl)) ?_
   refine D_q0 2 _ rfl (by kernel_rfl) rfl rfl (v_fieldR (ov rfl) tF139_2) ?_
   refine D_q0 3 _ rfl (by kernel_rfl) rfl rfl (v_loadS_r (ov rfl) tS26 rfl) ?_
   refine D_q0 4 _ rfl (by kernel_rfl) rfl rfl (v_move (ov rfl)) ?_
   obtain ⟨x5, h_x5, h⟩ := bnd h
   refine D_q0 5 _ rfl (by kernel_rfl) rfl rfl (v_ixSG (ov rfl) (ov rfl) tL26 h_x5) ?_
   refine D_q0 6 _ rfl (by kernel_rfl) rfl rfl (v_loadS_r (ov rfl) tS3 rfl) ?_
   refine D_q0 7 _ rfl (by kernel_rfl) rfl rfl (v_move (ov rfl)) ?_
   refine D_q0 8 _ rfl (by kernel_rfl) rfl rfl (v_nilCheckR (ov rfl)) ?_
   refine D_q0 9 _ rfl (by kernel_rfl) rfl rfl (v_fieldR (ov rfl) tF139_2) ?_
   refine D_q0 10 _ rfl (by kernel_rfl) rfl rfl (v_loadS_r (ov rfl) tS26 rfl) ?_
   refine D_q0 11 _ rfl (by kernel_rfl) rfl rfl (v_move (ov rfl)) ?_
   obtain ⟨x6, h_x6, h⟩ := bnd h
   refine D_q0 12 _ rfl (by kernel_rfl) rfl rfl (v_ixSG (ov rfl) (ov rfl) tL26 h_x6) ?_
   refine D_q0 13 _ rfl (by kernel_rfl) rfl rfl (v_loadS_r (ov rfl) tS3 rfl) ?_
   refine D_q0 14 _ rfl (by kernel_rfl) rfl rfl (v_sub (ov rfl) (ov rfl) rfl) ?_
   refine D_q0 15 _ rfl (by kernel_rfl) rfl rfl (v_assign (ov rfl)) ?_
   refine D_done (by kernel_rfl) ?_
   refine T_seq ?_
   refine T_keep (kc 0 rfl <| kc 1 rfl <| kc 15 rfl <| kc 16 rfl <| kc 17 rfl <| kn) rfl ?_
   refine T_seq (T_reg ?_)
   refine R_q _ rfl (v_move (ov rfl)) ?_
   refine R_q _ rfl (v_move (ov rfl)) ?_
   obtain ⟨q3, h_q3, h⟩ := bnd h
   refine R_q _ rfl (v_remG (ov rfl) (ov rfl) h_q3) ?_
   refine R_q _ rfl (v_neq (ov rfl) (ov rfl)) ?_
   refine R_q _ rfl (v_move (ov rfl)) ?_
   refine R_q _ rfl (.guarded ((!decide (q3 = 0)) == false) rfl rfl rfl rfl fun h => v_move (ov rfl)) ?_
   refine R_q _ rfl (.guarded ((!decide (q3 = 0)) == false) rfl rfl rfl rfl fun h => v_move (ov rfl)) ?_
   obtain ⟨q4, h_q4, h⟩ := bnd h
   refine R_q _ rfl (.guarded ((!decide (q3 = 0)) == false) rfl rfl rfl rfl fun h => v_quoG (ow rfl h) (ow rfl h) (gdT h_q4 h)) ?_
   refine R_q _ rfl (.guarded ((!decide (q3 = 0)) == false) rfl rfl rfl rfl fun h => v_leq (ow rfl h) (ov rfl)) ?_
   refine R_q _ rfl (v_or (ov rfl) (fun hp => ow rfl (gF hp))) ?_
   refine R_nil ?_
   refine T_keep (kc 0 rfl <| kc 1 rfl <| kc 15 rfl <| kc 16 rfl <| kc 17 rfl <| kc 86 rfl <| kn) rfl ?_
   refine T_if h rfl (fun b86 h => ?_) (fun b86 h => ?_)
   ·
    refine T_keep (kn) rfl ?_
    refine T_seq (T_reg ?_)
    refine R_q _ rfl (v_assign (ov rfl)) ?_
    refine R_q _ rfl (v_assign (ov rfl)) ?_
    refine R_nil ?_
    obtain rfl := rt (v := (0, false)) h
    refine T_ret (retq ?_ (.two (.tmp rfl (Dat.view (.b rfl))) (.tmp rfl (Dat.view (.b rfl)))))
    rfl
   ·
    refine T_skip ?_
    refine T_keep (kc 0 rfl <| kc 1 rfl <| kc 15 rfl <| kc 16 rfl <| kc 17 rfl <| kn) rfl ?_
    refine T_seq (T_draw (cw := md0) (by kernel_rfl) ?_)
    refine D_q0 0 _ rfl (by kernel_rfl) rfl rfl (v_move (ov rfl)) ?_
    refine D_q0 1 _ rfl (by kernel_rfl) rfl rfl (v_nilCheckR (ov rfl)) ?_
    refine D_q0 2 _ rfl (by kernel_rfl) rfl rfl (v_fieldR (ov rfl) tF139_2) ?_
    refine D_q0 3 _ rfl (by kernel_rfl) rfl rfl (v_loadS_r (ov rfl) tS26 rfl) ?_
    refine D_q0 4 _ rfl (by kernel_rfl) rfl rfl (v_move (ov rfl)) ?_
    obtain ⟨x7, h_x7, h⟩ := bnd h
    refine D_q0 5 _ rfl (by kernel_rfl) rfl rfl (v_ixSG (ov rfl) (ov rfl) tL26 h_x7) ?_
    refine D_q0 6 _ rfl (by kernel_rfl) rfl rfl (v_loadS_r (ov rfl) tS3 rfl) ?_
    refine D_q0 7 _ rfl (by kernel_rfl) rfl rfl (v_move (ov rfl)) ?_
    refine D_q0 8 _ rfl (by kernel_rfl) rfl rfl (v_move (ov rfl)) ?_
    refine D_q0 9 _ rfl (by kernel_rfl) rfl rfl (v_move (ov rfl)) ?_
    obtain ⟨q5, h_q5, h⟩ := bnd h
    refine D_q0 10 _ rfl (by kernel_rfl) rfl rfl (v_quoG (ov rfl) (ov rfl) h_q5) ?_
    refine D_q0 11 _ rfl (by kernel_rfl) rfl rfl (v_mul (ov rfl) (ov rfl) rfl) ?_
    refine D_q0 12 _ rfl (by kernel_rfl) rfl rfl (v_add (ov rfl) (ov rfl) rfl) ?_
    refine D_q0 13 _ rfl (by kernel_rfl) rfl rfl (v_assign (ov rfl)) ?_
    refine D_done (by kernel_rfl) ?_
    refine T_keep (kc 18 rfl <| kn) rfl ?_
    refine T_seq (T_reg ?_)
    refine R_q _ rfl (v_move (ov rfl)) ?_
    refine R_q _ rfl (v_move (ov rfl)) ?_
    obtain ⟨y3, h_y3, h⟩ := bnd h
    refine R_q _ rfl (v_call (ok_salvage_within h_y3) (.cons (ov rfl) (.b rfl) <| .cons (ov rfl) (.b rfl) <| .cons (ov rfl) (.b rfl) <| .nil)) ?_
    refine R_q _ rfl (v_assign (ov rfl)) ?_
    refine R_q _ rfl (v_assign (ov rfl)) ?_
    refine R_nil ?_
    obtain rfl := rt (v := ((i64 (x7 + (i64 (q * q5)))), y3)) h
    refine T_ret (retq ?_ (.two (.tmp rfl (Dat.view (.b rfl))) (.tmp rfl (Dat.view (.b rfl)))))
    rfl
end Go.Proofs.YtciaeohnkfnamaaDoor
