/- A text of the proof: a verified executor of the program form, or the contracts of the functions that the law reaches. -/
import Derived.Test.YtciaeohnkfnamaaGreatDoorOkZa
set_option linter.all false
namespace Go.Proofs.YtciaeohnkfnamaaGreatDoor
open Go Go.Vx
set_option maxRecDepth 10000
set_option maxHeartbeats 1000000
set_option linter.unusedVariables false
theorem ok_salvage_filled {state : Int} {r : (Vector Int 64)} (h : salvage_filled state = some r) :
  CSpec Tryz.prog gl0 179 [.int .i64 state] (.agg (List.map C3 r.toList)) := by
 unfold salvage_filled at h
 replace h := bnd0 h
 refine spec_of (by kernel_rfl) Tryz.func179 Y Y ?_
 intro w0 A
 refine Tr <| Rx Y (w_alloc (row := (List.map C3 (Vector.replicate 64 0).toList)) 0 Y tZ74 Y tZ_74) <| R_nil <| Tr <| Rx Y (w_alloc (row := (List.map C3 (Vector.replicate 64 0).toList)) 1 Y tZ74 Y tZ_74) <| R_nil <| T_joinG id (t1 fun out => ⟨[(2, .ptr 0 1 0 0), (3, .ptr 1 1 0 0)], [some ⟨74, [(List.map C3 (Vector.replicate 64 0).toList)]⟩, some ⟨74, [(List.map C3 out.toList)]⟩]⟩) h (fun h => ?_) (fun j h => ?_)
 ·
  refine Tr <| Rq Y (v_move (ov Y)) <| R_nil <| T_block ?_
  obtain ⟨r1, hl1, ho1⟩ := bndL h
  refine T_loopG _ (t2 fun out2 i => ⟨[(0, .int .i64 state), (2, .ptr 0 1 0 0), (3, .ptr 1 1 0 0), (5, .int .i64 i)], [some ⟨74, [(List.map C3 (Vector.replicate 64 0).toList)]⟩, some ⟨74, [(List.map C3 out2.toList)]⟩]⟩) _ hl1 (Ent.sel [some 0, some 1] (sd 0 Y Y <| sr 2 Y (.ptr _ _ _ Y) <| sr 3 Y (.ptr _ _ _ Y) <| sd 5 Y Y <| sn) (.cons Y (ro1 (by exact Eq.trans (b := 64) arL tZ_74.symm) (rld (arD fun _ => Y))) <| .cons Y (ro1 (by exact Eq.trans (b := 64) arL tZ_74.symm) (rld (arD fun _ => Y))) <| .nil) Y Y) (fun n1 s1 h => ?_)
  obtain ⟨out2, i⟩ := s1
  replace h := t2i h
  refine t2T ?_
  unfold salvage_filled_L1 at h
  refine Tr <| Rq Y (v_lss (ov Y) (ov Y)) <| R_nil <| T_seq <| T_if h Y (fun b6 h => ?_) (fun b6 h => ?_)
  ·
   refine T_skip <| T_seq <| T_block <| T_keep (kc 0 Y <| kc 2 Y <| kc 3 Y <| kc 5 Y <| kn) Y <| Tr <| Rq Y (v_move (ov Y)) <| Rq Y (v_assign (ov Y)) <| R_nil <| T_keep (kc 0 Y <| kc 2 Y <| kc 3 Y <| kc 4 Y <| kc 5 Y <| kn) Y <| T_reg <| Rq Y (v_move (ov Y)) <| Rq Y (v_move (ov Y)) ?_
   obtain ⟨x, h_x, h⟩ := bnd h
   refine Rq Y (v_ixAG (ov Y) (ov Y) tR74 Y Y h_x) ?_
   refine Rx Y (w_store (ov Y) (ov Y) (cells_scal tS3) Y Y Y (arB h_x) (cell1_all Y) (arS h_x)) ?_
   refine R_nil <| T_keep (kc 0 Y <| kc 2 Y <| kc 3 Y <| kc 5 Y <| kn) Y <| T_reg <| Rq Y (v_add (ov Y) (ov Y) Y) <| Rq Y (v_move (ov Y)) <| R_nil ?_
   exact ⟨((vset out2 i state), (i64 (i + 1))), h, Ent.sel [some 0, some 1] (sd 0 Y Y <| sr 2 Y (.ptr _ _ _ Y) <| sr 3 Y (.ptr _ _ _ Y) <| sd 5 Y Y <| sn) (.cons Y (ro1 (by exact Eq.trans (b := 64) arL tZ_74.symm) (rld (arD fun _ => Y))) <| .cons Y (ro1 (by exact Eq.trans (b := 64) arL tZ_74.symm) (rld (arD fun _ => Y))) <| .nil) Y Y⟩
  ·
   refine T_exit ?_
   rw [lx h] at ho1
   replace h := ho1
   exact ⟨out2, h, Ent.sel [some 0, some 1] (sr 2 Y (.ptr _ _ _ Y) <| sr 3 Y (.ptr _ _ _ Y) <| sn) (.cons Y (ro1 (by exact Eq.trans (b := 64) arL tZ_74.symm) (rld (arD fun _ => Y))) <| .cons Y (ro1 (by exact Eq.trans (b := 64) arL tZ_74.symm) (rld (arD fun _ => Y))) <| .nil) Y Y⟩
 ·
  obtain ⟨out, rfl⟩ : ∃ x, x = j := ⟨_, rfl⟩
  replace h := t1i h
  refine t1T ?_
  refine Tr <| Rq Y (v_loadA (ov Y) Y Y Y tA74 (at_sub (at_all arL)) arL (hns := (nsM fun _ => Y))) <| Rx Y (w_store (ov Y) (ov Y) (cells_agg tA74 arL) Y Y Y (put_le (at_all arL) arL) (cell1_all (arC fun _ => Y)) (put_all (Eq.trans arL (Eq.symm arL)))) <| R_nil ?_
  obtain rfl := rt (v := out) h
  refine T_ret (retq ?_ (.one (.agg Y Y Y Y tA74 (at_sub (at_all arL)) arL (pwB (arD fun _ => Y)) (hns := (nsM fun _ => Y)))))
  rfl

theorem ok_slices_BinarySearchFunc_api_Found_api_Found_int {x : List api_Found} {target : Int} {cmp : api_Found → Int → Option Int} {r : Int × Bool} {cmp_f : FuncId} {cmp_c : List AV} (cmp_d : cmp_c.all datB = true) (cmp_h : ∀ (z0 : api_Found) (z1 : Int) z, cmp z0 z1 = some z → CSpec Tryz.prog gl0 cmp_f ([.agg ((.int .i64 z0.At) :: ((List.map C47 z0.Frame.toList) ++ ([]))), .int .i64 z1] ++ cmp_c) (.int .i64 z)) (h : slices_BinarySearchFunc_api_Found_api_Found_int x target cmp = some r) :
  CSpec Tryz.prog gl0 274 [.sl 88 (List.map R88 x), .int .i64 target, .fn cmp_f cmp_c] (.tuple [.int .i64 r.1, .bool r.2]) := by
 unfold slices_BinarySearchFunc_api_Found_api_Found_int at h
 replace h := bnd0 h
 refine spec_of (by kernel_rfl) Tryz.func274 Y Y ?_
 intro w0 A
 refine Tr <| Rq Y (v_assign (ov Y)) <| Rq Y (v_assign (ov Y)) <| R_nil <| T_keep (kc 0 Y <| kc 1 Y <| kc 2 Y <| kn) Y <| Tr <| Rq Y (v_move (ov Y)) <| Rq Y (v_len (slv_sl (ov Y) tZ_88) tL82 (len_map _ _)) <| Rq Y (v_assign (ov Y)) <| R_nil <| T_keep (kc 0 Y <| kc 1 Y <| kc 2 Y <| kc 8 Y <| kn) Y <| Tr <| Rq Y (v_move (ov Y)) <| Rq Y (v_assign (ov Y)) <| Rq Y (v_assign (ov Y)) <| R_nil <| T_joinG id (t1 fun i => ⟨[(0, .sl 88 (List.map R88 x)), (1, .int .i64 target), (2, .fn cmp_f cmp_c), (8, .int .i64 (x.length : Int)), (9, .int .i64 i)], []⟩) h (fun h => ?_) (fun j h => ?_)
 ·
  refine T_block ?_
  obtain ⟨r1, hl1, ho1⟩ := bndL h
  refine T_loopG _ (t2 fun i2 j => ⟨[(0, .sl 88 (List.map R88 x)), (1, .int .i64 target), (2, .fn cmp_f cmp_c), (8, .int .i64 (x.length : Int)), (9, .int .i64 i2), (10, .int .i64 j)], []⟩) _ hl1 (Ent.sel [] (sd 0 Y Y <| sd 1 Y Y <| sr 2 Y (rFn (rld cmp_d)) <| sd 8 Y Y <| sd 9 Y Y <| sd 10 Y Y <| sn) (.nil) Y Y) (fun n1 s1 h => ?_)
  obtain ⟨i2, j⟩ := s1
  replace h := t2i h
  refine t2T ?_
  unfold slices_BinarySearchFunc_api_Found_api_Found_int_L1 at h
  refine T_seq <| Tr <| Rq Y (v_move (ov Y)) <| Rq Y (v_move (ov Y)) <| Rq Y (v_lss (ov Y) (ov Y)) <| R_nil <| T_keep (kc 0 Y <| kc 1 Y <| kc 2 Y <| kc 8 Y <| kc 9 Y <| kc 10 Y <| kc 17 Y <| kn) Y <| T_if h Y (fun b17 h => ?_) (fun b17 h => ?_)
  ·
   refine T_skip <| T_block <| T_keep (kc 0 Y <| kc 1 Y <| kc 2 Y <| kc 8 Y <| kc 9 Y <| kc 10 Y <| kn) Y <| Tr <| Rq Y (v_move (ov Y)) <| Rq Y (v_move (ov Y)) <| Rq Y (v_add (ov Y) (ov Y) Y) <| Rq Y (v_conv (ov Y) tI3 tI164 Y) ?_
   obtain ⟨q, h_q, h⟩ := bnd h
   refine Rq Y (v_shrG (ov Y) (ov Y) h_q) ?_
   refine Rq Y (v_conv (ov Y) tI164 tI3 Y) ?_
   refine Rq Y (v_assign (ov Y)) ?_
   refine R_nil <| T_keep (kc 0 Y <| kc 1 Y <| kc 2 Y <| kc 8 Y <| kc 9 Y <| kc 10 Y <| kc 11 Y <| kn) Y <| Tr <| Rq Y (v_move (ov Y)) <| Rq Y (v_move (ov Y)) <| Rq Y (v_move (ov Y)) ?_
   obtain ⟨x2, h_x2, h⟩ := bnd h
   refine Rq Y (v_ixSG (ov Y) (ov Y) tL82 h_x2) ?_
   refine Rq Y (v_loadA_r (ov Y) tA88 (at_sub (at_all (lnC (n := 64) (lnA (m := 64) (n := 0) arL (lnN))))) (lnC (n := 64) (lnA (m := 64) (n := 0) arL (lnN)))) ?_
   refine Rq Y (v_move (ov Y)) ?_
   obtain ⟨y, h_y, h⟩ := bnd h
   refine Rq Y (v_callC (ov Y) cmp_d (cmp_h _ _ _ h_y) (.cons (ov Y) (.aggB (alC Y (alA (arD fun _ => Y) (alN)))) <| .cons (ov Y) (.b Y) <| .nil)) ?_
   refine Rq Y (v_lss (ov Y) (ov Y)) ?_
   refine R_nil <| T_keep (kc 0 Y <| kc 1 Y <| kc 2 Y <| kc 8 Y <| kc 9 Y <| kc 10 Y <| kc 11 Y <| kc 31 Y <| kn) Y <| T_if h Y (fun b31 h => ?_) (fun b31 h => ?_)
   ·
    refine T_keep (kc 0 Y <| kc 1 Y <| kc 2 Y <| kc 8 Y <| kc 9 Y <| kc 10 Y <| kc 11 Y <| kn) Y <| T_reg <| Rq Y (v_move (ov Y)) <| Rq Y (v_add (ov Y) (ov Y) Y) <| Rq Y (v_assign (ov Y)) <| R_nil ?_
    exact ⟨((i64 ((i64 q) + 1)), j), h, Ent.sel [] (sd 0 Y Y <| sd 1 Y Y <| sr 2 Y (rFn (rld cmp_d)) <| sd 8 Y Y <| sd 9 Y Y <| sd 10 Y Y <| sn) (.nil) Y Y⟩
   ·
    refine T_keep (kc 0 Y <| kc 1 Y <| kc 2 Y <| kc 8 Y <| kc 9 Y <| kc 10 Y <| kc 11 Y <| kn) Y <| T_reg <| Rq Y (v_move (ov Y)) <| Rq Y (v_assign (ov Y)) <| R_nil ?_
    exact ⟨(i2, (i64 q)), h, Ent.sel [] (sd 0 Y Y <| sd 1 Y Y <| sr 2 Y (rFn (rld cmp_d)) <| sd 8 Y Y <| sd 9 Y Y <| sd 10 Y Y <| sn) (.nil) Y Y⟩
  ·
   refine T_exit ?_
   rw [lx h] at ho1
   replace h := ho1
   exact ⟨i2, h, Ent.sel [] (sd 0 Y Y <| sd 1 Y Y <| sr 2 Y (rFn (rld cmp_d)) <| sd 8 Y Y <| sd 9 Y Y <| sn) (.nil) Y Y⟩
 ·
  obtain ⟨i, rfl⟩ : ∃ x, x = j := ⟨_, rfl⟩
  replace h := t1i h
  refine t1T ?_
  refine Tr <| Rq Y (v_move (ov Y)) <| Rq Y (v_move (ov Y)) <| Rq Y (v_move (ov Y)) <| Rq Y (v_lss (ov Y) (ov Y)) <| Rq Y (v_move (ov Y)) <| Rq Y (.guarded ((decide (i < (x.length : Int))) == true) Y Y Y Y fun h => v_move (ov Y)) <| Rq Y (.guarded ((decide (i < (x.length : Int))) == true) Y Y Y Y fun h => v_move (ov Y)) <| Rq Y (.guarded ((decide (i < (x.length : Int))) == true) Y Y Y Y fun h => v_move (ov Y)) ?_
  obtain ⟨x3, h_x3, h⟩ := bnd h
  refine Rq Y (.guarded ((decide (i < (x.length : Int))) == true) Y Y Y Y fun h => v_ixSG (ow Y h) (ow Y h) tL82 (gdT h_x3 h)) ?_
  refine Rq Y (.guarded ((decide (i < (x.length : Int))) == true) Y Y Y Y fun h => v_loadA_r (ow Y h) tA88 (at_sub (at_all (lnC (n := 64) (lnA (m := 64) (n := 0) arL (lnN))))) (lnC (n := 64) (lnA (m := 64) (n := 0) arL (lnN)))) ?_
  refine Rq Y (.guarded ((decide (i < (x.length : Int))) == true) Y Y Y Y fun h => v_move (ov Y)) ?_
  obtain ⟨y2, h_y2, h⟩ := bnd h
  refine Rq Y (.guarded ((decide (i < (x.length : Int))) == true) Y Y Y Y fun h => v_callC (ow Y h) cmp_d (cmp_h _ _ _ (gdT h_y2 h)) (.cons (ow Y h) (.aggB (alC Y (alA (arD fun _ => Y) (alN)))) <| .cons (ow Y h) (.b Y) <| .nil)) ?_
  refine Rq Y (.guarded ((decide (i < (x.length : Int))) == true) Y Y Y Y fun h => v_eql (ow Y h) (ov Y)) ?_
  refine Rq Y (v_and (ov Y) (fun hp => ow Y (gT hp))) ?_
  refine Rq Y (v_assign (ov Y)) ?_
  refine Rq Y (v_assign (ov Y)) ?_
  refine R_nil ?_
  obtain rfl := rt (v := (i, ((decide (i < (x.length : Int))) && (decide (y2 = 0))))) h
  refine T_ret (retq ?_ (.two (.tmp Y (Dat.view (.b Y))) (.tmp Y (Dat.view (.b Y)))))
  rfl

theorem ok_salvage_finder_nearest_1 {c_ : api_Found} {at_ : Int} {r : Int} (h : salvage_finder_nearest_1 c_ at_ = some r) :
  CSpec Tryz.prog gl0 275 [.agg ((.int .i64 c_.At) :: ((List.map C47 c_.Frame.toList) ++ ([]))), .int .i64 at_] (.int .i64 r) := by
 unfold salvage_finder_nearest_1 at h
 replace h := bnd0 h
 refine spec_of (by kernel_rfl) Tryz.func275 Y Y ?_
 intro w0 A
 refine Tr <| Rq Y (v_boxD (cva (ov Y)) (lnC (n := 64) (lnA (m := 64) (n := 0) arL (lnN))) tZ_88 (alC Y (alA (arD fun _ => Y) (alN)))) <| Rq Y (v_assign (ov Y)) <| R_nil <| T_keep (kc 1 Y <| kc 2 Y <| kc 4 Y <| kn) Y <| Tr <| Rq Y (v_fieldR (ov Y) tF88_0) <| Rq Y (v_loadS_r (ov Y) tS3 (at_get (at0 (hdc (n := 0) hd0)))) <| Rq Y (v_move (ov Y)) <| Rq Y (v_sub (ov Y) (ov Y) Y) <| Rq Y (v_assign (ov Y)) <| R_nil ?_
 obtain rfl := rt (v := (i64 (c_.At - at_))) h
 refine T_ret (retq ?_ (.one (.tmp Y (Dat.view (.b Y)))))
 rfl

theorem ok_salvage_finder_nearest {x : salvage_finder} {place : Int} {r : Int} (h : salvage_finder_nearest x place = some r) :
  CSpec Tryz.prog gl0 240 [.rp [.sl 5 (List.map R5 x.h_), .sl 88 (List.map R88 x.certain), .sl 3 (List.map R3 x.numbers), .any] 0, .int .i64 place] (.int .i64 r) := by
 unfold salvage_finder_nearest at h
 replace h := bnd0 h
 refine spec_of (by kernel_rfl) Tryz.func240 Y Y ?_
 intro w0 A
 refine Tr <| Rq Y (v_assign (ov Y)) <| R_nil <| T_keep (kc 0 Y <| kc 1 Y <| kn) Y <| Tr <| Rq Y (v_move (ov Y)) <| Rq Y (v_nilCheckR (ov Y)) <| Rq Y (v_fieldR (ov Y) tF217_1) <| Rq Y (v_loadS_r (ov Y) tS82 Y) <| Rq Y (v_move (ov Y)) ?_
 obtain ⟨y, h_y, h⟩ := bnd h
 refine Rq Y (v_call (ok_slices_BinarySearchFunc_api_Found_api_Found_int Y (fun z0 z1 _ hz => ok_salvage_finder_nearest_1 hz) h_y) (.cons (ov Y) (.b Y) <| .cons (ov Y) (.b Y) <| .cons (ov Y) (.fn) <| .nil)) ?_
 refine Rq Y (v_move (ov Y)) ?_
 refine Rq Y (v_extract (ov Y) Y) ?_
 refine Rq Y (v_extract (ov Y) Y) ?_
 refine Rq Y (v_assign (ov Y)) ?_
 refine Rq Y (v_assign (ov Y)) ?_
 refine R_nil <| T_seq <| T_keep (kc 0 Y <| kc 1 Y <| kc 5 Y <| kn) Y <| T_seq (T_draw (cw := md0) (by kernel_rfl) ?_)
 refine Dq 0 Y Y Y (v_move (ov Y)) ?_
 refine Dq 1 Y Y Y (v_move (ov Y)) ?_
 refine Dq 2 Y Y Y (v_nilCheckR (ov Y)) ?_
 refine Dq 3 Y Y Y (v_fieldR (ov Y) tF217_1) ?_
 refine Dq 4 Y Y Y (v_loadS_r (ov Y) tS82 Y) ?_
 refine Dq 5 Y Y Y (v_len (slv_sl (ov Y) tZ_88) tL82 (len_map _ _)) ?_
 refine Dq 6 Y Y Y (v_eql (ov Y) (ov Y)) ?_
 refine Dq 7 Y Y Y (v_move (ov Y)) ?_
 refine Dq 8 Y Y Y (.guarded ((decide (y.1 = (x.certain.length : Int))) == false) Y Y Y Y fun h => v_move (ov Y)) ?_
 refine Dq 9 Y Y Y (.guarded ((decide (y.1 = (x.certain.length : Int))) == false) Y Y Y Y fun h => v_gtr (ow Y h) (ov Y)) ?_
 refine Dq 10 Y Y Y (.guarded ((decide (y.1 = (x.certain.length : Int))) == false) Y Y Y Y fun h => v_move (ow Y h)) ?_
 refine Dq 11 Y Y Y (.guarded2 (((decide (y.1 = (x.certain.length : Int))) == false) && ((decide (0 < y.1)) == true)) Y Y Y Y fun h => v_move (ov Y)) ?_
 refine Dq 12 Y Y Y (.guarded2 (((decide (y.1 = (x.certain.length : Int))) == false) && ((decide (0 < y.1)) == true)) Y Y Y Y fun h => v_move (ov Y)) ?_
 refine Dq 13 Y Y Y (.guarded2 (((decide (y.1 = (x.certain.length : Int))) == false) && ((decide (0 < y.1)) == true)) Y Y Y Y fun h => v_nilCheckR (ow Y h)) ?_
 refine Dq 14 Y Y Y (.guarded2 (((decide (y.1 = (x.certain.length : Int))) == false) && ((decide (0 < y.1)) == true)) Y Y Y Y fun h => v_fieldR (ow Y h) tF217_1) ?_
 refine Dq 15 Y Y Y (.guarded2 (((decide (y.1 = (x.certain.length : Int))) == false) && ((decide (0 < y.1)) == true)) Y Y Y Y fun h => v_loadS_r (ow Y h) tS82 Y) ?_
 refine Dq 16 Y Y Y (.guarded2 (((decide (y.1 = (x.certain.length : Int))) == false) && ((decide (0 < y.1)) == true)) Y Y Y Y fun h => v_move (ov Y)) ?_
 refine Dq 17 Y Y Y (.guarded2 (((decide (y.1 = (x.certain.length : Int))) == false) && ((decide (0 < y.1)) == true)) Y Y Y Y fun h => v_sub (ow Y h) (ov Y) Y) ?_
 obtain ⟨x2, h_x2, h⟩ := bnd h
 refine Dq 18 Y Y Y (.guarded2 (((decide (y.1 = (x.certain.length : Int))) == false) && ((decide (0 < y.1)) == true)) Y Y Y Y fun h => v_ixSG (ow Y h) (ow Y h) tL82 (gdT h_x2 h)) ?_
 refine Dq 19 Y Y Y (.guarded2 (((decide (y.1 = (x.certain.length : Int))) == false) && ((decide (0 < y.1)) == true)) Y Y Y Y fun h => v_fieldR (ow Y h) tF88_0) ?_
 refine Dq 20 Y Y Y (.guarded2 (((decide (y.1 = (x.certain.length : Int))) == false) && ((decide (0 < y.1)) == true)) Y Y Y Y fun h => v_loadS_r (ow Y h) tS3 (at_get (at0 (hdc (n := 0) hd0)))) ?_
 refine Dq 21 Y Y Y (.guarded2 (((decide (y.1 = (x.certain.length : Int))) == false) && ((decide (0 < y.1)) == true)) Y Y Y Y fun h => v_sub (ow Y h) (ow Y h) Y) ?_
 refine Dq 22 Y Y Y (.guarded2 (((decide (y.1 = (x.certain.length : Int))) == false) && ((decide (0 < y.1)) == true)) Y Y Y Y fun h => v_move (ov Y)) ?_
 refine Dq 23 Y Y Y (.guarded2 (((decide (y.1 = (x.certain.length : Int))) == false) && ((decide (0 < y.1)) == true)) Y Y Y Y fun h => v_nilCheckR (ow Y h)) ?_
 refine Dq 24 Y Y Y (.guarded2 (((decide (y.1 = (x.certain.length : Int))) == false) && ((decide (0 < y.1)) == true)) Y Y Y Y fun h => v_fieldR (ow Y h) tF217_1) ?_
 refine Dq 25 Y Y Y (.guarded2 (((decide (y.1 = (x.certain.length : Int))) == false) && ((decide (0 < y.1)) == true)) Y Y Y Y fun h => v_loadS_r (ow Y h) tS82 Y) ?_
 refine Dq 26 Y Y Y (.guarded2 (((decide (y.1 = (x.certain.length : Int))) == false) && ((decide (0 < y.1)) == true)) Y Y Y Y fun h => v_move (ov Y)) ?_
 obtain ⟨x3, h_x3, h⟩ := bnd h
 refine Dq 27 Y Y Y (.guarded2 (((decide (y.1 = (x.certain.length : Int))) == false) && ((decide (0 < y.1)) == true)) Y Y Y Y fun h => v_ixSG (ow Y h) (ow Y h) tL82 (gdT h_x3 h)) ?_
 refine Dq 28 Y Y Y (.guarded2 (((decide (y.1 = (x.certain.length : Int))) == false) && ((decide (0 < y.1)) == true)) Y Y Y Y fun h => v_fieldR (ow Y h) tF88_0) ?_
 refine Dq 29 Y Y Y (.guarded2 (((decide (y.1 = (x.certain.length : Int))) == false) && ((decide (0 < y.1)) == true)) Y Y Y Y fun h => v_loadS_r (ow Y h) tS3 (at_get (at0 (hdc (n := 0) hd0)))) ?_
 refine Dq 30 Y Y Y (.guarded2 (((decide (y.1 = (x.certain.length : Int))) == false) && ((decide (0 < y.1)) == true)) Y Y Y Y fun h => v_move (ov Y)) ?_
 refine Dq 31 Y Y Y (.guarded2 (((decide (y.1 = (x.certain.length : Int))) == false) && ((decide (0 < y.1)) == true)) Y Y Y Y fun h => v_sub (ow Y h) (ow Y h) Y) ?_
 refine Dq 32 Y Y Y (.guarded2 (((decide (y.1 = (x.certain.length : Int))) == false) && ((decide (0 < y.1)) == true)) Y Y Y Y fun h => v_leq (ow Y h) (ow Y h)) ?_
 refine Dq 33 Y Y Y (.guarded ((decide (y.1 = (x.certain.length : Int))) == false) Y Y Y Y fun h => v_and (ow Y h) (fun hp => ow Y (gA h (gT hp)))) ?_
 refine Dq 34 Y Y Y (v_or (ov Y) (fun hp => ow Y (gF hp))) ?_
 refine D_done (by kernel_rfl) ?_
 refine T_keep (kc 5 Y <| kc 50 Y <| kn) Y <| T_if h Y (fun b50 h => ?_) (fun b50 h => ?_)
 ·
  refine T_keep (kc 5 Y <| kn) Y <| Tr <| Rq Y (v_move (ov Y)) <| Rq Y (v_sub (ov Y) (ov Y) Y) <| Rq Y (v_assign (ov Y)) <| R_nil ?_
  obtain rfl := rt (v := (i64 (y.1 - 1))) h
  refine T_ret (retq ?_ (.one (.tmp Y (Dat.view (.b Y)))))
  rfl
 ·
  refine T_skip <| T_keep (kc 5 Y <| kn) Y <| Tr <| Rq Y (v_move (ov Y)) <| Rq Y (v_assign (ov Y)) <| R_nil ?_
  obtain rfl := rt (v := y.1) h
  refine T_ret (retq ?_ (.one (.tmp Y (Dat.view (.b Y)))))
  rfl

theorem ok_salvage_size {n : Int} {r : Int} (h : salvage_size n = some r) :
  CSpec Tryz.prog gl0 241 [.int .i64 n] (.int .i64 r) := by
 unfold salvage_size at h
 replace h := bnd0 h
 refine spec_of (by kernel_rfl) Tryz.func241 Y Y ?_
 intro w0 A
 refine Tr <| Rq Y (v_assign (ov Y)) <| R_nil <| Tr <| Rq Y (v_move (ov Y)) <| Rq Y (v_move (ov Y)) <| Rq Y (v_neg (ov Y) Y) <| Rq Y (v_max (ov Y) (ov Y) Y) <| Rq Y (v_assign (ov Y)) <| R_nil ?_
 obtain rfl := rt (v := (max n (i64 (-n)))) h
 refine T_ret (retq ?_ (.one (.tmp Y (Dat.view (.b Y)))))
 rfl

theorem ok_salvage_finder_places {x : salvage_finder} {i : Int} {r : (List Int)} (h : salvage_finder_places x i = some r) :
  CSpec Tryz.prog gl0 180 [.rp [.sl 5 (List.map R5 x.h_), .sl 88 (List.map R88 x.certain), .sl 3 (List.map R3 x.numbers), .any] 0, .int .i64 i] (.sl 3 (List.map R3 r)) := by
 unfold salvage_finder_places at h
 replace h := bnd0 h
 refine spec_of (by kernel_rfl) Tryz.func180 Y Y ?_
 intro w0 A
 refine Tr <| Rq Y (v_assign (ov Y)) <| R_nil <| T_keep (kc 0 Y <| kc 1 Y <| kn) Y <| Tr <| Rq Y (v_assign (ov Y)) <| R_nil <| Tr <| Rq Y (v_move (ov Y)) <| Rq Y (v_nilCheckR (ov Y)) <| Rq Y (v_fieldR (ov Y) tF217_1) <| Rq Y (v_loadS_r (ov Y) tS82 Y) <| Rq Y (v_move (ov Y)) ?_
 obtain ⟨x2, h_x2, h⟩ := bnd h
 refine Rq Y (v_ixSG (ov Y) (ov Y) tL82 h_x2) ?_
 refine Rq Y (v_fieldR (ov Y) tF88_0) ?_
 refine Rq Y (v_loadS_r (ov Y) tS3 (at_get (at0 (hdc (n := 0) hd0)))) ?_
 refine Rq Y (v_assign (ov Y)) ?_
 refine R_nil <| T_joinG id (t1 fun out => ⟨[(5, .own 0 out.length)], [some ⟨3, List.map R3 out⟩]⟩) h (fun h => ?_) (fun j h => ?_)
 ·
  refine T_keep (kc 0 Y <| kc 1 Y <| kc 5 Y <| kc 6 Y <| kn) Y <| Tr <| R_q (.sl 3 (List.map R3 ([(-194), 194] : List Int))) Y (v_lit tL28 (.cons (cvs (ov Y) (cell1_b Y)) Y (.cons (.b Y) .nil) <| .cons (cvs (ov Y) (cell1_b Y)) Y (.cons (.b Y) .nil) <| .nil) Y Y) <| Rq Y (v_len (slv_sl (ov Y) tZ_3) tL28 (len_map _ _)) <| Rq Y (v_move (ov Y)) <| R_nil <| T_block ?_
  obtain ⟨r1, hl1, ho1⟩ := bndL h
  refine T_loopG _ (t2 fun out2 i2 => ⟨[(0, .rp [.sl 5 (List.map R5 x.h_), .sl 88 (List.map R88 x.certain), .sl 3 (List.map R3 x.numbers), .any] 0), (1, .int .i64 i), (5, .own 0 out2.length), (6, .int .i64 x2.At), (19, .sl 3 (List.map R3 ([(-194), 194] : List Int))), (20, .int .i64 (([(-194), 194] : List Int).length : Int)), (21, .int .i64 i2)], [some ⟨3, List.map R3 out2⟩]⟩) _ hl1 (Ent.sel [none] (sd 0 Y Y <| sd 1 Y Y <| sr 5 Y (.row Y) <| sd 6 Y Y <| sd 19 Y Y <| sd 20 Y Y <| sd 21 Y Y <| sn) (.row 3 <| .nil) Y Y) (fun n1 s1 h => ?_)
  obtain ⟨out2, i2⟩ := s1
  replace h := t2i h
  refine t2T ?_
  unfold salvage_finder_places_L1 at h
  refine Tr <| Rq Y (v_lss (ov Y) (ov Y)) <| R_nil <| T_seq <| T_if h Y (fun b22 h => ?_) (fun b22 h => ?_)
  ·
   refine T_skip <| T_joinG id (t1 fun out3 => ⟨[(0, .rp [.sl 5 (List.map R5 x.h_), .sl 88 (List.map R88 x.certain), .sl 3 (List.map R3 x.numbers), .any] 0), (1, .int .i64 i), (5, .own 0 out3.length), (6, .int .i64 x2.At), (19, .sl 3 (List.map R3 ([(-194), 194] : List Int))), (20, .int .i64 (([(-194), 194] : List Int).length : Int)), (21, .int .i64 i2)], [some ⟨3, List.map R3 out3⟩]⟩) h (fun h => ?_) (fun j h => ?_)
   ·
    refine T_block <| T_keep (kc 0 Y <| kc 1 Y <| kc 5 Y <| kc 6 Y <| kc 19 Y <| kc 20 Y <| kc 21 Y <| kn) Y <| Tr ?_
    obtain ⟨x3, h_x3, h⟩ := bnd h
    refine Rq Y (v_ixSG (ov Y) (ov Y) tL28 h_x3) ?_
    refine Rq Y (v_loadS_r (ov Y) tS3 Y) ?_
    refine Rq Y (v_assign (ov Y)) ?_
    refine R_nil <| T_keep (kc 0 Y <| kc 1 Y <| kc 5 Y <| kc 6 Y <| kc 8 Y <| kc 19 Y <| kc 20 Y <| kc 21 Y <| kn) Y <| Tr <| Rq Y (v_move (ov Y)) <| Rq Y (v_move (ov Y)) <| Rq Y (v_add (ov Y) (ov Y) Y) <| Rq Y (v_assign (ov Y)) <| R_nil <| T_block ?_
    obtain ⟨r2, hl2, ho2⟩ := bndL h
    refine T_loopG _ (t2 fun out4 p => ⟨[(0, .rp [.sl 5 (List.map R5 x.h_), .sl 88 (List.map R88 x.certain), .sl 3 (List.map R3 x.numbers), .any] 0), (1, .int .i64 i), (5, .own 0 out4.length), (6, .int .i64 x2.At), (8, .int .i64 x3), (9, .int .i64 p), (19, .sl 3 (List.map R3 ([(-194), 194] : List Int))), (20, .int .i64 (([(-194), 194] : List Int).length : Int)), (21, .int .i64 i2)], [some ⟨3, List.map R3 out4⟩]⟩) _ hl2 (Ent.sel [some 0] (sd 0 Y Y <| sd 1 Y Y <| sr 5 Y (.own _ Y) <| sd 6 Y Y <| sd 8 Y Y <| sd 9 Y Y <| sd 19 Y Y <| sd 20 Y Y <| sd 21 Y Y <| sn) (.cons Y (roM D3) <| .nil) Y Y) (fun n2 s2 h => ?_)
    obtain ⟨out4, p⟩ := s2
    replace h := t2i h
    refine t2T ?_
    unfold salvage_finder_places_L2 at h
    refine T_seq <| Tr <| Rq Y (v_move (ov Y)) <| Rq Y (v_gtr (ov Y) (ov Y)) <| Rq Y (v_move (ov Y)) <| Rq Y (.guarded ((decide ((-192) < p)) == true) Y Y Y Y fun h => v_move (ov Y)) <| Rq Y (.guarded ((decide ((-192) < p)) == true) Y Y Y Y fun h => v_move (ov Y)) <| Rq Y (.guarded ((decide ((-192) < p)) == true) Y Y Y Y fun h => v_nilCheckR (ow Y h)) <| Rq Y (.guarded ((decide ((-192) < p)) == true) Y Y Y Y fun h => v_fieldR (ow Y h) tF217_0) <| Rq Y (.guarded ((decide ((-192) < p)) == true) Y Y Y Y fun h => v_loadS_r (ow Y h) tS68 Y) <| Rq Y (.guarded ((decide ((-192) < p)) == true) Y Y Y Y fun h => v_len (slv_sl (ow Y h) tZ_5) tL68 (len_map _ _)) <| Rq Y (.guarded ((decide ((-192) < p)) == true) Y Y Y Y fun h => v_lss (ow Y h) (ow Y h)) <| Rq Y (v_and (ov Y) (fun hp => ow Y (gT hp))) <| R_nil <| T_keep (kc 0 Y <| kc 1 Y <| kc 5 Y <| kc 6 Y <| kc 8 Y <| kc 9 Y <| kc 19 Y <| kc 20 Y <| kc 21 Y <| kc 38 Y <| kn) Y <| T_if h Y (fun b38 h => ?_) (fun b38 h => ?_)
    ·
     refine T_skip <| T_joinG (fun j => (.inr j)) (t1 fun out5 => ⟨[(0, .rp [.sl 5 (List.map R5 x.h_), .sl 88 (List.map R88 x.certain), .sl 3 (List.map R3 x.numbers), .any] 0), (1, .int .i64 i), (5, .own 0 out5.length), (6, .int .i64 x2.At), (8, .int .i64 x3), (9, .int .i64 p), (19, .sl 3 (List.map R3 ([(-194), 194] : List Int))), (20, .int .i64 (([(-194), 194] : List Int).length : Int)), (21, .int .i64 i2)], [some ⟨3, List.map R3 out5⟩]⟩) h (fun h => ?_) (fun j h => ?_)
     ·
      refine T_block <| T_keep (kc 0 Y <| kc 1 Y <| kc 5 Y <| kc 6 Y <| kc 8 Y <| kc 9 Y <| kc 19 Y <| kc 20 Y <| kc 21 Y <| kn) Y <| Tr <| Rq Y (v_move (ov Y)) <| Rq Y (v_move (ov Y)) ?_
      obtain ⟨y, h_y, h⟩ := bnd h
      refine Rq Y (v_call (ok_salvage_finder_nearest h_y) (.cons (ov Y) (.b Y) <| .cons (ov Y) (.b Y) <| .nil)) ?_
      refine Rq Y (v_assign (ov Y)) ?_
      refine R_nil <| T_seq <| T_keep (kc 0 Y <| kc 1 Y <| kc 5 Y <| kc 6 Y <| kc 8 Y <| kc 9 Y <| kc 10 Y <| kc 19 Y <| kc 20 Y <| kc 21 Y <| kn) Y <| Tr <| Rq Y (v_move (ov Y)) <| Rq Y (v_move (ov Y)) <| Rq Y (v_neq (ov Y) (ov Y)) <| R_nil <| T_keep (kc 0 Y <| kc 1 Y <| kc 5 Y <| kc 6 Y <| kc 8 Y <| kc 9 Y <| kc 10 Y <| kc 19 Y <| kc 20 Y <| kc 21 Y <| kc 47 Y <| kn) Y <| T_if h Y (fun b47 h => ?_) (fun b47 h => ?_)
      ·
       refine T_exit ?_
       rw [lx h] at ho2
       replace h := ho2
       exact ⟨out4, h, Ent.sel [some 0] (sd 0 Y Y <| sd 1 Y Y <| sr 5 Y (.own _ Y) <| sd 6 Y Y <| sd 19 Y Y <| sd 20 Y Y <| sd 21 Y Y <| sn) (.cons Y (roM D3) <| .nil) Y Y⟩
      ·
       refine T_skip <| T_keep (kc 0 Y <| kc 1 Y <| kc 5 Y <| kc 6 Y <| kc 8 Y <| kc 9 Y <| kc 10 Y <| kc 19 Y <| kc 20 Y <| kc 21 Y <| kn) Y <| Tr <| Rq Y (v_move (ov Y)) <| Rq Y (v_nilCheckR (ov Y)) <| Rq Y (v_fieldR (ov Y) tF217_1) <| Rq Y (v_loadS_r (ov Y) tS82 Y) <| Rq Y (v_move (ov Y)) ?_
       obtain ⟨x4, h_x4, h⟩ := bnd h
       refine Rq Y (v_ixSG (ov Y) (ov Y) tL82 h_x4) ?_
       refine Rq Y (v_fieldR (ov Y) tF88_0) ?_
       refine Rq Y (v_loadS_r (ov Y) tS3 (at_get (at0 (hdc (n := 0) hd0)))) ?_
       refine Rq Y (v_move (ov Y)) ?_
       refine Rq Y (v_sub (ov Y) (ov Y) Y) ?_
       obtain ⟨y2, h_y2, h⟩ := bnd h
       refine Rq Y (v_call (ok_salvage_size h_y2) (.cons (ov Y) (.b Y) <| .nil)) ?_
       refine Rq Y (v_geq (ov Y) (ov Y)) ?_
       refine R_nil <| T_keep (kc 0 Y <| kc 1 Y <| kc 5 Y <| kc 6 Y <| kc 8 Y <| kc 9 Y <| kc 19 Y <| kc 20 Y <| kc 21 Y <| kc 59 Y <| kn) Y <| T_if h Y (fun b59 h => ?_) (fun b59 h => ?_)
       ·
        refine T_keep (kc 0 Y <| kc 1 Y <| kc 5 Y <| kc 6 Y <| kc 8 Y <| kc 9 Y <| kc 19 Y <| kc 20 Y <| kc 21 Y <| kn) Y <| T_reg <| Rq Y (v_move (ov Y)) <| Rq Y (v_move (ov Y)) <| R_q (.sl 3 (List.map R3 ([p] : List Int))) Y (v_lit tL28 (.cons (cvs (ov Y) (cell1_b Y)) Y (.cons (.b Y) .nil) <| .nil) Y Y) ?_
        obtain ⟨l, h_l, h⟩ := bnd h
        refine Rx Y (w_appendG (ov Y) (slv_sl (ov Y) tZ_3) tL28 Y Y Y (fun _ => cell1_all Y) Y h_l) ?_
        refine Rq Y (v_assign (ov Y)) ?_
        refine R_nil ?_
        exact ⟨l, h, Ent.sel [some 0] (sd 0 Y Y <| sd 1 Y Y <| sr 5 Y (.own _ Y) <| sd 6 Y Y <| sd 8 Y Y <| sd 9 Y Y <| sd 19 Y Y <| sd 20 Y Y <| sd 21 Y Y <| sn) (.cons Y (roM D3) <| .nil) Y Y⟩
       ·
        refine T_skip ?_
        exact ⟨out4, h, Ent.sel [some 0] (sd 0 Y Y <| sd 1 Y Y <| sr 5 Y (.own _ Y) <| sd 6 Y Y <| sd 8 Y Y <| sd 9 Y Y <| sd 19 Y Y <| sd 20 Y Y <| sd 21 Y Y <| sn) (.cons Y (roM D3) <| .nil) Y Y⟩
     ·
      replace h := elr h
      obtain ⟨out5, rfl⟩ : ∃ x, x = j := ⟨_, rfl⟩
      replace h := t1i h
      refine t1T ?_
      refine T_reg <| Rq Y (v_move (ov Y)) <| Rq Y (v_move (ov Y)) <| Rq Y (v_add (ov Y) (ov Y) Y) <| Rq Y (v_assign (ov Y)) <| R_nil ?_
      exact ⟨(out5, (i64 (p + x3))), h, Ent.sel [some 0] (sd 0 Y Y <| sd 1 Y Y <| sr 5 Y (.own _ Y) <| sd 6 Y Y <| sd 8 Y Y <| sd 9 Y Y <| sd 19 Y Y <| sd 20 Y Y <| sd 21 Y Y <| sn) (.cons Y (roM D3) <| .nil) Y Y⟩
    ·
     refine T_exit ?_
     rw [lx h] at ho2
     replace h := ho2
     exact ⟨out4, h, Ent.sel [some 0] (sd 0 Y Y <| sd 1 Y Y <| sr 5 Y (.own _ Y) <| sd 6 Y Y <| sd 19 Y Y <| sd 20 Y Y <| sd 21 Y Y <| sn) (.cons Y (roM D3) <| .nil) Y Y⟩
   ·
    obtain ⟨out3, rfl⟩ : ∃ x, x = j := ⟨_, rfl⟩
    replace h := t1i h
    refine t1T ?_
    refine T_reg <| Rq Y (v_add (ov Y) (ov Y) Y) <| Rq Y (v_move (ov Y)) <| R_nil ?_
    exact ⟨(out3, (i64 (i2 + 1))), h, Ent.sel [some 0] (sd 0 Y Y <| sd 1 Y Y <| sr 5 Y (.own _ Y) <| sd 6 Y Y <| sd 19 Y Y <| sd 20 Y Y <| sd 21 Y Y <| sn) (.cons Y (roM D3) <| .nil) Y Y⟩
  ·
   refine T_exit ?_
   rw [lx h] at ho1
   replace h := ho1
   exact ⟨out2, h, Ent.sel [some 0] (sr 5 Y (.own _ Y) <| sn) (.cons Y (roM D3) <| .nil) Y Y⟩
 ·
  obtain ⟨out, rfl⟩ : ∃ x, x = j := ⟨_, rfl⟩
  replace h := t1i h
  refine t1T ?_
  refine Tr <| Rq Y (v_move (ov Y)) <| Rq Y (v_assign (ov Y)) <| R_nil ?_
  obtain rfl := rt (v := out) h
  refine T_ret (retq ?_ (.one (.tmp Y (View.ownM Y Y D3))))
  rfl

theorem ok_salvage_partly {h_ : List Int} {at_ : Int} {r : (Vector Int 64) × (Vector Bool 64)} (h : salvage_partly h_ at_ = some r) :
  CSpec Tryz.prog gl0 242 [.sl 5 (List.map R5 h_), .int .i64 at_] (.tuple [.agg (List.map C47 r.1.toList), .agg (List.map C4 r.2.toList)]) := by
 unfold salvage_partly at h
 replace h := bnd0 h
 refine spec_of (by kernel_rfl) Tryz.func242 Y Y ?_
 intro w0 A
 refine Tr <| Rx Y (w_alloc (row := (List.map C47 (Vector.replicate 64 0).toList)) 0 Y tZ49 Y tZ_49) <| Rx Y (w_alloc (row := (List.map C4 (Vector.replicate 64 false).toList)) 1 Y tZ224 Y tZ_224) <| R_nil <| T_joinG id (t2 fun f whole => ⟨[(4, .ptr 0 1 0 0), (5, .ptr 1 1 0 0)], [some ⟨49, [(List.map C47 f.toList)]⟩, some ⟨224, [(List.map C4 whole.toList)]⟩]⟩) h (fun h => ?_) (fun j h => ?_)
 ·
  refine Tr <| Rq Y (v_move (ov Y)) <| R_nil <| T_block ?_
  obtain ⟨r1, hl1, ho1⟩ := bndL h
  refine T_loopG _ (t3 fun f2 whole2 i => ⟨[(0, .sl 5 (List.map R5 h_)), (1, .int .i64 at_), (4, .ptr 0 1 0 0), (5, .ptr 1 1 0 0), (8, .int .i64 i)], [some ⟨49, [(List.map C47 f2.toList)]⟩, some ⟨224, [(List.map C4 whole2.toList)]⟩]⟩) _ hl1 (Ent.sel [some 0, some 1] (sd 0 Y Y <| sd 1 Y Y <| sr 4 Y (.ptr _ _ _ Y) <| sr 5 Y (.ptr _ _ _ Y) <| sd 8 Y Y <| sn) (.cons Y (ro1 (by exact Eq.trans (b := 64) arL tZ_49.symm) (rld (arD fun _ => Y))) <| .cons Y (ro1 (by exact Eq.trans (b := 64) arL tZ_224.symm) (rld (arD fun _ => Y))) <| .nil) Y Y) (fun n1 s1 h => ?_)
  obtain ⟨f2, whole2, i⟩ := s1
  replace h := t3i h
  refine t3T ?_
  unfold salvage_partly_L1 at h
  refine Tr <| Rq Y (v_lss (ov Y) (ov Y)) <| R_nil <| T_seq <| T_if h Y (fun b9 h => ?_) (fun b9 h => ?_)
  ·
   refine T_skip <| T_seq <| T_block <| T_keep (kc 0 Y <| kc 1 Y <| kc 4 Y <| kc 5 Y <| kc 8 Y <| kn) Y <| Tr <| Rq Y (v_move (ov Y)) <| Rq Y (v_assign (ov Y)) <| R_nil <| T_keep (kc 0 Y <| kc 1 Y <| kc 4 Y <| kc 5 Y <| kc 6 Y <| kc 8 Y <| kn) Y <| Tr <| Rq Y (v_move (ov Y)) <| Rq Y (v_move (ov Y)) <| Rq Y (v_mul (ov Y) (ov Y) Y) <| Rq Y (v_add (ov Y) (ov Y) Y) <| Rq Y (v_assign (ov Y)) <| R_nil <| T_keep (kc 0 Y <| kc 1 Y <| kc 4 Y <| kc 5 Y <| kc 6 Y <| kc 7 Y <| kc 8 Y <| kn) Y <| Tr <| Rq Y (v_move (ov Y)) <| Rq Y (v_geq (ov Y) (ov Y)) <| Rq Y (v_move (ov Y)) <| Rq Y (.guarded ((decide (0 ≤ (i64 (at_ + (i64 (3 * i)))))) == true) Y Y Y Y fun h => v_move (ov Y)) <| Rq Y (.guarded ((decide (0 ≤ (i64 (at_ + (i64 (3 * i)))))) == true) Y Y Y Y fun h => v_add (ow Y h) (ov Y) Y) <| Rq Y (.guarded ((decide (0 ≤ (i64 (at_ + (i64 (3 * i)))))) == true) Y Y Y Y fun h => v_move (ov Y)) <| Rq Y (.guarded ((decide (0 ≤ (i64 (at_ + (i64 (3 * i)))))) == true) Y Y Y Y fun h => v_len (slv_sl (ow Y h) tZ_5) tL68 (len_map _ _)) <| Rq Y (.guarded ((decide (0 ≤ (i64 (at_ + (i64 (3 * i)))))) == true) Y Y Y Y fun h => v_leq (ow Y h) (ow Y h)) <| Rq Y (v_and (ov Y) (fun hp => ow Y (gT hp))) <| R_nil <| T_keep (kc 0 Y <| kc 1 Y <| kc 4 Y <| kc 5 Y <| kc 6 Y <| kc 7 Y <| kc 8 Y <| kc 23 Y <| kn) Y <| T_if h Y (fun b23 h => ?_) (fun b23 h => ?_)
   ·
    refine T_keep (kc 0 Y <| kc 1 Y <| kc 4 Y <| kc 5 Y <| kc 6 Y <| kc 7 Y <| kc 8 Y <| kn) Y <| T_reg <| Rq Y (v_move (ov Y)) <| Rq Y (v_move (ov Y)) <| Rq Y (v_move (ov Y)) <| Rq Y (v_move (ov Y)) <| Rq Y (v_move (ov Y)) <| Rq Y (v_add (ov Y) (ov Y) Y) ?_
    obtain ⟨l, h_l, h⟩ := bnd h
    refine Rq Y (v_sliceG (ov Y) tL68 (oi (ov Y)) (oi (ov Y)) h_l) ?_
    obtain ⟨y, h_y, h⟩ := bnd h
    refine Rq Y (v_call (ok_salvage_wordAt h_y) (.cons (ov Y) (.b Y) <| .nil)) ?_
    obtain ⟨x, h_x, h⟩ := bnd h
    refine Rq Y (v_ixAG (ov Y) (ov Y) tR49 Y Y h_x) ?_
    refine Rx Y (w_store (ov Y) (ov Y) (cells_scal tS47) Y Y Y (arB h_x) (cell1_all Y) (arS h_x)) ?_
    obtain ⟨x2, h_x2, h⟩ := bnd h
    refine Rq Y (v_ixAG (ov Y) (ov Y) tR224 Y Y h_x2) ?_
    refine Rx Y (w_store (ov Y) (ov Y) (cells_scal tS4) Y Y Y (arB h_x2) (cell1_all Y) (arS h_x2)) ?_
    refine R_nil <| T_keep (kc 0 Y <| kc 1 Y <| kc 4 Y <| kc 5 Y <| kc 8 Y <| kn) Y <| T_reg <| Rq Y (v_add (ov Y) (ov Y) Y) <| Rq Y (v_move (ov Y)) <| R_nil ?_
    exact ⟨((vset f2 i y), (vset whole2 i true), (i64 (i + 1))), h, Ent.sel [some 0, some 1] (sd 0 Y Y <| sd 1 Y Y <| sr 4 Y (.ptr _ _ _ Y) <| sr 5 Y (.ptr _ _ _ Y) <| sd 8 Y Y <| sn) (.cons Y (ro1 (by exact Eq.trans (b := 64) arL tZ_49.symm) (rld (arD fun _ => Y))) <| .cons Y (ro1 (by exact Eq.trans (b := 64) arL tZ_224.symm) (rld (arD fun _ => Y))) <| .nil) Y Y⟩
   ·
    refine T_skip <| T_keep (kc 0 Y <| kc 1 Y <| kc 4 Y <| kc 5 Y <| kc 8 Y <| kn) Y <| T_reg <| Rq Y (v_add (ov Y) (ov Y) Y) <| Rq Y (v_move (ov Y)) <| R_nil ?_
    exact ⟨(f2, whole2, (i64 (i + 1))), h, Ent.sel [some 0, some 1] (sd 0 Y Y <| sd 1 Y Y <| sr 4 Y (.ptr _ _ _ Y) <| sr 5 Y (.ptr _ _ _ Y) <| sd 8 Y Y <| sn) (.cons Y (ro1 (by exact Eq.trans (b := 64) arL tZ_49.symm) (rld (arD fun _ => Y))) <| .cons Y (ro1 (by exact Eq.trans (b := 64) arL tZ_224.symm) (rld (arD fun _ => Y))) <| .nil) Y Y⟩
  ·
   refine T_exit ?_
   rw [lx h] at ho1
   replace h := ho1
   exact ⟨(f2, whole2), h, Ent.sel [some 0, some 1] (sr 4 Y (.ptr _ _ _ Y) <| sr 5 Y (.ptr _ _ _ Y) <| sn) (.cons Y (ro1 (by exact Eq.trans (b := 64) arL tZ_49.symm) (rld (arD fun _ => Y))) <| .cons Y (ro1 (by exact Eq.trans (b := 64) arL tZ_224.symm) (rld (arD fun _ => Y))) <| .nil) Y Y⟩
 ·
  obtain ⟨f, whole⟩ := j
  replace h := t2i h
  refine t2T ?_
  refine T_seq (T_draw (cw := md0) (by kernel_rfl) ?_)
  refine Dq 0 Y Y Y (v_loadA (ov Y) Y Y Y tA49 (at_sub (at_all arL)) arL (hns := (nsM fun _ => Y))) ?_
  refine Dw 1 2 Y Y Y Y Y Y (v_loadA (ov Y) Y Y Y tA224 (at_sub (at_all arL)) arL (hns := (nsM fun _ => Y))) (w_store (ov Y) (ov Y) (cells_agg tA49 arL) Y Y Y (put_le (at_all arL) arL) (cell1_all (arC fun _ => Y)) (put_all (Eq.trans arL (Eq.symm arL)))) ?_ ?_
  ·
   refine Do 2 Y Y Y (w_store (ov Y) (ov Y) (cells_agg tA49 arL) Y Y Y (put_le (at_all arL) arL) (cell1_all (arC fun _ => Y)) (put_all (Eq.trans arL (Eq.symm arL)))) ?_
   refine Do 3 Y Y Y (w_store (ov Y) (ov Y) (cells_agg tA224 arL) Y Y Y (put_le (at_all arL) arL) (cell1_all (arC fun _ => Y)) (put_all (Eq.trans arL (Eq.symm arL)))) ?_
   refine D_done (by kernel_rfl) ?_
   obtain rfl := rt (v := (f, whole)) h
   refine T_ret (retq ?_ (.two (.agg Y Y Y Y tA49 (at_sub (at_all arL)) arL (pwB (arD fun _ => Y)) (hns := (nsM fun _ => Y))) (.agg Y Y Y Y tA224 (at_sub (at_all arL)) arL (pwB (arD fun _ => Y)) (hns := (nsM fun _ => Y)))))
   rfl
  ·
   refine Dq 1 Y Y Y (v_loadA (ov Y) Y Y Y tA224 (at_sub (at_all arL)) arL (hns := (nsM fun _ => Y))) ?_
   refine Do 3 Y Y Y (w_store (ov Y) (ov Y) (cells_agg tA224 arL) Y Y Y (put_le (at_all arL) arL) (cell1_all (arC fun _ => Y)) (put_all (Eq.trans arL (Eq.symm arL)))) ?_
   refine D_done (by kernel_rfl) ?_
   obtain rfl := rt (v := (f, whole)) h
   refine T_ret (retq ?_ (.two (.agg Y Y Y Y tA49 (at_sub (at_all arL)) arL (pwB (arD fun _ => Y)) (hns := (nsM fun _ => Y))) (.agg Y Y Y Y tA224 (at_sub (at_all arL)) arL (pwB (arD fun _ => Y)) (hns := (nsM fun _ => Y)))))
   rfl

theorem ok_salvage_own {f : Vector Int 64} {whole : Vector Bool 64} {r : Int × Bool} (h : salvage_own f whole = some r) :
  CSpec Tryz.prog gl0 276 [.agg (List.map C47 f.toList), .agg (List.map C4 whole.toList)] (.tuple [.int .i64 r.1, .bool r.2]) := by
 unfold salvage_own at h
 replace h := bnd0 h
 refine spec_of (by kernel_rfl) Tryz.func276 Y Y ?_
 intro w0 A
 refine Tr <| Rq Y (v_boxD (cva (ov Y)) arL tZ_49 (arD fun _ => Y)) <| Rq Y (v_boxD (cva (ov Y)) arL tZ_224 (arD fun _ => Y)) <| Rq Y (v_assign (ov Y)) <| Rq Y (v_assign (ov Y)) <| R_nil <| T_seq <| T_keep (kc 2 Y <| kc 3 Y <| kn) Y <| Tr ?_
 obtain ⟨x, h_x, h⟩ := bnd h
 refine Rq Y (v_ixRG (ov Y) (ov Y) tR224 h_x) ?_
 refine Rq Y (v_loadS_r (ov Y) tS4 (at_get (at_at (o := 0) (o' := ((Int.toNat 0) * 1)) (at_all arL) (at_v1 h_x)))) ?_
 refine Rq Y (v_not (ov Y)) ?_
 refine Rq Y (v_move (ov Y)) ?_
 obtain ⟨x2, h_x2, h⟩ := bnd h
 refine Rq Y (.guarded ((!x) == false) Y Y Y Y fun h => v_ixRG (ov Y) (ov Y) tR224 (gdT h_x2 h)) ?_
 refine Rq Y (.guarded ((!x) == false) Y Y Y Y fun h => v_loadS_r (ow Y h) tS4 (at_get (at_at (o := 0) (o' := ((Int.toNat 1) * 1)) (at_all arL) (at_v1 (gdT h_x2 h))))) ?_
 refine Rq Y (.guarded ((!x) == false) Y Y Y Y fun h => v_not (ow Y h)) ?_
 refine Rq Y (v_or (ov Y) (fun hp => ow Y (gF hp))) ?_
 refine Rq Y (v_move (ov Y)) ?_
 obtain ⟨x3, h_x3, h⟩ := bnd h
 refine Rq Y (.guarded (((!x) || (!x2)) == false) Y Y Y Y fun h => v_ixRG (ov Y) (ov Y) tR224 (gdT h_x3 h)) ?_
 refine Rq Y (.guarded (((!x) || (!x2)) == false) Y Y Y Y fun h => v_loadS_r (ow Y h) tS4 (at_get (at_at (o := 0) (o' := ((Int.toNat 2) * 1)) (at_all arL) (at_v1 (gdT h_x3 h))))) ?_
 refine Rq Y (.guarded (((!x) || (!x2)) == false) Y Y Y Y fun h => v_not (ow Y h)) ?_
 refine Rq Y (v_or (ov Y) (fun hp => ow Y (gF hp))) ?_
 refine R_nil <| T_keep (kc 2 Y <| kc 22 Y <| kn) Y <| T_if h Y (fun b22 h => ?_) (fun b22 h => ?_)
 ·
  refine T_keep (kn) Y <| Tr <| Rq Y (v_assign (ov Y)) <| Rq Y (v_assign (ov Y)) <| R_nil ?_
  obtain rfl := rt (v := (0, false)) h
  refine T_ret (retq ?_ (.two (.tmp Y (Dat.view (.b Y))) (.tmp Y (Dat.view (.b Y)))))
  rfl
 ·
  refine T_skip <| T_keep (kc 2 Y <| kn) Y <| Tr <| Rq Y (v_loadA_r (ov Y) tA49 (at_sub (at_all arL)) arL) ?_
  obtain ⟨y, h_y, h⟩ := bnd h
  refine Rq Y (v_call (ok_frame_Number h_y) (.cons (ov Y) (.aggB (arD fun _ => Y)) <| .nil)) ?_
  refine Rq Y (v_move (ov Y)) ?_
  refine Rq Y (v_extract (ov Y) Y) ?_
  refine Rq Y (v_extract (ov Y) Y) ?_
  refine Rq Y (v_assign (ov Y)) ?_
  refine Rq Y (v_assign (ov Y)) ?_
  refine R_nil <| T_keep (kc 2 Y <| kc 6 Y <| kc 7 Y <| kn) Y <| Tr <| Rq Y (v_move (ov Y)) ?_
  obtain ⟨y2, h_y2, h⟩ := bnd h
  refine Rq Y (v_call (ok_frame_Sync h_y2) (.cons (ov Y) (.b Y) <| .nil)) ?_
  refine Rq Y (v_move (ov Y)) ?_
  refine Rq Y (v_extract (ov Y) Y) ?_
  refine Rq Y (v_extract (ov Y) Y) ?_
  refine Rq Y (v_assign (ov Y)) ?_
  refine Rq Y (v_assign (ov Y)) ?_
  refine R_nil <| T_keep (kc 2 Y <| kc 6 Y <| kc 7 Y <| kc 8 Y <| kn) Y <| T_seq (T_draw (cw := md0) (by kernel_rfl) ?_)
  refine Dq 0 Y Y Y (v_move (ov Y)) ?_
  refine Dq 1 Y Y Y (v_move (ov Y)) ?_
  refine Dq 2 Y Y Y (v_move (ov Y)) ?_
  obtain ⟨x4, h_x4, h⟩ := bnd h
  refine Dq 3 Y Y Y (.guarded (y.2 == true) Y Y Y Y fun h => v_ixRG (ov Y) (ov Y) tR49 (gdT h_x4 h)) ?_
  refine Dq 4 Y Y Y (.guarded (y.2 == true) Y Y Y Y fun h => v_loadS_r (ow Y h) tS47 (at_get (at_at (o := 0) (o' := ((Int.toNat 0) * 1)) (at_all arL) (at_v1 (gdT h_x4 h))))) ?_
  refine Dq 5 Y Y Y (.guarded (y.2 == true) Y Y Y Y fun h => v_move (ov Y)) ?_
  refine Dq 6 Y Y Y (.guarded (y.2 == true) Y Y Y Y fun h => v_conv (ow Y h) tI3 tI47 Y) ?_
  refine Dq 7 Y Y Y (.guarded (y.2 == true) Y Y Y Y fun h => v_eql (ow Y h) (ow Y h)) ?_
  refine Dq 8 Y Y Y (v_and (ov Y) (fun hp => ow Y (gT hp))) ?_
  refine Dq 9 Y Y Y (v_assign (ov Y)) ?_
  refine Dq 10 Y Y Y (v_assign (ov Y)) ?_
  refine D_done (by kernel_rfl) ?_
  obtain rfl := rt (v := (y.1, (y.2 && (decide (x4 = (u16 y2.1)))))) h
  refine T_ret (retq ?_ (.two (.tmp Y (Dat.view (.b Y))) (.tmp Y (Dat.view (.b Y)))))
  rfl

theorem ok_salvage_finder_other {x : salvage_finder} {i : Int} {place : Int} {r : Int} (h : salvage_finder_other x i place = some r) :
  CSpec Tryz.prog gl0 277 [.rp [.sl 5 (List.map R5 x.h_), .sl 88 (List.map R88 x.certain), .sl 3 (List.map R3 x.numbers), .any] 0, .int .i64 i, .int .i64 place] (.int .i64 r) := by
 unfold salvage_finder_other at h
 replace h := bnd0 h
 refine spec_of (by kernel_rfl) Tryz.func277 Y Y ?_
 intro w0 A
 refine Tr <| Rq Y (v_assign (ov Y)) <| R_nil <| T_keep (kc 0 Y <| kc 1 Y <| kc 2 Y <| kn) Y <| Tr <| Rq Y (v_assign (ov Y)) <| Rq Y (v_assign (ov Y)) <| R_nil <| T_joinG id (t1 fun best => ⟨[(7, .int .i64 best)], []⟩) h (fun h => ?_) (fun j h => ?_)
 ·
  refine Tr <| Rq Y (v_move (ov Y)) <| Rq Y (v_nilCheckR (ov Y)) <| Rq Y (v_fieldR (ov Y) tF217_1) <| Rq Y (v_loadS_r (ov Y) tS82 Y) <| Rq Y (v_len (slv_sl (ov Y) tZ_88) tL82 (len_map _ _)) <| Rq Y (v_move (ov Y)) <| R_nil <| T_block ?_
  obtain ⟨r1, hl1, ho1⟩ := bndL h
  refine T_loopG _ (t3 fun best2 least i2 => ⟨[(0, .rp [.sl 5 (List.map R5 x.h_), .sl 88 (List.map R88 x.certain), .sl 3 (List.map R3 x.numbers), .any] 0), (1, .int .i64 i), (2, .int .i64 place), (7, .int .i64 best2), (8, .int .i64 least), (15, .sl 88 (List.map R88 x.certain)), (16, .int .i64 (x.certain.length : Int)), (17, .int .i64 i2)], []⟩) _ hl1 (Ent.sel [] (sd 0 Y Y <| sd 1 Y Y <| sd 2 Y Y <| sd 7 Y Y <| sd 8 Y Y <| sd 15 Y Y <| sd 16 Y Y <| sd 17 Y Y <| sn) (.nil) Y Y) (fun n1 s1 h => ?_)
  obtain ⟨best2, least, i2⟩ := s1
  replace h := t3i h
  refine t3T ?_
  unfold salvage_finder_other_L1 at h
  refine Tr <| Rq Y (v_lss (ov Y) (ov Y)) <| R_nil <| T_seq <| T_if h Y (fun b18 h => ?_) (fun b18 h => ?_)
  ·
   refine T_skip <| T_seq <| T_block <| T_keep (kc 0 Y <| kc 1 Y <| kc 2 Y <| kc 7 Y <| kc 8 Y <| kc 15 Y <| kc 16 Y <| kc 17 Y <| kn) Y <| Tr <| Rq Y (v_move (ov Y)) ?_
   obtain ⟨x2, h_x2, h⟩ := bnd h
   refine Rq Y (v_ixSG (ov Y) (ov Y) tL82 h_x2) ?_
   refine Rq Y (v_loadA_r (ov Y) tA88 (at_sub (at_all (lnC (n := 64) (lnA (m := 64) (n := 0) arL (lnN))))) (lnC (n := 64) (lnA (m := 64) (n := 0) arL (lnN)))) ?_
   refine Rx Y (w_alloc (row := (.int .i64 0) :: ((List.map C47 (Vector.replicate 64 0).toList) ++ ([]))) 0 Y tZ88 (by kernel_rfl) (by exact Eq.symm (Eq.trans (b := 65) (lnC (n := 64) (lnA (m := 64) (n := 0) arL (lnN))) tZ_88.symm))) ?_
   refine Rq Y (v_assign (ov Y)) ?_
   refine Rx Y (w_store (ov Y) (ov Y) (cells_agg tA88 (lnC (n := 64) (lnA (m := 64) (n := 0) arL (lnN)))) Y Y Y (put_le (at_all (lnC (n := 64) (lnA (m := 64) (n := 0) arL (lnN)))) (lnC (n := 64) (lnA (m := 64) (n := 0) arL (lnN)))) (cell1_all (alC Y (alA (arC fun _ => Y) (alN)))) (put_all (Eq.trans (lnC (n := 64) (lnA (m := 64) (n := 0) arL (lnN))) (Eq.symm (lnC (n := 64) (lnA (m := 64) (n := 0) arL (lnN))))))) ?_
   refine R_nil <| T_seq <| T_keep (kc 0 Y <| kc 1 Y <| kc 2 Y <| kc 7 Y <| kc 8 Y <| kc 9 Y <| kc 10 Y <| kc 15 Y <| kc 16 Y <| kc 17 Y <| kn) Y <| T_seq (T_draw (cw := md0) (by kernel_rfl) ?_)
   refine Dq 0 Y Y Y (v_move (ov Y)) ?_
   refine Dq 1 Y Y Y (v_move (ov Y)) ?_
   refine Dq 2 Y Y Y (v_eql (ov Y) (ov Y)) ?_
   refine Dq 3 Y Y Y (v_move (ov Y)) ?_
   refine Dq 4 Y Y Y (.guarded ((decide (i2 = i)) == false) Y Y Y Y fun h => v_fieldP (ov Y) Y Y tF88_0) ?_
   refine Dq 5 Y Y Y (.guarded ((decide (i2 = i)) == false) Y Y Y Y fun h => v_loadS (ow Y h) Y Y Y tS3 (at_get (at0 (hdc (n := 0) hd0)))) ?_
   refine Dq 6 Y Y Y (.guarded ((decide (i2 = i)) == false) Y Y Y Y fun h => v_move (ov Y)) ?_
   refine Dq 7 Y Y Y (.guarded ((decide (i2 = i)) == false) Y Y Y Y fun h => v_nilCheckR (ow Y h)) ?_
   refine Dq 8 Y Y Y (.guarded ((decide (i2 = i)) == false) Y Y Y Y fun h => v_fieldR (ow Y h) tF217_1) ?_
   refine Dq 9 Y Y Y (.guarded ((decide (i2 = i)) == false) Y Y Y Y fun h => v_loadS_r (ow Y h) tS82 Y) ?_
   refine Dq 10 Y Y Y (.guarded ((decide (i2 = i)) == false) Y Y Y Y fun h => v_move (ov Y)) ?_
   obtain ⟨x3, h_x3, h⟩ := bnd h
   refine Dq 11 Y Y Y (.guarded ((decide (i2 = i)) == false) Y Y Y Y fun h => v_ixSG (ow Y h) (ow Y h) tL82 (gdT h_x3 h)) ?_
   refine Dq 12 Y Y Y (.guarded ((decide (i2 = i)) == false) Y Y Y Y fun h => v_fieldR (ow Y h) tF88_0) ?_
   refine Dq 13 Y Y Y (.guarded ((decide (i2 = i)) == false) Y Y Y Y fun h => v_loadS_r (ow Y h) tS3 (at_get (at0 (hdc (n := 0) hd0)))) ?_
   refine Dq 14 Y Y Y (.guarded ((decide (i2 = i)) == false) Y Y Y Y fun h => v_sub (ow Y h) (ow Y h) Y) ?_
   obtain ⟨q, h_q, h⟩ := bnd h
   refine Dq 15 Y Y Y (.guarded ((decide (i2 = i)) == false) Y Y Y Y fun h => v_remG (ow Y h) (ov Y) (gdT h_q h)) ?_
   refine Dq 16 Y Y Y (.guarded ((decide (i2 = i)) == false) Y Y Y Y fun h => v_neq (ow Y h) (ov Y)) ?_
   refine Dq 17 Y Y Y (v_or (ov Y) (fun hp => ow Y (gF hp))) ?_
   refine D_done (by kernel_rfl) ?_
   refine T_keep (kc 0 Y <| kc 1 Y <| kc 2 Y <| kc 7 Y <| kc 8 Y <| kc 9 Y <| kc 10 Y <| kc 15 Y <| kc 16 Y <| kc 17 Y <| kc 39 Y <| kn) Y <| T_if h Y (fun b39 h => ?_) (fun b39 h => ?_)
   ·
    refine T_exit ?_
    refine T_keep (kc 0 Y <| kc 1 Y <| kc 2 Y <| kc 7 Y <| kc 8 Y <| kc 15 Y <| kc 16 Y <| kc 17 Y <| kn) Y <| T_reg <| Rq Y (v_add (ov Y) (ov Y) Y) <| Rq Y (v_move (ov Y)) <| R_nil ?_
    exact ⟨(best2, least, (i64 (i2 + 1))), h, Ent.sel [] (sd 0 Y Y <| sd 1 Y Y <| sd 2 Y Y <| sd 7 Y Y <| sd 8 Y Y <| sd 15 Y Y <| sd 16 Y Y <| sd 17 Y Y <| sn) (.nil) Y Y⟩
   ·
    refine T_skip <| T_keep (kc 0 Y <| kc 1 Y <| kc 2 Y <| kc 7 Y <| kc 8 Y <| kc 9 Y <| kc 10 Y <| kc 15 Y <| kc 16 Y <| kc 17 Y <| kn) Y <| Tr <| Rq Y (v_fieldP (ov Y) Y Y tF88_0) <| Rq Y (v_loadS (ov Y) Y Y Y tS3 (at_get (at0 (hdc (n := 0) hd0)))) <| Rq Y (v_move (ov Y)) <| Rq Y (v_sub (ov Y) (ov Y) Y) ?_
    obtain ⟨y, h_y, h⟩ := bnd h
    refine Rq Y (v_call (ok_salvage_size h_y) (.cons (ov Y) (.b Y) <| .nil)) ?_
    refine Rq Y (v_assign (ov Y)) ?_
    refine R_nil <| T_keep (kc 0 Y <| kc 1 Y <| kc 2 Y <| kc 7 Y <| kc 8 Y <| kc 9 Y <| kc 11 Y <| kc 15 Y <| kc 16 Y <| kc 17 Y <| kn) Y <| Tr <| Rq Y (v_move (ov Y)) <| Rq Y (v_lss (ov Y) (ov Y)) <| Rq Y (v_move (ov Y)) <| Rq Y (.guarded ((decide (best2 < 0)) == false) Y Y Y Y fun h => v_move (ov Y)) <| Rq Y (.guarded ((decide (best2 < 0)) == false) Y Y Y Y fun h => v_move (ov Y)) <| Rq Y (.guarded ((decide (best2 < 0)) == false) Y Y Y Y fun h => v_lss (ow Y h) (ow Y h)) <| Rq Y (v_or (ov Y) (fun hp => ow Y (gF hp))) <| R_nil <| T_keep (kc 0 Y <| kc 1 Y <| kc 2 Y <| kc 7 Y <| kc 8 Y <| kc 9 Y <| kc 11 Y <| kc 15 Y <| kc 16 Y <| kc 17 Y <| kc 51 Y <| kn) Y <| T_if h Y (fun b51 h => ?_) (fun b51 h => ?_)
    ·
     refine T_keep (kc 0 Y <| kc 1 Y <| kc 2 Y <| kc 7 Y <| kc 8 Y <| kc 9 Y <| kc 11 Y <| kc 15 Y <| kc 16 Y <| kc 17 Y <| kn) Y <| T_reg <| Rq Y (v_move (ov Y)) <| Rq Y (v_move (ov Y)) <| Rq Y (v_assign (ov Y)) <| Rq Y (v_assign (ov Y)) <| R_nil <| T_keep (kc 0 Y <| kc 1 Y <| kc 2 Y <| kc 7 Y <| kc 8 Y <| kc 15 Y <| kc 16 Y <| kc 17 Y <| kn) Y <| T_reg <| Rq Y (v_add (ov Y) (ov Y) Y) <| Rq Y (v_move (ov Y)) <| R_nil ?_
     exact ⟨(i2, y, (i64 (i2 + 1))), h, Ent.sel [] (sd 0 Y Y <| sd 1 Y Y <| sd 2 Y Y <| sd 7 Y Y <| sd 8 Y Y <| sd 15 Y Y <| sd 16 Y Y <| sd 17 Y Y <| sn) (.nil) Y Y⟩
    ·
     refine T_skip <| T_keep (kc 0 Y <| kc 1 Y <| kc 2 Y <| kc 7 Y <| kc 8 Y <| kc 15 Y <| kc 16 Y <| kc 17 Y <| kn) Y <| T_reg <| Rq Y (v_add (ov Y) (ov Y) Y) <| Rq Y (v_move (ov Y)) <| R_nil ?_
     exact ⟨(best2, least, (i64 (i2 + 1))), h, Ent.sel [] (sd 0 Y Y <| sd 1 Y Y <| sd 2 Y Y <| sd 7 Y Y <| sd 8 Y Y <| sd 15 Y Y <| sd 16 Y Y <| sd 17 Y Y <| sn) (.nil) Y Y⟩
  ·
   refine T_exit ?_
   rw [lx h] at ho1
   replace h := ho1
   exact ⟨best2, h, Ent.sel [] (sd 7 Y Y <| sn) (.nil) Y Y⟩
 ·
  obtain ⟨best, rfl⟩ : ∃ x, x = j := ⟨_, rfl⟩
  replace h := t1i h
  refine t1T ?_
  refine Tr <| Rq Y (v_move (ov Y)) <| Rq Y (v_assign (ov Y)) <| R_nil ?_
  obtain rfl := rt (v := best) h
  refine T_ret (retq ?_ (.one (.tmp Y (Dat.view (.b Y)))))
  rfl

theorem ok_salvage_within {n : Int} {low : Int} {high : Int} {r : Bool} (h : salvage_within n low high = some r) :
  CSpec Tryz.prog gl0 130 [.int .i64 n, .int .i64 low, .int .i64 high] (.bool r) := by
 unfold salvage_within at h
 replace h := bnd0 h
 refine spec_of (by kernel_rfl) Tryz.func130 Y Y ?_
 intro w0 A
 refine Tr <| Rq Y (v_assign (ov Y)) <| R_nil <| Tr <| Rq Y (v_move (ov Y)) <| Rq Y (v_move (ov Y)) <| Rq Y (v_geq (ov Y) (ov Y)) <| Rq Y (v_move (ov Y)) <| Rq Y (.guarded ((decide (low ≤ n)) == true) Y Y Y Y fun h => v_move (ov Y)) <| Rq Y (.guarded ((decide (low ≤ n)) == true) Y Y Y Y fun h => v_move (ov Y)) <| Rq Y (.guarded ((decide (low ≤ n)) == true) Y Y Y Y fun h => v_leq (ow Y h) (ow Y h)) <| Rq Y (v_and (ov Y) (fun hp => ow Y (gT hp))) <| Rq Y (v_assign (ov Y)) <| R_nil ?_
 obtain rfl := rt (v := ((decide (low ≤ n)) && (decide (n ≤ high)))) h
 refine T_ret (retq ?_ (.one (.tmp Y (Dat.view (.b Y)))))
 rfl

theorem ok_salvage_finder_number {x : salvage_finder} {i : Int} {place : Int} {f : Vector Int 64} {whole : Vector Bool 64} {r : Int × Bool} (h : salvage_finder_number x i place f whole = some r) :
  CSpec Tryz.prog gl0 243 [.rp [.sl 5 (List.map R5 x.h_), .sl 88 (List.map R88 x.certain), .sl 3 (List.map R3 x.numbers), .any] 0, .int .i64 i, .int .i64 place, .agg (List.map C47 f.toList), .agg (List.map C4 whole.toList)] (.tuple [.int .i64 r.1, .bool r.2]) := by
 unfold salvage_finder_number at h
 replace h := bnd0 h
 refine spec_of (by kernel_rfl) Tryz.func243 Y Y ?_
 intro w0 A
 refine Tr <| Rq Y (v_boxD (cva (ov Y)) arL tZ_49 (arD fun _ => Y)) <| Rq Y (v_boxD (cva (ov Y)) arL tZ_224 (arD fun _ => Y)) <| Rq Y (v_assign (ov Y)) <| Rq Y (v_assign (ov Y)) <| R_nil <| T_seq <| T_keep (kc 0 Y <| kc 1 Y <| kc 2 Y <| kc 8 Y <| kc 9 Y <| kn) Y <| Tr <| Rq Y (v_loadA_r (ov Y) tA49 (at_sub (at_all arL)) arL) <| Rq Y (v_loadA_r (ov Y) tA224 (at_sub (at_all arL)) arL) ?_
 obtain ⟨y, h_y, h⟩ := bnd h
 refine Rq Y (v_call (ok_salvage_own h_y) (.cons (ov Y) (.aggB (arD fun _ => Y)) <| .cons (ov Y) (.aggB (arD fun _ => Y)) <| .nil)) ?_
 refine Rq Y (v_move (ov Y)) ?_
 refine Rq Y (v_extract (ov Y) Y) ?_
 refine Rq Y (v_extract (ov Y) Y) ?_
 refine Rq Y (v_assign (ov Y)) ?_
 refine Rq Y (v_assign (ov Y)) ?_
 refine R_nil <| T_keep (kc 0 Y <| kc 1 Y <| kc 2 Y <| kc 12 Y <| kc 13 Y <| kn) Y <| Tr <| Rq Y (v_move (ov Y)) <| R_nil <| T_keep (kc 0 Y <| kc 1 Y <| kc 2 Y <| kc 12 Y <| kc 25 Y <| kn) Y <| T_if h Y (fun b25 h => ?_) (fun b25 h => ?_)
 ·
  refine T_keep (kc 12 Y <| kn) Y <| Tr <| Rq Y (v_move (ov Y)) <| Rq Y (v_assign (ov Y)) <| Rq Y (v_assign (ov Y)) <| R_nil ?_
  obtain rfl := rt (v := (y.1, true)) h
  refine T_ret (retq ?_ (.two (.tmp Y (Dat.view (.b Y))) (.tmp Y (Dat.view (.b Y)))))
  rfl
 ·
  refine T_skip <| T_keep (kc 0 Y <| kc 1 Y <| kc 2 Y <| kn) Y <| Tr <| Rq Y (v_move (ov Y)) <| Rq Y (v_move (ov Y)) <| Rq Y (v_move (ov Y)) ?_
  obtain ⟨y2, h_y2, h⟩ := bnd h
  refine Rq Y (v_call (ok_salvage_finder_other h_y2) (.cons (ov Y) (.b Y) <| .cons (ov Y) (.b Y) <| .cons (ov Y) (.b Y) <| .nil)) ?_
  refine Rq Y (v_assign (ov Y)) ?_
  refine R_nil <| T_seq <| T_keep (kc 0 Y <| kc 1 Y <| kc 2 Y <| kc 14 Y <| kn) Y <| Tr <| Rq Y (v_move (ov Y)) <| Rq Y (v_lss (ov Y) (ov Y)) <| R_nil <| T_keep (kc 0 Y <| kc 1 Y <| kc 2 Y <| kc 14 Y <| kc 32 Y <| kn) Y <| T_if h Y (fun b32 h => ?_) (fun b32 h => ?_)
  ·
   refine T_keep (kn) Y <| Tr <| Rq Y (v_assign (ov Y)) <| Rq Y (v_assign (ov Y)) <| R_nil ?_
   obtain rfl := rt (v := (0, false)) h
   refine T_ret (retq ?_ (.two (.tmp Y (Dat.view (.b Y))) (.tmp Y (Dat.view (.b Y)))))
   rfl
  ·
   refine T_skip <| T_keep (kc 0 Y <| kc 1 Y <| kc 2 Y <| kc 14 Y <| kn) Y <| T_seq (T_draw (cw := md0) (by kernel_rfl) ?_)
   refine Dq 0 Y Y Y (v_move (ov Y)) ?_
   refine Dq 1 Y Y Y (v_move (ov Y)) ?_
   refine Dq 2 Y Y Y (v_nilCheckR (ov Y)) ?_
   refine Dq 3 Y Y Y (v_fieldR (ov Y) tF217_1) ?_
   refine Dq 4 Y Y Y (v_loadS_r (ov Y) tS82 Y) ?_
   refine Dq 5 Y Y Y (v_move (ov Y)) ?_
   obtain ⟨x2, h_x2, h⟩ := bnd h
   refine Dq 6 Y Y Y (v_ixSG (ov Y) (ov Y) tL82 h_x2) ?_
   refine Dq 7 Y Y Y (v_fieldR (ov Y) tF88_0) ?_
   refine Dq 8 Y Y Y (v_loadS_r (ov Y) tS3 (at_get (at0 (hdc (n := 0) hd0)))) ?_
   refine Dq 9 Y Y Y (v_sub (ov Y) (ov Y) Y) ?_
   obtain ⟨q, h_q, h⟩ := bnd h
   refine Dq 10 Y Y Y (v_quoG (ov Y) (ov Y) h_q) ?_
   refine Dq 11 Y Y Y (v_move (ov Y)) ?_
   refine Dq 12 Y Y Y (v_nilCheckR (ov Y)) ?_
   refine Dq 13 Y Y Y (v_fieldR (ov Y) tF217_1) ?_
   refine Dq 14 Y Y Y (v_loadS_r (ov Y) tS82 Y) ?_
   refine Dq 15 Y Y Y (v_move (ov Y)) ?_
   obtain ⟨x3, h_x3, h⟩ := bnd h
   refine Dq 16 Y Y Y (v_ixSG (ov Y) (ov Y) tL82 h_x3) ?_
   refine Dq 17 Y Y Y (v_fieldR (ov Y) tF88_0) ?_
   refine Dq 18 Y Y Y (v_loadS_r (ov Y) tS3 (at_get (at0 (hdc (n := 0) hd0)))) ?_
   refine Dq 19 Y Y Y (v_move (ov Y)) ?_
   refine Dq 20 Y Y Y (v_nilCheckR (ov Y)) ?_
   refine Dq 21 Y Y Y (v_fieldR (ov Y) tF217_1) ?_
   refine Dq 22 Y Y Y (v_loadS_r (ov Y) tS82 Y) ?_
   refine Dq 23 Y Y Y (v_move (ov Y)) ?_
   obtain ⟨x4, h_x4, h⟩ := bnd h
   refine Dq 24 Y Y Y (v_ixSG (ov Y) (ov Y) tL82 h_x4) ?_
   refine Dq 25 Y Y Y (v_fieldR (ov Y) tF88_0) ?_
   refine Dq 26 Y Y Y (v_loadS_r (ov Y) tS3 (at_get (at0 (hdc (n := 0) hd0)))) ?_
   refine Dq 27 Y Y Y (v_sub (ov Y) (ov Y) Y) ?_
   obtain ⟨q2, h_q2, h⟩ := bnd h
   refine Dq 28 Y Y Y (v_quoG (ov Y) (ov Y) h_q2) ?_
   refine Dq 29 Y Y Y (v_assign (ov Y)) ?_
   refine Dq 30 Y Y Y (v_assign (ov Y)) ?_
   refine D_done (by kernel_rfl) ?_
   refine T_keep (kc 0 Y <| kc 1 Y <| kc 14 Y <| kc 15 Y <| kc 16 Y <| kn) Y <| T_seq (T_draw (cw := md0) (by kernel_rfl) ?_)
   refine Dq 0 Y Y Y (v_move (ov Y)) ?_
   refine Dq 1 Y Y Y (v_nilCheckR (ov Y)) ?_
   refine Dq 2 Y Y Y (v_fieldR (ov Y) tF217_2) ?_
   refine Dq 3 Y Y Y (v_loadS_r (ov Y) tS28 Y) ?_
   refine Dq 4 Y Y Y (v_move (ov Y)) ?_
   obtain ⟨x5, h_x5, h⟩ := bnd h
   refine Dq 5 Y Y Y (v_ixSG (ov Y) (ov Y) tL28 h_x5) ?_
   refine Dq 6 Y Y Y (v_loadS_r (ov Y) tS3 Y) ?_
   refine Dq 7 Y Y Y (v_move (ov Y)) ?_
   refine Dq 8 Y Y Y (v_nilCheckR (ov Y)) ?_
   refine Dq 9 Y Y Y (v_fieldR (ov Y) tF217_2) ?_
   refine Dq 10 Y Y Y (v_loadS_r (ov Y) tS28 Y) ?_
   refine Dq 11 Y Y Y (v_move (ov Y)) ?_
   obtain ⟨x6, h_x6, h⟩ := bnd h
   refine Dq 12 Y Y Y (v_ixSG (ov Y) (ov Y) tL28 h_x6) ?_
   refine Dq 13 Y Y Y (v_loadS_r (ov Y) tS3 Y) ?_
   refine Dq 14 Y Y Y (v_sub (ov Y) (ov Y) Y) ?_
   refine Dq 15 Y Y Y (v_assign (ov Y)) ?_
   refine D_done (by kernel_rfl) ?_
   refine T_seq <| T_keep (kc 0 Y <| kc 1 Y <| kc 15 Y <| kc 16 Y <| kc 17 Y <| kn) Y <| Tr <| Rq Y (v_move (ov Y)) <| Rq Y (v_move (ov Y)) ?_
   obtain ⟨q3, h_q3, h⟩ := bnd h
   refine Rq Y (v_remG (ov Y) (ov Y) h_q3) ?_
   refine Rq Y (v_neq (ov Y) (ov Y)) ?_
   refine Rq Y (v_move (ov Y)) ?_
   refine Rq Y (.guarded ((!decide (q3 = 0)) == false) Y Y Y Y fun h => v_move (ov Y)) ?_
   refine Rq Y (.guarded ((!decide (q3 = 0)) == false) Y Y Y Y fun h => v_move (ov Y)) ?_
   obtain ⟨q4, h_q4, h⟩ := bnd h
   refine Rq Y (.guarded ((!decide (q3 = 0)) == false) Y Y Y Y fun h => v_quoG (ow Y h) (ow Y h) (gdT h_q4 h)) ?_
   refine Rq Y (.guarded ((!decide (q3 = 0)) == false) Y Y Y Y fun h => v_leq (ow Y h) (ov Y)) ?_
   refine Rq Y (v_or (ov Y) (fun hp => ow Y (gF hp))) ?_
   refine R_nil <| T_keep (kc 0 Y <| kc 1 Y <| kc 15 Y <| kc 16 Y <| kc 17 Y <| kc 86 Y <| kn) Y <| T_if h Y (fun b86 h => ?_) (fun b86 h => ?_)
   ·
    refine T_keep (kn) Y <| Tr <| Rq Y (v_assign (ov Y)) <| Rq Y (v_assign (ov Y)) <| R_nil ?_
    obtain rfl := rt (v := (0, false)) h
    refine T_ret (retq ?_ (.two (.tmp Y (Dat.view (.b Y))) (.tmp Y (Dat.view (.b Y)))))
    rfl
   ·
    refine T_skip <| T_keep (kc 0 Y <| kc 1 Y <| kc 15 Y <| kc 16 Y <| kc 17 Y <| kn) Y <| T_seq (T_draw (cw := md0) (by kernel_rfl) ?_)
    refine Dq 0 Y Y Y (v_move (ov Y)) ?_
    refine Dq 1 Y Y Y (v_nilCheckR (ov Y)) ?_
    refine Dq 2 Y Y Y (v_fieldR (ov Y) tF217_2) ?_
    refine Dq 3 Y Y Y (v_loadS_r (ov Y) tS28 Y) ?_
    refine Dq 4 Y Y Y (v_move (ov Y)) ?_
    obtain ⟨x7, h_x7, h⟩ := bnd h
    refine Dq 5 Y Y Y (v_ixSG (ov Y) (ov Y) tL28 h_x7) ?_
    refine Dq 6 Y Y Y (v_loadS_r (ov Y) tS3 Y) ?_
    refine Dq 7 Y Y Y (v_move (ov Y)) ?_
    refine Dq 8 Y Y Y (v_move (ov Y)) ?_
    refine Dq 9 Y Y Y (v_move (ov Y)) ?_
    obtain ⟨q5, h_q5, h⟩ := bnd h
    refine Dq 10 Y Y Y (v_quoG (ov Y) (ov Y) h_q5) ?_
    refine Dq 11 Y Y Y (v_mul (ov Y) (ov Y) Y) ?_
    refine Dq 12 Y Y Y (v_add (ov Y) (ov Y) Y) ?_
    refine Dq 13 Y Y Y (v_assign (ov Y)) ?_
    refine D_done (by kernel_rfl) ?_
    refine T_keep (kc 18 Y <| kn) Y <| Tr <| Rq Y (v_move (ov Y)) <| Rq Y (v_move (ov Y)) ?_
    obtain ⟨y3, h_y3, h⟩ := bnd h
    refine Rq Y (v_call (ok_salvage_within h_y3) (.cons (ov Y) (.b Y) <| .cons (ov Y) (.b Y) <| .cons (ov Y) (.b Y) <| .nil)) ?_
    refine Rq Y (v_assign (ov Y)) ?_
    refine Rq Y (v_assign (ov Y)) ?_
    refine R_nil ?_
    obtain rfl := rt (v := ((i64 (x7 + (i64 (q * q5)))), y3)) h
    refine T_ret (retq ?_ (.two (.tmp Y (Dat.view (.b Y))) (.tmp Y (Dat.view (.b Y)))))
    rfl

theorem ok_frame_Odd {w : Int} {r : Bool} (h : frame_Odd w = some r) :
  CSpec Tryz.prog gl0 279 [.int .u16 w] (.bool r) := by
 unfold frame_Odd at h
 replace h := bnd0 h
 refine spec_of (by kernel_rfl) Tryz.func279 Y Y ?_
 intro w0 A
 refine Tr <| Rq Y (v_assign (ov Y)) <| R_nil <| Tr <| Rq Y (v_move (ov Y)) ?_
 obtain ⟨y, h_y, h⟩ := bnd h
 refine Rq Y (v_call (ok_frame_odd h_y) (.cons (ov Y) (.b Y) <| .nil)) ?_
 refine Rq Y (v_assign (ov Y)) ?_
 refine R_nil ?_
 obtain rfl := rt (v := y) h
 refine T_ret (retq ?_ (.one (.tmp Y (Dat.view (.b Y)))))
 rfl

theorem ok_salvage_rightAlone {w : Int} {i : Int} {number : Int} {r : Bool} (h : salvage_rightAlone w i number = some r) :
  CSpec Tryz.prog gl0 244 [.int .u16 w, .int .i64 i, .int .i64 number] (.bool r) := by
 unfold salvage_rightAlone at h
 replace h := bnd0 h
 refine spec_of (by kernel_rfl) Tryz.func244 Y Y ?_
 intro w0 A
 refine Tr <| Rq Y (v_assign (ov Y)) <| R_nil <| T_keep (kc 0 Y <| kc 1 Y <| kc 2 Y <| kn) Y <| Tr <| Rq Y (v_move (ov Y)) <| Rq Y (v_and_ (ov Y) (ov Y)) <| Rq Y (v_conv (ov Y) tI47 tI3 Y) <| Rq Y (v_assign (ov Y)) <| R_nil <| T_seq <| T_keep (kc 0 Y <| kc 1 Y <| kc 2 Y <| kc 7 Y <| kn) Y <| Tr <| Rq Y (v_move (ov Y)) <| R_nil <| T_block <| T_keep (kc 0 Y <| kc 2 Y <| kc 7 Y <| kc 13 Y <| kn) Y <| Tr <| Rq Y (v_eql (ov Y) (ov Y)) <| Rq Y (v_assign (ov Y)) <| R_nil <| T_keep (kc 0 Y <| kc 2 Y <| kc 7 Y <| kc 13 Y <| kc 14 Y <| kn) Y <| T_if h Y (fun b14 h => ?_) (fun b14 h => ?_)
 ·
  refine T_keep (kc 0 Y <| kc 2 Y <| kn) Y <| Tr <| Rq Y (v_move (ov Y)) ?_
  obtain ⟨y, h_y, h⟩ := bnd h
  refine Rq Y (v_call (ok_frame_Sync h_y) (.cons (ov Y) (.b Y) <| .nil)) ?_
  refine Rq Y (v_move (ov Y)) ?_
  refine Rq Y (v_extract (ov Y) Y) ?_
  refine Rq Y (v_extract (ov Y) Y) ?_
  refine Rq Y (v_assign (ov Y)) ?_
  refine Rq Y (v_assign (ov Y)) ?_
  refine R_nil <| T_keep (kc 0 Y <| kc 8 Y <| kn) Y <| Tr <| Rq Y (v_move (ov Y)) <| Rq Y (v_move (ov Y)) <| Rq Y (v_conv (ov Y) tI3 tI47 Y) <| Rq Y (v_eql (ov Y) (ov Y)) <| Rq Y (v_assign (ov Y)) <| R_nil ?_
  obtain rfl := rt (v := (decide (w = (u16 y.1)))) h
  refine T_ret (retq ?_ (.one (.tmp Y (Dat.view (.b Y)))))
  rfl
 ·
  refine T_keep (kc 0 Y <| kc 2 Y <| kc 7 Y <| kc 13 Y <| kn) Y <| Tr <| Rq Y (v_eql (ov Y) (ov Y)) <| Rq Y (v_assign (ov Y)) <| R_nil <| T_keep (kc 0 Y <| kc 2 Y <| kc 7 Y <| kc 13 Y <| kc 25 Y <| kn) Y <| T_if h Y (fun b25 h => ?_) (fun b25 h => ?_)
  ·
   refine T_keep (kc 0 Y <| kc 2 Y <| kc 7 Y <| kn) Y <| Tr <| Rq Y (v_move (ov Y)) ?_
   obtain ⟨y2, h_y2, h⟩ := bnd h
   refine Rq Y (v_call (ok_frame_Odd h_y2) (.cons (ov Y) (.b Y) <| .nil)) ?_
   refine Rq Y (v_move (ov Y)) ?_
   refine Rq Y (.guarded (y2 == true) Y Y Y Y fun h => v_move (ov Y)) ?_
   refine Rq Y (.guarded (y2 == true) Y Y Y Y fun h => v_move (ov Y)) ?_
   refine Rq Y (.guarded (y2 == true) Y Y Y Y fun h => v_and_ (ow Y h) (ov Y)) ?_
   refine Rq Y (.guarded (y2 == true) Y Y Y Y fun h => v_eql (ow Y h) (ow Y h)) ?_
   refine Rq Y (v_and (ov Y) (fun hp => ow Y (gT hp))) ?_
   refine Rq Y (v_assign (ov Y)) ?_
   refine R_nil ?_
   obtain rfl := rt (v := (y2 && (decide ((i64 (band .u16 w 2047)) = (band .i64 number 2047))))) h
   refine T_ret (retq ?_ (.one (.tmp Y (Dat.view (.b Y)))))
   rfl
  ·
   refine T_keep (kc 0 Y <| kc 2 Y <| kc 7 Y <| kc 13 Y <| kn) Y <| Tr <| Rq Y (v_eql (ov Y) (ov Y)) <| Rq Y (v_assign (ov Y)) <| R_nil <| T_keep (kc 0 Y <| kc 2 Y <| kc 7 Y <| kc 35 Y <| kn) Y <| T_if h Y (fun b35 h => ?_) (fun b35 h => ?_)
   ·
    refine T_keep (kc 0 Y <| kc 2 Y <| kc 7 Y <| kn) Y <| Tr <| Rq Y (v_move (ov Y)) ?_
    obtain ⟨y3, h_y3, h⟩ := bnd h
    refine Rq Y (v_call (ok_frame_Odd h_y3) (.cons (ov Y) (.b Y) <| .nil)) ?_
    refine Rq Y (v_move (ov Y)) ?_
    refine Rq Y (.guarded (y3 == true) Y Y Y Y fun h => v_move (ov Y)) ?_
    refine Rq Y (.guarded (y3 == true) Y Y Y Y fun h => v_move (ov Y)) ?_
    obtain ⟨q, h_q, h⟩ := bnd h
    refine Rq Y (.guarded (y3 == true) Y Y Y Y fun h => v_shrG (ow Y h) (ov Y) (gdT h_q h)) ?_
    refine Rq Y (.guarded (y3 == true) Y Y Y Y fun h => v_eql (ow Y h) (ow Y h)) ?_
    refine Rq Y (v_and (ov Y) (fun hp => ow Y (gT hp))) ?_
    refine Rq Y (v_assign (ov Y)) ?_
    refine R_nil ?_
    obtain rfl := rt (v := (y3 && (decide ((i64 (band .u16 w 2047)) = q)))) h
    refine T_ret (retq ?_ (.one (.tmp Y (Dat.view (.b Y)))))
    rfl
   ·
    refine T_skip <| T_keep (kc 0 Y <| kn) Y <| Tr <| Rq Y (v_move (ov Y)) ?_
    obtain ⟨y4, h_y4, h⟩ := bnd h
    refine Rq Y (v_call (ok_frame_Odd h_y4) (.cons (ov Y) (.b Y) <| .nil)) ?_
    refine Rq Y (v_assign (ov Y)) ?_
    refine R_nil ?_
    obtain rfl := rt (v := y4) h
    refine T_ret (retq ?_ (.one (.tmp Y (Dat.view (.b Y)))))
    rfl

theorem ok_slices_IndexFunc_int_int {s : List Int} {f : Int → Option Bool} {r : Int} {f_f : FuncId} {f_c : List AV} (f_d : f_c.all datB = true) (f_h : ∀ (z0 : Int) z, f z0 = some z → CSpec Tryz.prog gl0 f_f ([.int .i64 z0] ++ f_c) (.bool z)) (h : slices_IndexFunc_int_int s f = some r) :
  CSpec Tryz.prog gl0 260 [.sl 3 (List.map R3 s), .fn f_f f_c] (.int .i64 r) := by
 unfold slices_IndexFunc_int_int at h
 replace h := bnd0 h
 refine spec_of (by kernel_rfl) Tryz.func260 Y Y ?_
 intro w0 A
 refine Tr <| Rq Y (v_assign (ov Y)) <| R_nil <| T_joinG (fun j => (.inr j)) (t0 ⟨[], []⟩) h (fun h => ?_) (fun j h => ?_)
 ·
  refine T_keep (kc 0 Y <| kc 1 Y <| kn) Y <| Tr <| Rq Y (v_move (ov Y)) <| Rq Y (v_len (slv_sl (ov Y) tZ_3) tL28 (len_map _ _)) <| Rq Y (v_move (ov Y)) <| R_nil <| T_block ?_
  obtain ⟨r1, hl1, ho1⟩ := bndL h
  refine T_loopG _ (t1 fun i => ⟨[(0, .sl 3 (List.map R3 s)), (1, .fn f_f f_c), (7, .int .i64 (s.length : Int)), (8, .int .i64 i)], []⟩) _ hl1 (Ent.sel [] (sd 0 Y Y <| sr 1 Y (rFn (rld f_d)) <| sd 7 Y Y <| sd 8 Y Y <| sn) (.nil) Y Y) (fun n1 s1 h => ?_)
  obtain ⟨i, rfl⟩ : ∃ x, x = s1 := ⟨_, rfl⟩
  replace h := t1i h
  refine t1T ?_
  unfold slices_IndexFunc_int_int_L1 at h
  refine Tr <| Rq Y (v_lss (ov Y) (ov Y)) <| R_nil <| T_seq <| T_if h Y (fun b9 h => ?_) (fun b9 h => ?_)
  ·
   refine T_skip <| T_seq <| T_block <| T_keep (kc 0 Y <| kc 1 Y <| kc 7 Y <| kc 8 Y <| kn) Y <| Tr <| Rq Y (v_move (ov Y)) <| Rq Y (v_assign (ov Y)) <| R_nil <| T_keep (kc 0 Y <| kc 1 Y <| kc 5 Y <| kc 7 Y <| kc 8 Y <| kn) Y <| Tr <| Rq Y (v_move (ov Y)) <| Rq Y (v_move (ov Y)) <| Rq Y (v_move (ov Y)) ?_
   obtain ⟨x, h_x, h⟩ := bnd h
   refine Rq Y (v_ixSG (ov Y) (ov Y) tL28 h_x) ?_
   refine Rq Y (v_loadS_r (ov Y) tS3 Y) ?_
   obtain ⟨y, h_y, h⟩ := bnd h
   refine Rq Y (v_callC (ov Y) f_d (f_h _ _ h_y) (.cons (ov Y) (.b Y) <| .nil)) ?_
   refine R_nil <| T_keep (kc 0 Y <| kc 1 Y <| kc 5 Y <| kc 7 Y <| kc 8 Y <| kc 16 Y <| kn) Y <| T_if h Y (fun b16 h => ?_) (fun b16 h => ?_)
   ·
    refine T_keep (kc 5 Y <| kn) Y <| Tr <| Rq Y (v_move (ov Y)) <| Rq Y (v_assign (ov Y)) <| R_nil ?_
    rw [lx h] at ho1
    replace h := ho1
    obtain rfl := rt (v := i) h
    refine T_ret (retq ?_ (.one (.tmp Y (Dat.view (.b Y)))))
    rfl
   ·
    refine T_skip <| T_keep (kc 0 Y <| kc 1 Y <| kc 7 Y <| kc 8 Y <| kn) Y <| T_reg <| Rq Y (v_add (ov Y) (ov Y) Y) <| Rq Y (v_move (ov Y)) <| R_nil ?_
    exact ⟨(i64 (i + 1)), h, Ent.sel [] (sd 0 Y Y <| sr 1 Y (rFn (rld f_d)) <| sd 7 Y Y <| sd 8 Y Y <| sn) (.nil) Y Y⟩
  ·
   refine T_exit ?_
   rw [lx h] at ho1
   replace h := ho1
   exact ⟨(), h, Ent.sel [] (sn) (.nil) Y Y⟩
 ·
  replace h := elr h
  cases j
  replace h := t0i h
  refine t0T ?_
  refine Tr <| Rq Y (v_assign (ov Y)) <| R_nil ?_
  obtain rfl := rt (v := (-1)) h
  refine T_ret (retq ?_ (.one (.tmp Y (Dat.view (.b Y)))))
  rfl

theorem ok_slices_ContainsFunc_int_int {s : List Int} {f : Int → Option Bool} {r : Bool} {f_f : FuncId} {f_c : List AV} (f_d : f_c.all datB = true) (f_h : ∀ (z0 : Int) z, f z0 = some z → CSpec Tryz.prog gl0 f_f ([.int .i64 z0] ++ f_c) (.bool z)) (h : slices_ContainsFunc_int_int s f = some r) :
  CSpec Tryz.prog gl0 210 [.sl 3 (List.map R3 s), .fn f_f f_c] (.bool r) := by
 unfold slices_ContainsFunc_int_int at h
 replace h := bnd0 h
 refine spec_of (by kernel_rfl) Tryz.func210 Y Y ?_
 intro w0 A
 refine Tr <| Rq Y (v_assign (ov Y)) <| R_nil <| Tr <| Rq Y (v_move (ov Y)) <| Rq Y (v_move (ov Y)) ?_
 obtain ⟨y, h_y, h⟩ := bnd h
 refine Rq Y (v_call (ok_slices_IndexFunc_int_int f_d f_h h_y) (.cons (ov Y) (.b Y) <| .cons (ov Y) (Dat.fnC (.refl fun x hx => .b (List.all_eq_true.1 f_d x hx))) <| .nil)) ?_
 refine Rq Y (v_geq (ov Y) (ov Y)) ?_
 refine Rq Y (v_assign (ov Y)) ?_
 refine R_nil ?_
 obtain rfl := rt (v := (decide (0 ≤ y))) h
 refine T_ret (retq ?_ (.one (.tmp Y (Dat.view (.b Y)))))
 rfl

theorem ok_salvage_all_1 {s : Int} {c0 : Int} {r : Bool} (h : salvage_all_1 s c0 = some r) :
  CSpec Tryz.prog gl0 212 [.int .i64 s, .rp [.int .i64 c0] 0] (.bool r) := by
 unfold salvage_all_1 at h
 replace h := bnd0 h
 refine spec_of (by kernel_rfl) Tryz.func212 Y Y ?_
 intro w0 A
 refine Tr <| Rq Y (v_assign (ov Y)) <| R_nil <| Tr <| Rq Y (v_move (ov Y)) <| Rq Y (v_loadS_r (ov Y) tS3 Y) <| Rq Y (v_neq (ov Y) (ov Y)) <| Rq Y (v_assign (ov Y)) <| R_nil ?_
 obtain rfl := rt (v := (!decide (s = c0))) h
 refine T_ret (retq ?_ (.one (.tmp Y (Dat.view (.b Y)))))
 rfl

theorem ok_salvage_all {r_ : api_Rest} {state : Int} {r : Bool} (h : salvage_all r_ state = some r) :
  CSpec Tryz.prog gl0 133 [.agg ((.int .i64 r_.Number) :: ((List.map C47 r_.Frame.toList) ++ (((List.map C3 r_.States.toList) ++ ((.bool r_.Sound) :: (.int .i64 r_.Copies) :: (.bool r_.Conflict) :: []))))), .int .i64 state] (.bool r) := by
 unfold salvage_all at h
 replace h := bnd0 h
 refine spec_of (by kernel_rfl) Tryz.func133 Y Y ?_
 intro w0 A
 refine Tr <| Rq Y (v_boxD (cva (ov Y)) (lnC (n := 131) (lnA (m := 64) (n := 67) arL (lnA (m := 64) (n := 3) arL (lnC (n := 2) (lnC (n := 1) (lnC (n := 0) (lnN))))))) tZ_76 (alC Y (alA (arD fun _ => Y) (alA (arD fun _ => Y) (alC Y (alC Y (alC Y (alN)))))))) <| Rq Y (v_boxD (cvs (ov Y) (cell1_b Y)) Y tZ_3 Y) <| Rq Y (v_assign (ov Y)) <| R_nil <| T_keep (kc 2 Y <| kc 3 Y <| kc 4 Y <| kn) Y <| Tr <| Rq Y (v_fieldR (ov Y) tF76_2) ?_
 obtain ⟨l, h_l, h⟩ := bnd h
 refine Rq Y (v_slR (f := C3) (ov Y) tR74 tZ_3 (atc (o := 64) (ata (m := 64) (o := 0) arL (at0 (hdw arL)))) Y on on h_l) ?_
 refine Rq Y (v_makeFunc (.cons (ov Y) <| .nil)) ?_
 obtain ⟨y, h_y, h⟩ := bnd h
 refine Rq Y (v_call (ok_slices_ContainsFunc_int_int Y (fun z0 _ hz => ok_salvage_all_1 hz) h_y) (.cons (ov Y) (.b Y) <| .cons (ov Y) (.fnC (.cons (.b Y) <| .nil)) <| .nil)) ?_
 refine Rq Y (v_not (ov Y)) ?_
 refine Rq Y (v_assign (ov Y)) ?_
 refine R_nil ?_
 obtain rfl := rt (v := (!y)) h
 refine T_ret (retq ?_ (.one (.tmp Y (Dat.view (.b Y)))))
 rfl

theorem ok_salvage_finder_beside {x : salvage_finder} {i : Int} {place : Int} {r : api_Rest × Bool} (h : salvage_finder_beside x i place = some r) :
  CSpec Tryz.prog gl0 181 [.rp [.sl 5 (List.map R5 x.h_), .sl 88 (List.map R88 x.certain), .sl 3 (List.map R3 x.numbers), .any] 0, .int .i64 i, .int .i64 place] (.tuple [.agg ((.int .i64 r.1.Number) :: ((List.map C47 r.1.Frame.toList) ++ (((List.map C3 r.1.States.toList) ++ ((.bool r.1.Sound) :: (.int .i64 r.1.Copies) :: (.bool r.1.Conflict) :: []))))), .bool r.2]) := by
 unfold salvage_finder_beside at h
 replace h := bnd0 h
 refine spec_of (by kernel_rfl) Tryz.func181 Y Y ?_
 intro w0 A
 refine Tr <| Rx Y (w_alloc (row := (.int .i64 0) :: ((List.map C47 (Vector.replicate 64 0).toList) ++ (((List.map C3 (Vector.replicate 64 0).toList) ++ ((.bool false) :: (.int .i64 0) :: (.bool false) :: []))))) 0 Y tZ76 (by kernel_rfl) (by exact Eq.symm (Eq.trans (b := 132) (lnC (n := 131) (lnA (m := 64) (n := 67) arL (lnA (m := 64) (n := 3) arL (lnC (n := 2) (lnC (n := 1) (lnC (n := 0) (lnN))))))) tZ_76.symm))) <| Rq Y (v_assign (ov Y)) <| R_nil <| T_keep (kc 0 Y <| kc 1 Y <| kc 2 Y <| kc 6 Y <| kn) Y <| Tr <| Rq Y (v_move (ov Y)) <| Rq Y (v_nilCheckR (ov Y)) <| Rq Y (v_fieldR (ov Y) tF217_0) <| Rq Y (v_loadS_r (ov Y) tS68 Y) <| Rq Y (v_move (ov Y)) ?_
 obtain ⟨y, h_y, h⟩ := bnd h
 refine Rq Y (v_call (ok_salvage_partly h_y) (.cons (ov Y) (.b Y) <| .cons (ov Y) (.b Y) <| .nil)) ?_
 refine Rq Y (v_move (ov Y)) ?_
 refine Rq Y (v_extract (ov Y) Y) ?_
 refine Rq Y (v_extract (ov Y) Y) ?_
 refine Rx Y (w_alloc (row := (List.map C47 (Vector.replicate 64 0).toList)) 1 Y tZ49 Y tZ_49) ?_
 refine Rx Y (w_alloc (row := (List.map C4 (Vector.replicate 64 false).toList)) 2 Y tZ224 Y tZ_224) ?_
 refine Rx Y (w_store (ov Y) (ov Y) (cells_agg tA49 arL) Y Y Y (put_le (at_all arL) arL) (cell1_all (arC fun _ => Y)) (put_all (Eq.trans arL (Eq.symm arL)))) ?_
 refine Rx Y (w_store (ov Y) (ov Y) (cells_agg tA224 arL) Y Y Y (put_le (at_all arL) arL) (cell1_all (arC fun _ => Y)) (put_all (Eq.trans arL (Eq.symm arL)))) ?_
 refine R_nil <| T_keep (kc 0 Y <| kc 1 Y <| kc 2 Y <| kc 6 Y <| kc 8 Y <| kc 9 Y <| kn) Y <| Tr <| Rq Y (v_move (ov Y)) <| Rq Y (v_move (ov Y)) <| Rq Y (v_move (ov Y)) <| Rq Y (v_loadA (ov Y) Y Y Y tA49 (at_sub (at_all arL)) arL (hns := (nsM fun _ => Y))) <| Rq Y (v_loadA (ov Y) Y Y Y tA224 (at_sub (at_all arL)) arL (hns := (nsM fun _ => Y))) ?_
 obtain ⟨y2, h_y2, h⟩ := bnd h
 refine Rq Y (v_call (ok_salvage_finder_number h_y2) (.cons (ov Y) (.b Y) <| .cons (ov Y) (.b Y) <| .cons (ov Y) (.b Y) <| .cons (ov Y) (.aggB (arD fun _ => Y)) <| .cons (ov Y) (.aggB (arD fun _ => Y)) <| .nil)) ?_
 refine Rq Y (v_move (ov Y)) ?_
 refine Rq Y (v_extract (ov Y) Y) ?_
 refine Rq Y (v_extract (ov Y) Y) ?_
 refine Rq Y (v_assign (ov Y)) ?_
 refine Rq Y (v_assign (ov Y)) ?_
 refine R_nil <| T_seq <| T_keep (kc 6 Y <| kc 8 Y <| kc 9 Y <| kc 10 Y <| kc 11 Y <| kn) Y <| Tr <| Rq Y (v_move (ov Y)) <| Rq Y (v_not (ov Y)) <| R_nil <| T_keep (kc 6 Y <| kc 8 Y <| kc 9 Y <| kc 10 Y <| kc 34 Y <| kn) Y <| T_if h Y (fun b34 h => ?_) (fun b34 h => ?_)
 ·
  refine T_keep (kc 6 Y <| kn) Y <| Tr <| Rq Y (v_buildX (zr := (.int .i64 0) :: ((List.map C47 (Vector.replicate 64 0).toList) ++ (((List.map C3 (Vector.replicate 64 0).toList) ++ ((.bool false) :: (.int .i64 0) :: (.bool false) :: []))))) tPL76 tHA76 tZ76 (by kernel_rfl) (.nil) (fa_nil)) <| Rx Y (w_store (ov Y) (ov Y) (cells_agg tA76 (lnC (n := 131) (lnA (m := 64) (n := 67) arL (lnA (m := 64) (n := 3) arL (lnC (n := 2) (lnC (n := 1) (lnC (n := 0) (lnN)))))))) Y Y Y (put_le (at_all (lnC (n := 131) (lnA (m := 64) (n := 67) arL (lnA (m := 64) (n := 3) arL (lnC (n := 2) (lnC (n := 1) (lnC (n := 0) (lnN)))))))) (lnC (n := 131) (lnA (m := 64) (n := 67) arL (lnA (m := 64) (n := 3) arL (lnC (n := 2) (lnC (n := 1) (lnC (n := 0) (lnN)))))))) (cell1_all (alC Y (alA (arC fun _ => Y) (alA (arC fun _ => Y) (alC Y (alC Y (alC Y (alN)))))))) (put_all (Eq.trans (lnC (n := 131) (lnA (m := 64) (n := 67) arL (lnA (m := 64) (n := 3) arL (lnC (n := 2) (lnC (n := 1) (lnC (n := 0) (lnN))))))) (Eq.symm (lnC (n := 131) (lnA (m := 64) (n := 67) arL (lnA (m := 64) (n := 3) arL (lnC (n := 2) (lnC (n := 1) (lnC (n := 0) (lnN))))))))))) <| Rq Y (v_assign (ov Y)) <| R_nil ?_
  obtain rfl := rt (v := ((api_Rest.mk 0 (Vector.replicate 64 0) (Vector.replicate 64 0) false 0 false), false)) h
  refine T_ret (retq ?_ (.two (.agg Y Y Y Y tA76 (at_sub (at_all (lnC (n := 131) (lnA (m := 64) (n := 67) arL (lnA (m := 64) (n := 3) arL (lnC (n := 2) (lnC (n := 1) (lnC (n := 0) (lnN))))))))) (lnC (n := 131) (lnA (m := 64) (n := 67) arL (lnA (m := 64) (n := 3) arL (lnC (n := 2) (lnC (n := 1) (lnC (n := 0) (lnN))))))) (pwB (alC Y (alA (arD fun _ => Y) (alA (arD fun _ => Y) (alC Y (alC Y (alC Y (alN)))))))) (hns := nsC Y (nsA (nsM fun _ => Y) (nsA (nsM fun _ => Y) (nsC Y (nsC Y (nsC Y (nsR Y)))))))) (.tmp Y (Dat.view (.b Y)))))
  rfl
 ·
  refine T_skip <| T_keep (kc 6 Y <| kc 8 Y <| kc 9 Y <| kc 10 Y <| kn) Y <| Tr <| Rq Y (v_move (ov Y)) <| Rq Y (v_buildX (zr := (.int .i64 0) :: ((List.map C47 (Vector.replicate 64 0).toList) ++ (((List.map C3 (Vector.replicate 64 0).toList) ++ ((.bool false) :: (.int .i64 0) :: (.bool false) :: []))))) tPL76 tHA76 tZ76 (by kernel_rfl) (.cons (cvs (ov Y) (cell1_b Y)) <| .nil) (fa_cons Y Y (at0 (hdc (n := 0) hd0)) (put1) <| fa_nil)) <| Rx Y (w_alloc (row := (.int .i64 0) :: ((List.map C47 (Vector.replicate 64 0).toList) ++ (((List.map C3 (Vector.replicate 64 0).toList) ++ ((.bool false) :: (.int .i64 0) :: (.bool false) :: []))))) 3 Y tZ76 (by kernel_rfl) (by exact Eq.symm (Eq.trans (b := 132) (lnC (n := 131) (lnA (m := 64) (n := 67) arL (lnA (m := 64) (n := 3) arL (lnC (n := 2) (lnC (n := 1) (lnC (n := 0) (lnN))))))) tZ_76.symm))) <| Rx Y (w_store (ov Y) (ov Y) (cells_agg tA76 (lnC (n := 131) (lnA (m := 64) (n := 67) arL (lnA (m := 64) (n := 3) arL (lnC (n := 2) (lnC (n := 1) (lnC (n := 0) (lnN)))))))) Y Y Y (put_le (at_all (lnC (n := 131) (lnA (m := 64) (n := 67) arL (lnA (m := 64) (n := 3) arL (lnC (n := 2) (lnC (n := 1) (lnC (n := 0) (lnN)))))))) (lnC (n := 131) (lnA (m := 64) (n := 67) arL (lnA (m := 64) (n := 3) arL (lnC (n := 2) (lnC (n := 1) (lnC (n := 0) (lnN)))))))) (cell1_all (alC Y (alA (arC fun _ => Y) (alA (arC fun _ => Y) (alC Y (alC Y (alC Y (alN)))))))) (put_all (Eq.trans (lnC (n := 131) (lnA (m := 64) (n := 67) arL (lnA (m := 64) (n := 3) arL (lnC (n := 2) (lnC (n := 1) (lnC (n := 0) (lnN))))))) (Eq.symm (lnC (n := 131) (lnA (m := 64) (n := 67) arL (lnA (m := 64) (n := 3) arL (lnC (n := 2) (lnC (n := 1) (lnC (n := 0) (lnN))))))))))) <| R_nil <| T_joinG id (t1 fun r_ => ⟨[(6, .ptr 0 1 0 0), (12, .ptr 1 1 0 0)], [some ⟨76, [(.int .i64 0) :: ((List.map C47 (Vector.replicate 64 0).toList) ++ (((List.map C3 (Vector.replicate 64 0).toList) ++ ((.bool false) :: (.int .i64 0) :: (.bool false) :: []))))]⟩, some ⟨76, [(.int .i64 r_.Number) :: ((List.map C47 r_.Frame.toList) ++ (((List.map C3 r_.States.toList) ++ ((.bool r_.Sound) :: (.int .i64 r_.Copies) :: (.bool r_.Conflict) :: []))))]⟩]⟩) h (fun h => ?_) (fun j h => ?_)
  ·
   refine T_keep (kc 6 Y <| kc 8 Y <| kc 9 Y <| kc 10 Y <| kc 12 Y <| kn) Y <| Tr <| Rq Y (v_loadA (ov Y) Y Y Y tA49 (at_sub (at_all arL)) arL (hns := (nsM fun _ => Y))) <| Rq Y (v_move (ov Y)) <| R_nil <| T_block ?_
   obtain ⟨r1, hl1, ho1⟩ := bndL h
   refine T_loopG _ (t2 fun r_2 i2 => ⟨[(6, .ptr 0 1 0 0), (9, .ptr 1 1 0 0), (10, .int .i64 y2.1), (12, .ptr 2 1 0 0), (38, .agg (List.map C47 y.1.toList)), (39, .int .i64 i2)], [some ⟨76, [(.int .i64 0) :: ((List.map C47 (Vector.replicate 64 0).toList) ++ (((List.map C3 (Vector.replicate 64 0).toList) ++ ((.bool false) :: (.int .i64 0) :: (.bool false) :: []))))]⟩, some ⟨224, [(List.map C4 y.2.toList)]⟩, some ⟨76, [(.int .i64 r_2.Number) :: ((List.map C47 r_2.Frame.toList) ++ (((List.map C3 r_2.States.toList) ++ ((.bool r_2.Sound) :: (.int .i64 r_2.Copies) :: (.bool r_2.Conflict) :: []))))]⟩]⟩) _ hl1 (Ent.sel [some 0, some 2, some 3] (sr 6 Y (.ptr _ _ _ Y) <| sr 9 Y (.ptr _ _ _ Y) <| sd 10 Y Y <| sr 12 Y (.ptr _ _ _ Y) <| sr 38 Y (rAgg (rld (arD fun _ => Y))) <| sd 39 Y Y <| sn) (.cons Y (ro1 (by exact Eq.trans (b := 132) (lnC (n := 131) (lnA (m := 64) (n := 67) arL (lnA (m := 64) (n := 3) arL (lnC (n := 2) (lnC (n := 1) (lnC (n := 0) (lnN))))))) tZ_76.symm) (rld (alC Y (alA (arD fun _ => Y) (alA (arD fun _ => Y) (alC Y (alC Y (alC Y (alN))))))))) <| .cons Y (ro1 (by exact Eq.trans (b := 64) arL tZ_224.symm) (rld (arD fun _ => Y))) <| .cons Y (ro1 (by exact Eq.trans (b := 132) (lnC (n := 131) (lnA (m := 64) (n := 67) arL (lnA (m := 64) (n := 3) arL (lnC (n := 2) (lnC (n := 1) (lnC (n := 0) (lnN))))))) tZ_76.symm) (rld (alC Y (alA (arD fun _ => Y) (alA (arD fun _ => Y) (alC Y (alC Y (alC Y (alN))))))))) <| .nil) Y Y) (fun n1 s1 h => ?_)
   obtain ⟨r_2, i2⟩ := s1
   replace h := t2i h
   refine t2T ?_
   unfold salvage_finder_beside_L1 at h
   refine Tr <| Rq Y (v_lss (ov Y) (ov Y)) <| R_nil <| T_seq <| T_if h Y (fun b40 h => ?_) (fun b40 h => ?_)
   ·
    refine T_skip <| T_seq <| T_block <| T_keep (kc 6 Y <| kc 9 Y <| kc 10 Y <| kc 12 Y <| kc 38 Y <| kc 39 Y <| kn) Y <| Tr <| Rq Y (v_move (ov Y)) ?_
    obtain ⟨x2, h_x2, h⟩ := bnd h
    refine Rq Y (v_indexVG (ov Y) (ov Y) tR49 tS47 h_x2) ?_
    refine Rq Y (v_assign (ov Y)) ?_
    refine Rq Y (v_assign (ov Y)) ?_
    refine R_nil <| T_keep (kc 6 Y <| kc 9 Y <| kc 10 Y <| kc 12 Y <| kc 13 Y <| kc 14 Y <| kc 38 Y <| kc 39 Y <| kn) Y <| Tr <| Rq Y (v_move (ov Y)) ?_
    obtain ⟨x3, h_x3, h⟩ := bnd h
    refine Rq Y (v_ixAG (ov Y) (ov Y) tR224 Y Y h_x3) ?_
    refine Rq Y (v_loadS (ov Y) Y Y Y tS4 (at_get (at_at (o := 0) (o' := (i2.toNat * 1)) (at_all arL) (at_v1 h_x3)))) ?_
    refine Rq Y (v_move (ov Y)) ?_
    refine Rq Y (.guarded (x3 == true) Y Y Y Y fun h => v_move (ov Y)) ?_
    refine Rq Y (.guarded (x3 == true) Y Y Y Y fun h => v_move (ov Y)) ?_
    refine Rq Y (.guarded (x3 == true) Y Y Y Y fun h => v_move (ov Y)) ?_
    obtain ⟨y3, h_y3, h⟩ := bnd h
    refine Rq Y (.guarded (x3 == true) Y Y Y Y fun h => v_call (ok_salvage_rightAlone (gdT h_y3 h)) (.cons (ow Y h) (.b Y) <| .cons (ow Y h) (.b Y) <| .cons (ow Y h) (.b Y) <| .nil)) ?_
    refine Rq Y (v_and (ov Y) (fun hp => ow Y (gT hp))) ?_
    refine R_nil <| T_keep (kc 6 Y <| kc 9 Y <| kc 10 Y <| kc 12 Y <| kc 13 Y <| kc 14 Y <| kc 38 Y <| kc 39 Y <| kc 51 Y <| kn) Y <| T_if h Y (fun b51 h => ?_) (fun b51 h => ?_)
    ·
     refine T_keep (kc 6 Y <| kc 9 Y <| kc 10 Y <| kc 12 Y <| kc 13 Y <| kc 14 Y <| kc 38 Y <| kc 39 Y <| kn) Y <| T_reg <| Rq Y (v_move (ov Y)) <| Rq Y (v_move (ov Y)) <| Rq Y (v_move (ov Y)) <| Rq Y (v_fieldP (ov Y) Y Y tF76_1) ?_
     obtain ⟨x4, h_x4, h⟩ := bnd h
     refine Rq Y (v_ixAG (ov Y) (ov Y) tR49 Y Y h_x4) ?_
     refine Rx Y (w_store (ov Y) (ov Y) (cells_scal tS47) Y Y Y (put_le (at_at (o := 1) (o' := (i2.toNat * 1)) (atc (o := 0) (at0 (hdw arL))) (at_v1 h_x4)) Y) (cell1_all Y) (put_put (o := 1) (o' := (i2.toNat * 1)) (atc (o := 0) (at0 (hdw arL))) (at_v1 h_x4) Y (put_v1 h_x4 (x := x2)) (putc (o := 0) (putw (Eq.trans arL (Eq.symm arL)))))) ?_
     refine Rq Y (v_fieldP (ov Y) Y Y tF76_2) ?_
     obtain ⟨x5, h_x5, h⟩ := bnd h
     refine Rq Y (v_ixAG (ov Y) (ov Y) tR74 Y Y h_x5) ?_
     refine Rx Y (w_store (ov Y) (ov Y) (cells_scal tS3) Y Y Y (put_le (at_at (o := 65) (o' := (i2.toNat * 1)) (atc (o := 64) (ata (m := 64) (o := 0) arL (at0 (hdw arL)))) (at_v1 h_x5)) Y) (cell1_all Y) (put_put (o := 65) (o' := (i2.toNat * 1)) (atc (o := 64) (ata (m := 64) (o := 0) arL (at0 (hdw arL)))) (at_v1 h_x5) Y (put_v1 h_x5 (x := 1)) (putc (o := 64) (puta (m := 64) (o := 0) arL (putw (Eq.trans arL (Eq.symm arL))))))) ?_
     refine R_nil <| T_keep (kc 6 Y <| kc 9 Y <| kc 10 Y <| kc 12 Y <| kc 38 Y <| kc 39 Y <| kn) Y <| T_reg <| Rq Y (v_add (ov Y) (ov Y) Y) <| Rq Y (v_move (ov Y)) <| R_nil ?_
     exact ⟨((api_Rest.mk r_2.Number (vset r_2.Frame i2 x2) (vset r_2.States i2 1) r_2.Sound r_2.Copies r_2.Conflict), (i64 (i2 + 1))), h, Ent.sel [some 0, some 1, some 2] (sr 6 Y (.ptr _ _ _ Y) <| sr 9 Y (.ptr _ _ _ Y) <| sd 10 Y Y <| sr 12 Y (.ptr _ _ _ Y) <| sr 38 Y (rAgg (rld (arD fun _ => Y))) <| sd 39 Y Y <| sn) (.cons Y (ro1 (by exact Eq.trans (b := 132) (lnC (n := 131) (lnA (m := 64) (n := 67) arL (lnA (m := 64) (n := 3) arL (lnC (n := 2) (lnC (n := 1) (lnC (n := 0) (lnN))))))) tZ_76.symm) (rld (alC Y (alA (arD fun _ => Y) (alA (arD fun _ => Y) (alC Y (alC Y (alC Y (alN))))))))) <| .cons Y (ro1 (by exact Eq.trans (b := 64) arL tZ_224.symm) (rld (arD fun _ => Y))) <| .cons Y (ro1 (by exact Eq.trans (b := 132) (lnC (n := 131) (lnA (m := 64) (n := 67) arL (lnA (m := 64) (n := 3) arL (lnC (n := 2) (lnC (n := 1) (lnC (n := 0) (lnN))))))) tZ_76.symm) (rld (alC Y (alA (arD fun _ => Y) (alA (arD fun _ => Y) (alC Y (alC Y (alC Y (alN))))))))) <| .nil) Y Y⟩
    ·
     refine T_skip <| T_keep (kc 6 Y <| kc 9 Y <| kc 10 Y <| kc 12 Y <| kc 38 Y <| kc 39 Y <| kn) Y <| T_reg <| Rq Y (v_add (ov Y) (ov Y) Y) <| Rq Y (v_move (ov Y)) <| R_nil ?_
     exact ⟨(r_2, (i64 (i2 + 1))), h, Ent.sel [some 0, some 1, some 2] (sr 6 Y (.ptr _ _ _ Y) <| sr 9 Y (.ptr _ _ _ Y) <| sd 10 Y Y <| sr 12 Y (.ptr _ _ _ Y) <| sr 38 Y (rAgg (rld (arD fun _ => Y))) <| sd 39 Y Y <| sn) (.cons Y (ro1 (by exact Eq.trans (b := 132) (lnC (n := 131) (lnA (m := 64) (n := 67) arL (lnA (m := 64) (n := 3) arL (lnC (n := 2) (lnC (n := 1) (lnC (n := 0) (lnN))))))) tZ_76.symm) (rld (alC Y (alA (arD fun _ => Y) (alA (arD fun _ => Y) (alC Y (alC Y (alC Y (alN))))))))) <| .cons Y (ro1 (by exact Eq.trans (b := 64) arL tZ_224.symm) (rld (arD fun _ => Y))) <| .cons Y (ro1 (by exact Eq.trans (b := 132) (lnC (n := 131) (lnA (m := 64) (n := 67) arL (lnA (m := 64) (n := 3) arL (lnC (n := 2) (lnC (n := 1) (lnC (n := 0) (lnN))))))) tZ_76.symm) (rld (alC Y (alA (arD fun _ => Y) (alA (arD fun _ => Y) (alC Y (alC Y (alC Y (alN))))))))) <| .nil) Y Y⟩
   ·
    refine T_exit ?_
    rw [lx h] at ho1
    replace h := ho1
    exact ⟨r_2, h, Ent.sel [some 0, some 2] (sr 6 Y (.ptr _ _ _ Y) <| sr 12 Y (.ptr _ _ _ Y) <| sn) (.cons Y (ro1 (by exact Eq.trans (b := 132) (lnC (n := 131) (lnA (m := 64) (n := 67) arL (lnA (m := 64) (n := 3) arL (lnC (n := 2) (lnC (n := 1) (lnC (n := 0) (lnN))))))) tZ_76.symm) (rld (alC Y (alA (arD fun _ => Y) (alA (arD fun _ => Y) (alC Y (alC Y (alC Y (alN))))))))) <| .cons Y (ro1 (by exact Eq.trans (b := 132) (lnC (n := 131) (lnA (m := 64) (n := 67) arL (lnA (m := 64) (n := 3) arL (lnC (n := 2) (lnC (n := 1) (lnC (n := 0) (lnN))))))) tZ_76.symm) (rld (alC Y (alA (arD fun _ => Y) (alA (arD fun _ => Y) (alC Y (alC Y (alC Y (alN))))))))) <| .nil) Y Y⟩
  ·
   obtain ⟨r_, rfl⟩ : ∃ x, x = j := ⟨_, rfl⟩
   replace h := t1i h
   refine t1T ?_
   refine T_seq (T_draw (cw := md0) (by kernel_rfl) ?_)
   refine Dq 0 Y Y Y (v_loadA (ov Y) Y Y Y tA76 (at_sub (at_all (lnC (n := 131) (lnA (m := 64) (n := 67) arL (lnA (m := 64) (n := 3) arL (lnC (n := 2) (lnC (n := 1) (lnC (n := 0) (lnN))))))))) (lnC (n := 131) (lnA (m := 64) (n := 67) arL (lnA (m := 64) (n := 3) arL (lnC (n := 2) (lnC (n := 1) (lnC (n := 0) (lnN))))))) (hns := nsC Y (nsA (nsM fun _ => Y) (nsA (nsM fun _ => Y) (nsC Y (nsC Y (nsC Y (nsR Y)))))))) ?_
   refine Dq 1 Y Y Y (v_loadA (ov Y) Y Y Y tA76 (at_sub (at_all (lnC (n := 131) (lnA (m := 64) (n := 67) arL (lnA (m := 64) (n := 3) arL (lnC (n := 2) (lnC (n := 1) (lnC (n := 0) (lnN))))))))) (lnC (n := 131) (lnA (m := 64) (n := 67) arL (lnA (m := 64) (n := 3) arL (lnC (n := 2) (lnC (n := 1) (lnC (n := 0) (lnN))))))) (hns := nsC Y (nsA (nsM fun _ => Y) (nsA (nsM fun _ => Y) (nsC Y (nsC Y (nsC Y (nsR Y)))))))) ?_
   obtain ⟨y4, h_y4, h⟩ := bnd h
   refine Dq 2 Y Y Y (v_call (ok_salvage_all h_y4) (.cons (ov Y) (.aggB (alC Y (alA (arD fun _ => Y) (alA (arD fun _ => Y) (alC Y (alC Y (alC Y (alN)))))))) <| .cons (ov Y) (.b Y) <| .nil)) ?_
   refine D_free 3 _ Y (by kernel_rfl) Y Y (fun hp' => v_not (ov Y)) ?_
   refine Do 4 Y Y Y (w_store (ov Y) (ov Y) (cells_agg tA76 (lnC (n := 131) (lnA (m := 64) (n := 67) arL (lnA (m := 64) (n := 3) arL (lnC (n := 2) (lnC (n := 1) (lnC (n := 0) (lnN)))))))) Y Y Y (put_le (at_all (lnC (n := 131) (lnA (m := 64) (n := 67) arL (lnA (m := 64) (n := 3) arL (lnC (n := 2) (lnC (n := 1) (lnC (n := 0) (lnN)))))))) (lnC (n := 131) (lnA (m := 64) (n := 67) arL (lnA (m := 64) (n := 3) arL (lnC (n := 2) (lnC (n := 1) (lnC (n := 0) (lnN)))))))) (cell1_all (alC Y (alA (arC fun _ => Y) (alA (arC fun _ => Y) (alC Y (alC Y (alC Y (alN)))))))) (put_all (Eq.trans (lnC (n := 131) (lnA (m := 64) (n := 67) arL (lnA (m := 64) (n := 3) arL (lnC (n := 2) (lnC (n := 1) (lnC (n := 0) (lnN))))))) (Eq.symm (lnC (n := 131) (lnA (m := 64) (n := 67) arL (lnA (m := 64) (n := 3) arL (lnC (n := 2) (lnC (n := 1) (lnC (n := 0) (lnN))))))))))) ?_
   refine Dq 5 Y Y Y (v_assign (ov Y)) ?_
   refine D_done (by kernel_rfl) ?_
   obtain rfl := rt (v := (r_, (!y4))) h
   refine T_ret (retq ?_ (.two (.agg Y Y Y Y tA76 (at_sub (at_all (lnC (n := 131) (lnA (m := 64) (n := 67) arL (lnA (m := 64) (n := 3) arL (lnC (n := 2) (lnC (n := 1) (lnC (n := 0) (lnN))))))))) (lnC (n := 131) (lnA (m := 64) (n := 67) arL (lnA (m := 64) (n := 3) arL (lnC (n := 2) (lnC (n := 1) (lnC (n := 0) (lnN))))))) (pwB (alC Y (alA (arD fun _ => Y) (alA (arD fun _ => Y) (alC Y (alC Y (alC Y (alN)))))))) (hns := nsC Y (nsA (nsM fun _ => Y) (nsA (nsM fun _ => Y) (nsC Y (nsC Y (nsC Y (nsR Y)))))))) (.tmp Y (Dat.view (.b Y)))))
   rfl

theorem ok_sortIL {xs r : List Int} (h : sortI xs = some r) :
  GSpec Tryz.prog gl0 245 [.own 0 xs.length] [some ⟨3, List.map R3 xs⟩] (.tuple []) [some ⟨3, List.map R3 r⟩] :=
 ok_sortI (g := R3) (fun _ => rfl) (by kernel_rfl) tZ_3 (fun _ _ _ _ _ h1 h2 h3 => Any.slices_Sort_int Tryz.lays189 _ _ _ _ _ h1 h2 h3) h

theorem ok_slices_IndexFunc_api_Rest_api_Rest {s : List api_Rest} {f : api_Rest → Option Bool} {r : Int} {f_f : FuncId} {f_c : List AV} (f_d : f_c.all datB = true) (f_h : ∀ (z0 : api_Rest) z, f z0 = some z → CSpec Tryz.prog gl0 f_f ([.agg ((.int .i64 z0.Number) :: ((List.map C47 z0.Frame.toList) ++ (((List.map C3 z0.States.toList) ++ ((.bool z0.Sound) :: (.int .i64 z0.Copies) :: (.bool z0.Conflict) :: [])))))] ++ f_c) (.bool z)) (h : slices_IndexFunc_api_Rest_api_Rest s f = some r) :
  CSpec Tryz.prog gl0 200 [.sl 76 (List.map R76 s), .fn f_f f_c] (.int .i64 r) := by
 unfold slices_IndexFunc_api_Rest_api_Rest at h
 replace h := bnd0 h
 refine spec_of (by kernel_rfl) Tryz.func200 Y Y ?_
 intro w0 A
 refine Tr <| Rq Y (v_assign (ov Y)) <| R_nil <| T_joinG (fun j => (.inr j)) (t0 ⟨[], []⟩) h (fun h => ?_) (fun j h => ?_)
 ·
  refine T_keep (kc 0 Y <| kc 1 Y <| kn) Y <| Tr <| Rq Y (v_move (ov Y)) <| Rq Y (v_len (slv_sl (ov Y) tZ_76) tL58 (len_map _ _)) <| Rq Y (v_move (ov Y)) <| R_nil <| T_block ?_
  obtain ⟨r1, hl1, ho1⟩ := bndL h
  refine T_loopG _ (t1 fun i => ⟨[(0, .sl 76 (List.map R76 s)), (1, .fn f_f f_c), (7, .int .i64 (s.length : Int)), (8, .int .i64 i)], []⟩) _ hl1 (Ent.sel [] (sd 0 Y Y <| sr 1 Y (rFn (rld f_d)) <| sd 7 Y Y <| sd 8 Y Y <| sn) (.nil) Y Y) (fun n1 s1 h => ?_)
  obtain ⟨i, rfl⟩ : ∃ x, x = s1 := ⟨_, rfl⟩
  replace h := t1i h
  refine t1T ?_
  unfold slices_IndexFunc_api_Rest_api_Rest_L1 at h
  refine Tr <| Rq Y (v_lss (ov Y) (ov Y)) <| R_nil <| T_seq <| T_if h Y (fun b9 h => ?_) (fun b9 h => ?_)
  ·
   refine T_skip <| T_seq <| T_block <| T_keep (kc 0 Y <| kc 1 Y <| kc 7 Y <| kc 8 Y <| kn) Y <| Tr <| Rq Y (v_move (ov Y)) <| Rq Y (v_assign (ov Y)) <| R_nil <| T_keep (kc 0 Y <| kc 1 Y <| kc 5 Y <| kc 7 Y <| kc 8 Y <| kn) Y <| Tr <| Rq Y (v_move (ov Y)) <| Rq Y (v_move (ov Y)) <| Rq Y (v_move (ov Y)) ?_
   obtain ⟨x, h_x, h⟩ := bnd h
   refine Rq Y (v_ixSG (ov Y) (ov Y) tL58 h_x) ?_
   refine Rq Y (v_loadA_r (ov Y) tA76 (at_sub (at_all (lnC (n := 131) (lnA (m := 64) (n := 67) arL (lnA (m := 64) (n := 3) arL (lnC (n := 2) (lnC (n := 1) (lnC (n := 0) (lnN))))))))) (lnC (n := 131) (lnA (m := 64) (n := 67) arL (lnA (m := 64) (n := 3) arL (lnC (n := 2) (lnC (n := 1) (lnC (n := 0) (lnN)))))))) ?_
   obtain ⟨y, h_y, h⟩ := bnd h
   refine Rq Y (v_callC (ov Y) f_d (f_h _ _ h_y) (.cons (ov Y) (.aggB (alC Y (alA (arD fun _ => Y) (alA (arD fun _ => Y) (alC Y (alC Y (alC Y (alN)))))))) <| .nil)) ?_
   refine R_nil <| T_keep (kc 0 Y <| kc 1 Y <| kc 5 Y <| kc 7 Y <| kc 8 Y <| kc 16 Y <| kn) Y <| T_if h Y (fun b16 h => ?_) (fun b16 h => ?_)
   ·
    refine T_keep (kc 5 Y <| kn) Y <| Tr <| Rq Y (v_move (ov Y)) <| Rq Y (v_assign (ov Y)) <| R_nil ?_
    rw [lx h] at ho1
    replace h := ho1
    obtain rfl := rt (v := i) h
    refine T_ret (retq ?_ (.one (.tmp Y (Dat.view (.b Y)))))
    rfl
   ·
    refine T_skip <| T_keep (kc 0 Y <| kc 1 Y <| kc 7 Y <| kc 8 Y <| kn) Y <| T_reg <| Rq Y (v_add (ov Y) (ov Y) Y) <| Rq Y (v_move (ov Y)) <| R_nil ?_
    exact ⟨(i64 (i + 1)), h, Ent.sel [] (sd 0 Y Y <| sr 1 Y (rFn (rld f_d)) <| sd 7 Y Y <| sd 8 Y Y <| sn) (.nil) Y Y⟩
  ·
   refine T_exit ?_
   rw [lx h] at ho1
   replace h := ho1
   exact ⟨(), h, Ent.sel [] (sn) (.nil) Y Y⟩
 ·
  replace h := elr h
  cases j
  replace h := t0i h
  refine t0T ?_
  refine Tr <| Rq Y (v_assign (ov Y)) <| R_nil ?_
  obtain rfl := rt (v := (-1)) h
  refine T_ret (retq ?_ (.one (.tmp Y (Dat.view (.b Y)))))
  rfl

theorem ok_slices_ContainsFunc_api_Rest_api_Rest {s : List api_Rest} {f : api_Rest → Option Bool} {r : Bool} {f_f : FuncId} {f_c : List AV} (f_d : f_c.all datB = true) (f_h : ∀ (z0 : api_Rest) z, f z0 = some z → CSpec Tryz.prog gl0 f_f ([.agg ((.int .i64 z0.Number) :: ((List.map C47 z0.Frame.toList) ++ (((List.map C3 z0.States.toList) ++ ((.bool z0.Sound) :: (.int .i64 z0.Copies) :: (.bool z0.Conflict) :: [])))))] ++ f_c) (.bool z)) (h : slices_ContainsFunc_api_Rest_api_Rest s f = some r) :
  CSpec Tryz.prog gl0 121 [.sl 76 (List.map R76 s), .fn f_f f_c] (.bool r) := by
 unfold slices_ContainsFunc_api_Rest_api_Rest at h
 replace h := bnd0 h
 refine spec_of (by kernel_rfl) Tryz.func121 Y Y ?_
 intro w0 A
 refine Tr <| Rq Y (v_assign (ov Y)) <| R_nil <| Tr <| Rq Y (v_move (ov Y)) <| Rq Y (v_move (ov Y)) ?_
 obtain ⟨y, h_y, h⟩ := bnd h
 refine Rq Y (v_call (ok_slices_IndexFunc_api_Rest_api_Rest f_d f_h h_y) (.cons (ov Y) (.b Y) <| .cons (ov Y) (Dat.fnC (.refl fun x hx => .b (List.all_eq_true.1 f_d x hx))) <| .nil)) ?_
 refine Rq Y (v_geq (ov Y) (ov Y)) ?_
 refine Rq Y (v_assign (ov Y)) ?_
 refine R_nil ?_
 obtain rfl := rt (v := (decide (0 ≤ y))) h
 refine T_ret (retq ?_ (.one (.tmp Y (Dat.view (.b Y)))))
 rfl

theorem ok_salvage_merge_1 {r_ : api_Rest} {r : Bool} (h : salvage_merge_1 r_ = some r) :
  CSpec Tryz.prog gl0 201 [.agg ((.int .i64 r_.Number) :: ((List.map C47 r_.Frame.toList) ++ (((List.map C3 r_.States.toList) ++ ((.bool r_.Sound) :: (.int .i64 r_.Copies) :: (.bool r_.Conflict) :: [])))))] (.bool r) := by
 unfold salvage_merge_1 at h
 replace h := bnd0 h
 refine spec_of (by kernel_rfl) Tryz.func201 Y Y ?_
 intro w0 A
 refine Tr <| Rq Y (v_boxD (cva (ov Y)) (lnC (n := 131) (lnA (m := 64) (n := 67) arL (lnA (m := 64) (n := 3) arL (lnC (n := 2) (lnC (n := 1) (lnC (n := 0) (lnN))))))) tZ_76 (alC Y (alA (arD fun _ => Y) (alA (arD fun _ => Y) (alC Y (alC Y (alC Y (alN)))))))) <| Rq Y (v_assign (ov Y)) <| R_nil <| T_keep (kc 1 Y <| kc 2 Y <| kn) Y <| Tr <| Rq Y (v_fieldR (ov Y) tF76_5) <| Rq Y (v_loadS_r (ov Y) tS4 (at_get (atc (o := 130) (ata (m := 64) (o := 66) arL (ata (m := 64) (o := 2) arL (atc (o := 1) (atc (o := 0) (at0 (hdc (n := 0) hd0))))))))) <| Rq Y (v_assign (ov Y)) <| R_nil ?_
 obtain rfl := rt (v := r_.Conflict) h
 refine T_ret (retq ?_ (.one (.tmp Y (Dat.view (.b Y)))))
 rfl

theorem ok_salvage_ofSound_w {out : api_Rest} {l : List api_Rest} {r : Bool × api_Rest} (h : salvage_ofSound out l = some r) :
  GSpec Tryz.prog gl0 202 [.ptr 0 1 0 0, .sl 76 (List.map R76 l)] [some ⟨76, [(.int .i64 out.Number) :: ((List.map C47 out.Frame.toList) ++ (((List.map C3 out.States.toList) ++ ((.bool out.Sound) :: (.int .i64 out.Copies) :: (.bool out.Conflict) :: []))))]⟩] (.bool r.1) [some ⟨76, [(.int .i64 r.2.Number) :: ((List.map C47 r.2.Frame.toList) ++ (((List.map C3 r.2.States.toList) ++ ((.bool r.2.Sound) :: (.int .i64 r.2.Copies) :: (.bool r.2.Conflict) :: []))))]⟩] := by
 unfold salvage_ofSound at h
 replace h := bnd0 h
 refine gspec_of (by kernel_rfl) Tryz.func202 Y Y ?_
 intro w0 A W φ0
 refine Tr <| Rq Y (v_assign (ov Y)) <| R_nil <| T_joinG (fun j => (.inr j)) (t1 fun o => ⟨[], [some ⟨76, [(.int .i64 o.Number) :: ((List.map C47 o.Frame.toList) ++ (((List.map C3 o.States.toList) ++ ((.bool o.Sound) :: (.int .i64 o.Copies) :: (.bool o.Conflict) :: []))))]⟩]⟩) h (fun h => ?_) (fun j h => ?_)
 ·
  refine T_keep (kc 0 Y <| kc 1 Y <| kn) Y <| Tr <| Rq Y (v_move (ov Y)) <| Rq Y (v_len (slv_sl (ov Y) tZ_76) tL58 (len_map _ _)) <| Rq Y (v_move (ov Y)) <| R_nil <| T_block ?_
  obtain ⟨r1, hl1, ho1⟩ := bndL h
  refine T_loopG _ (t2 fun o2 i => ⟨[(0, .ptr 0 1 0 0), (9, .sl 76 (List.map R76 l)), (10, .int .i64 (l.length : Int)), (11, .int .i64 i)], [some ⟨76, [(.int .i64 o2.Number) :: ((List.map C47 o2.Frame.toList) ++ (((List.map C3 o2.States.toList) ++ ((.bool o2.Sound) :: (.int .i64 o2.Copies) :: (.bool o2.Conflict) :: []))))]⟩]⟩) _ hl1 (Ent.sel [some 0] (sr 0 Y (.ptr _ _ _ Y) <| sd 9 Y Y <| sd 10 Y Y <| sd 11 Y Y <| sn) (.cons Y (ro1 (by exact Eq.trans (b := 132) (lnC (n := 131) (lnA (m := 64) (n := 67) arL (lnA (m := 64) (n := 3) arL (lnC (n := 2) (lnC (n := 1) (lnC (n := 0) (lnN))))))) tZ_76.symm) (rld (alC Y (alA (arD fun _ => Y) (alA (arD fun _ => Y) (alC Y (alC Y (alC Y (alN))))))))) <| .nil) Y Y) (fun n1 s1 h => ?_)
  obtain ⟨o2, i⟩ := s1
  replace h := t2i h
  refine t2T ?_
  unfold salvage_ofSound_L1 at h
  refine Tr <| Rq Y (v_lss (ov Y) (ov Y)) <| R_nil <| T_seq <| T_if h Y (fun b12 h => ?_) (fun b12 h => ?_)
  ·
   refine T_skip <| T_joinG (fun j => (.inr j)) (t1 fun o3 => ⟨[(0, .ptr 0 1 0 0), (9, .sl 76 (List.map R76 l)), (10, .int .i64 (l.length : Int)), (11, .int .i64 i)], [some ⟨76, [(.int .i64 o3.Number) :: ((List.map C47 o3.Frame.toList) ++ (((List.map C3 o3.States.toList) ++ ((.bool o3.Sound) :: (.int .i64 o3.Copies) :: (.bool o3.Conflict) :: []))))]⟩]⟩) h (fun h => ?_) (fun j h => ?_)
   ·
    refine T_block <| T_keep (kc 0 Y <| kc 9 Y <| kc 10 Y <| kc 11 Y <| kn) Y <| Tr ?_
    obtain ⟨x, h_x, h⟩ := bnd h
    refine Rq Y (v_ixSG (ov Y) (ov Y) tL58 h_x) ?_
    refine Rq Y (v_loadA_r (ov Y) tA76 (at_sub (at_all (lnC (n := 131) (lnA (m := 64) (n := 67) arL (lnA (m := 64) (n := 3) arL (lnC (n := 2) (lnC (n := 1) (lnC (n := 0) (lnN))))))))) (lnC (n := 131) (lnA (m := 64) (n := 67) arL (lnA (m := 64) (n := 3) arL (lnC (n := 2) (lnC (n := 1) (lnC (n := 0) (lnN)))))))) ?_
    refine Rx Y (w_alloc (row := (.int .i64 0) :: ((List.map C47 (Vector.replicate 64 0).toList) ++ (((List.map C3 (Vector.replicate 64 0).toList) ++ ((.bool false) :: (.int .i64 0) :: (.bool false) :: []))))) 1 Y tZ76 (by kernel_rfl) (by exact Eq.symm (Eq.trans (b := 132) (lnC (n := 131) (lnA (m := 64) (n := 67) arL (lnA (m := 64) (n := 3) arL (lnC (n := 2) (lnC (n := 1) (lnC (n := 0) (lnN))))))) tZ_76.symm))) ?_
    refine Rx Y (w_store (ov Y) (ov Y) (cells_agg tA76 (lnC (n := 131) (lnA (m := 64) (n := 67) arL (lnA (m := 64) (n := 3) arL (lnC (n := 2) (lnC (n := 1) (lnC (n := 0) (lnN)))))))) Y Y Y (put_le (at_all (lnC (n := 131) (lnA (m := 64) (n := 67) arL (lnA (m := 64) (n := 3) arL (lnC (n := 2) (lnC (n := 1) (lnC (n := 0) (lnN)))))))) (lnC (n := 131) (lnA (m := 64) (n := 67) arL (lnA (m := 64) (n := 3) arL (lnC (n := 2) (lnC (n := 1) (lnC (n := 0) (lnN)))))))) (cell1_all (alC Y (alA (arC fun _ => Y) (alA (arC fun _ => Y) (alC Y (alC Y (alC Y (alN)))))))) (put_all (Eq.trans (lnC (n := 131) (lnA (m := 64) (n := 67) arL (lnA (m := 64) (n := 3) arL (lnC (n := 2) (lnC (n := 1) (lnC (n := 0) (lnN))))))) (Eq.symm (lnC (n := 131) (lnA (m := 64) (n := 67) arL (lnA (m := 64) (n := 3) arL (lnC (n := 2) (lnC (n := 1) (lnC (n := 0) (lnN))))))))))) ?_
    refine R_nil <| T_seq <| T_keep (kc 0 Y <| kc 6 Y <| kc 9 Y <| kc 10 Y <| kc 11 Y <| kn) Y <| Tr <| Rq Y (v_fieldP (ov Y) Y Y tF76_3) <| Rq Y (v_loadS (ov Y) Y Y Y tS4 (at_get (atc (o := 128) (ata (m := 64) (o := 64) arL (ata (m := 64) (o := 0) arL (at0 (hdc (n := 0) hd0))))))) <| Rq Y (v_not (ov Y)) <| R_nil <| T_keep (kc 0 Y <| kc 6 Y <| kc 9 Y <| kc 10 Y <| kc 11 Y <| kc 17 Y <| kn) Y <| T_if h Y (fun b17 h => ?_) (fun b17 h => ?_)
    ·
     refine T_exit ?_
     exact ⟨o2, h, Ent.sel [some 0] (sr 0 Y (.ptr _ _ _ Y) <| sd 9 Y Y <| sd 10 Y Y <| sd 11 Y Y <| sn) (.cons Y (ro1 (by exact Eq.trans (b := 132) (lnC (n := 131) (lnA (m := 64) (n := 67) arL (lnA (m := 64) (n := 3) arL (lnC (n := 2) (lnC (n := 1) (lnC (n := 0) (lnN))))))) tZ_76.symm) (rld (alC Y (alA (arD fun _ => Y) (alA (arD fun _ => Y) (alC Y (alC Y (alC Y (alN))))))))) <| .nil) Y Y⟩
    ·
     refine T_skip <| T_seq <| T_keep (kc 0 Y <| kc 6 Y <| kc 9 Y <| kc 10 Y <| kc 11 Y <| kn) Y <| T_seq (T_draw (cw := md0) (by kernel_rfl) ?_)
     refine Dq 0 Y Y Y (v_move (ov Y)) ?_
     refine Dq 1 Y Y Y (v_nilCheckP (ov Y) Y Y) ?_
     refine Dq 2 Y Y Y (v_fieldP (ov Y) Y Y tF76_3) ?_
     refine Dq 3 Y Y Y (v_loadS (ov Y) Y Y Y tS4 (at_get (atc (o := 128) (ata (m := 64) (o := 64) arL (ata (m := 64) (o := 0) arL (at0 (hdc (n := 0) hd0))))))) ?_
     refine Dq 4 Y Y Y (v_move (ov Y)) ?_
     refine Dq 5 Y Y Y (.guarded (o2.Sound == true) Y Y Y Y fun h => v_move (ov Y)) ?_
     refine Dq 6 Y Y Y (.guarded (o2.Sound == true) Y Y Y Y fun h => v_nilCheckP (ow Y h) Y Y) ?_
     refine Dq 7 Y Y Y (.guarded (o2.Sound == true) Y Y Y Y fun h => v_fieldP (ow Y h) Y Y tF76_1) ?_
     refine Dq 8 Y Y Y (.guarded (o2.Sound == true) Y Y Y Y fun h => v_loadA (ow Y h) Y Y Y tA49 (at_sub (atc (o := 0) (at0 (hdw arL)))) arL (hns := (nsM fun _ => Y))) ?_
     refine Dq 9 Y Y Y (.guarded (o2.Sound == true) Y Y Y Y fun h => v_fieldP (ov Y) Y Y tF76_1) ?_
     refine Dq 10 Y Y Y (.guarded (o2.Sound == true) Y Y Y Y fun h => v_loadA (ow Y h) Y Y Y tA49 (at_sub (atc (o := 0) (at0 (hdw arL)))) arL (hns := (nsM fun _ => Y))) ?_
     refine Dq 11 Y Y Y (.guarded (o2.Sound == true) Y Y Y Y fun h => v_neqX tEq49 (ow Y h) (ow Y h) (.aggB (arD fun _ => Y)) (.aggB (arD fun _ => Y)) ((fkV fun _ => Y)) ((fkV fun _ => Y)) ((eqV fun _ _ => Y))) ?_
     refine Dq 12 Y Y Y (v_and (ov Y) (fun hp => ow Y (gT hp))) ?_
     refine D_done (by kernel_rfl) ?_
     refine T_keep (kc 0 Y <| kc 6 Y <| kc 9 Y <| kc 10 Y <| kc 11 Y <| kc 30 Y <| kn) Y <| T_if h Y (fun b30 h => ?_) (fun b30 h => ?_)
     ·
      refine T_keep (kn) Y <| Tr <| Rq Y (v_assign (ov Y)) <| R_nil ?_
      rw [lx h] at ho1
      replace h := ho1
      obtain rfl := rt (v := (false, o2)) h
      refine T_ret ?_
      exact retg [some 0] Y (.cons (.tmp Y) <| .nil) (.cons Y (ro1 (by exact Eq.trans (b := 132) (lnC (n := 131) (lnA (m := 64) (n := 67) arL (lnA (m := 64) (n := 3) arL (lnC (n := 2) (lnC (n := 1) (lnC (n := 0) (lnN))))))) tZ_76.symm) (rld (alC Y (alA (arD fun _ => Y) (alA (arD fun _ => Y) (alC Y (alC Y (alC Y (alN))))))))) <| .nil) Y Y (.dat Y)
     ·
      refine T_skip <| T_keep (kc 0 Y <| kc 6 Y <| kc 9 Y <| kc 10 Y <| kc 11 Y <| kn) Y <| T_seq (T_draw (cw := md0) (by kernel_rfl) ?_)
      refine Dq 0 Y Y Y (v_move (ov Y)) ?_
      refine Dq 4 Y Y Y (v_nilCheckP (ov Y) Y Y) ?_
      refine Dq 5 Y Y Y (v_fieldP (ov Y) Y Y tF76_3) ?_
      refine D_free 1 _ Y (by kernel_rfl) Y Y (fun hp' => v_move (ov Y)) ?_
      refine Dw 2 6 Y Y Y Y Y Y (v_fieldP (ov Y) Y Y tF76_1) (w_store (ov Y) (ov Y) (cells_scal tS4) Y Y Y (put_le (atc (o := 128) (ata (m := 64) (o := 64) arL (ata (m := 64) (o := 0) arL (at0 (hdc (n := 0) hd0))))) Y) (cell1_all Y) (putc (o := 128) (puta (m := 64) (o := 64) arL (puta (m := 64) (o := 0) arL (put1))))) ?_ ?_
      ·
       refine Dw 3 6 Y Y Y Y Y Y (v_loadA (ov Y) Y Y Y tA49 (at_sub (atc (o := 0) (at0 (hdw arL)))) arL (hns := (nsM fun _ => Y))) (w_store (ov Y) (ov Y) (cells_scal tS4) Y Y Y (put_le (atc (o := 128) (ata (m := 64) (o := 64) arL (ata (m := 64) (o := 0) arL (at0 (hdc (n := 0) hd0))))) Y) (cell1_all Y) (putc (o := 128) (puta (m := 64) (o := 64) arL (puta (m := 64) (o := 0) arL (put1))))) ?_ ?_
       ·
        refine Do 6 Y Y Y (w_store (ov Y) (ov Y) (cells_scal tS4) Y Y Y (put_le (atc (o := 128) (ata (m := 64) (o := 64) arL (ata (m := 64) (o := 0) arL (at0 (hdc (n := 0) hd0))))) Y) (cell1_all Y) (putc (o := 128) (puta (m := 64) (o := 64) arL (puta (m := 64) (o := 0) arL (put1))))) ?_
        refine Dq 7 Y Y Y (v_nilCheckP (ov Y) Y Y) ?_
        refine Dq 8 Y Y Y (v_fieldP (ov Y) Y Y tF76_1) ?_
        refine Do 9 Y Y Y (w_store (ov Y) (ov Y) (cells_agg tA49 arL) Y Y Y (put_le (atc (o := 0) (at0 (hdw arL))) arL) (cell1_all (arC fun _ => Y)) (putc (o := 0) (putw (Eq.trans arL (Eq.symm arL))))) ?_
        refine D_done (by kernel_rfl) ?_
        refine T_keep (kc 0 Y <| kc 6 Y <| kc 9 Y <| kc 10 Y <| kc 11 Y <| kn) Y <| Tr <| Rq Y (v_fieldP (ov Y) Y Y tF76_2) <| Rq Y (v_loadA (ov Y) Y Y Y tA74 (at_sub (atc (o := 64) (ata (m := 64) (o := 0) arL (at0 (hdw arL))))) arL (hns := (nsM fun _ => Y))) <| Rq Y (v_move (ov Y)) <| R_nil <| T_block ?_
        obtain ⟨r2, hl2, ho2⟩ := bnd h
        refine T_loopG _ (t2 fun States i2 => ⟨[(0, .ptr 0 1 0 0), (9, .sl 76 (List.map R76 l)), (10, .int .i64 (l.length : Int)), (11, .int .i64 i), (40, .agg (List.map C3 x.States.toList)), (41, .int .i64 i2)], [some ⟨76, [(.int .i64 o2.Number) :: ((List.map C47 x.Frame.toList) ++ (((List.map C3 States.toList) ++ ((.bool true) :: (.int .i64 o2.Copies) :: (.bool o2.Conflict) :: []))))]⟩]⟩) _ hl2 (Ent.sel [some 0] (sr 0 Y (.ptr _ _ _ Y) <| sd 9 Y Y <| sd 10 Y Y <| sd 11 Y Y <| sr 40 Y (rAgg (rld (arD fun _ => Y))) <| sd 41 Y Y <| sn) (.cons Y (ro1 (by exact Eq.trans (b := 132) (lnC (n := 131) (lnA (m := 64) (n := 67) arL (lnA (m := 64) (n := 3) arL (lnC (n := 2) (lnC (n := 1) (lnC (n := 0) (lnN))))))) tZ_76.symm) (rld (alC Y (alA (arD fun _ => Y) (alA (arD fun _ => Y) (alC Y (alC Y (alC Y (alN))))))))) <| .nil) Y Y) (fun n2 s2 h => ?_)
        obtain ⟨States, i2⟩ := s2
        replace h := t2i h
        refine t2T ?_
        unfold salvage_ofSound_L2 at h
        refine Tr <| Rq Y (v_lss (ov Y) (ov Y)) <| R_nil <| T_seq <| T_if h Y (fun b42 h => ?_) (fun b42 h => ?_)
        ·
         refine T_skip <| T_seq <| T_block <| T_keep (kc 0 Y <| kc 9 Y <| kc 10 Y <| kc 11 Y <| kc 40 Y <| kc 41 Y <| kn) Y <| Tr <| Rq Y (v_move (ov Y)) ?_
         obtain ⟨x2, h_x2, h⟩ := bnd h
         refine Rq Y (v_indexVG (ov Y) (ov Y) tR74 tS3 h_x2) ?_
         refine Rq Y (v_assign (ov Y)) ?_
         refine Rq Y (v_assign (ov Y)) ?_
         refine R_nil <| T_keep (kc 0 Y <| kc 7 Y <| kc 8 Y <| kc 9 Y <| kc 10 Y <| kc 11 Y <| kc 40 Y <| kc 41 Y <| kn) Y <| T_draw (cw := md0) (by kernel_rfl) <| Dq 0 Y Y Y (v_move (ov Y)) <| Dq 1 Y Y Y (v_move (ov Y)) <| Dq 2 Y Y Y (v_move (ov Y)) <| Dq 3 Y Y Y (v_move (ov Y)) <| Dq 4 Y Y Y (v_nilCheckP (ov Y) Y Y) <| Dq 5 Y Y Y (v_fieldP (ov Y) Y Y tF76_2) ?_
         obtain ⟨x3, h_x3, h⟩ := bnd h
         refine Dq 6 Y Y Y (v_ixAG (ov Y) (ov Y) tR74 Y Y h_x3) ?_
         refine Dq 7 Y Y Y (v_loadS (ov Y) Y Y Y tS3 (at_get (at_at (o := 65) (o' := (i2.toNat * 1)) (atc (o := 64) (ata (m := 64) (o := 0) arL (at0 (hdw arL)))) (at_v1 h_x3)))) ?_
         refine Dq 8 Y Y Y (v_move (ov Y)) ?_
         refine Dq 9 Y Y Y (v_max (ov Y) (ov Y) Y) ?_
         refine Dq 10 Y Y Y (v_nilCheckP (ov Y) Y Y) ?_
         refine Dq 11 Y Y Y (v_fieldP (ov Y) Y Y tF76_2) ?_
         obtain ⟨x4, h_x4, h⟩ := bnd h
         refine Dq 12 Y Y Y (v_ixAG (ov Y) (ov Y) tR74 Y Y h_x4) ?_
         refine Do 13 Y Y Y (w_store (ov Y) (ov Y) (cells_scal tS3) Y Y Y (put_le (at_at (o := 65) (o' := (i2.toNat * 1)) (atc (o := 64) (ata (m := 64) (o := 0) arL (at0 (hdw arL)))) (at_v1 h_x4)) Y) (cell1_all Y) (put_put (o := 65) (o' := (i2.toNat * 1)) (atc (o := 64) (ata (m := 64) (o := 0) arL (at0 (hdw arL)))) (at_v1 h_x4) Y (put_v1 h_x4 (x := (max x3 x2))) (putc (o := 64) (puta (m := 64) (o := 0) arL (putw (Eq.trans arL (Eq.symm arL))))))) ?_
         refine D_done (by kernel_rfl) ?_
         refine T_keep (kc 0 Y <| kc 9 Y <| kc 10 Y <| kc 11 Y <| kc 40 Y <| kc 41 Y <| kn) Y <| T_reg <| Rq Y (v_add (ov Y) (ov Y) Y) <| Rq Y (v_move (ov Y)) <| R_nil ?_
         exact ⟨((vset States i2 (max x3 x2)), (i64 (i2 + 1))), h, Ent.sel [some 0] (sr 0 Y (.ptr _ _ _ Y) <| sd 9 Y Y <| sd 10 Y Y <| sd 11 Y Y <| sr 40 Y (rAgg (rld (arD fun _ => Y))) <| sd 41 Y Y <| sn) (.cons Y (ro1 (by exact Eq.trans (b := 132) (lnC (n := 131) (lnA (m := 64) (n := 67) arL (lnA (m := 64) (n := 3) arL (lnC (n := 2) (lnC (n := 1) (lnC (n := 0) (lnN))))))) tZ_76.symm) (rld (alC Y (alA (arD fun _ => Y) (alA (arD fun _ => Y) (alC Y (alC Y (alC Y (alN))))))))) <| .nil) Y Y⟩
        ·
         refine T_exit ?_
         rw [lx h] at ho2
         replace h := ho2
         exact ⟨(api_Rest.mk o2.Number x.Frame States true o2.Copies o2.Conflict), h, Ent.sel [some 0] (sr 0 Y (.ptr _ _ _ Y) <| sd 9 Y Y <| sd 10 Y Y <| sd 11 Y Y <| sn) (.cons Y (ro1 (by exact Eq.trans (b := 132) (lnC (n := 131) (lnA (m := 64) (n := 67) arL (lnA (m := 64) (n := 3) arL (lnC (n := 2) (lnC (n := 1) (lnC (n := 0) (lnN))))))) tZ_76.symm) (rld (alC Y (alA (arD fun _ => Y) (alA (arD fun _ => Y) (alC Y (alC Y (alC Y (alN))))))))) <| .nil) Y Y⟩
       ·
        refine Dq 3 Y Y Y (v_loadA (ov Y) Y Y Y tA49 (at_sub (atc (o := 0) (at0 (hdw arL)))) arL (hns := (nsM fun _ => Y))) ?_
        refine Dq 7 Y Y Y (v_nilCheckP (ov Y) Y Y) ?_
        refine Dq 8 Y Y Y (v_fieldP (ov Y) Y Y tF76_1) ?_
        refine Do 9 Y Y Y (w_store (ov Y) (ov Y) (cells_agg tA49 arL) Y Y Y (put_le (atc (o := 0) (at0 (hdw arL))) arL) (cell1_all (arC fun _ => Y)) (putc (o := 0) (putw (Eq.trans arL (Eq.symm arL))))) ?_
        refine D_done (by kernel_rfl) ?_
        refine T_keep (kc 0 Y <| kc 6 Y <| kc 9 Y <| kc 10 Y <| kc 11 Y <| kn) Y <| Tr <| Rq Y (v_fieldP (ov Y) Y Y tF76_2) <| Rq Y (v_loadA (ov Y) Y Y Y tA74 (at_sub (atc (o := 64) (ata (m := 64) (o := 0) arL (at0 (hdw arL))))) arL (hns := (nsM fun _ => Y))) <| Rq Y (v_move (ov Y)) <| R_nil <| T_block ?_
        obtain ⟨r2, hl2, ho2⟩ := bnd h
        refine T_loopG _ (t2 fun States i2 => ⟨[(0, .ptr 0 1 0 0), (9, .sl 76 (List.map R76 l)), (10, .int .i64 (l.length : Int)), (11, .int .i64 i), (40, .agg (List.map C3 x.States.toList)), (41, .int .i64 i2)], [some ⟨76, [(.int .i64 o2.Number) :: ((List.map C47 x.Frame.toList) ++ (((List.map C3 States.toList) ++ ((.bool true) :: (.int .i64 o2.Copies) :: (.bool o2.Conflict) :: []))))]⟩]⟩) _ hl2 (Ent.sel [some 0] (sr 0 Y (.ptr _ _ _ Y) <| sd 9 Y Y <| sd 10 Y Y <| sd 11 Y Y <| sr 40 Y (rAgg (rld (arD fun _ => Y))) <| sd 41 Y Y <| sn) (.cons Y (ro1 (by exact Eq.trans (b := 132) (lnC (n := 131) (lnA (m := 64) (n := 67) arL (lnA (m := 64) (n := 3) arL (lnC (n := 2) (lnC (n := 1) (lnC (n := 0) (lnN))))))) tZ_76.symm) (rld (alC Y (alA (arD fun _ => Y) (alA (arD fun _ => Y) (alC Y (alC Y (alC Y (alN))))))))) <| .nil) Y Y) (fun n2 s2 h => ?_)
        obtain ⟨States, i2⟩ := s2
        replace h := t2i h
        refine t2T ?_
        unfold salvage_ofSound_L2 at h
        refine Tr <| Rq Y (v_lss (ov Y) (ov Y)) <| R_nil <| T_seq <| T_if h Y (fun b42 h => ?_) (fun b42 h => ?_)
        ·
         refine T_skip <| T_seq <| T_block <| T_keep (kc 0 Y <| kc 9 Y <| kc 10 Y <| kc 11 Y <| kc 40 Y <| kc 41 Y <| kn) Y <| Tr <| Rq Y (v_move (ov Y)) ?_
         obtain ⟨x2, h_x2, h⟩ := bnd h
         refine Rq Y (v_indexVG (ov Y) (ov Y) tR74 tS3 h_x2) ?_
         refine Rq Y (v_assign (ov Y)) ?_
         refine Rq Y (v_assign (ov Y)) ?_
         refine R_nil <| T_keep (kc 0 Y <| kc 7 Y <| kc 8 Y <| kc 9 Y <| kc 10 Y <| kc 11 Y <| kc 40 Y <| kc 41 Y <| kn) Y <| T_draw (cw := md0) (by kernel_rfl) <| Dq 0 Y Y Y (v_move (ov Y)) <| Dq 1 Y Y Y (v_move (ov Y)) <| Dq 2 Y Y Y (v_move (ov Y)) <| Dq 3 Y Y Y (v_move (ov Y)) <| Dq 4 Y Y Y (v_nilCheckP (ov Y) Y Y) <| Dq 5 Y Y Y (v_fieldP (ov Y) Y Y tF76_2) ?_
         obtain ⟨x3, h_x3, h⟩ := bnd h
         refine Dq 6 Y Y Y (v_ixAG (ov Y) (ov Y) tR74 Y Y h_x3) ?_
         refine Dq 7 Y Y Y (v_loadS (ov Y) Y Y Y tS3 (at_get (at_at (o := 65) (o' := (i2.toNat * 1)) (atc (o := 64) (ata (m := 64) (o := 0) arL (at0 (hdw arL)))) (at_v1 h_x3)))) ?_
         refine Dq 8 Y Y Y (v_move (ov Y)) ?_
         refine Dq 9 Y Y Y (v_max (ov Y) (ov Y) Y) ?_
         refine Dq 10 Y Y Y (v_nilCheckP (ov Y) Y Y) ?_
         refine Dq 11 Y Y Y (v_fieldP (ov Y) Y Y tF76_2) ?_
         obtain ⟨x4, h_x4, h⟩ := bnd h
         refine Dq 12 Y Y Y (v_ixAG (ov Y) (ov Y) tR74 Y Y h_x4) ?_
         refine Do 13 Y Y Y (w_store (ov Y) (ov Y) (cells_scal tS3) Y Y Y (put_le (at_at (o := 65) (o' := (i2.toNat * 1)) (atc (o := 64) (ata (m := 64) (o := 0) arL (at0 (hdw arL)))) (at_v1 h_x4)) Y) (cell1_all Y) (put_put (o := 65) (o' := (i2.toNat * 1)) (atc (o := 64) (ata (m := 64) (o := 0) arL (at0 (hdw arL)))) (at_v1 h_x4) Y (put_v1 h_x4 (x := (max x3 x2))) (putc (o := 64) (puta (m := 64) (o := 0) arL (putw (Eq.trans arL (Eq.symm arL))))))) ?_
         refine D_done (by kernel_rfl) ?_
         refine T_keep (kc 0 Y <| kc 9 Y <| kc 10 Y <| kc 11 Y <| kc 40 Y <| kc 41 Y <| kn) Y <| T_reg <| Rq Y (v_add (ov Y) (ov Y) Y) <| Rq Y (v_move (ov Y)) <| R_nil ?_
         exact ⟨((vset States i2 (max x3 x2)), (i64 (i2 + 1))), h, Ent.sel [some 0] (sr 0 Y (.ptr _ _ _ Y) <| sd 9 Y Y <| sd 10 Y Y <| sd 11 Y Y <| sr 40 Y (rAgg (rld (arD fun _ => Y))) <| sd 41 Y Y <| sn) (.cons Y (ro1 (by exact Eq.trans (b := 132) (lnC (n := 131) (lnA (m := 64) (n := 67) arL (lnA (m := 64) (n := 3) arL (lnC (n := 2) (lnC (n := 1) (lnC (n := 0) (lnN))))))) tZ_76.symm) (rld (alC Y (alA (arD fun _ => Y) (alA (arD fun _ => Y) (alC Y (alC Y (alC Y (alN))))))))) <| .nil) Y Y⟩
        ·
         refine T_exit ?_
         rw [lx h] at ho2
         replace h := ho2
         exact ⟨(api_Rest.mk o2.Number x.Frame States true o2.Copies o2.Conflict), h, Ent.sel [some 0] (sr 0 Y (.ptr _ _ _ Y) <| sd 9 Y Y <| sd 10 Y Y <| sd 11 Y Y <| sn) (.cons Y (ro1 (by exact Eq.trans (b := 132) (lnC (n := 131) (lnA (m := 64) (n := 67) arL (lnA (m := 64) (n := 3) arL (lnC (n := 2) (lnC (n := 1) (lnC (n := 0) (lnN))))))) tZ_76.symm) (rld (alC Y (alA (arD fun _ => Y) (alA (arD fun _ => Y) (alC Y (alC Y (alC Y (alN))))))))) <| .nil) Y Y⟩
      ·
       refine Dq 2 Y Y Y (v_fieldP (ov Y) Y Y tF76_1) ?_
       refine Dq 3 Y Y Y (v_loadA (ov Y) Y Y Y tA49 (at_sub (atc (o := 0) (at0 (hdw arL)))) arL (hns := (nsM fun _ => Y))) ?_
       refine Dq 7 Y Y Y (v_nilCheckP (ov Y) Y Y) ?_
       refine Dq 8 Y Y Y (v_fieldP (ov Y) Y Y tF76_1) ?_
       refine Do 9 Y Y Y (w_store (ov Y) (ov Y) (cells_agg tA49 arL) Y Y Y (put_le (atc (o := 0) (at0 (hdw arL))) arL) (cell1_all (arC fun _ => Y)) (putc (o := 0) (putw (Eq.trans arL (Eq.symm arL))))) ?_
       refine D_done (by kernel_rfl) ?_
       refine T_keep (kc 0 Y <| kc 6 Y <| kc 9 Y <| kc 10 Y <| kc 11 Y <| kn) Y <| Tr <| Rq Y (v_fieldP (ov Y) Y Y tF76_2) <| Rq Y (v_loadA (ov Y) Y Y Y tA74 (at_sub (atc (o := 64) (ata (m := 64) (o := 0) arL (at0 (hdw arL))))) arL (hns := (nsM fun _ => Y))) <| Rq Y (v_move (ov Y)) <| R_nil <| T_block ?_
       obtain ⟨r2, hl2, ho2⟩ := bnd h
       refine T_loopG _ (t2 fun States i2 => ⟨[(0, .ptr 0 1 0 0), (9, .sl 76 (List.map R76 l)), (10, .int .i64 (l.length : Int)), (11, .int .i64 i), (40, .agg (List.map C3 x.States.toList)), (41, .int .i64 i2)], [some ⟨76, [(.int .i64 o2.Number) :: ((List.map C47 x.Frame.toList) ++ (((List.map C3 States.toList) ++ ((.bool true) :: (.int .i64 o2.Copies) :: (.bool o2.Conflict) :: []))))]⟩]⟩) _ hl2 (Ent.sel [some 0] (sr 0 Y (.ptr _ _ _ Y) <| sd 9 Y Y <| sd 10 Y Y <| sd 11 Y Y <| sr 40 Y (rAgg (rld (arD fun _ => Y))) <| sd 41 Y Y <| sn) (.cons Y (ro1 (by exact Eq.trans (b := 132) (lnC (n := 131) (lnA (m := 64) (n := 67) arL (lnA (m := 64) (n := 3) arL (lnC (n := 2) (lnC (n := 1) (lnC (n := 0) (lnN))))))) tZ_76.symm) (rld (alC Y (alA (arD fun _ => Y) (alA (arD fun _ => Y) (alC Y (alC Y (alC Y (alN))))))))) <| .nil) Y Y) (fun n2 s2 h => ?_)
       obtain ⟨States, i2⟩ := s2
       replace h := t2i h
       refine t2T ?_
       unfold salvage_ofSound_L2 at h
       refine Tr <| Rq Y (v_lss (ov Y) (ov Y)) <| R_nil <| T_seq <| T_if h Y (fun b42 h => ?_) (fun b42 h => ?_)
       ·
        refine T_skip <| T_seq <| T_block <| T_keep (kc 0 Y <| kc 9 Y <| kc 10 Y <| kc 11 Y <| kc 40 Y <| kc 41 Y <| kn) Y <| Tr <| Rq Y (v_move (ov Y)) ?_
        obtain ⟨x2, h_x2, h⟩ := bnd h
        refine Rq Y (v_indexVG (ov Y) (ov Y) tR74 tS3 h_x2) ?_
        refine Rq Y (v_assign (ov Y)) ?_
        refine Rq Y (v_assign (ov Y)) ?_
        refine R_nil <| T_keep (kc 0 Y <| kc 7 Y <| kc 8 Y <| kc 9 Y <| kc 10 Y <| kc 11 Y <| kc 40 Y <| kc 41 Y <| kn) Y <| T_draw (cw := md0) (by kernel_rfl) <| Dq 0 Y Y Y (v_move (ov Y)) <| Dq 1 Y Y Y (v_move (ov Y)) <| Dq 2 Y Y Y (v_move (ov Y)) <| Dq 3 Y Y Y (v_move (ov Y)) <| Dq 4 Y Y Y (v_nilCheckP (ov Y) Y Y) <| Dq 5 Y Y Y (v_fieldP (ov Y) Y Y tF76_2) ?_
        obtain ⟨x3, h_x3, h⟩ := bnd h
        refine Dq 6 Y Y Y (v_ixAG (ov Y) (ov Y) tR74 Y Y h_x3) ?_
        refine Dq 7 Y Y Y (v_loadS (ov Y) Y Y Y tS3 (at_get (at_at (o := 65) (o' := (i2.toNat * 1)) (atc (o := 64) (ata (m := 64) (o := 0) arL (at0 (hdw arL)))) (at_v1 h_x3)))) ?_
        refine Dq 8 Y Y Y (v_move (ov Y)) ?_
        refine Dq 9 Y Y Y (v_max (ov Y) (ov Y) Y) ?_
        refine Dq 10 Y Y Y (v_nilCheckP (ov Y) Y Y) ?_
        refine Dq 11 Y Y Y (v_fieldP (ov Y) Y Y tF76_2) ?_
        obtain ⟨x4, h_x4, h⟩ := bnd h
        refine Dq 12 Y Y Y (v_ixAG (ov Y) (ov Y) tR74 Y Y h_x4) ?_
        refine Do 13 Y Y Y (w_store (ov Y) (ov Y) (cells_scal tS3) Y Y Y (put_le (at_at (o := 65) (o' := (i2.toNat * 1)) (atc (o := 64) (ata (m := 64) (o := 0) arL (at0 (hdw arL)))) (at_v1 h_x4)) Y) (cell1_all Y) (put_put (o := 65) (o' := (i2.toNat * 1)) (atc (o := 64) (ata (m := 64) (o := 0) arL (at0 (hdw arL)))) (at_v1 h_x4) Y (put_v1 h_x4 (x := (max x3 x2))) (putc (o := 64) (puta (m := 64) (o := 0) arL (putw (Eq.trans arL (Eq.symm arL))))))) ?_
        refine D_done (by kernel_rfl) ?_
        refine T_keep (kc 0 Y <| kc 9 Y <| kc 10 Y <| kc 11 Y <| kc 40 Y <| kc 41 Y <| kn) Y <| T_reg <| Rq Y (v_add (ov Y) (ov Y) Y) <| Rq Y (v_move (ov Y)) <| R_nil ?_
        exact ⟨((vset States i2 (max x3 x2)), (i64 (i2 + 1))), h, Ent.sel [some 0] (sr 0 Y (.ptr _ _ _ Y) <| sd 9 Y Y <| sd 10 Y Y <| sd 11 Y Y <| sr 40 Y (rAgg (rld (arD fun _ => Y))) <| sd 41 Y Y <| sn) (.cons Y (ro1 (by exact Eq.trans (b := 132) (lnC (n := 131) (lnA (m := 64) (n := 67) arL (lnA (m := 64) (n := 3) arL (lnC (n := 2) (lnC (n := 1) (lnC (n := 0) (lnN))))))) tZ_76.symm) (rld (alC Y (alA (arD fun _ => Y) (alA (arD fun _ => Y) (alC Y (alC Y (alC Y (alN))))))))) <| .nil) Y Y⟩
       ·
        refine T_exit ?_
        rw [lx h] at ho2
        replace h := ho2
        exact ⟨(api_Rest.mk o2.Number x.Frame States true o2.Copies o2.Conflict), h, Ent.sel [some 0] (sr 0 Y (.ptr _ _ _ Y) <| sd 9 Y Y <| sd 10 Y Y <| sd 11 Y Y <| sn) (.cons Y (ro1 (by exact Eq.trans (b := 132) (lnC (n := 131) (lnA (m := 64) (n := 67) arL (lnA (m := 64) (n := 3) arL (lnC (n := 2) (lnC (n := 1) (lnC (n := 0) (lnN))))))) tZ_76.symm) (rld (alC Y (alA (arD fun _ => Y) (alA (arD fun _ => Y) (alC Y (alC Y (alC Y (alN))))))))) <| .nil) Y Y⟩
   ·
    replace h := elr h
    obtain ⟨o3, rfl⟩ : ∃ x, x = j := ⟨_, rfl⟩
    replace h := t1i h
    refine t1T ?_
    refine T_reg <| Rq Y (v_add (ov Y) (ov Y) Y) <| Rq Y (v_move (ov Y)) <| R_nil ?_
    exact ⟨(o3, (i64 (i + 1))), h, Ent.sel [some 0] (sr 0 Y (.ptr _ _ _ Y) <| sd 9 Y Y <| sd 10 Y Y <| sd 11 Y Y <| sn) (.cons Y (ro1 (by exact Eq.trans (b := 132) (lnC (n := 131) (lnA (m := 64) (n := 67) arL (lnA (m := 64) (n := 3) arL (lnC (n := 2) (lnC (n := 1) (lnC (n := 0) (lnN))))))) tZ_76.symm) (rld (alC Y (alA (arD fun _ => Y) (alA (arD fun _ => Y) (alC Y (alC Y (alC Y (alN))))))))) <| .nil) Y Y⟩
  ·
   refine T_exit ?_
   rw [lx h] at ho1
   replace h := ho1
   exact ⟨o2, h, Ent.sel [some 0] (sn) (.cons Y (ro1 (by exact Eq.trans (b := 132) (lnC (n := 131) (lnA (m := 64) (n := 67) arL (lnA (m := 64) (n := 3) arL (lnC (n := 2) (lnC (n := 1) (lnC (n := 0) (lnN))))))) tZ_76.symm) (rld (alC Y (alA (arD fun _ => Y) (alA (arD fun _ => Y) (alC Y (alC Y (alC Y (alN))))))))) <| .nil) Y Y⟩
 ·
  replace h := elr h
  obtain ⟨o, rfl⟩ : ∃ x, x = j := ⟨_, rfl⟩
  replace h := t1i h
  refine t1T ?_
  refine Tr <| Rq Y (v_assign (ov Y)) <| R_nil ?_
  obtain rfl := rt (v := (true, o)) h
  refine T_ret ?_
  exact retg [some 0] Y (.cons (.tmp Y) <| .nil) (.cons Y (ro1 (by exact Eq.trans (b := 132) (lnC (n := 131) (lnA (m := 64) (n := 67) arL (lnA (m := 64) (n := 3) arL (lnC (n := 2) (lnC (n := 1) (lnC (n := 0) (lnN))))))) tZ_76.symm) (rld (alC Y (alA (arD fun _ => Y) (alA (arD fun _ => Y) (alC Y (alC Y (alC Y (alN))))))))) <| .nil) Y Y (.dat Y)

theorem ok_salvage_ofParts_w {out : api_Rest} {l : List api_Rest} {r : api_Rest} (h : salvage_ofParts out l = some r) :
  GSpec Tryz.prog gl0 203 [.ptr 0 1 0 0, .sl 76 (List.map R76 l)] [some ⟨76, [(.int .i64 out.Number) :: ((List.map C47 out.Frame.toList) ++ (((List.map C3 out.States.toList) ++ ((.bool out.Sound) :: (.int .i64 out.Copies) :: (.bool out.Conflict) :: []))))]⟩] (.tuple []) [some ⟨76, [(.int .i64 r.Number) :: ((List.map C47 r.Frame.toList) ++ (((List.map C3 r.States.toList) ++ ((.bool r.Sound) :: (.int .i64 r.Copies) :: (.bool r.Conflict) :: []))))]⟩] := by
 unfold salvage_ofParts at h
 replace h := bnd0 h
 refine gspec_of (by kernel_rfl) Tryz.func203 Y Y ?_
 intro w0 A W φ0
 refine Tr <| Rq Y (v_move (ov Y)) <| R_nil <| T_block ?_
 obtain ⟨r1, hl1, ho1⟩ := bndL h
 refine T_loopG _ (t2 fun o i => ⟨[(0, .ptr 0 1 0 0), (1, .sl 76 (List.map R76 l)), (8, .int .i64 i)], [some ⟨76, [(.int .i64 o.Number) :: ((List.map C47 o.Frame.toList) ++ (((List.map C3 o.States.toList) ++ ((.bool o.Sound) :: (.int .i64 o.Copies) :: (.bool o.Conflict) :: []))))]⟩]⟩) _ hl1 (Ent.sel [some 0] (sr 0 Y (.ptr _ _ _ Y) <| sd 1 Y Y <| sd 8 Y Y <| sn) (.cons Y (ro1 (by exact Eq.trans (b := 132) (lnC (n := 131) (lnA (m := 64) (n := 67) arL (lnA (m := 64) (n := 3) arL (lnC (n := 2) (lnC (n := 1) (lnC (n := 0) (lnN))))))) tZ_76.symm) (rld (alC Y (alA (arD fun _ => Y) (alA (arD fun _ => Y) (alC Y (alC Y (alC Y (alN))))))))) <| .nil) Y Y) (fun n1 s1 h => ?_)
 obtain ⟨o, i⟩ := s1
 replace h := t2i h
 refine t2T ?_
 unfold salvage_ofParts_L1 at h
 refine Tr <| Rq Y (v_lss (ov Y) (ov Y)) <| R_nil <| T_seq <| T_if h Y (fun b9 h => ?_) (fun b9 h => ?_)
 ·
  refine T_skip <| T_joinG id (t1 fun o2 => ⟨[(0, .ptr 0 1 0 0), (1, .sl 76 (List.map R76 l)), (8, .int .i64 i)], [some ⟨76, [(.int .i64 o2.Number) :: ((List.map C47 o2.Frame.toList) ++ (((List.map C3 o2.States.toList) ++ ((.bool o2.Sound) :: (.int .i64 o2.Copies) :: (.bool o2.Conflict) :: []))))]⟩]⟩) h (fun h => ?_) (fun j h => ?_)
  ·
   refine T_block <| T_keep (kc 0 Y <| kc 1 Y <| kc 8 Y <| kn) Y <| Tr <| Rq Y (v_move (ov Y)) <| Rq Y (v_assign (ov Y)) <| R_nil <| T_keep (kc 0 Y <| kc 1 Y <| kc 4 Y <| kc 8 Y <| kn) Y <| Tr <| Rq Y (v_assign (ov Y)) <| R_nil <| T_joinG id (t2 fun o3 differ => ⟨[(0, .ptr 0 1 0 0), (1, .sl 76 (List.map R76 l)), (4, .int .i64 i), (5, .bool differ), (8, .int .i64 i)], [some ⟨76, [(.int .i64 o3.Number) :: ((List.map C47 o3.Frame.toList) ++ (((List.map C3 o3.States.toList) ++ ((.bool o3.Sound) :: (.int .i64 o3.Copies) :: (.bool o3.Conflict) :: []))))]⟩]⟩) h (fun h => ?_) (fun j h => ?_)
   ·
    refine Tr <| Rq Y (v_move (ov Y)) <| Rq Y (v_len (slv_sl (ov Y) tZ_76) tL58 (len_map _ _)) <| Rq Y (v_move (ov Y)) <| R_nil <| T_block ?_
    obtain ⟨r2, hl2, ho2⟩ := bndL h
    refine T_loopG _ (t3 fun o4 differ2 i2 => ⟨[(0, .ptr 0 1 0 0), (1, .sl 76 (List.map R76 l)), (4, .int .i64 i), (5, .bool differ2), (8, .int .i64 i), (11, .sl 76 (List.map R76 l)), (12, .int .i64 (l.length : Int)), (13, .int .i64 i2)], [some ⟨76, [(.int .i64 o4.Number) :: ((List.map C47 o4.Frame.toList) ++ (((List.map C3 o4.States.toList) ++ ((.bool o4.Sound) :: (.int .i64 o4.Copies) :: (.bool o4.Conflict) :: []))))]⟩]⟩) _ hl2 (Ent.sel [some 0] (sr 0 Y (.ptr _ _ _ Y) <| sd 1 Y Y <| sd 4 Y Y <| sd 5 Y Y <| sd 8 Y Y <| sd 11 Y Y <| sd 12 Y Y <| sd 13 Y Y <| sn) (.cons Y (ro1 (by exact Eq.trans (b := 132) (lnC (n := 131) (lnA (m := 64) (n := 67) arL (lnA (m := 64) (n := 3) arL (lnC (n := 2) (lnC (n := 1) (lnC (n := 0) (lnN))))))) tZ_76.symm) (rld (alC Y (alA (arD fun _ => Y) (alA (arD fun _ => Y) (alC Y (alC Y (alC Y (alN))))))))) <| .nil) Y Y) (fun n2 s2 h => ?_)
    obtain ⟨o4, differ2, i2⟩ := s2
    replace h := t3i h
    refine t3T ?_
    unfold salvage_ofParts_L2 at h
    refine Tr <| Rq Y (v_lss (ov Y) (ov Y)) <| R_nil <| T_seq <| T_if h Y (fun b14 h => ?_) (fun b14 h => ?_)
    ·
     refine T_skip <| T_joinG id (t2 fun o5 differ3 => ⟨[(0, .ptr 0 1 0 0), (1, .sl 76 (List.map R76 l)), (4, .int .i64 i), (5, .bool differ3), (8, .int .i64 i), (11, .sl 76 (List.map R76 l)), (12, .int .i64 (l.length : Int)), (13, .int .i64 i2)], [some ⟨76, [(.int .i64 o5.Number) :: ((List.map C47 o5.Frame.toList) ++ (((List.map C3 o5.States.toList) ++ ((.bool o5.Sound) :: (.int .i64 o5.Copies) :: (.bool o5.Conflict) :: []))))]⟩]⟩) h (fun h => ?_) (fun j h => ?_)
     ·
      refine T_block <| T_keep (kc 0 Y <| kc 1 Y <| kc 4 Y <| kc 5 Y <| kc 8 Y <| kc 11 Y <| kc 12 Y <| kc 13 Y <| kn) Y <| Tr ?_
      obtain ⟨x, h_x, h⟩ := bnd h
      refine Rq Y (v_ixSG (ov Y) (ov Y) tL58 h_x) ?_
      refine Rq Y (v_loadA_r (ov Y) tA76 (at_sub (at_all (lnC (n := 131) (lnA (m := 64) (n := 67) arL (lnA (m := 64) (n := 3) arL (lnC (n := 2) (lnC (n := 1) (lnC (n := 0) (lnN))))))))) (lnC (n := 131) (lnA (m := 64) (n := 67) arL (lnA (m := 64) (n := 3) arL (lnC (n := 2) (lnC (n := 1) (lnC (n := 0) (lnN)))))))) ?_
      refine Rx Y (w_alloc (row := (.int .i64 0) :: ((List.map C47 (Vector.replicate 64 0).toList) ++ (((List.map C3 (Vector.replicate 64 0).toList) ++ ((.bool false) :: (.int .i64 0) :: (.bool false) :: []))))) 1 Y tZ76 (by kernel_rfl) (by exact Eq.symm (Eq.trans (b := 132) (lnC (n := 131) (lnA (m := 64) (n := 67) arL (lnA (m := 64) (n := 3) arL (lnC (n := 2) (lnC (n := 1) (lnC (n := 0) (lnN))))))) tZ_76.symm))) ?_
      refine Rx Y (w_store (ov Y) (ov Y) (cells_agg tA76 (lnC (n := 131) (lnA (m := 64) (n := 67) arL (lnA (m := 64) (n := 3) arL (lnC (n := 2) (lnC (n := 1) (lnC (n := 0) (lnN)))))))) Y Y Y (put_le (at_all (lnC (n := 131) (lnA (m := 64) (n := 67) arL (lnA (m := 64) (n := 3) arL (lnC (n := 2) (lnC (n := 1) (lnC (n := 0) (lnN)))))))) (lnC (n := 131) (lnA (m := 64) (n := 67) arL (lnA (m := 64) (n := 3) arL (lnC (n := 2) (lnC (n := 1) (lnC (n := 0) (lnN)))))))) (cell1_all (alC Y (alA (arC fun _ => Y) (alA (arC fun _ => Y) (alC Y (alC Y (alC Y (alN)))))))) (put_all (Eq.trans (lnC (n := 131) (lnA (m := 64) (n := 67) arL (lnA (m := 64) (n := 3) arL (lnC (n := 2) (lnC (n := 1) (lnC (n := 0) (lnN))))))) (Eq.symm (lnC (n := 131) (lnA (m := 64) (n := 67) arL (lnA (m := 64) (n := 3) arL (lnC (n := 2) (lnC (n := 1) (lnC (n := 0) (lnN))))))))))) ?_
      refine R_nil <| T_seq <| T_keep (kc 0 Y <| kc 1 Y <| kc 4 Y <| kc 5 Y <| kc 7 Y <| kc 8 Y <| kc 11 Y <| kc 12 Y <| kc 13 Y <| kn) Y <| Tr <| Rq Y (v_move (ov Y)) <| Rq Y (v_fieldP (ov Y) Y Y tF76_2) ?_
      obtain ⟨x2, h_x2, h⟩ := bnd h
      refine Rq Y (v_ixAG (ov Y) (ov Y) tR74 Y Y h_x2) ?_
      refine Rq Y (v_loadS (ov Y) Y Y Y tS3 (at_get (at_at (o := 65) (o' := (i.toNat * 1)) (atc (o := 64) (ata (m := 64) (o := 0) arL (at0 (hdw arL)))) (at_v1 h_x2)))) ?_
      refine Rq Y (v_eql (ov Y) (ov Y)) ?_
      refine R_nil <| T_keep (kc 0 Y <| kc 1 Y <| kc 4 Y <| kc 5 Y <| kc 7 Y <| kc 8 Y <| kc 11 Y <| kc 12 Y <| kc 13 Y <| kc 21 Y <| kn) Y <| T_if h Y (fun b21 h => ?_) (fun b21 h => ?_)
      ·
       refine T_exit ?_
       exact ⟨(o4, differ2), h, Ent.sel [some 0] (sr 0 Y (.ptr _ _ _ Y) <| sd 1 Y Y <| sd 4 Y Y <| sd 5 Y Y <| sd 8 Y Y <| sd 11 Y Y <| sd 12 Y Y <| sd 13 Y Y <| sn) (.cons Y (ro1 (by exact Eq.trans (b := 132) (lnC (n := 131) (lnA (m := 64) (n := 67) arL (lnA (m := 64) (n := 3) arL (lnC (n := 2) (lnC (n := 1) (lnC (n := 0) (lnN))))))) tZ_76.symm) (rld (alC Y (alA (arD fun _ => Y) (alA (arD fun _ => Y) (alC Y (alC Y (alC Y (alN))))))))) <| .nil) Y Y⟩
      ·
       refine T_skip <| T_keep (kc 0 Y <| kc 1 Y <| kc 4 Y <| kc 5 Y <| kc 7 Y <| kc 8 Y <| kc 11 Y <| kc 12 Y <| kc 13 Y <| kn) Y <| T_seq (T_draw (cw := md0) (by kernel_rfl) ?_)
       refine Dq 0 Y Y Y (v_move (ov Y)) ?_
       refine Dq 1 Y Y Y (v_move (ov Y)) ?_
       refine Dq 2 Y Y Y (.guarded (differ2 == false) Y Y Y Y fun h => v_move (ov Y)) ?_
       refine Dq 3 Y Y Y (.guarded (differ2 == false) Y Y Y Y fun h => v_move (ov Y)) ?_
       refine Dq 4 Y Y Y (.guarded (differ2 == false) Y Y Y Y fun h => v_nilCheckP (ow Y h) Y Y) ?_
       refine Dq 5 Y Y Y (.guarded (differ2 == false) Y Y Y Y fun h => v_fieldP (ow Y h) Y Y tF76_2) ?_
       obtain ⟨x3, h_x3, h⟩ := bnd h
       refine Dq 6 Y Y Y (.guarded (differ2 == false) Y Y Y Y fun h => v_ixAG (ow Y h) (ow Y h) tR74 Y Y (gdT h_x3 h)) ?_
       refine Dq 7 Y Y Y (.guarded (differ2 == false) Y Y Y Y fun h => v_loadS (ow Y h) Y Y Y tS3 (at_get (at_at (o := 65) (o' := (i.toNat * 1)) (atc (o := 64) (ata (m := 64) (o := 0) arL (at0 (hdw arL)))) (at_v1 (gdT h_x3 h))))) ?_
       refine Dq 8 Y Y Y (.guarded (differ2 == false) Y Y Y Y fun h => v_neq (ow Y h) (ov Y)) ?_
       refine Dq 9 Y Y Y (.guarded (differ2 == false) Y Y Y Y fun h => v_move (ow Y h)) ?_
       refine Dq 10 Y Y Y (.guarded2 ((differ2 == false) && ((!decide (x3 = 0)) == true)) Y Y Y Y fun h => v_move (ov Y)) ?_
       refine Dq 11 Y Y Y (.guarded2 ((differ2 == false) && ((!decide (x3 = 0)) == true)) Y Y Y Y fun h => v_move (ov Y)) ?_
       refine Dq 12 Y Y Y (.guarded2 ((differ2 == false) && ((!decide (x3 = 0)) == true)) Y Y Y Y fun h => v_nilCheckP (ow Y h) Y Y) ?_
       refine Dq 13 Y Y Y (.guarded2 ((differ2 == false) && ((!decide (x3 = 0)) == true)) Y Y Y Y fun h => v_fieldP (ow Y h) Y Y tF76_1) ?_
       obtain ⟨x4, h_x4, h⟩ := bnd h
       refine Dq 14 Y Y Y (.guarded2 ((differ2 == false) && ((!decide (x3 = 0)) == true)) Y Y Y Y fun h => v_ixAG (ow Y h) (ow Y h) tR49 Y Y (gdT h_x4 h)) ?_
       refine Dq 15 Y Y Y (.guarded2 ((differ2 == false) && ((!decide (x3 = 0)) == true)) Y Y Y Y fun h => v_loadS (ow Y h) Y Y Y tS47 (at_get (at_at (o := 1) (o' := (i.toNat * 1)) (atc (o := 0) (at0 (hdw arL))) (at_v1 (gdT h_x4 h))))) ?_
       refine Dq 16 Y Y Y (.guarded2 ((differ2 == false) && ((!decide (x3 = 0)) == true)) Y Y Y Y fun h => v_move (ov Y)) ?_
       refine Dq 17 Y Y Y (.guarded2 ((differ2 == false) && ((!decide (x3 = 0)) == true)) Y Y Y Y fun h => v_fieldP (ov Y) Y Y tF76_1) ?_
       obtain ⟨x5, h_x5, h⟩ := bnd h
       refine Dq 18 Y Y Y (.guarded2 ((differ2 == false) && ((!decide (x3 = 0)) == true)) Y Y Y Y fun h => v_ixAG (ow Y h) (ow Y h) tR49 Y Y (gdT h_x5 h)) ?_
       refine Dq 19 Y Y Y (.guarded2 ((differ2 == false) && ((!decide (x3 = 0)) == true)) Y Y Y Y fun h => v_loadS (ow Y h) Y Y Y tS47 (at_get (at_at (o := 1) (o' := (i.toNat * 1)) (atc (o := 0) (at0 (hdw arL))) (at_v1 (gdT h_x5 h))))) ?_
       refine Dq 20 Y Y Y (.guarded2 ((differ2 == false) && ((!decide (x3 = 0)) == true)) Y Y Y Y fun h => v_neq (ow Y h) (ow Y h)) ?_
       refine Dq 21 Y Y Y (.guarded (differ2 == false) Y Y Y Y fun h => v_and (ow Y h) (fun hp => ow Y (gA h (gT hp)))) ?_
       refine Dq 22 Y Y Y (v_or (ov Y) (fun hp => ow Y (gF hp))) ?_
       refine Dq 23 Y Y Y (v_assign (ov Y)) ?_
       refine D_done (by kernel_rfl) ?_
       refine T_keep (kc 0 Y <| kc 1 Y <| kc 4 Y <| kc 5 Y <| kc 7 Y <| kc 8 Y <| kc 11 Y <| kc 12 Y <| kc 13 Y <| kn) Y <| T_draw (cw := md0) (by kernel_rfl) <| Dq 0 Y Y Y (v_move (ov Y)) <| Dq 1 Y Y Y (v_move (ov Y)) <| Dq 8 Y Y Y (v_nilCheckP (ov Y) Y Y) <| Dq 9 Y Y Y (v_fieldP (ov Y) Y Y tF76_2) ?_
       obtain ⟨x6, h_x6, h⟩ := bnd h
       refine Dq 10 Y Y Y (v_ixAG (ov Y) (ov Y) tR74 Y Y h_x6) ?_
       refine D_free 2 _ Y (by kernel_rfl) Y Y (fun hp' => v_move (ov Y)) ?_
       refine D_free 3 _ Y (by kernel_rfl) Y Y (fun hp' => v_move (ov Y)) ?_
       refine D_free 4 _ Y (by kernel_rfl) Y Y (fun hp' => v_move (ov Y)) ?_
       refine D_many [5, 11, 12] (by kernel_rfl) (.q Y Y Y (v_fieldP (ov Y) Y Y tF76_1) ?_ <| .w Y Y Y (fun h => by cases h) (fun h => by cases h) (w_store (ov Y) (ov Y) (cells_scal tS3) Y Y Y (put_le (at_at (o := 65) (o' := (i.toNat * 1)) (atc (o := 64) (ata (m := 64) (o := 0) arL (at0 (hdw arL)))) (at_v1 h_x6)) Y) (cell1_all Y) (put_put (o := 65) (o' := (i.toNat * 1)) (atc (o := 64) (ata (m := 64) (o := 0) arL (at0 (hdw arL)))) (at_v1 h_x6) Y (put_v1 h_x6 (x := 1)) (putc (o := 64) (puta (m := 64) (o := 0) arL (putw (Eq.trans arL (Eq.symm arL))))))) ?_ <| .q Y Y Y (v_nilCheckP (ov Y) Y Y) ?_ <| .nil) 
       ·
        obtain ⟨x7, h_x7, h⟩ := bnd h
        refine D_many [6, 11, 12] (by kernel_rfl) (.q Y Y Y (v_ixAG (ov Y) (ov Y) tR49 Y Y h_x7) ?_ <| .w Y Y Y (fun h => by cases h) (fun h => by cases h) (w_store (ov Y) (ov Y) (cells_scal tS3) Y Y Y (put_le (at_at (o := 65) (o' := (i.toNat * 1)) (atc (o := 64) (ata (m := 64) (o := 0) arL (at0 (hdw arL)))) (at_v1 h_x6)) Y) (cell1_all Y) (put_put (o := 65) (o' := (i.toNat * 1)) (atc (o := 64) (ata (m := 64) (o := 0) arL (at0 (hdw arL)))) (at_v1 h_x6) Y (put_v1 h_x6 (x := 1)) (putc (o := 64) (puta (m := 64) (o := 0) arL (putw (Eq.trans arL (Eq.symm arL))))))) ?_ <| .q Y Y Y (v_nilCheckP (ov Y) Y Y) ?_ <| .nil) 
        ·
         refine D_many [7, 11, 12] (by kernel_rfl) (.q Y Y Y (v_loadS (ov Y) Y Y Y tS47 (at_get (at_at (o := 1) (o' := (i.toNat * 1)) (atc (o := 0) (at0 (hdw arL))) (at_v1 h_x7)))) ?_ <| .w Y Y Y (fun h => by cases h) (fun h => by cases h) (w_store (ov Y) (ov Y) (cells_scal tS3) Y Y Y (put_le (at_at (o := 65) (o' := (i.toNat * 1)) (atc (o := 64) (ata (m := 64) (o := 0) arL (at0 (hdw arL)))) (at_v1 h_x6)) Y) (cell1_all Y) (put_put (o := 65) (o' := (i.toNat * 1)) (atc (o := 64) (ata (m := 64) (o := 0) arL (at0 (hdw arL)))) (at_v1 h_x6) Y (put_v1 h_x6 (x := 1)) (putc (o := 64) (puta (m := 64) (o := 0) arL (putw (Eq.trans arL (Eq.symm arL))))))) ?_ <| .q Y Y Y (v_nilCheckP (ov Y) Y Y) ?_ <| .nil) 
         ·
          refine Dw 12 11 Y Y Y Y Y Y (v_nilCheckP (ov Y) Y Y) (w_store (ov Y) (ov Y) (cells_scal tS3) Y Y Y (put_le (at_at (o := 65) (o' := (i.toNat * 1)) (atc (o := 64) (ata (m := 64) (o := 0) arL (at0 (hdw arL)))) (at_v1 h_x6)) Y) (cell1_all Y) (put_put (o := 65) (o' := (i.toNat * 1)) (atc (o := 64) (ata (m := 64) (o := 0) arL (at0 (hdw arL)))) (at_v1 h_x6) Y (put_v1 h_x6 (x := 1)) (putc (o := 64) (puta (m := 64) (o := 0) arL (putw (Eq.trans arL (Eq.symm arL))))))) ?_ ?_
          ·
           refine Dw 13 11 Y Y Y Y Y Y (v_fieldP (ov Y) Y Y tF76_1) (w_store (ov Y) (ov Y) (cells_scal tS3) Y Y Y (put_le (at_at (o := 65) (o' := (i.toNat * 1)) (atc (o := 64) (ata (m := 64) (o := 0) arL (at0 (hdw arL)))) (at_v1 h_x6)) Y) (cell1_all Y) (put_put (o := 65) (o' := (i.toNat * 1)) (atc (o := 64) (ata (m := 64) (o := 0) arL (at0 (hdw arL)))) (at_v1 h_x6) Y (put_v1 h_x6 (x := 1)) (putc (o := 64) (puta (m := 64) (o := 0) arL (putw (Eq.trans arL (Eq.symm arL))))))) ?_ ?_
           ·
            refine Do 11 Y Y Y (w_store (ov Y) (ov Y) (cells_scal tS3) Y Y Y (put_le (at_at (o := 65) (o' := (i.toNat * 1)) (atc (o := 64) (ata (m := 64) (o := 0) arL (at0 (hdw arL)))) (at_v1 h_x6)) Y) (cell1_all Y) (put_put (o := 65) (o' := (i.toNat * 1)) (atc (o := 64) (ata (m := 64) (o := 0) arL (at0 (hdw arL)))) (at_v1 h_x6) Y (put_v1 h_x6 (x := 1)) (putc (o := 64) (puta (m := 64) (o := 0) arL (putw (Eq.trans arL (Eq.symm arL))))))) ?_
            obtain ⟨x8, h_x8, h⟩ := bnd h
            refine Dq 14 Y Y Y (v_ixAG (ov Y) (ov Y) tR49 Y Y h_x8) ?_
            refine Do 15 Y Y Y (w_store (ov Y) (ov Y) (cells_scal tS47) Y Y Y (put_le (at_at (o := 1) (o' := (i.toNat * 1)) (atc (o := 0) (at0 (hdw arL))) (at_v1 h_x8)) Y) (cell1_all Y) (put_put (o := 1) (o' := (i.toNat * 1)) (atc (o := 0) (at0 (hdw arL))) (at_v1 h_x8) Y (put_v1 h_x8 (x := x7)) (putc (o := 0) (putw (Eq.trans arL (Eq.symm arL)))))) ?_
            refine D_done (by kernel_rfl) ?_
            exact ⟨((api_Rest.mk o4.Number (vset o4.Frame i x7) (vset o4.States i 1) o4.Sound o4.Copies o4.Conflict), (differ2 || ((!decide (x3 = 0)) && (!decide (x4 = x5))))), h, Ent.sel [some 0] (sr 0 Y (.ptr _ _ _ Y) <| sd 1 Y Y <| sd 4 Y Y <| sd 5 Y Y <| sd 8 Y Y <| sd 11 Y Y <| sd 12 Y Y <| sd 13 Y Y <| sn) (.cons Y (ro1 (by exact Eq.trans (b := 132) (lnC (n := 131) (lnA (m := 64) (n := 67) arL (lnA (m := 64) (n := 3) arL (lnC (n := 2) (lnC (n := 1) (lnC (n := 0) (lnN))))))) tZ_76.symm) (rld (alC Y (alA (arD fun _ => Y) (alA (arD fun _ => Y) (alC Y (alC Y (alC Y (alN))))))))) <| .nil) Y Y⟩
           ·
            refine Dq 13 Y Y Y (v_fieldP (ov Y) Y Y tF76_1) ?_
            obtain ⟨x8, h_x8, h⟩ := bnd h
            refine Dq 14 Y Y Y (v_ixAG (ov Y) (ov Y) tR49 Y Y h_x8) ?_
            refine Do 15 Y Y Y (w_store (ov Y) (ov Y) (cells_scal tS47) Y Y Y (put_le (at_at (o := 1) (o' := (i.toNat * 1)) (atc (o := 0) (at0 (hdw arL))) (at_v1 h_x8)) Y) (cell1_all Y) (put_put (o := 1) (o' := (i.toNat * 1)) (atc (o := 0) (at0 (hdw arL))) (at_v1 h_x8) Y (put_v1 h_x8 (x := x7)) (putc (o := 0) (putw (Eq.trans arL (Eq.symm arL)))))) ?_
            refine D_done (by kernel_rfl) ?_
            exact ⟨((api_Rest.mk o4.Number (vset o4.Frame i x7) (vset o4.States i 1) o4.Sound o4.Copies o4.Conflict), (differ2 || ((!decide (x3 = 0)) && (!decide (x4 = x5))))), h, Ent.sel [some 0] (sr 0 Y (.ptr _ _ _ Y) <| sd 1 Y Y <| sd 4 Y Y <| sd 5 Y Y <| sd 8 Y Y <| sd 11 Y Y <| sd 12 Y Y <| sd 13 Y Y <| sn) (.cons Y (ro1 (by exact Eq.trans (b := 132) (lnC (n := 131) (lnA (m := 64) (n := 67) arL (lnA (m := 64) (n := 3) arL (lnC (n := 2) (lnC (n := 1) (lnC (n := 0) (lnN))))))) tZ_76.symm) (rld (alC Y (alA (arD fun _ => Y) (alA (arD fun _ => Y) (alC Y (alC Y (alC Y (alN))))))))) <| .nil) Y Y⟩
          ·
           refine Dq 12 Y Y Y (v_nilCheckP (ov Y) Y Y) ?_
           refine Dq 13 Y Y Y (v_fieldP (ov Y) Y Y tF76_1) ?_
           obtain ⟨x8, h_x8, h⟩ := bnd h
           refine Dq 14 Y Y Y (v_ixAG (ov Y) (ov Y) tR49 Y Y h_x8) ?_
           refine Do 15 Y Y Y (w_store (ov Y) (ov Y) (cells_scal tS47) Y Y Y (put_le (at_at (o := 1) (o' := (i.toNat * 1)) (atc (o := 0) (at0 (hdw arL))) (at_v1 h_x8)) Y) (cell1_all Y) (put_put (o := 1) (o' := (i.toNat * 1)) (atc (o := 0) (at0 (hdw arL))) (at_v1 h_x8) Y (put_v1 h_x8 (x := x7)) (putc (o := 0) (putw (Eq.trans arL (Eq.symm arL)))))) ?_
           refine D_done (by kernel_rfl) ?_
           exact ⟨((api_Rest.mk o4.Number (vset o4.Frame i x7) (vset o4.States i 1) o4.Sound o4.Copies o4.Conflict), (differ2 || ((!decide (x3 = 0)) && (!decide (x4 = x5))))), h, Ent.sel [some 0] (sr 0 Y (.ptr _ _ _ Y) <| sd 1 Y Y <| sd 4 Y Y <| sd 5 Y Y <| sd 8 Y Y <| sd 11 Y Y <| sd 12 Y Y <| sd 13 Y Y <| sn) (.cons Y (ro1 (by exact Eq.trans (b := 132) (lnC (n := 131) (lnA (m := 64) (n := 67) arL (lnA (m := 64) (n := 3) arL (lnC (n := 2) (lnC (n := 1) (lnC (n := 0) (lnN))))))) tZ_76.symm) (rld (alC Y (alA (arD fun _ => Y) (alA (arD fun _ => Y) (alC Y (alC Y (alC Y (alN))))))))) <| .nil) Y Y⟩
         ·
          refine Dq 7 Y Y Y (v_loadS (ov Y) Y Y Y tS47 (at_get (at_at (o := 1) (o' := (i.toNat * 1)) (atc (o := 0) (at0 (hdw arL))) (at_v1 h_x7)))) ?_
          refine Dq 12 Y Y Y (v_nilCheckP (ov Y) Y Y) ?_
          refine Dq 13 Y Y Y (v_fieldP (ov Y) Y Y tF76_1) ?_
          obtain ⟨x8, h_x8, h⟩ := bnd h
          refine Dq 14 Y Y Y (v_ixAG (ov Y) (ov Y) tR49 Y Y h_x8) ?_
          refine Do 15 Y Y Y (w_store (ov Y) (ov Y) (cells_scal tS47) Y Y Y (put_le (at_at (o := 1) (o' := (i.toNat * 1)) (atc (o := 0) (at0 (hdw arL))) (at_v1 h_x8)) Y) (cell1_all Y) (put_put (o := 1) (o' := (i.toNat * 1)) (atc (o := 0) (at0 (hdw arL))) (at_v1 h_x8) Y (put_v1 h_x8 (x := x7)) (putc (o := 0) (putw (Eq.trans arL (Eq.symm arL)))))) ?_
          refine D_done (by kernel_rfl) ?_
          exact ⟨((api_Rest.mk o4.Number (vset o4.Frame i x7) (vset o4.States i 1) o4.Sound o4.Copies o4.Conflict), (differ2 || ((!decide (x3 = 0)) && (!decide (x4 = x5))))), h, Ent.sel [some 0] (sr 0 Y (.ptr _ _ _ Y) <| sd 1 Y Y <| sd 4 Y Y <| sd 5 Y Y <| sd 8 Y Y <| sd 11 Y Y <| sd 12 Y Y <| sd 13 Y Y <| sn) (.cons Y (ro1 (by exact Eq.trans (b := 132) (lnC (n := 131) (lnA (m := 64) (n := 67) arL (lnA (m := 64) (n := 3) arL (lnC (n := 2) (lnC (n := 1) (lnC (n := 0) (lnN))))))) tZ_76.symm) (rld (alC Y (alA (arD fun _ => Y) (alA (arD fun _ => Y) (alC Y (alC Y (alC Y (alN))))))))) <| .nil) Y Y⟩
         ·
          refine D_many [7, 11, 13] (by kernel_rfl) (.q Y Y Y (v_loadS (ov Y) Y Y Y tS47 (at_get (at_at (o := 1) (o' := (i.toNat * 1)) (atc (o := 0) (at0 (hdw arL))) (at_v1 h_x7)))) ?_ <| .w Y Y Y (fun h => by cases h) (fun h => by cases h) (w_store (ov Y) (ov Y) (cells_scal tS3) Y Y Y (put_le (at_at (o := 65) (o' := (i.toNat * 1)) (atc (o := 64) (ata (m := 64) (o := 0) arL (at0 (hdw arL)))) (at_v1 h_x6)) Y) (cell1_all Y) (put_put (o := 65) (o' := (i.toNat * 1)) (atc (o := 64) (ata (m := 64) (o := 0) arL (at0 (hdw arL)))) (at_v1 h_x6) Y (put_v1 h_x6 (x := 1)) (putc (o := 64) (puta (m := 64) (o := 0) arL (putw (Eq.trans arL (Eq.symm arL))))))) ?_ <| .q Y Y Y (v_fieldP (ov Y) Y Y tF76_1) ?_ <| .nil) 
          ·
           refine Dw 13 11 Y Y Y Y Y Y (v_fieldP (ov Y) Y Y tF76_1) (w_store (ov Y) (ov Y) (cells_scal tS3) Y Y Y (put_le (at_at (o := 65) (o' := (i.toNat * 1)) (atc (o := 64) (ata (m := 64) (o := 0) arL (at0 (hdw arL)))) (at_v1 h_x6)) Y) (cell1_all Y) (put_put (o := 65) (o' := (i.toNat * 1)) (atc (o := 64) (ata (m := 64) (o := 0) arL (at0 (hdw arL)))) (at_v1 h_x6) Y (put_v1 h_x6 (x := 1)) (putc (o := 64) (puta (m := 64) (o := 0) arL (putw (Eq.trans arL (Eq.symm arL))))))) ?_ ?_
           ·
            refine Do 11 Y Y Y (w_store (ov Y) (ov Y) (cells_scal tS3) Y Y Y (put_le (at_at (o := 65) (o' := (i.toNat * 1)) (atc (o := 64) (ata (m := 64) (o := 0) arL (at0 (hdw arL)))) (at_v1 h_x6)) Y) (cell1_all Y) (put_put (o := 65) (o' := (i.toNat * 1)) (atc (o := 64) (ata (m := 64) (o := 0) arL (at0 (hdw arL)))) (at_v1 h_x6) Y (put_v1 h_x6 (x := 1)) (putc (o := 64) (puta (m := 64) (o := 0) arL (putw (Eq.trans arL (Eq.symm arL))))))) ?_
            obtain ⟨x8, h_x8, h⟩ := bnd h
            refine Dq 14 Y Y Y (v_ixAG (ov Y) (ov Y) tR49 Y Y h_x8) ?_
            refine Do 15 Y Y Y (w_store (ov Y) (ov Y) (cells_scal tS47) Y Y Y (put_le (at_at (o := 1) (o' := (i.toNat * 1)) (atc (o := 0) (at0 (hdw arL))) (at_v1 h_x8)) Y) (cell1_all Y) (put_put (o := 1) (o' := (i.toNat * 1)) (atc (o := 0) (at0 (hdw arL))) (at_v1 h_x8) Y (put_v1 h_x8 (x := x7)) (putc (o := 0) (putw (Eq.trans arL (Eq.symm arL)))))) ?_
            refine D_done (by kernel_rfl) ?_
            exact ⟨((api_Rest.mk o4.Number (vset o4.Frame i x7) (vset o4.States i 1) o4.Sound o4.Copies o4.Conflict), (differ2 || ((!decide (x3 = 0)) && (!decide (x4 = x5))))), h, Ent.sel [some 0] (sr 0 Y (.ptr _ _ _ Y) <| sd 1 Y Y <| sd 4 Y Y <| sd 5 Y Y <| sd 8 Y Y <| sd 11 Y Y <| sd 12 Y Y <| sd 13 Y Y <| sn) (.cons Y (ro1 (by exact Eq.trans (b := 132) (lnC (n := 131) (lnA (m := 64) (n := 67) arL (lnA (m := 64) (n := 3) arL (lnC (n := 2) (lnC (n := 1) (lnC (n := 0) (lnN))))))) tZ_76.symm) (rld (alC Y (alA (arD fun _ => Y) (alA (arD fun _ => Y) (alC Y (alC Y (alC Y (alN))))))))) <| .nil) Y Y⟩
           ·
            refine Dq 13 Y Y Y (v_fieldP (ov Y) Y Y tF76_1) ?_
            obtain ⟨x8, h_x8, h⟩ := bnd h
            refine Dq 14 Y Y Y (v_ixAG (ov Y) (ov Y) tR49 Y Y h_x8) ?_
            refine Do 15 Y Y Y (w_store (ov Y) (ov Y) (cells_scal tS47) Y Y Y (put_le (at_at (o := 1) (o' := (i.toNat * 1)) (atc (o := 0) (at0 (hdw arL))) (at_v1 h_x8)) Y) (cell1_all Y) (put_put (o := 1) (o' := (i.toNat * 1)) (atc (o := 0) (at0 (hdw arL))) (at_v1 h_x8) Y (put_v1 h_x8 (x := x7)) (putc (o := 0) (putw (Eq.trans arL (Eq.symm arL)))))) ?_
            refine D_done (by kernel_rfl) ?_
            exact ⟨((api_Rest.mk o4.Number (vset o4.Frame i x7) (vset o4.States i 1) o4.Sound o4.Copies o4.Conflict), (differ2 || ((!decide (x3 = 0)) && (!decide (x4 = x5))))), h, Ent.sel [some 0] (sr 0 Y (.ptr _ _ _ Y) <| sd 1 Y Y <| sd 4 Y Y <| sd 5 Y Y <| sd 8 Y Y <| sd 11 Y Y <| sd 12 Y Y <| sd 13 Y Y <| sn) (.cons Y (ro1 (by exact Eq.trans (b := 132) (lnC (n := 131) (lnA (m := 64) (n := 67) arL (lnA (m := 64) (n := 3) arL (lnC (n := 2) (lnC (n := 1) (lnC (n := 0) (lnN))))))) tZ_76.symm) (rld (alC Y (alA (arD fun _ => Y) (alA (arD fun _ => Y) (alC Y (alC Y (alC Y (alN))))))))) <| .nil) Y Y⟩
          ·
           refine Dq 7 Y Y Y (v_loadS (ov Y) Y Y Y tS47 (at_get (at_at (o := 1) (o' := (i.toNat * 1)) (atc (o := 0) (at0 (hdw arL))) (at_v1 h_x7)))) ?_
           refine Dq 13 Y Y Y (v_fieldP (ov Y) Y Y tF76_1) ?_
           obtain ⟨x8, h_x8, h⟩ := bnd h
           refine Dq 14 Y Y Y (v_ixAG (ov Y) (ov Y) tR49 Y Y h_x8) ?_
           refine Do 15 Y Y Y (w_store (ov Y) (ov Y) (cells_scal tS47) Y Y Y (put_le (at_at (o := 1) (o' := (i.toNat * 1)) (atc (o := 0) (at0 (hdw arL))) (at_v1 h_x8)) Y) (cell1_all Y) (put_put (o := 1) (o' := (i.toNat * 1)) (atc (o := 0) (at0 (hdw arL))) (at_v1 h_x8) Y (put_v1 h_x8 (x := x7)) (putc (o := 0) (putw (Eq.trans arL (Eq.symm arL)))))) ?_
           refine D_done (by kernel_rfl) ?_
           exact ⟨((api_Rest.mk o4.Number (vset o4.Frame i x7) (vset o4.States i 1) o4.Sound o4.Copies o4.Conflict), (differ2 || ((!decide (x3 = 0)) && (!decide (x4 = x5))))), h, Ent.sel [some 0] (sr 0 Y (.ptr _ _ _ Y) <| sd 1 Y Y <| sd 4 Y Y <| sd 5 Y Y <| sd 8 Y Y <| sd 11 Y Y <| sd 12 Y Y <| sd 13 Y Y <| sn) (.cons Y (ro1 (by exact Eq.trans (b := 132) (lnC (n := 131) (lnA (m := 64) (n := 67) arL (lnA (m := 64) (n := 3) arL (lnC (n := 2) (lnC (n := 1) (lnC (n := 0) (lnN))))))) tZ_76.symm) (rld (alC Y (alA (arD fun _ => Y) (alA (arD fun _ => Y) (alC Y (alC Y (alC Y (alN))))))))) <| .nil) Y Y⟩
          ·
           refine Dw 7 11 Y Y Y Y Y Y (v_loadS (ov Y) Y Y Y tS47 (at_get (at_at (o := 1) (o' := (i.toNat * 1)) (atc (o := 0) (at0 (hdw arL))) (at_v1 h_x7)))) (w_store (ov Y) (ov Y) (cells_scal tS3) Y Y Y (put_le (at_at (o := 65) (o' := (i.toNat * 1)) (atc (o := 64) (ata (m := 64) (o := 0) arL (at0 (hdw arL)))) (at_v1 h_x6)) Y) (cell1_all Y) (put_put (o := 65) (o' := (i.toNat * 1)) (atc (o := 64) (ata (m := 64) (o := 0) arL (at0 (hdw arL)))) (at_v1 h_x6) Y (put_v1 h_x6 (x := 1)) (putc (o := 64) (puta (m := 64) (o := 0) arL (putw (Eq.trans arL (Eq.symm arL))))))) ?_ ?_
           ·
            refine Do 11 Y Y Y (w_store (ov Y) (ov Y) (cells_scal tS3) Y Y Y (put_le (at_at (o := 65) (o' := (i.toNat * 1)) (atc (o := 64) (ata (m := 64) (o := 0) arL (at0 (hdw arL)))) (at_v1 h_x6)) Y) (cell1_all Y) (put_put (o := 65) (o' := (i.toNat * 1)) (atc (o := 64) (ata (m := 64) (o := 0) arL (at0 (hdw arL)))) (at_v1 h_x6) Y (put_v1 h_x6 (x := 1)) (putc (o := 64) (puta (m := 64) (o := 0) arL (putw (Eq.trans arL (Eq.symm arL))))))) ?_
            obtain ⟨x8, h_x8, h⟩ := bnd h
            refine Dq 14 Y Y Y (v_ixAG (ov Y) (ov Y) tR49 Y Y h_x8) ?_
            refine Do 15 Y Y Y (w_store (ov Y) (ov Y) (cells_scal tS47) Y Y Y (put_le (at_at (o := 1) (o' := (i.toNat * 1)) (atc (o := 0) (at0 (hdw arL))) (at_v1 h_x8)) Y) (cell1_all Y) (put_put (o := 1) (o' := (i.toNat * 1)) (atc (o := 0) (at0 (hdw arL))) (at_v1 h_x8) Y (put_v1 h_x8 (x := x7)) (putc (o := 0) (putw (Eq.trans arL (Eq.symm arL)))))) ?_
            refine D_done (by kernel_rfl) ?_
            exact ⟨((api_Rest.mk o4.Number (vset o4.Frame i x7) (vset o4.States i 1) o4.Sound o4.Copies o4.Conflict), (differ2 || ((!decide (x3 = 0)) && (!decide (x4 = x5))))), h, Ent.sel [some 0] (sr 0 Y (.ptr _ _ _ Y) <| sd 1 Y Y <| sd 4 Y Y <| sd 5 Y Y <| sd 8 Y Y <| sd 11 Y Y <| sd 12 Y Y <| sd 13 Y Y <| sn) (.cons Y (ro1 (by exact Eq.trans (b := 132) (lnC (n := 131) (lnA (m := 64) (n := 67) arL (lnA (m := 64) (n := 3) arL (lnC (n := 2) (lnC (n := 1) (lnC (n := 0) (lnN))))))) tZ_76.symm) (rld (alC Y (alA (arD fun _ => Y) (alA (arD fun _ => Y) (alC Y (alC Y (alC Y (alN))))))))) <| .nil) Y Y⟩
           ·
            refine Dq 7 Y Y Y (v_loadS (ov Y) Y Y Y tS47 (at_get (at_at (o := 1) (o' := (i.toNat * 1)) (atc (o := 0) (at0 (hdw arL))) (at_v1 h_x7)))) ?_
            obtain ⟨x8, h_x8, h⟩ := bnd h
            refine Dq 14 Y Y Y (v_ixAG (ov Y) (ov Y) tR49 Y Y h_x8) ?_
            refine Do 15 Y Y Y (w_store (ov Y) (ov Y) (cells_scal tS47) Y Y Y (put_le (at_at (o := 1) (o' := (i.toNat * 1)) (atc (o := 0) (at0 (hdw arL))) (at_v1 h_x8)) Y) (cell1_all Y) (put_put (o := 1) (o' := (i.toNat * 1)) (atc (o := 0) (at0 (hdw arL))) (at_v1 h_x8) Y (put_v1 h_x8 (x := x7)) (putc (o := 0) (putw (Eq.trans arL (Eq.symm arL)))))) ?_
            refine D_done (by kernel_rfl) ?_
            exact ⟨((api_Rest.mk o4.Number (vset o4.Frame i x7) (vset o4.States i 1) o4.Sound o4.Copies o4.Conflict), (differ2 || ((!decide (x3 = 0)) && (!decide (x4 = x5))))), h, Ent.sel [some 0] (sr 0 Y (.ptr _ _ _ Y) <| sd 1 Y Y <| sd 4 Y Y <| sd 5 Y Y <| sd 8 Y Y <| sd 11 Y Y <| sd 12 Y Y <| sd 13 Y Y <| sn) (.cons Y (ro1 (by exact Eq.trans (b := 132) (lnC (n := 131) (lnA (m := 64) (n := 67) arL (lnA (m := 64) (n := 3) arL (lnC (n := 2) (lnC (n := 1) (lnC (n := 0) (lnN))))))) tZ_76.symm) (rld (alC Y (alA (arD fun _ => Y) (alA (arD fun _ => Y) (alC Y (alC Y (alC Y (alN))))))))) <| .nil) Y Y⟩
        ·
         refine Dq 6 Y Y Y (v_ixAG (ov Y) (ov Y) tR49 Y Y h_x7) ?_
         refine Dq 7 Y Y Y (v_loadS (ov Y) Y Y Y tS47 (at_get (at_at (o := 1) (o' := (i.toNat * 1)) (atc (o := 0) (at0 (hdw arL))) (at_v1 h_x7)))) ?_
         refine Dq 12 Y Y Y (v_nilCheckP (ov Y) Y Y) ?_
         refine Dq 13 Y Y Y (v_fieldP (ov Y) Y Y tF76_1) ?_
         obtain ⟨x8, h_x8, h⟩ := bnd h
         refine Dq 14 Y Y Y (v_ixAG (ov Y) (ov Y) tR49 Y Y h_x8) ?_
         refine Do 15 Y Y Y (w_store (ov Y) (ov Y) (cells_scal tS47) Y Y Y (put_le (at_at (o := 1) (o' := (i.toNat * 1)) (atc (o := 0) (at0 (hdw arL))) (at_v1 h_x8)) Y) (cell1_all Y) (put_put (o := 1) (o' := (i.toNat * 1)) (atc (o := 0) (at0 (hdw arL))) (at_v1 h_x8) Y (put_v1 h_x8 (x := x7)) (putc (o := 0) (putw (Eq.trans arL (Eq.symm arL)))))) ?_
         refine D_done (by kernel_rfl) ?_
         exact ⟨((api_Rest.mk o4.Number (vset o4.Frame i x7) (vset o4.States i 1) o4.Sound o4.Copies o4.Conflict), (differ2 || ((!decide (x3 = 0)) && (!decide (x4 = x5))))), h, Ent.sel [some 0] (sr 0 Y (.ptr _ _ _ Y) <| sd 1 Y Y <| sd 4 Y Y <| sd 5 Y Y <| sd 8 Y Y <| sd 11 Y Y <| sd 12 Y Y <| sd 13 Y Y <| sn) (.cons Y (ro1 (by exact Eq.trans (b := 132) (lnC (n := 131) (lnA (m := 64) (n := 67) arL (lnA (m := 64) (n := 3) arL (lnC (n := 2) (lnC (n := 1) (lnC (n := 0) (lnN))))))) tZ_76.symm) (rld (alC Y (alA (arD fun _ => Y) (alA (arD fun _ => Y) (alC Y (alC Y (alC Y (alN))))))))) <| .nil) Y Y⟩
        ·
         refine D_many [6, 11, 13] (by kernel_rfl) (.q Y Y Y (v_ixAG (ov Y) (ov Y) tR49 Y Y h_x7) ?_ <| .w Y Y Y (fun h => by cases h) (fun h => by cases h) (w_store (ov Y) (ov Y) (cells_scal tS3) Y Y Y (put_le (at_at (o := 65) (o' := (i.toNat * 1)) (atc (o := 64) (ata (m := 64) (o := 0) arL (at0 (hdw arL)))) (at_v1 h_x6)) Y) (cell1_all Y) (put_put (o := 65) (o' := (i.toNat * 1)) (atc (o := 64) (ata (m := 64) (o := 0) arL (at0 (hdw arL)))) (at_v1 h_x6) Y (put_v1 h_x6 (x := 1)) (putc (o := 64) (puta (m := 64) (o := 0) arL (putw (Eq.trans arL (Eq.symm arL))))))) ?_ <| .q Y Y Y (v_fieldP (ov Y) Y Y tF76_1) ?_ <| .nil) 
         ·
          refine D_many [7, 11, 13] (by kernel_rfl) (.q Y Y Y (v_loadS (ov Y) Y Y Y tS47 (at_get (at_at (o := 1) (o' := (i.toNat * 1)) (atc (o := 0) (at0 (hdw arL))) (at_v1 h_x7)))) ?_ <| .w Y Y Y (fun h => by cases h) (fun h => by cases h) (w_store (ov Y) (ov Y) (cells_scal tS3) Y Y Y (put_le (at_at (o := 65) (o' := (i.toNat * 1)) (atc (o := 64) (ata (m := 64) (o := 0) arL (at0 (hdw arL)))) (at_v1 h_x6)) Y) (cell1_all Y) (put_put (o := 65) (o' := (i.toNat * 1)) (atc (o := 64) (ata (m := 64) (o := 0) arL (at0 (hdw arL)))) (at_v1 h_x6) Y (put_v1 h_x6 (x := 1)) (putc (o := 64) (puta (m := 64) (o := 0) arL (putw (Eq.trans arL (Eq.symm arL))))))) ?_ <| .q Y Y Y (v_fieldP (ov Y) Y Y tF76_1) ?_ <| .nil) 
          ·
           refine Dw 13 11 Y Y Y Y Y Y (v_fieldP (ov Y) Y Y tF76_1) (w_store (ov Y) (ov Y) (cells_scal tS3) Y Y Y (put_le (at_at (o := 65) (o' := (i.toNat * 1)) (atc (o := 64) (ata (m := 64) (o := 0) arL (at0 (hdw arL)))) (at_v1 h_x6)) Y) (cell1_all Y) (put_put (o := 65) (o' := (i.toNat * 1)) (atc (o := 64) (ata (m := 64) (o := 0) arL (at0 (hdw arL)))) (at_v1 h_x6) Y (put_v1 h_x6 (x := 1)) (putc (o := 64) (puta (m := 64) (o := 0) arL (putw (Eq.trans arL (Eq.symm arL))))))) ?_ ?_
           ·
            refine Do 11 Y Y Y (w_store (ov Y) (ov Y) (cells_scal tS3) Y Y Y (put_le (at_at (o := 65) (o' := (i.toNat * 1)) (atc (o := 64) (ata (m := 64) (o := 0) arL (at0 (hdw arL)))) (at_v1 h_x6)) Y) (cell1_all Y) (put_put (o := 65) (o' := (i.toNat * 1)) (atc (o := 64) (ata (m := 64) (o := 0) arL (at0 (hdw arL)))) (at_v1 h_x6) Y (put_v1 h_x6 (x := 1)) (putc (o := 64) (puta (m := 64) (o := 0) arL (putw (Eq.trans arL (Eq.symm arL))))))) ?_
            obtain ⟨x8, h_x8, h⟩ := bnd h
            refine Dq 14 Y Y Y (v_ixAG (ov Y) (ov Y) tR49 Y Y h_x8) ?_
            refine Do 15 Y Y Y (w_store (ov Y) (ov Y) (cells_scal tS47) Y Y Y (put_le (at_at (o := 1) (o' := (i.toNat * 1)) (atc (o := 0) (at0 (hdw arL))) (at_v1 h_x8)) Y) (cell1_all Y) (put_put (o := 1) (o' := (i.toNat * 1)) (atc (o := 0) (at0 (hdw arL))) (at_v1 h_x8) Y (put_v1 h_x8 (x := x7)) (putc (o := 0) (putw (Eq.trans arL (Eq.symm arL)))))) ?_
            refine D_done (by kernel_rfl) ?_
            exact ⟨((api_Rest.mk o4.Number (vset o4.Frame i x7) (vset o4.States i 1) o4.Sound o4.Copies o4.Conflict), (differ2 || ((!decide (x3 = 0)) && (!decide (x4 = x5))))), h, Ent.sel [some 0] (sr 0 Y (.ptr _ _ _ Y) <| sd 1 Y Y <| sd 4 Y Y <| sd 5 Y Y <| sd 8 Y Y <| sd 11 Y Y <| sd 12 Y Y <| sd 13 Y Y <| sn) (.cons Y (ro1 (by exact Eq.trans (b := 132) (lnC (n := 131) (lnA (m := 64) (n := 67) arL (lnA (m := 64) (n := 3) arL (lnC (n := 2) (lnC (n := 1) (lnC (n := 0) (lnN))))))) tZ_76.symm) (rld (alC Y (alA (arD fun _ => Y) (alA (arD fun _ => Y) (alC Y (alC Y (alC Y (alN))))))))) <| .nil) Y Y⟩
           ·
            refine Dq 13 Y Y Y (v_fieldP (ov Y) Y Y tF76_1) ?_
            obtain ⟨x8, h_x8, h⟩ := bnd h
            refine Dq 14 Y Y Y (v_ixAG (ov Y) (ov Y) tR49 Y Y h_x8) ?_
            refine Do 15 Y Y Y (w_store (ov Y) (ov Y) (cells_scal tS47) Y Y Y (put_le (at_at (o := 1) (o' := (i.toNat * 1)) (atc (o := 0) (at0 (hdw arL))) (at_v1 h_x8)) Y) (cell1_all Y) (put_put (o := 1) (o' := (i.toNat * 1)) (atc (o := 0) (at0 (hdw arL))) (at_v1 h_x8) Y (put_v1 h_x8 (x := x7)) (putc (o := 0) (putw (Eq.trans arL (Eq.symm arL)))))) ?_
            refine D_done (by kernel_rfl) ?_
            exact ⟨((api_Rest.mk o4.Number (vset o4.Frame i x7) (vset o4.States i 1) o4.Sound o4.Copies o4.Conflict), (differ2 || ((!decide (x3 = 0)) && (!decide (x4 = x5))))), h, Ent.sel [some 0] (sr 0 Y (.ptr _ _ _ Y) <| sd 1 Y Y <| sd 4 Y Y <| sd 5 Y Y <| sd 8 Y Y <| sd 11 Y Y <| sd 12 Y Y <| sd 13 Y Y <| sn) (.cons Y (ro1 (by exact Eq.trans (b := 132) (lnC (n := 131) (lnA (m := 64) (n := 67) arL (lnA (m := 64) (n := 3) arL (lnC (n := 2) (lnC (n := 1) (lnC (n := 0) (lnN))))))) tZ_76.symm) (rld (alC Y (alA (arD fun _ => Y) (alA (arD fun _ => Y) (alC Y (alC Y (alC Y (alN))))))))) <| .nil) Y Y⟩
          ·
           refine Dq 7 Y Y Y (v_loadS (ov Y) Y Y Y tS47 (at_get (at_at (o := 1) (o' := (i.toNat * 1)) (atc (o := 0) (at0 (hdw arL))) (at_v1 h_x7)))) ?_
           refine Dq 13 Y Y Y (v_fieldP (ov Y) Y Y tF76_1) ?_
           obtain ⟨x8, h_x8, h⟩ := bnd h
           refine Dq 14 Y Y Y (v_ixAG (ov Y) (ov Y) tR49 Y Y h_x8) ?_
           refine Do 15 Y Y Y (w_store (ov Y) (ov Y) (cells_scal tS47) Y Y Y (put_le (at_at (o := 1) (o' := (i.toNat * 1)) (atc (o := 0) (at0 (hdw arL))) (at_v1 h_x8)) Y) (cell1_all Y) (put_put (o := 1) (o' := (i.toNat * 1)) (atc (o := 0) (at0 (hdw arL))) (at_v1 h_x8) Y (put_v1 h_x8 (x := x7)) (putc (o := 0) (putw (Eq.trans arL (Eq.symm arL)))))) ?_
           refine D_done (by kernel_rfl) ?_
           exact ⟨((api_Rest.mk o4.Number (vset o4.Frame i x7) (vset o4.States i 1) o4.Sound o4.Copies o4.Conflict), (differ2 || ((!decide (x3 = 0)) && (!decide (x4 = x5))))), h, Ent.sel [some 0] (sr 0 Y (.ptr _ _ _ Y) <| sd 1 Y Y <| sd 4 Y Y <| sd 5 Y Y <| sd 8 Y Y <| sd 11 Y Y <| sd 12 Y Y <| sd 13 Y Y <| sn) (.cons Y (ro1 (by exact Eq.trans (b := 132) (lnC (n := 131) (lnA (m := 64) (n := 67) arL (lnA (m := 64) (n := 3) arL (lnC (n := 2) (lnC (n := 1) (lnC (n := 0) (lnN))))))) tZ_76.symm) (rld (alC Y (alA (arD fun _ => Y) (alA (arD fun _ => Y) (alC Y (alC Y (alC Y (alN))))))))) <| .nil) Y Y⟩
          ·
           refine Dw 7 11 Y Y Y Y Y Y (v_loadS (ov Y) Y Y Y tS47 (at_get (at_at (o := 1) (o' := (i.toNat * 1)) (atc (o := 0) (at0 (hdw arL))) (at_v1 h_x7)))) (w_store (ov Y) (ov Y) (cells_scal tS3) Y Y Y (put_le (at_at (o := 65) (o' := (i.toNat * 1)) (atc (o := 64) (ata (m := 64) (o := 0) arL (at0 (hdw arL)))) (at_v1 h_x6)) Y) (cell1_all Y) (put_put (o := 65) (o' := (i.toNat * 1)) (atc (o := 64) (ata (m := 64) (o := 0) arL (at0 (hdw arL)))) (at_v1 h_x6) Y (put_v1 h_x6 (x := 1)) (putc (o := 64) (puta (m := 64) (o := 0) arL (putw (Eq.trans arL (Eq.symm arL))))))) ?_ ?_
           ·
            refine Do 11 Y Y Y (w_store (ov Y) (ov Y) (cells_scal tS3) Y Y Y (put_le (at_at (o := 65) (o' := (i.toNat * 1)) (atc (o := 64) (ata (m := 64) (o := 0) arL (at0 (hdw arL)))) (at_v1 h_x6)) Y) (cell1_all Y) (put_put (o := 65) (o' := (i.toNat * 1)) (atc (o := 64) (ata (m := 64) (o := 0) arL (at0 (hdw arL)))) (at_v1 h_x6) Y (put_v1 h_x6 (x := 1)) (putc (o := 64) (puta (m := 64) (o := 0) arL (putw (Eq.trans arL (Eq.symm arL))))))) ?_
            obtain ⟨x8, h_x8, h⟩ := bnd h
            refine Dq 14 Y Y Y (v_ixAG (ov Y) (ov Y) tR49 Y Y h_x8) ?_
            refine Do 15 Y Y Y (w_store (ov Y) (ov Y) (cells_scal tS47) Y Y Y (put_le (at_at (o := 1) (o' := (i.toNat * 1)) (atc (o := 0) (at0 (hdw arL))) (at_v1 h_x8)) Y) (cell1_all Y) (put_put (o := 1) (o' := (i.toNat * 1)) (atc (o := 0) (at0 (hdw arL))) (at_v1 h_x8) Y (put_v1 h_x8 (x := x7)) (putc (o := 0) (putw (Eq.trans arL (Eq.symm arL)))))) ?_
            refine D_done (by kernel_rfl) ?_
            exact ⟨((api_Rest.mk o4.Number (vset o4.Frame i x7) (vset o4.States i 1) o4.Sound o4.Copies o4.Conflict), (differ2 || ((!decide (x3 = 0)) && (!decide (x4 = x5))))), h, Ent.sel [some 0] (sr 0 Y (.ptr _ _ _ Y) <| sd 1 Y Y <| sd 4 Y Y <| sd 5 Y Y <| sd 8 Y Y <| sd 11 Y Y <| sd 12 Y Y <| sd 13 Y Y <| sn) (.cons Y (ro1 (by exact Eq.trans (b := 132) (lnC (n := 131) (lnA (m := 64) (n := 67) arL (lnA (m := 64) (n := 3) arL (lnC (n := 2) (lnC (n := 1) (lnC (n := 0) (lnN))))))) tZ_76.symm) (rld (alC Y (alA (arD fun _ => Y) (alA (arD fun _ => Y) (alC Y (alC Y (alC Y (alN))))))))) <| .nil) Y Y⟩
           ·
            refine Dq 7 Y Y Y (v_loadS (ov Y) Y Y Y tS47 (at_get (at_at (o := 1) (o' := (i.toNat * 1)) (atc (o := 0) (at0 (hdw arL))) (at_v1 h_x7)))) ?_
            obtain ⟨x8, h_x8, h⟩ := bnd h
            refine Dq 14 Y Y Y (v_ixAG (ov Y) (ov Y) tR49 Y Y h_x8) ?_
            refine Do 15 Y Y Y (w_store (ov Y) (ov Y) (cells_scal tS47) Y Y Y (put_le (at_at (o := 1) (o' := (i.toNat * 1)) (atc (o := 0) (at0 (hdw arL))) (at_v1 h_x8)) Y) (cell1_all Y) (put_put (o := 1) (o' := (i.toNat * 1)) (atc (o := 0) (at0 (hdw arL))) (at_v1 h_x8) Y (put_v1 h_x8 (x := x7)) (putc (o := 0) (putw (Eq.trans arL (Eq.symm arL)))))) ?_
            refine D_done (by kernel_rfl) ?_
            exact ⟨((api_Rest.mk o4.Number (vset o4.Frame i x7) (vset o4.States i 1) o4.Sound o4.Copies o4.Conflict), (differ2 || ((!decide (x3 = 0)) && (!decide (x4 = x5))))), h, Ent.sel [some 0] (sr 0 Y (.ptr _ _ _ Y) <| sd 1 Y Y <| sd 4 Y Y <| sd 5 Y Y <| sd 8 Y Y <| sd 11 Y Y <| sd 12 Y Y <| sd 13 Y Y <| sn) (.cons Y (ro1 (by exact Eq.trans (b := 132) (lnC (n := 131) (lnA (m := 64) (n := 67) arL (lnA (m := 64) (n := 3) arL (lnC (n := 2) (lnC (n := 1) (lnC (n := 0) (lnN))))))) tZ_76.symm) (rld (alC Y (alA (arD fun _ => Y) (alA (arD fun _ => Y) (alC Y (alC Y (alC Y (alN))))))))) <| .nil) Y Y⟩
         ·
          refine Dq 6 Y Y Y (v_ixAG (ov Y) (ov Y) tR49 Y Y h_x7) ?_
          refine Dq 7 Y Y Y (v_loadS (ov Y) Y Y Y tS47 (at_get (at_at (o := 1) (o' := (i.toNat * 1)) (atc (o := 0) (at0 (hdw arL))) (at_v1 h_x7)))) ?_
          refine Dq 13 Y Y Y (v_fieldP (ov Y) Y Y tF76_1) ?_
          obtain ⟨x8, h_x8, h⟩ := bnd h
          refine Dq 14 Y Y Y (v_ixAG (ov Y) (ov Y) tR49 Y Y h_x8) ?_
          refine Do 15 Y Y Y (w_store (ov Y) (ov Y) (cells_scal tS47) Y Y Y (put_le (at_at (o := 1) (o' := (i.toNat * 1)) (atc (o := 0) (at0 (hdw arL))) (at_v1 h_x8)) Y) (cell1_all Y) (put_put (o := 1) (o' := (i.toNat * 1)) (atc (o := 0) (at0 (hdw arL))) (at_v1 h_x8) Y (put_v1 h_x8 (x := x7)) (putc (o := 0) (putw (Eq.trans arL (Eq.symm arL)))))) ?_
          refine D_done (by kernel_rfl) ?_
          exact ⟨((api_Rest.mk o4.Number (vset o4.Frame i x7) (vset o4.States i 1) o4.Sound o4.Copies o4.Conflict), (differ2 || ((!decide (x3 = 0)) && (!decide (x4 = x5))))), h, Ent.sel [some 0] (sr 0 Y (.ptr _ _ _ Y) <| sd 1 Y Y <| sd 4 Y Y <| sd 5 Y Y <| sd 8 Y Y <| sd 11 Y Y <| sd 12 Y Y <| sd 13 Y Y <| sn) (.cons Y (ro1 (by exact Eq.trans (b := 132) (lnC (n := 131) (lnA (m := 64) (n := 67) arL (lnA (m := 64) (n := 3) arL (lnC (n := 2) (lnC (n := 1) (lnC (n := 0) (lnN))))))) tZ_76.symm) (rld (alC Y (alA (arD fun _ => Y) (alA (arD fun _ => Y) (alC Y (alC Y (alC Y (alN))))))))) <| .nil) Y Y⟩
         ·
          refine Dw 6 11 Y Y Y Y Y Y (v_ixAG (ov Y) (ov Y) tR49 Y Y h_x7) (w_store (ov Y) (ov Y) (cells_scal tS3) Y Y Y (put_le (at_at (o := 65) (o' := (i.toNat * 1)) (atc (o := 64) (ata (m := 64) (o := 0) arL (at0 (hdw arL)))) (at_v1 h_x6)) Y) (cell1_all Y) (put_put (o := 65) (o' := (i.toNat * 1)) (atc (o := 64) (ata (m := 64) (o := 0) arL (at0 (hdw arL)))) (at_v1 h_x6) Y (put_v1 h_x6 (x := 1)) (putc (o := 64) (puta (m := 64) (o := 0) arL (putw (Eq.trans arL (Eq.symm arL))))))) ?_ ?_
          ·
           refine Dw 7 11 Y Y Y Y Y Y (v_loadS (ov Y) Y Y Y tS47 (at_get (at_at (o := 1) (o' := (i.toNat * 1)) (atc (o := 0) (at0 (hdw arL))) (at_v1 h_x7)))) (w_store (ov Y) (ov Y) (cells_scal tS3) Y Y Y (put_le (at_at (o := 65) (o' := (i.toNat * 1)) (atc (o := 64) (ata (m := 64) (o := 0) arL (at0 (hdw arL)))) (at_v1 h_x6)) Y) (cell1_all Y) (put_put (o := 65) (o' := (i.toNat * 1)) (atc (o := 64) (ata (m := 64) (o := 0) arL (at0 (hdw arL)))) (at_v1 h_x6) Y (put_v1 h_x6 (x := 1)) (putc (o := 64) (puta (m := 64) (o := 0) arL (putw (Eq.trans arL (Eq.symm arL))))))) ?_ ?_
           ·
            refine Do 11 Y Y Y (w_store (ov Y) (ov Y) (cells_scal tS3) Y Y Y (put_le (at_at (o := 65) (o' := (i.toNat * 1)) (atc (o := 64) (ata (m := 64) (o := 0) arL (at0 (hdw arL)))) (at_v1 h_x6)) Y) (cell1_all Y) (put_put (o := 65) (o' := (i.toNat * 1)) (atc (o := 64) (ata (m := 64) (o := 0) arL (at0 (hdw arL)))) (at_v1 h_x6) Y (put_v1 h_x6 (x := 1)) (putc (o := 64) (puta (m := 64) (o := 0) arL (putw (Eq.trans arL (Eq.symm arL))))))) ?_
            obtain ⟨x8, h_x8, h⟩ := bnd h
            refine Dq 14 Y Y Y (v_ixAG (ov Y) (ov Y) tR49 Y Y h_x8) ?_
            refine Do 15 Y Y Y (w_store (ov Y) (ov Y) (cells_scal tS47) Y Y Y (put_le (at_at (o := 1) (o' := (i.toNat * 1)) (atc (o := 0) (at0 (hdw arL))) (at_v1 h_x8)) Y) (cell1_all Y) (put_put (o := 1) (o' := (i.toNat * 1)) (atc (o := 0) (at0 (hdw arL))) (at_v1 h_x8) Y (put_v1 h_x8 (x := x7)) (putc (o := 0) (putw (Eq.trans arL (Eq.symm arL)))))) ?_
            refine D_done (by kernel_rfl) ?_
            exact ⟨((api_Rest.mk o4.Number (vset o4.Frame i x7) (vset o4.States i 1) o4.Sound o4.Copies o4.Conflict), (differ2 || ((!decide (x3 = 0)) && (!decide (x4 = x5))))), h, Ent.sel [some 0] (sr 0 Y (.ptr _ _ _ Y) <| sd 1 Y Y <| sd 4 Y Y <| sd 5 Y Y <| sd 8 Y Y <| sd 11 Y Y <| sd 12 Y Y <| sd 13 Y Y <| sn) (.cons Y (ro1 (by exact Eq.trans (b := 132) (lnC (n := 131) (lnA (m := 64) (n := 67) arL (lnA (m := 64) (n := 3) arL (lnC (n := 2) (lnC (n := 1) (lnC (n := 0) (lnN))))))) tZ_76.symm) (rld (alC Y (alA (arD fun _ => Y) (alA (arD fun _ => Y) (alC Y (alC Y (alC Y (alN))))))))) <| .nil) Y Y⟩
           ·
            refine Dq 7 Y Y Y (v_loadS (ov Y) Y Y Y tS47 (at_get (at_at (o := 1) (o' := (i.toNat * 1)) (atc (o := 0) (at0 (hdw arL))) (at_v1 h_x7)))) ?_
            obtain ⟨x8, h_x8, h⟩ := bnd h
            refine Dq 14 Y Y Y (v_ixAG (ov Y) (ov Y) tR49 Y Y h_x8) ?_
            refine Do 15 Y Y Y (w_store (ov Y) (ov Y) (cells_scal tS47) Y Y Y (put_le (at_at (o := 1) (o' := (i.toNat * 1)) (atc (o := 0) (at0 (hdw arL))) (at_v1 h_x8)) Y) (cell1_all Y) (put_put (o := 1) (o' := (i.toNat * 1)) (atc (o := 0) (at0 (hdw arL))) (at_v1 h_x8) Y (put_v1 h_x8 (x := x7)) (putc (o := 0) (putw (Eq.trans arL (Eq.symm arL)))))) ?_
            refine D_done (by kernel_rfl) ?_
            exact ⟨((api_Rest.mk o4.Number (vset o4.Frame i x7) (vset o4.States i 1) o4.Sound o4.Copies o4.Conflict), (differ2 || ((!decide (x3 = 0)) && (!decide (x4 = x5))))), h, Ent.sel [some 0] (sr 0 Y (.ptr _ _ _ Y) <| sd 1 Y Y <| sd 4 Y Y <| sd 5 Y Y <| sd 8 Y Y <| sd 11 Y Y <| sd 12 Y Y <| sd 13 Y Y <| sn) (.cons Y (ro1 (by exact Eq.trans (b := 132) (lnC (n := 131) (lnA (m := 64) (n := 67) arL (lnA (m := 64) (n := 3) arL (lnC (n := 2) (lnC (n := 1) (lnC (n := 0) (lnN))))))) tZ_76.symm) (rld (alC Y (alA (arD fun _ => Y) (alA (arD fun _ => Y) (alC Y (alC Y (alC Y (alN))))))))) <| .nil) Y Y⟩
          ·
           refine Dq 6 Y Y Y (v_ixAG (ov Y) (ov Y) tR49 Y Y h_x7) ?_
           refine Dq 7 Y Y Y (v_loadS (ov Y) Y Y Y tS47 (at_get (at_at (o := 1) (o' := (i.toNat * 1)) (atc (o := 0) (at0 (hdw arL))) (at_v1 h_x7)))) ?_
           obtain ⟨x8, h_x8, h⟩ := bnd h
           refine Dq 14 Y Y Y (v_ixAG (ov Y) (ov Y) tR49 Y Y h_x8) ?_
           refine Do 15 Y Y Y (w_store (ov Y) (ov Y) (cells_scal tS47) Y Y Y (put_le (at_at (o := 1) (o' := (i.toNat * 1)) (atc (o := 0) (at0 (hdw arL))) (at_v1 h_x8)) Y) (cell1_all Y) (put_put (o := 1) (o' := (i.toNat * 1)) (atc (o := 0) (at0 (hdw arL))) (at_v1 h_x8) Y (put_v1 h_x8 (x := x7)) (putc (o := 0) (putw (Eq.trans arL (Eq.symm arL)))))) ?_
           refine D_done (by kernel_rfl) ?_
           exact ⟨((api_Rest.mk o4.Number (vset o4.Frame i x7) (vset o4.States i 1) o4.Sound o4.Copies o4.Conflict), (differ2 || ((!decide (x3 = 0)) && (!decide (x4 = x5))))), h, Ent.sel [some 0] (sr 0 Y (.ptr _ _ _ Y) <| sd 1 Y Y <| sd 4 Y Y <| sd 5 Y Y <| sd 8 Y Y <| sd 11 Y Y <| sd 12 Y Y <| sd 13 Y Y <| sn) (.cons Y (ro1 (by exact Eq.trans (b := 132) (lnC (n := 131) (lnA (m := 64) (n := 67) arL (lnA (m := 64) (n := 3) arL (lnC (n := 2) (lnC (n := 1) (lnC (n := 0) (lnN))))))) tZ_76.symm) (rld (alC Y (alA (arD fun _ => Y) (alA (arD fun _ => Y) (alC Y (alC Y (alC Y (alN))))))))) <| .nil) Y Y⟩
       ·
        refine Dq 5 Y Y Y (v_fieldP (ov Y) Y Y tF76_1) ?_
        obtain ⟨x7, h_x7, h⟩ := bnd h
        refine Dq 6 Y Y Y (v_ixAG (ov Y) (ov Y) tR49 Y Y h_x7) ?_
        refine Dq 7 Y Y Y (v_loadS (ov Y) Y Y Y tS47 (at_get (at_at (o := 1) (o' := (i.toNat * 1)) (atc (o := 0) (at0 (hdw arL))) (at_v1 h_x7)))) ?_
        refine Dq 12 Y Y Y (v_nilCheckP (ov Y) Y Y) ?_
        refine Dq 13 Y Y Y (v_fieldP (ov Y) Y Y tF76_1) ?_
        obtain ⟨x8, h_x8, h⟩ := bnd h
        refine Dq 14 Y Y Y (v_ixAG (ov Y) (ov Y) tR49 Y Y h_x8) ?_
        refine Do 15 Y Y Y (w_store (ov Y) (ov Y) (cells_scal tS47) Y Y Y (put_le (at_at (o := 1) (o' := (i.toNat * 1)) (atc (o := 0) (at0 (hdw arL))) (at_v1 h_x8)) Y) (cell1_all Y) (put_put (o := 1) (o' := (i.toNat * 1)) (atc (o := 0) (at0 (hdw arL))) (at_v1 h_x8) Y (put_v1 h_x8 (x := x7)) (putc (o := 0) (putw (Eq.trans arL (Eq.symm arL)))))) ?_
        refine D_done (by kernel_rfl) ?_
        exact ⟨((api_Rest.mk o4.Number (vset o4.Frame i x7) (vset o4.States i 1) o4.Sound o4.Copies o4.Conflict), (differ2 || ((!decide (x3 = 0)) && (!decide (x4 = x5))))), h, Ent.sel [some 0] (sr 0 Y (.ptr _ _ _ Y) <| sd 1 Y Y <| sd 4 Y Y <| sd 5 Y Y <| sd 8 Y Y <| sd 11 Y Y <| sd 12 Y Y <| sd 13 Y Y <| sn) (.cons Y (ro1 (by exact Eq.trans (b := 132) (lnC (n := 131) (lnA (m := 64) (n := 67) arL (lnA (m := 64) (n := 3) arL (lnC (n := 2) (lnC (n := 1) (lnC (n := 0) (lnN))))))) tZ_76.symm) (rld (alC Y (alA (arD fun _ => Y) (alA (arD fun _ => Y) (alC Y (alC Y (alC Y (alN))))))))) <| .nil) Y Y⟩
       ·
        refine D_many [5, 11, 13] (by kernel_rfl) (.q Y Y Y (v_fieldP (ov Y) Y Y tF76_1) ?_ <| .w Y Y Y (fun h => by cases h) (fun h => by cases h) (w_store (ov Y) (ov Y) (cells_scal tS3) Y Y Y (put_le (at_at (o := 65) (o' := (i.toNat * 1)) (atc (o := 64) (ata (m := 64) (o := 0) arL (at0 (hdw arL)))) (at_v1 h_x6)) Y) (cell1_all Y) (put_put (o := 65) (o' := (i.toNat * 1)) (atc (o := 64) (ata (m := 64) (o := 0) arL (at0 (hdw arL)))) (at_v1 h_x6) Y (put_v1 h_x6 (x := 1)) (putc (o := 64) (puta (m := 64) (o := 0) arL (putw (Eq.trans arL (Eq.symm arL))))))) ?_ <| .q Y Y Y (v_fieldP (ov Y) Y Y tF76_1) ?_ <| .nil) 
        ·
         obtain ⟨x7, h_x7, h⟩ := bnd h
         refine D_many [6, 11, 13] (by kernel_rfl) (.q Y Y Y (v_ixAG (ov Y) (ov Y) tR49 Y Y h_x7) ?_ <| .w Y Y Y (fun h => by cases h) (fun h => by cases h) (w_store (ov Y) (ov Y) (cells_scal tS3) Y Y Y (put_le (at_at (o := 65) (o' := (i.toNat * 1)) (atc (o := 64) (ata (m := 64) (o := 0) arL (at0 (hdw arL)))) (at_v1 h_x6)) Y) (cell1_all Y) (put_put (o := 65) (o' := (i.toNat * 1)) (atc (o := 64) (ata (m := 64) (o := 0) arL (at0 (hdw arL)))) (at_v1 h_x6) Y (put_v1 h_x6 (x := 1)) (putc (o := 64) (puta (m := 64) (o := 0) arL (putw (Eq.trans arL (Eq.symm arL))))))) ?_ <| .q Y Y Y (v_fieldP (ov Y) Y Y tF76_1) ?_ <| .nil) 
         ·
          refine D_many [7, 11, 13] (by kernel_rfl) (.q Y Y Y (v_loadS (ov Y) Y Y Y tS47 (at_get (at_at (o := 1) (o' := (i.toNat * 1)) (atc (o := 0) (at0 (hdw arL))) (at_v1 h_x7)))) ?_ <| .w Y Y Y (fun h => by cases h) (fun h => by cases h) (w_store (ov Y) (ov Y) (cells_scal tS3) Y Y Y (put_le (at_at (o := 65) (o' := (i.toNat * 1)) (atc (o := 64) (ata (m := 64) (o := 0) arL (at0 (hdw arL)))) (at_v1 h_x6)) Y) (cell1_all Y) (put_put (o := 65) (o' := (i.toNat * 1)) (atc (o := 64) (ata (m := 64) (o := 0) arL (at0 (hdw arL)))) (at_v1 h_x6) Y (put_v1 h_x6 (x := 1)) (putc (o := 64) (puta (m := 64) (o := 0) arL (putw (Eq.trans arL (Eq.symm arL))))))) ?_ <| .q Y Y Y (v_fieldP (ov Y) Y Y tF76_1) ?_ <| .nil) 
          ·
           refine Dw 13 11 Y Y Y Y Y Y (v_fieldP (ov Y) Y Y tF76_1) (w_store (ov Y) (ov Y) (cells_scal tS3) Y Y Y (put_le (at_at (o := 65) (o' := (i.toNat * 1)) (atc (o := 64) (ata (m := 64) (o := 0) arL (at0 (hdw arL)))) (at_v1 h_x6)) Y) (cell1_all Y) (put_put (o := 65) (o' := (i.toNat * 1)) (atc (o := 64) (ata (m := 64) (o := 0) arL (at0 (hdw arL)))) (at_v1 h_x6) Y (put_v1 h_x6 (x := 1)) (putc (o := 64) (puta (m := 64) (o := 0) arL (putw (Eq.trans arL (Eq.symm arL))))))) ?_ ?_
           ·
            refine Do 11 Y Y Y (w_store (ov Y) (ov Y) (cells_scal tS3) Y Y Y (put_le (at_at (o := 65) (o' := (i.toNat * 1)) (atc (o := 64) (ata (m := 64) (o := 0) arL (at0 (hdw arL)))) (at_v1 h_x6)) Y) (cell1_all Y) (put_put (o := 65) (o' := (i.toNat * 1)) (atc (o := 64) (ata (m := 64) (o := 0) arL (at0 (hdw arL)))) (at_v1 h_x6) Y (put_v1 h_x6 (x := 1)) (putc (o := 64) (puta (m := 64) (o := 0) arL (putw (Eq.trans arL (Eq.symm arL))))))) ?_
            obtain ⟨x8, h_x8, h⟩ := bnd h
            refine Dq 14 Y Y Y (v_ixAG (ov Y) (ov Y) tR49 Y Y h_x8) ?_
            refine Do 15 Y Y Y (w_store (ov Y) (ov Y) (cells_scal tS47) Y Y Y (put_le (at_at (o := 1) (o' := (i.toNat * 1)) (atc (o := 0) (at0 (hdw arL))) (at_v1 h_x8)) Y) (cell1_all Y) (put_put (o := 1) (o' := (i.toNat * 1)) (atc (o := 0) (at0 (hdw arL))) (at_v1 h_x8) Y (put_v1 h_x8 (x := x7)) (putc (o := 0) (putw (Eq.trans arL (Eq.symm arL)))))) ?_
            refine D_done (by kernel_rfl) ?_
            exact ⟨((api_Rest.mk o4.Number (vset o4.Frame i x7) (vset o4.States i 1) o4.Sound o4.Copies o4.Conflict), (differ2 || ((!decide (x3 = 0)) && (!decide (x4 = x5))))), h, Ent.sel [some 0] (sr 0 Y (.ptr _ _ _ Y) <| sd 1 Y Y <| sd 4 Y Y <| sd 5 Y Y <| sd 8 Y Y <| sd 11 Y Y <| sd 12 Y Y <| sd 13 Y Y <| sn) (.cons Y (ro1 (by exact Eq.trans (b := 132) (lnC (n := 131) (lnA (m := 64) (n := 67) arL (lnA (m := 64) (n := 3) arL (lnC (n := 2) (lnC (n := 1) (lnC (n := 0) (lnN))))))) tZ_76.symm) (rld (alC Y (alA (arD fun _ => Y) (alA (arD fun _ => Y) (alC Y (alC Y (alC Y (alN))))))))) <| .nil) Y Y⟩
           ·
            refine Dq 13 Y Y Y (v_fieldP (ov Y) Y Y tF76_1) ?_
            obtain ⟨x8, h_x8, h⟩ := bnd h
            refine Dq 14 Y Y Y (v_ixAG (ov Y) (ov Y) tR49 Y Y h_x8) ?_
            refine Do 15 Y Y Y (w_store (ov Y) (ov Y) (cells_scal tS47) Y Y Y (put_le (at_at (o := 1) (o' := (i.toNat * 1)) (atc (o := 0) (at0 (hdw arL))) (at_v1 h_x8)) Y) (cell1_all Y) (put_put (o := 1) (o' := (i.toNat * 1)) (atc (o := 0) (at0 (hdw arL))) (at_v1 h_x8) Y (put_v1 h_x8 (x := x7)) (putc (o := 0) (putw (Eq.trans arL (Eq.symm arL)))))) ?_
            refine D_done (by kernel_rfl) ?_
            exact ⟨((api_Rest.mk o4.Number (vset o4.Frame i x7) (vset o4.States i 1) o4.Sound o4.Copies o4.Conflict), (differ2 || ((!decide (x3 = 0)) && (!decide (x4 = x5))))), h, Ent.sel [some 0] (sr 0 Y (.ptr _ _ _ Y) <| sd 1 Y Y <| sd 4 Y Y <| sd 5 Y Y <| sd 8 Y Y <| sd 11 Y Y <| sd 12 Y Y <| sd 13 Y Y <| sn) (.cons Y (ro1 (by exact Eq.trans (b := 132) (lnC (n := 131) (lnA (m := 64) (n := 67) arL (lnA (m := 64) (n := 3) arL (lnC (n := 2) (lnC (n := 1) (lnC (n := 0) (lnN))))))) tZ_76.symm) (rld (alC Y (alA (arD fun _ => Y) (alA (arD fun _ => Y) (alC Y (alC Y (alC Y (alN))))))))) <| .nil) Y Y⟩
          ·
           refine Dq 7 Y Y Y (v_loadS (ov Y) Y Y Y tS47 (at_get (at_at (o := 1) (o' := (i.toNat * 1)) (atc (o := 0) (at0 (hdw arL))) (at_v1 h_x7)))) ?_
           refine Dq 13 Y Y Y (v_fieldP (ov Y) Y Y tF76_1) ?_
           obtain ⟨x8, h_x8, h⟩ := bnd h
           refine Dq 14 Y Y Y (v_ixAG (ov Y) (ov Y) tR49 Y Y h_x8) ?_
           refine Do 15 Y Y Y (w_store (ov Y) (ov Y) (cells_scal tS47) Y Y Y (put_le (at_at (o := 1) (o' := (i.toNat * 1)) (atc (o := 0) (at0 (hdw arL))) (at_v1 h_x8)) Y) (cell1_all Y) (put_put (o := 1) (o' := (i.toNat * 1)) (atc (o := 0) (at0 (hdw arL))) (at_v1 h_x8) Y (put_v1 h_x8 (x := x7)) (putc (o := 0) (putw (Eq.trans arL (Eq.symm arL)))))) ?_
           refine D_done (by kernel_rfl) ?_
           exact ⟨((api_Rest.mk o4.Number (vset o4.Frame i x7) (vset o4.States i 1) o4.Sound o4.Copies o4.Conflict), (differ2 || ((!decide (x3 = 0)) && (!decide (x4 = x5))))), h, Ent.sel [some 0] (sr 0 Y (.ptr _ _ _ Y) <| sd 1 Y Y <| sd 4 Y Y <| sd 5 Y Y <| sd 8 Y Y <| sd 11 Y Y <| sd 12 Y Y <| sd 13 Y Y <| sn) (.cons Y (ro1 (by exact Eq.trans (b := 132) (lnC (n := 131) (lnA (m := 64) (n := 67) arL (lnA (m := 64) (n := 3) arL (lnC (n := 2) (lnC (n := 1) (lnC (n := 0) (lnN))))))) tZ_76.symm) (rld (alC Y (alA (arD fun _ => Y) (alA (arD fun _ => Y) (alC Y (alC Y (alC Y (alN))))))))) <| .nil) Y Y⟩
          ·
           refine Dw 7 11 Y Y Y Y Y Y (v_loadS (ov Y) Y Y Y tS47 (at_get (at_at (o := 1) (o' := (i.toNat * 1)) (atc (o := 0) (at0 (hdw arL))) (at_v1 h_x7)))) (w_store (ov Y) (ov Y) (cells_scal tS3) Y Y Y (put_le (at_at (o := 65) (o' := (i.toNat * 1)) (atc (o := 64) (ata (m := 64) (o := 0) arL (at0 (hdw arL)))) (at_v1 h_x6)) Y) (cell1_all Y) (put_put (o := 65) (o' := (i.toNat * 1)) (atc (o := 64) (ata (m := 64) (o := 0) arL (at0 (hdw arL)))) (at_v1 h_x6) Y (put_v1 h_x6 (x := 1)) (putc (o := 64) (puta (m := 64) (o := 0) arL (putw (Eq.trans arL (Eq.symm arL))))))) ?_ ?_
           ·
            refine Do 11 Y Y Y (w_store (ov Y) (ov Y) (cells_scal tS3) Y Y Y (put_le (at_at (o := 65) (o' := (i.toNat * 1)) (atc (o := 64) (ata (m := 64) (o := 0) arL (at0 (hdw arL)))) (at_v1 h_x6)) Y) (cell1_all Y) (put_put (o := 65) (o' := (i.toNat * 1)) (atc (o := 64) (ata (m := 64) (o := 0) arL (at0 (hdw arL)))) (at_v1 h_x6) Y (put_v1 h_x6 (x := 1)) (putc (o := 64) (puta (m := 64) (o := 0) arL (putw (Eq.trans arL (Eq.symm arL))))))) ?_
            obtain ⟨x8, h_x8, h⟩ := bnd h
            refine Dq 14 Y Y Y (v_ixAG (ov Y) (ov Y) tR49 Y Y h_x8) ?_
            refine Do 15 Y Y Y (w_store (ov Y) (ov Y) (cells_scal tS47) Y Y Y (put_le (at_at (o := 1) (o' := (i.toNat * 1)) (atc (o := 0) (at0 (hdw arL))) (at_v1 h_x8)) Y) (cell1_all Y) (put_put (o := 1) (o' := (i.toNat * 1)) (atc (o := 0) (at0 (hdw arL))) (at_v1 h_x8) Y (put_v1 h_x8 (x := x7)) (putc (o := 0) (putw (Eq.trans arL (Eq.symm arL)))))) ?_
            refine D_done (by kernel_rfl) ?_
            exact ⟨((api_Rest.mk o4.Number (vset o4.Frame i x7) (vset o4.States i 1) o4.Sound o4.Copies o4.Conflict), (differ2 || ((!decide (x3 = 0)) && (!decide (x4 = x5))))), h, Ent.sel [some 0] (sr 0 Y (.ptr _ _ _ Y) <| sd 1 Y Y <| sd 4 Y Y <| sd 5 Y Y <| sd 8 Y Y <| sd 11 Y Y <| sd 12 Y Y <| sd 13 Y Y <| sn) (.cons Y (ro1 (by exact Eq.trans (b := 132) (lnC (n := 131) (lnA (m := 64) (n := 67) arL (lnA (m := 64) (n := 3) arL (lnC (n := 2) (lnC (n := 1) (lnC (n := 0) (lnN))))))) tZ_76.symm) (rld (alC Y (alA (arD fun _ => Y) (alA (arD fun _ => Y) (alC Y (alC Y (alC Y (alN))))))))) <| .nil) Y Y⟩
           ·
            refine Dq 7 Y Y Y (v_loadS (ov Y) Y Y Y tS47 (at_get (at_at (o := 1) (o' := (i.toNat * 1)) (atc (o := 0) (at0 (hdw arL))) (at_v1 h_x7)))) ?_
            obtain ⟨x8, h_x8, h⟩ := bnd h
            refine Dq 14 Y Y Y (v_ixAG (ov Y) (ov Y) tR49 Y Y h_x8) ?_
            refine Do 15 Y Y Y (w_store (ov Y) (ov Y) (cells_scal tS47) Y Y Y (put_le (at_at (o := 1) (o' := (i.toNat * 1)) (atc (o := 0) (at0 (hdw arL))) (at_v1 h_x8)) Y) (cell1_all Y) (put_put (o := 1) (o' := (i.toNat * 1)) (atc (o := 0) (at0 (hdw arL))) (at_v1 h_x8) Y (put_v1 h_x8 (x := x7)) (putc (o := 0) (putw (Eq.trans arL (Eq.symm arL)))))) ?_
            refine D_done (by kernel_rfl) ?_
            exact ⟨((api_Rest.mk o4.Number (vset o4.Frame i x7) (vset o4.States i 1) o4.Sound o4.Copies o4.Conflict), (differ2 || ((!decide (x3 = 0)) && (!decide (x4 = x5))))), h, Ent.sel [some 0] (sr 0 Y (.ptr _ _ _ Y) <| sd 1 Y Y <| sd 4 Y Y <| sd 5 Y Y <| sd 8 Y Y <| sd 11 Y Y <| sd 12 Y Y <| sd 13 Y Y <| sn) (.cons Y (ro1 (by exact Eq.trans (b := 132) (lnC (n := 131) (lnA (m := 64) (n := 67) arL (lnA (m := 64) (n := 3) arL (lnC (n := 2) (lnC (n := 1) (lnC (n := 0) (lnN))))))) tZ_76.symm) (rld (alC Y (alA (arD fun _ => Y) (alA (arD fun _ => Y) (alC Y (alC Y (alC Y (alN))))))))) <| .nil) Y Y⟩
         ·
          refine Dq 6 Y Y Y (v_ixAG (ov Y) (ov Y) tR49 Y Y h_x7) ?_
          refine Dq 7 Y Y Y (v_loadS (ov Y) Y Y Y tS47 (at_get (at_at (o := 1) (o' := (i.toNat * 1)) (atc (o := 0) (at0 (hdw arL))) (at_v1 h_x7)))) ?_
          refine Dq 13 Y Y Y (v_fieldP (ov Y) Y Y tF76_1) ?_
          obtain ⟨x8, h_x8, h⟩ := bnd h
          refine Dq 14 Y Y Y (v_ixAG (ov Y) (ov Y) tR49 Y Y h_x8) ?_
          refine Do 15 Y Y Y (w_store (ov Y) (ov Y) (cells_scal tS47) Y Y Y (put_le (at_at (o := 1) (o' := (i.toNat * 1)) (atc (o := 0) (at0 (hdw arL))) (at_v1 h_x8)) Y) (cell1_all Y) (put_put (o := 1) (o' := (i.toNat * 1)) (atc (o := 0) (at0 (hdw arL))) (at_v1 h_x8) Y (put_v1 h_x8 (x := x7)) (putc (o := 0) (putw (Eq.trans arL (Eq.symm arL)))))) ?_
          refine D_done (by kernel_rfl) ?_
          exact ⟨((api_Rest.mk o4.Number (vset o4.Frame i x7) (vset o4.States i 1) o4.Sound o4.Copies o4.Conflict), (differ2 || ((!decide (x3 = 0)) && (!decide (x4 = x5))))), h, Ent.sel [some 0] (sr 0 Y (.ptr _ _ _ Y) <| sd 1 Y Y <| sd 4 Y Y <| sd 5 Y Y <| sd 8 Y Y <| sd 11 Y Y <| sd 12 Y Y <| sd 13 Y Y <| sn) (.cons Y (ro1 (by exact Eq.trans (b := 132) (lnC (n := 131) (lnA (m := 64) (n := 67) arL (lnA (m := 64) (n := 3) arL (lnC (n := 2) (lnC (n := 1) (lnC (n := 0) (lnN))))))) tZ_76.symm) (rld (alC Y (alA (arD fun _ => Y) (alA (arD fun _ => Y) (alC Y (alC Y (alC Y (alN))))))))) <| .nil) Y Y⟩
         ·
          refine Dw 6 11 Y Y Y Y Y Y (v_ixAG (ov Y) (ov Y) tR49 Y Y h_x7) (w_store (ov Y) (ov Y) (cells_scal tS3) Y Y Y (put_le (at_at (o := 65) (o' := (i.toNat * 1)) (atc (o := 64) (ata (m := 64) (o := 0) arL (at0 (hdw arL)))) (at_v1 h_x6)) Y) (cell1_all Y) (put_put (o := 65) (o' := (i.toNat * 1)) (atc (o := 64) (ata (m := 64) (o := 0) arL (at0 (hdw arL)))) (at_v1 h_x6) Y (put_v1 h_x6 (x := 1)) (putc (o := 64) (puta (m := 64) (o := 0) arL (putw (Eq.trans arL (Eq.symm arL))))))) ?_ ?_
          ·
           refine Dw 7 11 Y Y Y Y Y Y (v_loadS (ov Y) Y Y Y tS47 (at_get (at_at (o := 1) (o' := (i.toNat * 1)) (atc (o := 0) (at0 (hdw arL))) (at_v1 h_x7)))) (w_store (ov Y) (ov Y) (cells_scal tS3) Y Y Y (put_le (at_at (o := 65) (o' := (i.toNat * 1)) (atc (o := 64) (ata (m := 64) (o := 0) arL (at0 (hdw arL)))) (at_v1 h_x6)) Y) (cell1_all Y) (put_put (o := 65) (o' := (i.toNat * 1)) (atc (o := 64) (ata (m := 64) (o := 0) arL (at0 (hdw arL)))) (at_v1 h_x6) Y (put_v1 h_x6 (x := 1)) (putc (o := 64) (puta (m := 64) (o := 0) arL (putw (Eq.trans arL (Eq.symm arL))))))) ?_ ?_
           ·
            refine Do 11 Y Y Y (w_store (ov Y) (ov Y) (cells_scal tS3) Y Y Y (put_le (at_at (o := 65) (o' := (i.toNat * 1)) (atc (o := 64) (ata (m := 64) (o := 0) arL (at0 (hdw arL)))) (at_v1 h_x6)) Y) (cell1_all Y) (put_put (o := 65) (o' := (i.toNat * 1)) (atc (o := 64) (ata (m := 64) (o := 0) arL (at0 (hdw arL)))) (at_v1 h_x6) Y (put_v1 h_x6 (x := 1)) (putc (o := 64) (puta (m := 64) (o := 0) arL (putw (Eq.trans arL (Eq.symm arL))))))) ?_
            obtain ⟨x8, h_x8, h⟩ := bnd h
            refine Dq 14 Y Y Y (v_ixAG (ov Y) (ov Y) tR49 Y Y h_x8) ?_
            refine Do 15 Y Y Y (w_store (ov Y) (ov Y) (cells_scal tS47) Y Y Y (put_le (at_at (o := 1) (o' := (i.toNat * 1)) (atc (o := 0) (at0 (hdw arL))) (at_v1 h_x8)) Y) (cell1_all Y) (put_put (o := 1) (o' := (i.toNat * 1)) (atc (o := 0) (at0 (hdw arL))) (at_v1 h_x8) Y (put_v1 h_x8 (x := x7)) (putc (o := 0) (putw (Eq.trans arL (Eq.symm arL)))))) ?_
            refine D_done (by kernel_rfl) ?_
            exact ⟨((api_Rest.mk o4.Number (vset o4.Frame i x7) (vset o4.States i 1) o4.Sound o4.Copies o4.Conflict), (differ2 || ((!decide (x3 = 0)) && (!decide (x4 = x5))))), h, Ent.sel [some 0] (sr 0 Y (.ptr _ _ _ Y) <| sd 1 Y Y <| sd 4 Y Y <| sd 5 Y Y <| sd 8 Y Y <| sd 11 Y Y <| sd 12 Y Y <| sd 13 Y Y <| sn) (.cons Y (ro1 (by exact Eq.trans (b := 132) (lnC (n := 131) (lnA (m := 64) (n := 67) arL (lnA (m := 64) (n := 3) arL (lnC (n := 2) (lnC (n := 1) (lnC (n := 0) (lnN))))))) tZ_76.symm) (rld (alC Y (alA (arD fun _ => Y) (alA (arD fun _ => Y) (alC Y (alC Y (alC Y (alN))))))))) <| .nil) Y Y⟩
           ·
            refine Dq 7 Y Y Y (v_loadS (ov Y) Y Y Y tS47 (at_get (at_at (o := 1) (o' := (i.toNat * 1)) (atc (o := 0) (at0 (hdw arL))) (at_v1 h_x7)))) ?_
            obtain ⟨x8, h_x8, h⟩ := bnd h
            refine Dq 14 Y Y Y (v_ixAG (ov Y) (ov Y) tR49 Y Y h_x8) ?_
            refine Do 15 Y Y Y (w_store (ov Y) (ov Y) (cells_scal tS47) Y Y Y (put_le (at_at (o := 1) (o' := (i.toNat * 1)) (atc (o := 0) (at0 (hdw arL))) (at_v1 h_x8)) Y) (cell1_all Y) (put_put (o := 1) (o' := (i.toNat * 1)) (atc (o := 0) (at0 (hdw arL))) (at_v1 h_x8) Y (put_v1 h_x8 (x := x7)) (putc (o := 0) (putw (Eq.trans arL (Eq.symm arL)))))) ?_
            refine D_done (by kernel_rfl) ?_
            exact ⟨((api_Rest.mk o4.Number (vset o4.Frame i x7) (vset o4.States i 1) o4.Sound o4.Copies o4.Conflict), (differ2 || ((!decide (x3 = 0)) && (!decide (x4 = x5))))), h, Ent.sel [some 0] (sr 0 Y (.ptr _ _ _ Y) <| sd 1 Y Y <| sd 4 Y Y <| sd 5 Y Y <| sd 8 Y Y <| sd 11 Y Y <| sd 12 Y Y <| sd 13 Y Y <| sn) (.cons Y (ro1 (by exact Eq.trans (b := 132) (lnC (n := 131) (lnA (m := 64) (n := 67) arL (lnA (m := 64) (n := 3) arL (lnC (n := 2) (lnC (n := 1) (lnC (n := 0) (lnN))))))) tZ_76.symm) (rld (alC Y (alA (arD fun _ => Y) (alA (arD fun _ => Y) (alC Y (alC Y (alC Y (alN))))))))) <| .nil) Y Y⟩
          ·
           refine Dq 6 Y Y Y (v_ixAG (ov Y) (ov Y) tR49 Y Y h_x7) ?_
           refine Dq 7 Y Y Y (v_loadS (ov Y) Y Y Y tS47 (at_get (at_at (o := 1) (o' := (i.toNat * 1)) (atc (o := 0) (at0 (hdw arL))) (at_v1 h_x7)))) ?_
           obtain ⟨x8, h_x8, h⟩ := bnd h
           refine Dq 14 Y Y Y (v_ixAG (ov Y) (ov Y) tR49 Y Y h_x8) ?_
           refine Do 15 Y Y Y (w_store (ov Y) (ov Y) (cells_scal tS47) Y Y Y (put_le (at_at (o := 1) (o' := (i.toNat * 1)) (atc (o := 0) (at0 (hdw arL))) (at_v1 h_x8)) Y) (cell1_all Y) (put_put (o := 1) (o' := (i.toNat * 1)) (atc (o := 0) (at0 (hdw arL))) (at_v1 h_x8) Y (put_v1 h_x8 (x := x7)) (putc (o := 0) (putw (Eq.trans arL (Eq.symm arL)))))) ?_
           refine D_done (by kernel_rfl) ?_
           exact ⟨((api_Rest.mk o4.Number (vset o4.Frame i x7) (vset o4.States i 1) o4.Sound o4.Copies o4.Conflict), (differ2 || ((!decide (x3 = 0)) && (!decide (x4 = x5))))), h, Ent.sel [some 0] (sr 0 Y (.ptr _ _ _ Y) <| sd 1 Y Y <| sd 4 Y Y <| sd 5 Y Y <| sd 8 Y Y <| sd 11 Y Y <| sd 12 Y Y <| sd 13 Y Y <| sn) (.cons Y (ro1 (by exact Eq.trans (b := 132) (lnC (n := 131) (lnA (m := 64) (n := 67) arL (lnA (m := 64) (n := 3) arL (lnC (n := 2) (lnC (n := 1) (lnC (n := 0) (lnN))))))) tZ_76.symm) (rld (alC Y (alA (arD fun _ => Y) (alA (arD fun _ => Y) (alC Y (alC Y (alC Y (alN))))))))) <| .nil) Y Y⟩
        ·
         refine Dq 5 Y Y Y (v_fieldP (ov Y) Y Y tF76_1) ?_
         obtain ⟨x7, h_x7, h⟩ := bnd h
         refine Dq 6 Y Y Y (v_ixAG (ov Y) (ov Y) tR49 Y Y h_x7) ?_
         refine Dq 7 Y Y Y (v_loadS (ov Y) Y Y Y tS47 (at_get (at_at (o := 1) (o' := (i.toNat * 1)) (atc (o := 0) (at0 (hdw arL))) (at_v1 h_x7)))) ?_
         refine Dq 13 Y Y Y (v_fieldP (ov Y) Y Y tF76_1) ?_
         obtain ⟨x8, h_x8, h⟩ := bnd h
         refine Dq 14 Y Y Y (v_ixAG (ov Y) (ov Y) tR49 Y Y h_x8) ?_
         refine Do 15 Y Y Y (w_store (ov Y) (ov Y) (cells_scal tS47) Y Y Y (put_le (at_at (o := 1) (o' := (i.toNat * 1)) (atc (o := 0) (at0 (hdw arL))) (at_v1 h_x8)) Y) (cell1_all Y) (put_put (o := 1) (o' := (i.toNat * 1)) (atc (o := 0) (at0 (hdw arL))) (at_v1 h_x8) Y (put_v1 h_x8 (x := x7)) (putc (o := 0) (putw (Eq.trans arL (Eq.symm arL)))))) ?_
         refine D_done (by kernel_rfl) ?_
         exact ⟨((api_Rest.mk o4.Number (vset o4.Frame i x7) (vset o4.States i 1) o4.Sound o4.Copies o4.Conflict), (differ2 || ((!decide (x3 = 0)) && (!decide (x4 = x5))))), h, Ent.sel [some 0] (sr 0 Y (.ptr _ _ _ Y) <| sd 1 Y Y <| sd 4 Y Y <| sd 5 Y Y <| sd 8 Y Y <| sd 11 Y Y <| sd 12 Y Y <| sd 13 Y Y <| sn) (.cons Y (ro1 (by exact Eq.trans (b := 132) (lnC (n := 131) (lnA (m := 64) (n := 67) arL (lnA (m := 64) (n := 3) arL (lnC (n := 2) (lnC (n := 1) (lnC (n := 0) (lnN))))))) tZ_76.symm) (rld (alC Y (alA (arD fun _ => Y) (alA (arD fun _ => Y) (alC Y (alC Y (alC Y (alN))))))))) <| .nil) Y Y⟩
        ·
         refine Dw 5 11 Y Y Y Y Y Y (v_fieldP (ov Y) Y Y tF76_1) (w_store (ov Y) (ov Y) (cells_scal tS3) Y Y Y (put_le (at_at (o := 65) (o' := (i.toNat * 1)) (atc (o := 64) (ata (m := 64) (o := 0) arL (at0 (hdw arL)))) (at_v1 h_x6)) Y) (cell1_all Y) (put_put (o := 65) (o' := (i.toNat * 1)) (atc (o := 64) (ata (m := 64) (o := 0) arL (at0 (hdw arL)))) (at_v1 h_x6) Y (put_v1 h_x6 (x := 1)) (putc (o := 64) (puta (m := 64) (o := 0) arL (putw (Eq.trans arL (Eq.symm arL))))))) ?_ ?_
         ·
          obtain ⟨x7, h_x7, h⟩ := bnd h
          refine Dw 6 11 Y Y Y Y Y Y (v_ixAG (ov Y) (ov Y) tR49 Y Y h_x7) (w_store (ov Y) (ov Y) (cells_scal tS3) Y Y Y (put_le (at_at (o := 65) (o' := (i.toNat * 1)) (atc (o := 64) (ata (m := 64) (o := 0) arL (at0 (hdw arL)))) (at_v1 h_x6)) Y) (cell1_all Y) (put_put (o := 65) (o' := (i.toNat * 1)) (atc (o := 64) (ata (m := 64) (o := 0) arL (at0 (hdw arL)))) (at_v1 h_x6) Y (put_v1 h_x6 (x := 1)) (putc (o := 64) (puta (m := 64) (o := 0) arL (putw (Eq.trans arL (Eq.symm arL))))))) ?_ ?_
          ·
           refine Dw 7 11 Y Y Y Y Y Y (v_loadS (ov Y) Y Y Y tS47 (at_get (at_at (o := 1) (o' := (i.toNat * 1)) (atc (o := 0) (at0 (hdw arL))) (at_v1 h_x7)))) (w_store (ov Y) (ov Y) (cells_scal tS3) Y Y Y (put_le (at_at (o := 65) (o' := (i.toNat * 1)) (atc (o := 64) (ata (m := 64) (o := 0) arL (at0 (hdw arL)))) (at_v1 h_x6)) Y) (cell1_all Y) (put_put (o := 65) (o' := (i.toNat * 1)) (atc (o := 64) (ata (m := 64) (o := 0) arL (at0 (hdw arL)))) (at_v1 h_x6) Y (put_v1 h_x6 (x := 1)) (putc (o := 64) (puta (m := 64) (o := 0) arL (putw (Eq.trans arL (Eq.symm arL))))))) ?_ ?_
           ·
            refine Do 11 Y Y Y (w_store (ov Y) (ov Y) (cells_scal tS3) Y Y Y (put_le (at_at (o := 65) (o' := (i.toNat * 1)) (atc (o := 64) (ata (m := 64) (o := 0) arL (at0 (hdw arL)))) (at_v1 h_x6)) Y) (cell1_all Y) (put_put (o := 65) (o' := (i.toNat * 1)) (atc (o := 64) (ata (m := 64) (o := 0) arL (at0 (hdw arL)))) (at_v1 h_x6) Y (put_v1 h_x6 (x := 1)) (putc (o := 64) (puta (m := 64) (o := 0) arL (putw (Eq.trans arL (Eq.symm arL))))))) ?_
            obtain ⟨x8, h_x8, h⟩ := bnd h
            refine Dq 14 Y Y Y (v_ixAG (ov Y) (ov Y) tR49 Y Y h_x8) ?_
            refine Do 15 Y Y Y (w_store (ov Y) (ov Y) (cells_scal tS47) Y Y Y (put_le (at_at (o := 1) (o' := (i.toNat * 1)) (atc (o := 0) (at0 (hdw arL))) (at_v1 h_x8)) Y) (cell1_all Y) (put_put (o := 1) (o' := (i.toNat * 1)) (atc (o := 0) (at0 (hdw arL))) (at_v1 h_x8) Y (put_v1 h_x8 (x := x7)) (putc (o := 0) (putw (Eq.trans arL (Eq.symm arL)))))) ?_
            refine D_done (by kernel_rfl) ?_
            exact ⟨((api_Rest.mk o4.Number (vset o4.Frame i x7) (vset o4.States i 1) o4.Sound o4.Copies o4.Conflict), (differ2 || ((!decide (x3 = 0)) && (!decide (x4 = x5))))), h, Ent.sel [some 0] (sr 0 Y (.ptr _ _ _ Y) <| sd 1 Y Y <| sd 4 Y Y <| sd 5 Y Y <| sd 8 Y Y <| sd 11 Y Y <| sd 12 Y Y <| sd 13 Y Y <| sn) (.cons Y (ro1 (by exact Eq.trans (b := 132) (lnC (n := 131) (lnA (m := 64) (n := 67) arL (lnA (m := 64) (n := 3) arL (lnC (n := 2) (lnC (n := 1) (lnC (n := 0) (lnN))))))) tZ_76.symm) (rld (alC Y (alA (arD fun _ => Y) (alA (arD fun _ => Y) (alC Y (alC Y (alC Y (alN))))))))) <| .nil) Y Y⟩
           ·
            refine Dq 7 Y Y Y (v_loadS (ov Y) Y Y Y tS47 (at_get (at_at (o := 1) (o' := (i.toNat * 1)) (atc (o := 0) (at0 (hdw arL))) (at_v1 h_x7)))) ?_
            obtain ⟨x8, h_x8, h⟩ := bnd h
            refine Dq 14 Y Y Y (v_ixAG (ov Y) (ov Y) tR49 Y Y h_x8) ?_
            refine Do 15 Y Y Y (w_store (ov Y) (ov Y) (cells_scal tS47) Y Y Y (put_le (at_at (o := 1) (o' := (i.toNat * 1)) (atc (o := 0) (at0 (hdw arL))) (at_v1 h_x8)) Y) (cell1_all Y) (put_put (o := 1) (o' := (i.toNat * 1)) (atc (o := 0) (at0 (hdw arL))) (at_v1 h_x8) Y (put_v1 h_x8 (x := x7)) (putc (o := 0) (putw (Eq.trans arL (Eq.symm arL)))))) ?_
            refine D_done (by kernel_rfl) ?_
            exact ⟨((api_Rest.mk o4.Number (vset o4.Frame i x7) (vset o4.States i 1) o4.Sound o4.Copies o4.Conflict), (differ2 || ((!decide (x3 = 0)) && (!decide (x4 = x5))))), h, Ent.sel [some 0] (sr 0 Y (.ptr _ _ _ Y) <| sd 1 Y Y <| sd 4 Y Y <| sd 5 Y Y <| sd 8 Y Y <| sd 11 Y Y <| sd 12 Y Y <| sd 13 Y Y <| sn) (.cons Y (ro1 (by exact Eq.trans (b := 132) (lnC (n := 131) (lnA (m := 64) (n := 67) arL (lnA (m := 64) (n := 3) arL (lnC (n := 2) (lnC (n := 1) (lnC (n := 0) (lnN))))))) tZ_76.symm) (rld (alC Y (alA (arD fun _ => Y) (alA (arD fun _ => Y) (alC Y (alC Y (alC Y (alN))))))))) <| .nil) Y Y⟩
          ·
           refine Dq 6 Y Y Y (v_ixAG (ov Y) (ov Y) tR49 Y Y h_x7) ?_
           refine Dq 7 Y Y Y (v_loadS (ov Y) Y Y Y tS47 (at_get (at_at (o := 1) (o' := (i.toNat * 1)) (atc (o := 0) (at0 (hdw arL))) (at_v1 h_x7)))) ?_
           obtain ⟨x8, h_x8, h⟩ := bnd h
           refine Dq 14 Y Y Y (v_ixAG (ov Y) (ov Y) tR49 Y Y h_x8) ?_
           refine Do 15 Y Y Y (w_store (ov Y) (ov Y) (cells_scal tS47) Y Y Y (put_le (at_at (o := 1) (o' := (i.toNat * 1)) (atc (o := 0) (at0 (hdw arL))) (at_v1 h_x8)) Y) (cell1_all Y) (put_put (o := 1) (o' := (i.toNat * 1)) (atc (o := 0) (at0 (hdw arL))) (at_v1 h_x8) Y (put_v1 h_x8 (x := x7)) (putc (o := 0) (putw (Eq.trans arL (Eq.symm arL)))))) ?_
           refine D_done (by kernel_rfl) ?_
           exact ⟨((api_Rest.mk o4.Number (vset o4.Frame i x7) (vset o4.States i 1) o4.Sound o4.Copies o4.Conflict), (differ2 || ((!decide (x3 = 0)) && (!decide (x4 = x5))))), h, Ent.sel [some 0] (sr 0 Y (.ptr _ _ _ Y) <| sd 1 Y Y <| sd 4 Y Y <| sd 5 Y Y <| sd 8 Y Y <| sd 11 Y Y <| sd 12 Y Y <| sd 13 Y Y <| sn) (.cons Y (ro1 (by exact Eq.trans (b := 132) (lnC (n := 131) (lnA (m := 64) (n := 67) arL (lnA (m := 64) (n := 3) arL (lnC (n := 2) (lnC (n := 1) (lnC (n := 0) (lnN))))))) tZ_76.symm) (rld (alC Y (alA (arD fun _ => Y) (alA (arD fun _ => Y) (alC Y (alC Y (alC Y (alN))))))))) <| .nil) Y Y⟩
         ·
          refine Dq 5 Y Y Y (v_fieldP (ov Y) Y Y tF76_1) ?_
          obtain ⟨x7, h_x7, h⟩ := bnd h
          refine Dq 6 Y Y Y (v_ixAG (ov Y) (ov Y) tR49 Y Y h_x7) ?_
          refine Dq 7 Y Y Y (v_loadS (ov Y) Y Y Y tS47 (at_get (at_at (o := 1) (o' := (i.toNat * 1)) (atc (o := 0) (at0 (hdw arL))) (at_v1 h_x7)))) ?_
          obtain ⟨x8, h_x8, h⟩ := bnd h
          refine Dq 14 Y Y Y (v_ixAG (ov Y) (ov Y) tR49 Y Y h_x8) ?_
          refine Do 15 Y Y Y (w_store (ov Y) (ov Y) (cells_scal tS47) Y Y Y (put_le (at_at (o := 1) (o' := (i.toNat * 1)) (atc (o := 0) (at0 (hdw arL))) (at_v1 h_x8)) Y) (cell1_all Y) (put_put (o := 1) (o' := (i.toNat * 1)) (atc (o := 0) (at0 (hdw arL))) (at_v1 h_x8) Y (put_v1 h_x8 (x := x7)) (putc (o := 0) (putw (Eq.trans arL (Eq.symm arL)))))) ?_
          refine D_done (by kernel_rfl) ?_
          exact ⟨((api_Rest.mk o4.Number (vset o4.Frame i x7) (vset o4.States i 1) o4.Sound o4.Copies o4.Conflict), (differ2 || ((!decide (x3 = 0)) && (!decide (x4 = x5))))), h, Ent.sel [some 0] (sr 0 Y (.ptr _ _ _ Y) <| sd 1 Y Y <| sd 4 Y Y <| sd 5 Y Y <| sd 8 Y Y <| sd 11 Y Y <| sd 12 Y Y <| sd 13 Y Y <| sn) (.cons Y (ro1 (by exact Eq.trans (b := 132) (lnC (n := 131) (lnA (m := 64) (n := 67) arL (lnA (m := 64) (n := 3) arL (lnC (n := 2) (lnC (n := 1) (lnC (n := 0) (lnN))))))) tZ_76.symm) (rld (alC Y (alA (arD fun _ => Y) (alA (arD fun _ => Y) (alC Y (alC Y (alC Y (alN))))))))) <| .nil) Y Y⟩
     ·
      obtain ⟨o5, differ3⟩ := j
      replace h := t2i h
      refine t2T ?_
      refine T_reg <| Rq Y (v_add (ov Y) (ov Y) Y) <| Rq Y (v_move (ov Y)) <| R_nil ?_
      exact ⟨(o5, differ3, (i64 (i2 + 1))), h, Ent.sel [some 0] (sr 0 Y (.ptr _ _ _ Y) <| sd 1 Y Y <| sd 4 Y Y <| sd 5 Y Y <| sd 8 Y Y <| sd 11 Y Y <| sd 12 Y Y <| sd 13 Y Y <| sn) (.cons Y (ro1 (by exact Eq.trans (b := 132) (lnC (n := 131) (lnA (m := 64) (n := 67) arL (lnA (m := 64) (n := 3) arL (lnC (n := 2) (lnC (n := 1) (lnC (n := 0) (lnN))))))) tZ_76.symm) (rld (alC Y (alA (arD fun _ => Y) (alA (arD fun _ => Y) (alC Y (alC Y (alC Y (alN))))))))) <| .nil) Y Y⟩
    ·
     refine T_exit ?_
     rw [lx h] at ho2
     replace h := ho2
     exact ⟨(o4, differ2), h, Ent.sel [some 0] (sr 0 Y (.ptr _ _ _ Y) <| sd 1 Y Y <| sd 4 Y Y <| sd 5 Y Y <| sd 8 Y Y <| sn) (.cons Y (ro1 (by exact Eq.trans (b := 132) (lnC (n := 131) (lnA (m := 64) (n := 67) arL (lnA (m := 64) (n := 3) arL (lnC (n := 2) (lnC (n := 1) (lnC (n := 0) (lnN))))))) tZ_76.symm) (rld (alC Y (alA (arD fun _ => Y) (alA (arD fun _ => Y) (alC Y (alC Y (alC Y (alN))))))))) <| .nil) Y Y⟩
   ·
    obtain ⟨o3, differ⟩ := j
    replace h := t2i h
    refine t2T ?_
    refine Tr <| Rq Y (v_move (ov Y)) <| R_nil <| T_keep (kc 0 Y <| kc 1 Y <| kc 4 Y <| kc 8 Y <| kc 60 Y <| kn) Y <| T_if h Y (fun b60 h => ?_) (fun b60 h => ?_)
    ·
     refine T_keep (kc 0 Y <| kc 1 Y <| kc 4 Y <| kc 8 Y <| kn) Y <| T_draw (cw := md0) (by kernel_rfl) <| Dq 0 Y Y Y (v_move (ov Y)) <| Dq 1 Y Y Y (v_move (ov Y)) <| Dq 4 Y Y Y (v_nilCheckP (ov Y) Y Y) <| Dq 5 Y Y Y (v_fieldP (ov Y) Y Y tF76_2) ?_
     obtain ⟨x9, h_x9, h⟩ := bnd h
     refine Dq 6 Y Y Y (v_ixAG (ov Y) (ov Y) tR74 Y Y h_x9) ?_
     refine D_free 2 _ Y (by kernel_rfl) Y Y (fun hp' => v_move (ov Y)) ?_
     refine D_free 3 _ Y (by kernel_rfl) Y Y (fun hp' => v_move (ov Y)) ?_
     refine Dw 8 7 Y Y Y Y Y Y (v_nilCheckP (ov Y) Y Y) (w_store (ov Y) (ov Y) (cells_scal tS3) Y Y Y (put_le (at_at (o := 65) (o' := (i.toNat * 1)) (atc (o := 64) (ata (m := 64) (o := 0) arL (at0 (hdw arL)))) (at_v1 h_x9)) Y) (cell1_all Y) (put_put (o := 65) (o' := (i.toNat * 1)) (atc (o := 64) (ata (m := 64) (o := 0) arL (at0 (hdw arL)))) (at_v1 h_x9) Y (put_v1 h_x9 (x := 0)) (putc (o := 64) (puta (m := 64) (o := 0) arL (putw (Eq.trans arL (Eq.symm arL))))))) ?_ ?_
     ·
      refine Dw 9 7 Y Y Y Y Y Y (v_fieldP (ov Y) Y Y tF76_1) (w_store (ov Y) (ov Y) (cells_scal tS3) Y Y Y (put_le (at_at (o := 65) (o' := (i.toNat * 1)) (atc (o := 64) (ata (m := 64) (o := 0) arL (at0 (hdw arL)))) (at_v1 h_x9)) Y) (cell1_all Y) (put_put (o := 65) (o' := (i.toNat * 1)) (atc (o := 64) (ata (m := 64) (o := 0) arL (at0 (hdw arL)))) (at_v1 h_x9) Y (put_v1 h_x9 (x := 0)) (putc (o := 64) (puta (m := 64) (o := 0) arL (putw (Eq.trans arL (Eq.symm arL))))))) ?_ ?_
      ·
       refine Do 7 Y Y Y (w_store (ov Y) (ov Y) (cells_scal tS3) Y Y Y (put_le (at_at (o := 65) (o' := (i.toNat * 1)) (atc (o := 64) (ata (m := 64) (o := 0) arL (at0 (hdw arL)))) (at_v1 h_x9)) Y) (cell1_all Y) (put_put (o := 65) (o' := (i.toNat * 1)) (atc (o := 64) (ata (m := 64) (o := 0) arL (at0 (hdw arL)))) (at_v1 h_x9) Y (put_v1 h_x9 (x := 0)) (putc (o := 64) (puta (m := 64) (o := 0) arL (putw (Eq.trans arL (Eq.symm arL))))))) ?_
       obtain ⟨x10, h_x10, h⟩ := bnd h
       refine Dq 10 Y Y Y (v_ixAG (ov Y) (ov Y) tR49 Y Y h_x10) ?_
       refine Do 11 Y Y Y (w_store (ov Y) (ov Y) (cells_scal tS47) Y Y Y (put_le (at_at (o := 1) (o' := (i.toNat * 1)) (atc (o := 0) (at0 (hdw arL))) (at_v1 h_x10)) Y) (cell1_all Y) (put_put (o := 1) (o' := (i.toNat * 1)) (atc (o := 0) (at0 (hdw arL))) (at_v1 h_x10) Y (put_v1 h_x10 (x := 0)) (putc (o := 0) (putw (Eq.trans arL (Eq.symm arL)))))) ?_
       refine D_done (by kernel_rfl) ?_
       exact ⟨(api_Rest.mk o3.Number (vset o3.Frame i 0) (vset o3.States i 0) o3.Sound o3.Copies o3.Conflict), h, Ent.sel [some 0] (sr 0 Y (.ptr _ _ _ Y) <| sd 1 Y Y <| sd 8 Y Y <| sn) (.cons Y (ro1 (by exact Eq.trans (b := 132) (lnC (n := 131) (lnA (m := 64) (n := 67) arL (lnA (m := 64) (n := 3) arL (lnC (n := 2) (lnC (n := 1) (lnC (n := 0) (lnN))))))) tZ_76.symm) (rld (alC Y (alA (arD fun _ => Y) (alA (arD fun _ => Y) (alC Y (alC Y (alC Y (alN))))))))) <| .nil) Y Y⟩
      ·
       refine Dq 9 Y Y Y (v_fieldP (ov Y) Y Y tF76_1) ?_
       obtain ⟨x10, h_x10, h⟩ := bnd h
       refine Dq 10 Y Y Y (v_ixAG (ov Y) (ov Y) tR49 Y Y h_x10) ?_
       refine Do 11 Y Y Y (w_store (ov Y) (ov Y) (cells_scal tS47) Y Y Y (put_le (at_at (o := 1) (o' := (i.toNat * 1)) (atc (o := 0) (at0 (hdw arL))) (at_v1 h_x10)) Y) (cell1_all Y) (put_put (o := 1) (o' := (i.toNat * 1)) (atc (o := 0) (at0 (hdw arL))) (at_v1 h_x10) Y (put_v1 h_x10 (x := 0)) (putc (o := 0) (putw (Eq.trans arL (Eq.symm arL)))))) ?_
       refine D_done (by kernel_rfl) ?_
       exact ⟨(api_Rest.mk o3.Number (vset o3.Frame i 0) (vset o3.States i 0) o3.Sound o3.Copies o3.Conflict), h, Ent.sel [some 0] (sr 0 Y (.ptr _ _ _ Y) <| sd 1 Y Y <| sd 8 Y Y <| sn) (.cons Y (ro1 (by exact Eq.trans (b := 132) (lnC (n := 131) (lnA (m := 64) (n := 67) arL (lnA (m := 64) (n := 3) arL (lnC (n := 2) (lnC (n := 1) (lnC (n := 0) (lnN))))))) tZ_76.symm) (rld (alC Y (alA (arD fun _ => Y) (alA (arD fun _ => Y) (alC Y (alC Y (alC Y (alN))))))))) <| .nil) Y Y⟩
     ·
      refine Dq 8 Y Y Y (v_nilCheckP (ov Y) Y Y) ?_
      refine Dq 9 Y Y Y (v_fieldP (ov Y) Y Y tF76_1) ?_
      obtain ⟨x10, h_x10, h⟩ := bnd h
      refine Dq 10 Y Y Y (v_ixAG (ov Y) (ov Y) tR49 Y Y h_x10) ?_
      refine Do 11 Y Y Y (w_store (ov Y) (ov Y) (cells_scal tS47) Y Y Y (put_le (at_at (o := 1) (o' := (i.toNat * 1)) (atc (o := 0) (at0 (hdw arL))) (at_v1 h_x10)) Y) (cell1_all Y) (put_put (o := 1) (o' := (i.toNat * 1)) (atc (o := 0) (at0 (hdw arL))) (at_v1 h_x10) Y (put_v1 h_x10 (x := 0)) (putc (o := 0) (putw (Eq.trans arL (Eq.symm arL)))))) ?_
      refine D_done (by kernel_rfl) ?_
      exact ⟨(api_Rest.mk o3.Number (vset o3.Frame i 0) (vset o3.States i 0) o3.Sound o3.Copies o3.Conflict), h, Ent.sel [some 0] (sr 0 Y (.ptr _ _ _ Y) <| sd 1 Y Y <| sd 8 Y Y <| sn) (.cons Y (ro1 (by exact Eq.trans (b := 132) (lnC (n := 131) (lnA (m := 64) (n := 67) arL (lnA (m := 64) (n := 3) arL (lnC (n := 2) (lnC (n := 1) (lnC (n := 0) (lnN))))))) tZ_76.symm) (rld (alC Y (alA (arD fun _ => Y) (alA (arD fun _ => Y) (alC Y (alC Y (alC Y (alN))))))))) <| .nil) Y Y⟩
    ·
     refine T_skip ?_
     exact ⟨o3, h, Ent.sel [some 0] (sr 0 Y (.ptr _ _ _ Y) <| sd 1 Y Y <| sd 8 Y Y <| sn) (.cons Y (ro1 (by exact Eq.trans (b := 132) (lnC (n := 131) (lnA (m := 64) (n := 67) arL (lnA (m := 64) (n := 3) arL (lnC (n := 2) (lnC (n := 1) (lnC (n := 0) (lnN))))))) tZ_76.symm) (rld (alC Y (alA (arD fun _ => Y) (alA (arD fun _ => Y) (alC Y (alC Y (alC Y (alN))))))))) <| .nil) Y Y⟩
  ·
   obtain ⟨o2, rfl⟩ : ∃ x, x = j := ⟨_, rfl⟩
   replace h := t1i h
   refine t1T ?_
   refine T_reg <| Rq Y (v_add (ov Y) (ov Y) Y) <| Rq Y (v_move (ov Y)) <| R_nil ?_
   exact ⟨(o2, (i64 (i + 1))), h, Ent.sel [some 0] (sr 0 Y (.ptr _ _ _ Y) <| sd 1 Y Y <| sd 8 Y Y <| sn) (.cons Y (ro1 (by exact Eq.trans (b := 132) (lnC (n := 131) (lnA (m := 64) (n := 67) arL (lnA (m := 64) (n := 3) arL (lnC (n := 2) (lnC (n := 1) (lnC (n := 0) (lnN))))))) tZ_76.symm) (rld (alC Y (alA (arD fun _ => Y) (alA (arD fun _ => Y) (alC Y (alC Y (alC Y (alN))))))))) <| .nil) Y Y⟩
 ·
  refine T_exit ?_
  rw [lx h] at ho1
  replace h := ho1
  obtain rfl := rt (v := o) h
  exact retgn [some 0] Y (.nil) (.cons Y (ro1 (by exact Eq.trans (b := 132) (lnC (n := 131) (lnA (m := 64) (n := 67) arL (lnA (m := 64) (n := 3) arL (lnC (n := 2) (lnC (n := 1) (lnC (n := 0) (lnN))))))) tZ_76.symm) (rld (alC Y (alA (arD fun _ => Y) (alA (arD fun _ => Y) (alC Y (alC Y (alC Y (alN))))))))) <| .nil) Y Y (rTup (rln))
end Go.Proofs.YtciaeohnkfnamaaGreatDoor
