/- A text of the proof: a verified executor of the program form, or the contracts of the functions that the law reaches. -/
import Derived.Test.YtciaeohnkfnamaaGreatDoorOkZb
set_option linter.all false
namespace Go.Proofs.YtciaeohnkfnamaaGreatDoor
open Go Go.Vx
set_option maxRecDepth 10000
set_option maxHeartbeats 1000000
set_option linter.unusedVariables false
theorem ok_salvage_some_1 {s : Int} {c0 : Int} {c1 : Int} {r : Bool} (h : salvage_some_1 s c0 c1 = some r) :
  CSpec Tryz.prog gl0 211 [.int .i64 s, .rp [.int .i64 c0] 0, .rp [.int .i64 c1] 0] (.bool r) := by
 unfold salvage_some_1 at h
 replace h := bnd0 h
 refine spec_of (by kernel_rfl) Tryz.func211 Y Y ?_
 intro w0 A
 refine Tr <| Rq Y (v_assign (ov Y)) <| R_nil <| Tr <| Rq Y (v_move (ov Y)) <| Rq Y (v_loadS_r (ov Y) tS3 Y) <| Rq Y (v_eql (ov Y) (ov Y)) <| Rq Y (v_move (ov Y)) <| Rq Y (.guarded ((decide (s = c0)) == false) Y Y Y Y fun h => v_move (ov Y)) <| Rq Y (.guarded ((decide (s = c0)) == false) Y Y Y Y fun h => v_loadS_r (ov Y) tS3 Y) <| Rq Y (.guarded ((decide (s = c0)) == false) Y Y Y Y fun h => v_eql (ow Y h) (ow Y h)) <| Rq Y (v_or (ov Y) (fun hp => ow Y (gF hp))) <| Rq Y (v_assign (ov Y)) <| R_nil ?_
 obtain rfl := rt (v := ((decide (s = c0)) || (decide (s = c1)))) h
 refine T_ret (retq ?_ (.one (.tmp Y (Dat.view (.b Y)))))
 rfl

theorem ok_salvage_some {r_ : api_Rest} {a : Int} {b : Int} {r : Bool} (h : salvage_some r_ a b = some r) :
  CSpec Tryz.prog gl0 132 [.agg ((.int .i64 r_.Number) :: ((List.map C47 r_.Frame.toList) ++ (((List.map C3 r_.States.toList) ++ ((.bool r_.Sound) :: (.int .i64 r_.Copies) :: (.bool r_.Conflict) :: []))))), .int .i64 a, .int .i64 b] (.bool r) := by
 unfold salvage_some at h
 replace h := bnd0 h
 refine spec_of (by kernel_rfl) Tryz.func132 Y Y ?_
 intro w0 A
 refine Tr <| Rq Y (v_boxD (cva (ov Y)) (lnC (n := 131) (lnA (m := 64) (n := 67) arL (lnA (m := 64) (n := 3) arL (lnC (n := 2) (lnC (n := 1) (lnC (n := 0) (lnN))))))) tZ_76 (alC Y (alA (arD fun _ => Y) (alA (arD fun _ => Y) (alC Y (alC Y (alC Y (alN)))))))) <| Rq Y (v_boxD (cvs (ov Y) (cell1_b Y)) Y tZ_3 Y) <| Rq Y (v_boxD (cvs (ov Y) (cell1_b Y)) Y tZ_3 Y) <| Rq Y (v_assign (ov Y)) <| R_nil <| T_keep (kc 3 Y <| kc 4 Y <| kc 5 Y <| kc 6 Y <| kn) Y <| Tr <| Rq Y (v_fieldR (ov Y) tF76_2) ?_
 obtain ⟨l, h_l, h⟩ := bnd h
 refine Rq Y (v_slR (f := C3) (ov Y) tR74 tZ_3 (atc (o := 64) (ata (m := 64) (o := 0) arL (at0 (hdw arL)))) Y on on h_l) ?_
 refine Rq Y (v_makeFunc (.cons (ov Y) <| .cons (ov Y) <| .nil)) ?_
 obtain ⟨y, h_y, h⟩ := bnd h
 refine Rq Y (v_call (ok_slices_ContainsFunc_int_int Y (fun z0 _ hz => ok_salvage_some_1 hz) h_y) (.cons (ov Y) (.b Y) <| .cons (ov Y) (.fnC (.cons (.b Y) <| .cons (.b Y) <| .nil)) <| .nil)) ?_
 refine Rq Y (v_assign (ov Y)) ?_
 refine R_nil ?_
 obtain rfl := rt (v := y) h
 refine T_ret (retq ?_ (.one (.tmp Y (Dat.view (.b Y)))))
 rfl

theorem ok_salvage_soundAs {f : Vector Int 64} {number : Int} {r : Bool} (h : salvage_soundAs f number = some r) :
  CSpec Tryz.prog gl0 131 [.agg (List.map C47 f.toList), .int .i64 number] (.bool r) := by
 unfold salvage_soundAs at h
 replace h := bnd0 h
 refine spec_of (by kernel_rfl) Tryz.func131 Y Y ?_
 intro w0 A
 refine Tr <| Rq Y (v_boxD (cva (ov Y)) arL tZ_49 (arD fun _ => Y)) <| Rq Y (v_assign (ov Y)) <| R_nil <| T_keep (kc 1 Y <| kc 2 Y <| kn) Y <| Tr <| Rq Y (v_loadA_r (ov Y) tA49 (at_sub (at_all arL)) arL) ?_
 obtain ⟨y, h_y, h⟩ := bnd h
 refine Rq Y (v_call (ok_frame_Number h_y) (.cons (ov Y) (.aggB (arD fun _ => Y)) <| .nil)) ?_
 refine Rq Y (v_move (ov Y)) ?_
 refine Rq Y (v_extract (ov Y) Y) ?_
 refine Rq Y (v_extract (ov Y) Y) ?_
 refine Rq Y (v_assign (ov Y)) ?_
 refine Rq Y (v_assign (ov Y)) ?_
 refine R_nil <| T_keep (kc 1 Y <| kc 2 Y <| kc 5 Y <| kn) Y <| Tr <| Rq Y (v_loadA_r (ov Y) tA49 (at_sub (at_all arL)) arL) ?_
 obtain ⟨y2, h_y2, h⟩ := bnd h
 refine Rq Y (v_call (ok_frame_Sound h_y2) (.cons (ov Y) (.aggB (arD fun _ => Y)) <| .nil)) ?_
 refine Rq Y (v_move (ov Y)) ?_
 refine Rq Y (.guarded (y2 == true) Y Y Y Y fun h => v_move (ov Y)) ?_
 refine Rq Y (.guarded (y2 == true) Y Y Y Y fun h => v_move (ov Y)) ?_
 refine Rq Y (.guarded (y2 == true) Y Y Y Y fun h => v_eql (ow Y h) (ow Y h)) ?_
 refine Rq Y (v_and (ov Y) (fun hp => ow Y (gT hp))) ?_
 refine Rq Y (v_assign (ov Y)) ?_
 refine R_nil ?_
 obtain rfl := rt (v := (y2 && (decide (y.1 = number)))) h
 refine T_ret (retq ?_ (.one (.tmp Y (Dat.view (.b Y)))))
 rfl

theorem ok_salvage_merge {l : List api_Rest} {r : api_Rest} (h : salvage_merge l = some r) :
  CSpec Tryz.prog gl0 125 [.sl 76 (List.map R76 l)] (.agg ((.int .i64 r.Number) :: ((List.map C47 r.Frame.toList) ++ (((List.map C3 r.States.toList) ++ ((.bool r.Sound) :: (.int .i64 r.Copies) :: (.bool r.Conflict) :: [])))))) := by
 unfold salvage_merge at h
 replace h := bnd0 h
 refine spec_of (by kernel_rfl) Tryz.func125 Y Y ?_
 intro w0 A
 refine Tr <| Rx Y (w_alloc (row := (.int .i64 0) :: ((List.map C47 (Vector.replicate 64 0).toList) ++ (((List.map C3 (Vector.replicate 64 0).toList) ++ ((.bool false) :: (.int .i64 0) :: (.bool false) :: []))))) 0 Y tZ76 (by kernel_rfl) (by exact Eq.symm (Eq.trans (b := 132) (lnC (n := 131) (lnA (m := 64) (n := 67) arL (lnA (m := 64) (n := 3) arL (lnC (n := 2) (lnC (n := 1) (lnC (n := 0) (lnN))))))) tZ_76.symm))) <| R_nil <| Tr <| Rq Y (v_move (ov Y)) ?_
 obtain ⟨x, h_x, h⟩ := bnd h
 refine Rq Y (v_ixSG (ov Y) (ov Y) tL58 h_x) ?_
 refine Rq Y (v_fieldR (ov Y) tF76_0) ?_
 refine Rq Y (v_loadS_r (ov Y) tS3 (at_get (at0 (hdc (n := 0) hd0)))) ?_
 refine Rq Y (v_buildX (zr := (.int .i64 0) :: ((List.map C47 (Vector.replicate 64 0).toList) ++ (((List.map C3 (Vector.replicate 64 0).toList) ++ ((.bool false) :: (.int .i64 0) :: (.bool false) :: []))))) tPL76 tHA76 tZ76 (by kernel_rfl) (.cons (cvs (ov Y) (cell1_b Y)) <| .nil) (fa_cons Y Y (at0 (hdc (n := 0) hd0)) (put1) <| fa_nil)) ?_
 refine Rx Y (w_alloc (row := (.int .i64 0) :: ((List.map C47 (Vector.replicate 64 0).toList) ++ (((List.map C3 (Vector.replicate 64 0).toList) ++ ((.bool false) :: (.int .i64 0) :: (.bool false) :: []))))) 1 Y tZ76 (by kernel_rfl) (by exact Eq.symm (Eq.trans (b := 132) (lnC (n := 131) (lnA (m := 64) (n := 67) arL (lnA (m := 64) (n := 3) arL (lnC (n := 2) (lnC (n := 1) (lnC (n := 0) (lnN))))))) tZ_76.symm))) ?_
 refine Rx Y (w_store (ov Y) (ov Y) (cells_agg tA76 (lnC (n := 131) (lnA (m := 64) (n := 67) arL (lnA (m := 64) (n := 3) arL (lnC (n := 2) (lnC (n := 1) (lnC (n := 0) (lnN)))))))) Y Y Y (put_le (at_all (lnC (n := 131) (lnA (m := 64) (n := 67) arL (lnA (m := 64) (n := 3) arL (lnC (n := 2) (lnC (n := 1) (lnC (n := 0) (lnN)))))))) (lnC (n := 131) (lnA (m := 64) (n := 67) arL (lnA (m := 64) (n := 3) arL (lnC (n := 2) (lnC (n := 1) (lnC (n := 0) (lnN)))))))) (cell1_all (alC Y (alA (arC fun _ => Y) (alA (arC fun _ => Y) (alC Y (alC Y (alC Y (alN)))))))) (put_all (Eq.trans (lnC (n := 131) (lnA (m := 64) (n := 67) arL (lnA (m := 64) (n := 3) arL (lnC (n := 2) (lnC (n := 1) (lnC (n := 0) (lnN))))))) (Eq.symm (lnC (n := 131) (lnA (m := 64) (n := 67) arL (lnA (m := 64) (n := 3) arL (lnC (n := 2) (lnC (n := 1) (lnC (n := 0) (lnN))))))))))) ?_
 refine R_nil <| T_joinG id (t1 fun Copies => ⟨[(0, .sl 76 (List.map R76 l)), (2, .ptr 0 1 0 0), (3, .ptr 1 1 0 0)], [some ⟨76, [(.int .i64 0) :: ((List.map C47 (Vector.replicate 64 0).toList) ++ (((List.map C3 (Vector.replicate 64 0).toList) ++ ((.bool false) :: (.int .i64 0) :: (.bool false) :: []))))]⟩, some ⟨76, [(.int .i64 x.Number) :: ((List.map C47 (Vector.replicate 64 0).toList) ++ (((List.map C3 (Vector.replicate 64 0).toList) ++ ((.bool false) :: (.int .i64 Copies) :: (.bool false) :: []))))]⟩]⟩) h (fun h => ?_) (fun j h => ?_)
 ·
  refine T_keep (kc 0 Y <| kc 2 Y <| kc 3 Y <| kn) Y <| Tr <| Rq Y (v_move (ov Y)) <| Rq Y (v_len (slv_sl (ov Y) tZ_76) tL58 (len_map _ _)) <| Rq Y (v_move (ov Y)) <| R_nil <| T_block ?_
  obtain ⟨r1, hl1, ho1⟩ := bndL h
  refine T_loopG _ (t2 fun Copies2 i => ⟨[(0, .sl 76 (List.map R76 l)), (2, .ptr 0 1 0 0), (3, .ptr 1 1 0 0), (13, .sl 76 (List.map R76 l)), (14, .int .i64 (l.length : Int)), (15, .int .i64 i)], [some ⟨76, [(.int .i64 0) :: ((List.map C47 (Vector.replicate 64 0).toList) ++ (((List.map C3 (Vector.replicate 64 0).toList) ++ ((.bool false) :: (.int .i64 0) :: (.bool false) :: []))))]⟩, some ⟨76, [(.int .i64 x.Number) :: ((List.map C47 (Vector.replicate 64 0).toList) ++ (((List.map C3 (Vector.replicate 64 0).toList) ++ ((.bool false) :: (.int .i64 Copies2) :: (.bool false) :: []))))]⟩]⟩) _ hl1 (Ent.sel [some 0, some 1] (sd 0 Y Y <| sr 2 Y (.ptr _ _ _ Y) <| sr 3 Y (.ptr _ _ _ Y) <| sd 13 Y Y <| sd 14 Y Y <| sd 15 Y Y <| sn) (.cons Y (ro1 (by exact Eq.trans (b := 132) (lnC (n := 131) (lnA (m := 64) (n := 67) arL (lnA (m := 64) (n := 3) arL (lnC (n := 2) (lnC (n := 1) (lnC (n := 0) (lnN))))))) tZ_76.symm) (rld (alC Y (alA (arD fun _ => Y) (alA (arD fun _ => Y) (alC Y (alC Y (alC Y (alN))))))))) <| .cons Y (ro1 (by exact Eq.trans (b := 132) (lnC (n := 131) (lnA (m := 64) (n := 67) arL (lnA (m := 64) (n := 3) arL (lnC (n := 2) (lnC (n := 1) (lnC (n := 0) (lnN))))))) tZ_76.symm) (rld (alC Y (alA (arD fun _ => Y) (alA (arD fun _ => Y) (alC Y (alC Y (alC Y (alN))))))))) <| .nil) Y Y) (fun n1 s1 h => ?_)
  obtain ⟨Copies2, i⟩ := s1
  replace h := t2i h
  refine t2T ?_
  unfold salvage_merge_L1 at h
  refine Tr <| Rq Y (v_lss (ov Y) (ov Y)) <| R_nil <| T_seq <| T_if h Y (fun b16 h => ?_) (fun b16 h => ?_)
  ·
   refine T_skip <| T_seq <| T_block <| T_keep (kc 0 Y <| kc 2 Y <| kc 3 Y <| kc 13 Y <| kc 14 Y <| kc 15 Y <| kn) Y <| Tr ?_
   obtain ⟨x2, h_x2, h⟩ := bnd h
   refine Rq Y (v_ixSG (ov Y) (ov Y) tL58 h_x2) ?_
   refine Rq Y (v_loadA_r (ov Y) tA76 (at_sub (at_all (lnC (n := 131) (lnA (m := 64) (n := 67) arL (lnA (m := 64) (n := 3) arL (lnC (n := 2) (lnC (n := 1) (lnC (n := 0) (lnN))))))))) (lnC (n := 131) (lnA (m := 64) (n := 67) arL (lnA (m := 64) (n := 3) arL (lnC (n := 2) (lnC (n := 1) (lnC (n := 0) (lnN)))))))) ?_
   refine Rx Y (w_alloc (row := (.int .i64 0) :: ((List.map C47 (Vector.replicate 64 0).toList) ++ (((List.map C3 (Vector.replicate 64 0).toList) ++ ((.bool false) :: (.int .i64 0) :: (.bool false) :: []))))) 2 Y tZ76 (by kernel_rfl) (by exact Eq.symm (Eq.trans (b := 132) (lnC (n := 131) (lnA (m := 64) (n := 67) arL (lnA (m := 64) (n := 3) arL (lnC (n := 2) (lnC (n := 1) (lnC (n := 0) (lnN))))))) tZ_76.symm))) ?_
   refine Rx Y (w_store (ov Y) (ov Y) (cells_agg tA76 (lnC (n := 131) (lnA (m := 64) (n := 67) arL (lnA (m := 64) (n := 3) arL (lnC (n := 2) (lnC (n := 1) (lnC (n := 0) (lnN)))))))) Y Y Y (put_le (at_all (lnC (n := 131) (lnA (m := 64) (n := 67) arL (lnA (m := 64) (n := 3) arL (lnC (n := 2) (lnC (n := 1) (lnC (n := 0) (lnN)))))))) (lnC (n := 131) (lnA (m := 64) (n := 67) arL (lnA (m := 64) (n := 3) arL (lnC (n := 2) (lnC (n := 1) (lnC (n := 0) (lnN)))))))) (cell1_all (alC Y (alA (arC fun _ => Y) (alA (arC fun _ => Y) (alC Y (alC Y (alC Y (alN)))))))) (put_all (Eq.trans (lnC (n := 131) (lnA (m := 64) (n := 67) arL (lnA (m := 64) (n := 3) arL (lnC (n := 2) (lnC (n := 1) (lnC (n := 0) (lnN))))))) (Eq.symm (lnC (n := 131) (lnA (m := 64) (n := 67) arL (lnA (m := 64) (n := 3) arL (lnC (n := 2) (lnC (n := 1) (lnC (n := 0) (lnN))))))))))) ?_
   refine R_nil <| T_keep (kc 0 Y <| kc 2 Y <| kc 3 Y <| kc 5 Y <| kc 13 Y <| kc 14 Y <| kc 15 Y <| kn) Y <| T_reg <| Rq Y (v_fieldP (ov Y) Y Y tF76_4) <| Rq Y (v_loadS (ov Y) Y Y Y tS3 (at_get (atc (o := 129) (ata (m := 64) (o := 65) arL (ata (m := 64) (o := 1) arL (atc (o := 0) (at0 (hdc (n := 0) hd0)))))))) <| Rq Y (v_fieldP (ov Y) Y Y tF76_4) <| Rq Y (v_loadS (ov Y) Y Y Y tS3 (at_get (atc (o := 129) (ata (m := 64) (o := 65) arL (ata (m := 64) (o := 1) arL (atc (o := 0) (at0 (hdc (n := 0) hd0)))))))) <| Rq Y (v_add (ov Y) (ov Y) Y) <| Rq Y (v_fieldP (ov Y) Y Y tF76_4) <| Rx Y (w_store (ov Y) (ov Y) (cells_scal tS3) Y Y Y (put_le (atc (o := 129) (ata (m := 64) (o := 65) arL (ata (m := 64) (o := 1) arL (atc (o := 0) (at0 (hdc (n := 0) hd0)))))) Y) (cell1_all Y) (putc (o := 129) (puta (m := 64) (o := 65) arL (puta (m := 64) (o := 1) arL (putc (o := 0) (put1)))))) <| R_nil <| T_keep (kc 0 Y <| kc 2 Y <| kc 3 Y <| kc 13 Y <| kc 14 Y <| kc 15 Y <| kn) Y <| T_reg <| Rq Y (v_add (ov Y) (ov Y) Y) <| Rq Y (v_move (ov Y)) <| R_nil ?_
   exact ⟨((i64 (Copies2 + x2.Copies)), (i64 (i + 1))), h, Ent.sel [some 0, some 1] (sd 0 Y Y <| sr 2 Y (.ptr _ _ _ Y) <| sr 3 Y (.ptr _ _ _ Y) <| sd 13 Y Y <| sd 14 Y Y <| sd 15 Y Y <| sn) (.cons Y (ro1 (by exact Eq.trans (b := 132) (lnC (n := 131) (lnA (m := 64) (n := 67) arL (lnA (m := 64) (n := 3) arL (lnC (n := 2) (lnC (n := 1) (lnC (n := 0) (lnN))))))) tZ_76.symm) (rld (alC Y (alA (arD fun _ => Y) (alA (arD fun _ => Y) (alC Y (alC Y (alC Y (alN))))))))) <| .cons Y (ro1 (by exact Eq.trans (b := 132) (lnC (n := 131) (lnA (m := 64) (n := 67) arL (lnA (m := 64) (n := 3) arL (lnC (n := 2) (lnC (n := 1) (lnC (n := 0) (lnN))))))) tZ_76.symm) (rld (alC Y (alA (arD fun _ => Y) (alA (arD fun _ => Y) (alC Y (alC Y (alC Y (alN))))))))) <| .nil) Y Y⟩
  ·
   refine T_exit ?_
   rw [lx h] at ho1
   replace h := ho1
   exact ⟨Copies2, h, Ent.sel [some 0, some 1] (sd 0 Y Y <| sr 2 Y (.ptr _ _ _ Y) <| sr 3 Y (.ptr _ _ _ Y) <| sn) (.cons Y (ro1 (by exact Eq.trans (b := 132) (lnC (n := 131) (lnA (m := 64) (n := 67) arL (lnA (m := 64) (n := 3) arL (lnC (n := 2) (lnC (n := 1) (lnC (n := 0) (lnN))))))) tZ_76.symm) (rld (alC Y (alA (arD fun _ => Y) (alA (arD fun _ => Y) (alC Y (alC Y (alC Y (alN))))))))) <| .cons Y (ro1 (by exact Eq.trans (b := 132) (lnC (n := 131) (lnA (m := 64) (n := 67) arL (lnA (m := 64) (n := 3) arL (lnC (n := 2) (lnC (n := 1) (lnC (n := 0) (lnN))))))) tZ_76.symm) (rld (alC Y (alA (arD fun _ => Y) (alA (arD fun _ => Y) (alC Y (alC Y (alC Y (alN))))))))) <| .nil) Y Y⟩
 ·
  obtain ⟨Copies, rfl⟩ : ∃ x, x = j := ⟨_, rfl⟩
  replace h := t1i h
  refine t1T ?_
  refine Tr <| Rq Y (v_move (ov Y)) ?_
  obtain ⟨y, h_y, h⟩ := bnd h
  refine Rq Y (v_call (ok_slices_ContainsFunc_api_Rest_api_Rest Y (fun z0 _ hz => ok_salvage_merge_1 hz) h_y) (.cons (ov Y) (.b Y) <| .cons (ov Y) (.fn) <| .nil)) ?_
  refine Rq Y (v_assign (ov Y)) ?_
  refine R_nil <| T_seq <| T_keep (kc 0 Y <| kc 2 Y <| kc 3 Y <| kc 6 Y <| kn) Y <| Tr <| Rq Y (v_move (ov Y)) ?_
  obtain ⟨y2, h_y2, h⟩ := bnd h
  refine Rx Y (w_callG [1] (ok_salvage_ofSound_w h_y2) (.cons (ov Y) (.ptr _ _ _ Y) <| .cons (ov Y) (.dat Y) <| .nil) (.cons Y (ro1 (by exact Eq.trans (b := 132) (lnC (n := 131) (lnA (m := 64) (n := 67) arL (lnA (m := 64) (n := 3) arL (lnC (n := 2) (lnC (n := 1) (lnC (n := 0) (lnN))))))) tZ_76.symm) (rld (alC Y (alA (arD fun _ => Y) (alA (arD fun _ => Y) (alC Y (alC Y (alC Y (alN))))))))) <| .nil) Y (.keep Y Y <| .lent 0 (.inl Y) Y (ro1 (by exact Eq.trans (b := 132) (lnC (n := 131) (lnA (m := 64) (n := 67) arL (lnA (m := 64) (n := 3) arL (lnC (n := 2) (lnC (n := 1) (lnC (n := 0) (lnN))))))) tZ_76.symm) (rld (alC Y (alA (arD fun _ => Y) (alA (arD fun _ => Y) (alC Y (alC Y (alC Y (alN))))))))) <| .nil) Y Y (.dat Y)) ?_
  refine Rq Y (v_assign (ov Y)) ?_
  refine R_nil <| T_keep (kc 0 Y <| kc 2 Y <| kc 3 Y <| kc 6 Y <| kc 7 Y <| kn) Y <| Tr <| Rq Y (v_move (ov Y)) <| Rq Y (v_move (ov Y)) <| Rq Y (.guarded (y == false) Y Y Y Y fun h => v_move (ov Y)) <| Rq Y (.guarded (y == false) Y Y Y Y fun h => v_not (ow Y h)) <| Rq Y (v_or (ov Y) (fun hp => ow Y (gF hp))) <| R_nil <| T_keep (kc 0 Y <| kc 2 Y <| kc 3 Y <| kc 34 Y <| kn) Y <| T_if h Y (fun b34 h => ?_) (fun b34 h => ?_)
  ·
   refine T_keep (kc 2 Y <| kc 3 Y <| kn) Y <| Tr <| Rq Y (v_fieldP (ov Y) Y Y tF76_0) <| Rq Y (v_loadS (ov Y) Y Y Y tS3 (at_get (at0 (hdc (n := 0) hd0)))) <| Rq Y (v_fieldP (ov Y) Y Y tF76_4) <| Rq Y (v_loadS (ov Y) Y Y Y tS3 (at_get (atc (o := 129) (ata (m := 64) (o := 65) arL (ata (m := 64) (o := 1) arL (atc (o := 0) (at0 (hdc (n := 0) hd0)))))))) <| Rq Y (v_buildX (zr := (.int .i64 0) :: ((List.map C47 (Vector.replicate 64 0).toList) ++ (((List.map C3 (Vector.replicate 64 0).toList) ++ ((.bool false) :: (.int .i64 0) :: (.bool false) :: []))))) tPL76 tHA76 tZ76 (by kernel_rfl) (.cons (cvs (ov Y) (cell1_b Y)) <| .cons (cvs (ov Y) (cell1_b Y)) <| .cons (cvs (ov Y) (cell1_b Y)) <| .nil) (fa_cons Y Y (at0 (hdc (n := 0) hd0)) (put1) <| fa_cons Y Y (atc (o := 129) (ata (m := 64) (o := 65) arL (ata (m := 64) (o := 1) arL (atc (o := 0) (at0 (hdc (n := 0) hd0)))))) (putc (o := 129) (puta (m := 64) (o := 65) arL (puta (m := 64) (o := 1) arL (putc (o := 0) (put1))))) <| fa_cons Y Y (atc (o := 130) (ata (m := 64) (o := 66) arL (ata (m := 64) (o := 2) arL (atc (o := 1) (atc (o := 0) (at0 (hdc (n := 0) hd0))))))) (putc (o := 130) (puta (m := 64) (o := 66) arL (puta (m := 64) (o := 2) arL (putc (o := 1) (putc (o := 0) (put1)))))) <| fa_nil)) <| Rx Y (w_store (ov Y) (ov Y) (cells_agg tA76 (lnC (n := 131) (lnA (m := 64) (n := 67) arL (lnA (m := 64) (n := 3) arL (lnC (n := 2) (lnC (n := 1) (lnC (n := 0) (lnN)))))))) Y Y Y (put_le (at_all (lnC (n := 131) (lnA (m := 64) (n := 67) arL (lnA (m := 64) (n := 3) arL (lnC (n := 2) (lnC (n := 1) (lnC (n := 0) (lnN)))))))) (lnC (n := 131) (lnA (m := 64) (n := 67) arL (lnA (m := 64) (n := 3) arL (lnC (n := 2) (lnC (n := 1) (lnC (n := 0) (lnN)))))))) (cell1_all (alC Y (alA (arC fun _ => Y) (alA (arC fun _ => Y) (alC Y (alC Y (alC Y (alN)))))))) (put_all (Eq.trans (lnC (n := 131) (lnA (m := 64) (n := 67) arL (lnA (m := 64) (n := 3) arL (lnC (n := 2) (lnC (n := 1) (lnC (n := 0) (lnN))))))) (Eq.symm (lnC (n := 131) (lnA (m := 64) (n := 67) arL (lnA (m := 64) (n := 3) arL (lnC (n := 2) (lnC (n := 1) (lnC (n := 0) (lnN))))))))))) <| R_nil ?_
   obtain rfl := rt (v := (api_Rest.mk y2.2.Number (Vector.replicate 64 0) (Vector.replicate 64 0) false y2.2.Copies true)) h
   refine T_ret (retq ?_ (.one (.agg Y Y Y Y tA76 (at_sub (at_all (lnC (n := 131) (lnA (m := 64) (n := 67) arL (lnA (m := 64) (n := 3) arL (lnC (n := 2) (lnC (n := 1) (lnC (n := 0) (lnN))))))))) (lnC (n := 131) (lnA (m := 64) (n := 67) arL (lnA (m := 64) (n := 3) arL (lnC (n := 2) (lnC (n := 1) (lnC (n := 0) (lnN))))))) (pwB (alC Y (alA (arD fun _ => Y) (alA (arD fun _ => Y) (alC Y (alC Y (alC Y (alN)))))))) (hns := nsC Y (nsA (nsM fun _ => Y) (nsA (nsM fun _ => Y) (nsC Y (nsC Y (nsC Y (nsR Y))))))))))
   rfl
  ·
   refine T_skip <| T_joinG id (t1 fun out => ⟨[(2, .ptr 0 1 0 0), (3, .ptr 1 1 0 0)], [some ⟨76, [(.int .i64 0) :: ((List.map C47 (Vector.replicate 64 0).toList) ++ (((List.map C3 (Vector.replicate 64 0).toList) ++ ((.bool false) :: (.int .i64 0) :: (.bool false) :: []))))]⟩, some ⟨76, [(.int .i64 out.Number) :: ((List.map C47 out.Frame.toList) ++ (((List.map C3 out.States.toList) ++ ((.bool out.Sound) :: (.int .i64 out.Copies) :: (.bool out.Conflict) :: []))))]⟩]⟩) h (fun h => ?_) (fun j h => ?_)
   ·
    refine T_keep (kc 0 Y <| kc 2 Y <| kc 3 Y <| kn) Y <| Tr <| Rq Y (v_fieldP (ov Y) Y Y tF76_3) <| Rq Y (v_loadS (ov Y) Y Y Y tS4 (at_get (atc (o := 128) (ata (m := 64) (o := 64) arL (ata (m := 64) (o := 0) arL (at0 (hdc (n := 0) hd0))))))) <| Rq Y (v_not (ov Y)) <| R_nil <| T_keep (kc 0 Y <| kc 2 Y <| kc 3 Y <| kc 42 Y <| kn) Y <| T_if h Y (fun b42 h => ?_) (fun b42 h => ?_)
    ·
     refine T_keep (kc 0 Y <| kc 2 Y <| kc 3 Y <| kn) Y <| Tr <| Rq Y (v_move (ov Y)) ?_
     obtain ⟨y3, h_y3, h⟩ := bnd h
     refine Rx Y (w_callG [1] (ok_salvage_ofParts_w h_y3) (.cons (ov Y) (.ptr _ _ _ Y) <| .cons (ov Y) (.dat Y) <| .nil) (.cons Y (ro1 (by exact Eq.trans (b := 132) (lnC (n := 131) (lnA (m := 64) (n := 67) arL (lnA (m := 64) (n := 3) arL (lnC (n := 2) (lnC (n := 1) (lnC (n := 0) (lnN))))))) tZ_76.symm) (rld (alC Y (alA (arD fun _ => Y) (alA (arD fun _ => Y) (alC Y (alC Y (alC Y (alN))))))))) <| .nil) Y (.keep Y Y <| .lent 0 (.inl Y) Y (ro1 (by exact Eq.trans (b := 132) (lnC (n := 131) (lnA (m := 64) (n := 67) arL (lnA (m := 64) (n := 3) arL (lnC (n := 2) (lnC (n := 1) (lnC (n := 0) (lnN))))))) tZ_76.symm) (rld (alC Y (alA (arD fun _ => Y) (alA (arD fun _ => Y) (alC Y (alC Y (alC Y (alN))))))))) <| .nil) Y Y (rTup (rld Y))) ?_
     refine R_nil <| T_keep (kc 2 Y <| kc 3 Y <| kn) Y <| Tr <| Rq Y (v_loadA (ov Y) Y Y Y tA76 (at_sub (at_all (lnC (n := 131) (lnA (m := 64) (n := 67) arL (lnA (m := 64) (n := 3) arL (lnC (n := 2) (lnC (n := 1) (lnC (n := 0) (lnN))))))))) (lnC (n := 131) (lnA (m := 64) (n := 67) arL (lnA (m := 64) (n := 3) arL (lnC (n := 2) (lnC (n := 1) (lnC (n := 0) (lnN))))))) (hns := nsC Y (nsA (nsM fun _ => Y) (nsA (nsM fun _ => Y) (nsC Y (nsC Y (nsC Y (nsR Y)))))))) ?_
     obtain ⟨y4, h_y4, h⟩ := bnd h
     refine Rq Y (v_call (ok_salvage_some h_y4) (.cons (ov Y) (.aggB (alC Y (alA (arD fun _ => Y) (alA (arD fun _ => Y) (alC Y (alC Y (alC Y (alN)))))))) <| .cons (ov Y) (.b Y) <| .cons (ov Y) (.b Y) <| .nil)) ?_
     refine Rq Y (v_not (ov Y)) ?_
     refine Rq Y (v_move (ov Y)) ?_
     refine Rq Y (.guarded ((!y4) == true) Y Y Y Y fun h => v_fieldP (ov Y) Y Y tF76_1) ?_
     refine Rq Y (.guarded ((!y4) == true) Y Y Y Y fun h => v_loadA (ow Y h) Y Y Y tA49 (at_sub (atc (o := 0) (at0 (hdw arL)))) arL (hns := (nsM fun _ => Y))) ?_
     refine Rq Y (.guarded ((!y4) == true) Y Y Y Y fun h => v_fieldP (ov Y) Y Y tF76_0) ?_
     refine Rq Y (.guarded ((!y4) == true) Y Y Y Y fun h => v_loadS (ow Y h) Y Y Y tS3 (at_get (at0 (hdc (n := 0) hd0)))) ?_
     obtain ⟨y5, h_y5, h⟩ := bnd h
     refine Rq Y (.guarded ((!y4) == true) Y Y Y Y fun h => v_call (ok_salvage_soundAs (gdT h_y5 h)) (.cons (ow Y h) (.aggB (arD fun _ => Y)) <| .cons (ow Y h) (.b Y) <| .nil)) ?_
     refine Rq Y (v_and (ov Y) (fun hp => ow Y (gT hp))) ?_
     refine R_nil <| T_keep (kc 2 Y <| kc 3 Y <| kc 54 Y <| kn) Y <| T_if h Y (fun b54 h => ?_) (fun b54 h => ?_)
     ·
      refine T_keep (kc 2 Y <| kc 3 Y <| kn) Y <| T_reg ?_
      obtain ⟨y6, h_y6, h⟩ := bnd h
      refine Rq Y (v_call (ok_salvage_filled h_y6) (.cons (ov Y) (.b Y) <| .nil)) ?_
      refine Rq Y (v_fieldP (ov Y) Y Y tF76_3) ?_
      refine Rx Y (w_store (ov Y) (ov Y) (cells_scal tS4) Y Y Y (put_le (atc (o := 128) (ata (m := 64) (o := 64) arL (ata (m := 64) (o := 0) arL (at0 (hdc (n := 0) hd0))))) Y) (cell1_all Y) (putc (o := 128) (puta (m := 64) (o := 64) arL (puta (m := 64) (o := 0) arL (put1))))) ?_
      refine Rq Y (v_fieldP (ov Y) Y Y tF76_2) ?_
      refine Rx Y (w_store (ov Y) (ov Y) (cells_agg tA74 arL) Y Y Y (put_le (atc (o := 64) (ata (m := 64) (o := 0) arL (at0 (hdw arL)))) arL) (cell1_all (arC fun _ => Y)) (putc (o := 64) (puta (m := 64) (o := 0) arL (putw (Eq.trans arL (Eq.symm arL)))))) ?_
      refine Rq Y (v_fieldP (ov Y) Y Y tF76_4) ?_
      refine Rx Y (w_store (ov Y) (ov Y) (cells_scal tS3) Y Y Y (put_le (atc (o := 129) (ata (m := 64) (o := 65) arL (ata (m := 64) (o := 1) arL (atc (o := 0) (at0 (hdc (n := 0) hd0)))))) Y) (cell1_all Y) (putc (o := 129) (puta (m := 64) (o := 65) arL (puta (m := 64) (o := 1) arL (putc (o := 0) (put1)))))) ?_
      refine R_nil ?_
      exact ⟨(api_Rest.mk y3.Number y3.Frame y6 true 1 y3.Conflict), h, Ent.sel [some 0, some 1] (sr 2 Y (.ptr _ _ _ Y) <| sr 3 Y (.ptr _ _ _ Y) <| sn) (.cons Y (ro1 (by exact Eq.trans (b := 132) (lnC (n := 131) (lnA (m := 64) (n := 67) arL (lnA (m := 64) (n := 3) arL (lnC (n := 2) (lnC (n := 1) (lnC (n := 0) (lnN))))))) tZ_76.symm) (rld (alC Y (alA (arD fun _ => Y) (alA (arD fun _ => Y) (alC Y (alC Y (alC Y (alN))))))))) <| .cons Y (ro1 (by exact Eq.trans (b := 132) (lnC (n := 131) (lnA (m := 64) (n := 67) arL (lnA (m := 64) (n := 3) arL (lnC (n := 2) (lnC (n := 1) (lnC (n := 0) (lnN))))))) tZ_76.symm) (rld (alC Y (alA (arD fun _ => Y) (alA (arD fun _ => Y) (alC Y (alC Y (alC Y (alN))))))))) <| .nil) Y Y⟩
     ·
      refine T_skip ?_
      exact ⟨y3, h, Ent.sel [some 0, some 1] (sr 2 Y (.ptr _ _ _ Y) <| sr 3 Y (.ptr _ _ _ Y) <| sn) (.cons Y (ro1 (by exact Eq.trans (b := 132) (lnC (n := 131) (lnA (m := 64) (n := 67) arL (lnA (m := 64) (n := 3) arL (lnC (n := 2) (lnC (n := 1) (lnC (n := 0) (lnN))))))) tZ_76.symm) (rld (alC Y (alA (arD fun _ => Y) (alA (arD fun _ => Y) (alC Y (alC Y (alC Y (alN))))))))) <| .cons Y (ro1 (by exact Eq.trans (b := 132) (lnC (n := 131) (lnA (m := 64) (n := 67) arL (lnA (m := 64) (n := 3) arL (lnC (n := 2) (lnC (n := 1) (lnC (n := 0) (lnN))))))) tZ_76.symm) (rld (alC Y (alA (arD fun _ => Y) (alA (arD fun _ => Y) (alC Y (alC Y (alC Y (alN))))))))) <| .nil) Y Y⟩
    ·
     refine T_skip ?_
     exact ⟨y2.2, h, Ent.sel [some 0, some 1] (sr 2 Y (.ptr _ _ _ Y) <| sr 3 Y (.ptr _ _ _ Y) <| sn) (.cons Y (ro1 (by exact Eq.trans (b := 132) (lnC (n := 131) (lnA (m := 64) (n := 67) arL (lnA (m := 64) (n := 3) arL (lnC (n := 2) (lnC (n := 1) (lnC (n := 0) (lnN))))))) tZ_76.symm) (rld (alC Y (alA (arD fun _ => Y) (alA (arD fun _ => Y) (alC Y (alC Y (alC Y (alN))))))))) <| .cons Y (ro1 (by exact Eq.trans (b := 132) (lnC (n := 131) (lnA (m := 64) (n := 67) arL (lnA (m := 64) (n := 3) arL (lnC (n := 2) (lnC (n := 1) (lnC (n := 0) (lnN))))))) tZ_76.symm) (rld (alC Y (alA (arD fun _ => Y) (alA (arD fun _ => Y) (alC Y (alC Y (alC Y (alN))))))))) <| .nil) Y Y⟩
   ·
    obtain ⟨out, rfl⟩ : ∃ x, x = j := ⟨_, rfl⟩
    replace h := t1i h
    refine t1T ?_
    refine T_seq <| Tr <| Rq Y (v_fieldP (ov Y) Y Y tF76_3) <| Rq Y (v_loadS (ov Y) Y Y Y tS4 (at_get (atc (o := 128) (ata (m := 64) (o := 64) arL (ata (m := 64) (o := 0) arL (at0 (hdc (n := 0) hd0))))))) <| Rq Y (v_move (ov Y)) <| Rq Y (.guarded (out.Sound == true) Y Y Y Y fun h => v_loadA (ov Y) Y Y Y tA76 (at_sub (at_all (lnC (n := 131) (lnA (m := 64) (n := 67) arL (lnA (m := 64) (n := 3) arL (lnC (n := 2) (lnC (n := 1) (lnC (n := 0) (lnN))))))))) (lnC (n := 131) (lnA (m := 64) (n := 67) arL (lnA (m := 64) (n := 3) arL (lnC (n := 2) (lnC (n := 1) (lnC (n := 0) (lnN))))))) (hns := nsC Y (nsA (nsM fun _ => Y) (nsA (nsM fun _ => Y) (nsC Y (nsC Y (nsC Y (nsR Y)))))))) ?_
    obtain ⟨y7, h_y7, h⟩ := bnd h
    refine Rq Y (.guarded (out.Sound == true) Y Y Y Y fun h => v_call (ok_salvage_all (gdT h_y7 h)) (.cons (ow Y h) (.aggB (alC Y (alA (arD fun _ => Y) (alA (arD fun _ => Y) (alC Y (alC Y (alC Y (alN)))))))) <| .cons (ov Y) (.b Y) <| .nil)) ?_
    refine Rq Y (v_and (ov Y) (fun hp => ow Y (gT hp))) ?_
    refine R_nil <| T_keep (kc 2 Y <| kc 3 Y <| kc 64 Y <| kn) Y <| T_if h Y (fun b64 h => ?_) (fun b64 h => ?_)
    ·
     refine T_keep (kc 2 Y <| kc 3 Y <| kn) Y <| T_reg <| Rq Y (v_fieldP (ov Y) Y Y tF76_4) <| Rq Y (v_loadS (ov Y) Y Y Y tS3 (at_get (atc (o := 129) (ata (m := 64) (o := 65) arL (ata (m := 64) (o := 1) arL (atc (o := 0) (at0 (hdc (n := 0) hd0)))))))) <| Rq Y (v_max (ov Y) (ov Y) Y) <| Rq Y (v_fieldP (ov Y) Y Y tF76_4) <| Rx Y (w_store (ov Y) (ov Y) (cells_scal tS3) Y Y Y (put_le (atc (o := 129) (ata (m := 64) (o := 65) arL (ata (m := 64) (o := 1) arL (atc (o := 0) (at0 (hdc (n := 0) hd0)))))) Y) (cell1_all Y) (putc (o := 129) (puta (m := 64) (o := 65) arL (puta (m := 64) (o := 1) arL (putc (o := 0) (put1)))))) <| R_nil <| T_keep (kc 2 Y <| kc 3 Y <| kn) Y <| Tr <| Rq Y (v_loadA (ov Y) Y Y Y tA76 (at_sub (at_all (lnC (n := 131) (lnA (m := 64) (n := 67) arL (lnA (m := 64) (n := 3) arL (lnC (n := 2) (lnC (n := 1) (lnC (n := 0) (lnN))))))))) (lnC (n := 131) (lnA (m := 64) (n := 67) arL (lnA (m := 64) (n := 3) arL (lnC (n := 2) (lnC (n := 1) (lnC (n := 0) (lnN))))))) (hns := nsC Y (nsA (nsM fun _ => Y) (nsA (nsM fun _ => Y) (nsC Y (nsC Y (nsC Y (nsR Y)))))))) <| Rx Y (w_store (ov Y) (ov Y) (cells_agg tA76 (lnC (n := 131) (lnA (m := 64) (n := 67) arL (lnA (m := 64) (n := 3) arL (lnC (n := 2) (lnC (n := 1) (lnC (n := 0) (lnN)))))))) Y Y Y (put_le (at_all (lnC (n := 131) (lnA (m := 64) (n := 67) arL (lnA (m := 64) (n := 3) arL (lnC (n := 2) (lnC (n := 1) (lnC (n := 0) (lnN)))))))) (lnC (n := 131) (lnA (m := 64) (n := 67) arL (lnA (m := 64) (n := 3) arL (lnC (n := 2) (lnC (n := 1) (lnC (n := 0) (lnN)))))))) (cell1_all (alC Y (alA (arC fun _ => Y) (alA (arC fun _ => Y) (alC Y (alC Y (alC Y (alN)))))))) (put_all (Eq.trans (lnC (n := 131) (lnA (m := 64) (n := 67) arL (lnA (m := 64) (n := 3) arL (lnC (n := 2) (lnC (n := 1) (lnC (n := 0) (lnN))))))) (Eq.symm (lnC (n := 131) (lnA (m := 64) (n := 67) arL (lnA (m := 64) (n := 3) arL (lnC (n := 2) (lnC (n := 1) (lnC (n := 0) (lnN))))))))))) <| R_nil ?_
     obtain rfl := rt (v := (api_Rest.mk out.Number out.Frame out.States out.Sound (max out.Copies 1) out.Conflict)) h
     refine T_ret (retq ?_ (.one (.agg Y Y Y Y tA76 (at_sub (at_all (lnC (n := 131) (lnA (m := 64) (n := 67) arL (lnA (m := 64) (n := 3) arL (lnC (n := 2) (lnC (n := 1) (lnC (n := 0) (lnN))))))))) (lnC (n := 131) (lnA (m := 64) (n := 67) arL (lnA (m := 64) (n := 3) arL (lnC (n := 2) (lnC (n := 1) (lnC (n := 0) (lnN))))))) (pwB (alC Y (alA (arD fun _ => Y) (alA (arD fun _ => Y) (alC Y (alC Y (alC Y (alN)))))))) (hns := nsC Y (nsA (nsM fun _ => Y) (nsA (nsM fun _ => Y) (nsC Y (nsC Y (nsC Y (nsR Y))))))))))
     rfl
    ·
     refine T_skip <| T_keep (kc 2 Y <| kc 3 Y <| kn) Y <| Tr <| Rq Y (v_loadA (ov Y) Y Y Y tA76 (at_sub (at_all (lnC (n := 131) (lnA (m := 64) (n := 67) arL (lnA (m := 64) (n := 3) arL (lnC (n := 2) (lnC (n := 1) (lnC (n := 0) (lnN))))))))) (lnC (n := 131) (lnA (m := 64) (n := 67) arL (lnA (m := 64) (n := 3) arL (lnC (n := 2) (lnC (n := 1) (lnC (n := 0) (lnN))))))) (hns := nsC Y (nsA (nsM fun _ => Y) (nsA (nsM fun _ => Y) (nsC Y (nsC Y (nsC Y (nsR Y)))))))) <| Rx Y (w_store (ov Y) (ov Y) (cells_agg tA76 (lnC (n := 131) (lnA (m := 64) (n := 67) arL (lnA (m := 64) (n := 3) arL (lnC (n := 2) (lnC (n := 1) (lnC (n := 0) (lnN)))))))) Y Y Y (put_le (at_all (lnC (n := 131) (lnA (m := 64) (n := 67) arL (lnA (m := 64) (n := 3) arL (lnC (n := 2) (lnC (n := 1) (lnC (n := 0) (lnN)))))))) (lnC (n := 131) (lnA (m := 64) (n := 67) arL (lnA (m := 64) (n := 3) arL (lnC (n := 2) (lnC (n := 1) (lnC (n := 0) (lnN)))))))) (cell1_all (alC Y (alA (arC fun _ => Y) (alA (arC fun _ => Y) (alC Y (alC Y (alC Y (alN)))))))) (put_all (Eq.trans (lnC (n := 131) (lnA (m := 64) (n := 67) arL (lnA (m := 64) (n := 3) arL (lnC (n := 2) (lnC (n := 1) (lnC (n := 0) (lnN))))))) (Eq.symm (lnC (n := 131) (lnA (m := 64) (n := 67) arL (lnA (m := 64) (n := 3) arL (lnC (n := 2) (lnC (n := 1) (lnC (n := 0) (lnN))))))))))) <| R_nil ?_
     obtain rfl := rt (v := out) h
     refine T_ret (retq ?_ (.one (.agg Y Y Y Y tA76 (at_sub (at_all (lnC (n := 131) (lnA (m := 64) (n := 67) arL (lnA (m := 64) (n := 3) arL (lnC (n := 2) (lnC (n := 1) (lnC (n := 0) (lnN))))))))) (lnC (n := 131) (lnA (m := 64) (n := 67) arL (lnA (m := 64) (n := 3) arL (lnC (n := 2) (lnC (n := 1) (lnC (n := 0) (lnN))))))) (pwB (alC Y (alA (arD fun _ => Y) (alA (arD fun _ => Y) (alC Y (alC Y (alC Y (alN)))))))) (hns := nsC Y (nsA (nsM fun _ => Y) (nsA (nsM fun _ => Y) (nsC Y (nsC Y (nsC Y (nsR Y))))))))))
     rfl

theorem ok_salvage_grouped {l : List api_Rest} {r : (List api_Rest)} (h : salvage_grouped l = some r) :
  CSpec Tryz.prog gl0 182 [.sl 76 (List.map R76 l)] (.sl 76 (List.map R76 r)) := by
 unfold salvage_grouped at h
 replace h := bnd0 h
 refine spec_of (by kernel_rfl) Tryz.func182 Y Y ?_
 intro w0 A
 refine Tr <| Rq Y (v_assign (ov Y)) <| R_nil <| T_keep (kc 0 Y <| kn) Y <| Tr <| Rx Y (w_makeMap 0 Y tMp222) <| Rq Y (v_assign (ov Y)) <| R_nil <| T_keep (kc 0 Y <| kc 3 Y <| kn) Y <| Tr <| Rq Y (v_assign (ov Y)) <| R_nil <| T_joinG id (t2 fun groups numbers => ⟨[(3, .mref 0 1), (4, .own 1 numbers.length)], [some ⟨222, [[.mcon (List.map (mrow FK3 (osF 76 R76)) groups)]]⟩, some ⟨3, List.map R3 numbers⟩]⟩) h (fun h => ?_) (fun j h => ?_)
 ·
  refine Tr <| Rq Y (v_move (ov Y)) <| Rq Y (v_len (slv_sl (ov Y) tZ_76) tL58 (len_map _ _)) <| Rq Y (v_move (ov Y)) <| R_nil <| T_block ?_
  obtain ⟨r1, hl1, ho1⟩ := bndL h
  refine T_loopG _ (t3 fun groups2 numbers2 i => ⟨[(3, .mref 0 1), (4, .own 1 numbers2.length), (11, .sl 76 (List.map R76 l)), (12, .int .i64 (l.length : Int)), (13, .int .i64 i)], [some ⟨222, [[.mcon (List.map (mrow FK3 (osF 76 R76)) groups2)]]⟩, some ⟨3, List.map R3 numbers2⟩]⟩) _ hl1 (Ent.sel [some 0, none] (sr 3 Y (.mref _ Y) <| sr 4 Y (.row Y) <| sd 11 Y Y <| sd 12 Y Y <| sd 13 Y Y <| sn) (.cons Y (roMap (fk := FK3) (fv := (osF 76 R76)) (m := ([] : List (Int × (List api_Rest)))) tZ_222 (fun _ => .dat Y) (fun _ => (rcOs D76))) <| .row 3 <| .nil) Y Y) (fun n1 s1 h => ?_)
  obtain ⟨groups2, numbers2, i⟩ := s1
  replace h := t3i h
  refine t3T ?_
  unfold salvage_grouped_L1 at h
  refine Tr <| Rq Y (v_lss (ov Y) (ov Y)) <| R_nil <| T_seq <| T_if h Y (fun b14 h => ?_) (fun b14 h => ?_)
  ·
   refine T_skip <| T_joinG id (t2 fun groups3 numbers3 => ⟨[(3, .mref 0 1), (4, .own 1 numbers3.length), (11, .sl 76 (List.map R76 l)), (12, .int .i64 (l.length : Int)), (13, .int .i64 i)], [some ⟨222, [[.mcon (List.map (mrow FK3 (osF 76 R76)) groups3)]]⟩, some ⟨3, List.map R3 numbers3⟩]⟩) h (fun h => ?_) (fun j h => ?_)
   ·
    refine T_block <| T_keep (kc 3 Y <| kc 4 Y <| kc 11 Y <| kc 12 Y <| kc 13 Y <| kn) Y <| Tr ?_
    obtain ⟨x, h_x, h⟩ := bnd h
    refine Rq Y (v_ixSG (ov Y) (ov Y) tL58 h_x) ?_
    refine Rq Y (v_loadA_r (ov Y) tA76 (at_sub (at_all (lnC (n := 131) (lnA (m := 64) (n := 67) arL (lnA (m := 64) (n := 3) arL (lnC (n := 2) (lnC (n := 1) (lnC (n := 0) (lnN))))))))) (lnC (n := 131) (lnA (m := 64) (n := 67) arL (lnA (m := 64) (n := 3) arL (lnC (n := 2) (lnC (n := 1) (lnC (n := 0) (lnN)))))))) ?_
    refine Rx Y (w_alloc (row := (.int .i64 0) :: ((List.map C47 (Vector.replicate 64 0).toList) ++ (((List.map C3 (Vector.replicate 64 0).toList) ++ ((.bool false) :: (.int .i64 0) :: (.bool false) :: []))))) 2 Y tZ76 (by kernel_rfl) (by exact Eq.symm (Eq.trans (b := 132) (lnC (n := 131) (lnA (m := 64) (n := 67) arL (lnA (m := 64) (n := 3) arL (lnC (n := 2) (lnC (n := 1) (lnC (n := 0) (lnN))))))) tZ_76.symm))) ?_
    refine Rx Y (w_store (ov Y) (ov Y) (cells_agg tA76 (lnC (n := 131) (lnA (m := 64) (n := 67) arL (lnA (m := 64) (n := 3) arL (lnC (n := 2) (lnC (n := 1) (lnC (n := 0) (lnN)))))))) Y Y Y (put_le (at_all (lnC (n := 131) (lnA (m := 64) (n := 67) arL (lnA (m := 64) (n := 3) arL (lnC (n := 2) (lnC (n := 1) (lnC (n := 0) (lnN)))))))) (lnC (n := 131) (lnA (m := 64) (n := 67) arL (lnA (m := 64) (n := 3) arL (lnC (n := 2) (lnC (n := 1) (lnC (n := 0) (lnN)))))))) (cell1_all (alC Y (alA (arC fun _ => Y) (alA (arC fun _ => Y) (alC Y (alC Y (alC Y (alN)))))))) (put_all (Eq.trans (lnC (n := 131) (lnA (m := 64) (n := 67) arL (lnA (m := 64) (n := 3) arL (lnC (n := 2) (lnC (n := 1) (lnC (n := 0) (lnN))))))) (Eq.symm (lnC (n := 131) (lnA (m := 64) (n := 67) arL (lnA (m := 64) (n := 3) arL (lnC (n := 2) (lnC (n := 1) (lnC (n := 0) (lnN))))))))))) ?_
    refine R_nil <| T_joinG id (t1 fun numbers4 => ⟨[(3, .mref 0 1), (4, .own 1 numbers4.length), (6, .ptr 2 1 0 0), (11, .sl 76 (List.map R76 l)), (12, .int .i64 (l.length : Int)), (13, .int .i64 i)], [some ⟨222, [[.mcon (List.map (mrow FK3 (osF 76 R76)) groups2)]]⟩, some ⟨3, List.map R3 numbers4⟩, some ⟨76, [(.int .i64 x.Number) :: ((List.map C47 x.Frame.toList) ++ (((List.map C3 x.States.toList) ++ ((.bool x.Sound) :: (.int .i64 x.Copies) :: (.bool x.Conflict) :: []))))]⟩]⟩) h (fun h => ?_) (fun j h => ?_)
    ·
     refine T_keep (kc 3 Y <| kc 4 Y <| kc 6 Y <| kc 11 Y <| kc 12 Y <| kc 13 Y <| kn) Y <| Tr <| Rq Y (v_move (ov Y)) <| Rq Y (v_fieldP (ov Y) Y Y tF76_0) <| Rq Y (v_loadS (ov Y) Y Y Y tS3 (at_get (at0 (hdc (n := 0) hd0)))) ?_
     obtain ⟨z, h_z, h⟩ := bnd h
     rcases z with z | z
     ·
      replace h := ell h
      refine Rq Y (v_lkN (e1 := 76) (R := R76) (m := groups2) (k := x.Number) (msel_l h_z) (ov Y) (ov Y) tMp222 tKO3 Y (fun _ => .b Y) (zero_scal tZV58 Y)) ?_
      refine Rq Y (v_nilN (ng := false) (ov Y) tIsl58) ?_
      refine R_nil <| T_keep (kc 3 Y <| kc 4 Y <| kc 6 Y <| kc 11 Y <| kc 12 Y <| kc 13 Y <| kc 21 Y <| kn) Y <| T_if h Y (fun b21 h => ?_) (fun b21 h => ?_)
      ·
       refine T_keep (kc 3 Y <| kc 4 Y <| kc 6 Y <| kc 11 Y <| kc 12 Y <| kc 13 Y <| kn) Y <| T_reg <| Rq Y (v_move (ov Y)) <| Rq Y (v_fieldP (ov Y) Y Y tF76_0) <| Rq Y (v_loadS (ov Y) Y Y Y tS3 (at_get (at0 (hdc (n := 0) hd0)))) <| R_q (.sl 3 (List.map R3 ([x.Number] : List Int))) Y (v_lit tL28 (.cons (cvs (ov Y) (cell1_b Y)) Y (.cons (.b Y) .nil) <| .nil) Y Y) ?_
       obtain ⟨l2, h_l2, h⟩ := bnd h
       refine Rx Y (w_appendG (ov Y) (slv_sl (ov Y) tZ_3) tL28 Y Y Y (fun _ => cell1_all Y) Y h_l2) ?_
       refine Rq Y (v_assign (ov Y)) ?_
       refine R_nil ?_
       exact ⟨l2, h, Ent.sel [some 0, some 1, some 2] (sr 3 Y (.mref _ Y) <| sr 4 Y (.own _ Y) <| sr 6 Y (.ptr _ _ _ Y) <| sd 11 Y Y <| sd 12 Y Y <| sd 13 Y Y <| sn) (.cons Y (roMap (fk := FK3) (fv := (osF 76 R76)) (m := groups2) tZ_222 (fun _ => .dat Y) (fun _ => (rcOs D76))) <| .cons Y (roM D3) <| .cons Y (ro1 (by exact Eq.trans (b := 132) (lnC (n := 131) (lnA (m := 64) (n := 67) arL (lnA (m := 64) (n := 3) arL (lnC (n := 2) (lnC (n := 1) (lnC (n := 0) (lnN))))))) tZ_76.symm) (rld (alC Y (alA (arD fun _ => Y) (alA (arD fun _ => Y) (alC Y (alC Y (alC Y (alN))))))))) <| .nil) Y Y⟩
      ·
       exact Bool.noConfusion b21
     ·
      replace h := elr h
      refine R_ent (Ent.focusMk1 (e := 76) (R := R76) (m := groups2) (k := x.Number) (r := 0) Y tZ_222 (msel_r h_z) D76) ?_
      refine Rq Y (v_lkF (e1 := 76) (R := R76) (m := groups2) (k := x.Number) (ov Y) (ov Y) tMp222 tKO3 Y (fun _ => .b Y) (zero_scal tZV58 Y)) ?_
      obtain ⟨u, h_u, h⟩ := bnd h
      refine Rq Y (v_nilO (ng := false) (ov Y) tIsl58 Y (List.length_map ..) h_u) ?_
      refine R_ent (by exact Ent.absorbMs1 (e := 76) (R := R76) (m := groups2) (k := x.Number) (ys := z) (fk := FK3) (r := 0) (q := 3) (msel_r h_z) Y tZ_222 Y Y Y) ?_
      refine R_nil <| T_keep (kc 3 Y <| kc 4 Y <| kc 6 Y <| kc 11 Y <| kc 12 Y <| kc 13 Y <| kc 21 Y <| kn) Y <| T_if h Y (fun b21 h => ?_) (fun b21 h => ?_)
      ·
       exact Bool.noConfusion b21
      ·
       refine T_skip ?_
       exact ⟨numbers2, h, Ent.sel [some 0, some 1, some 2] (sr 3 Y (.mref _ Y) <| sr 4 Y (.own _ Y) <| sr 6 Y (.ptr _ _ _ Y) <| sd 11 Y Y <| sd 12 Y Y <| sd 13 Y Y <| sn) (.cons Y (roMap (fk := FK3) (fv := (osF 76 R76)) (m := groups2) tZ_222 (fun _ => .dat Y) (fun _ => (rcOs D76))) <| .cons Y (roM D3) <| .cons Y (ro1 (by exact Eq.trans (b := 132) (lnC (n := 131) (lnA (m := 64) (n := 67) arL (lnA (m := 64) (n := 3) arL (lnC (n := 2) (lnC (n := 1) (lnC (n := 0) (lnN))))))) tZ_76.symm) (rld (alC Y (alA (arD fun _ => Y) (alA (arD fun _ => Y) (alC Y (alC Y (alC Y (alN))))))))) <| .nil) Y Y⟩
    ·
     obtain ⟨numbers4, rfl⟩ : ∃ x, x = j := ⟨_, rfl⟩
     replace h := t1i h
     refine t1T ?_
     obtain ⟨z2, h_z2, h⟩ := bnd h
     rcases z2 with z2 | z2
     ·
      replace h := ell h
      refine T_draw (cw := md0) (by kernel_rfl) ?_
      refine Dq 3 Y Y Y (v_move (ov Y)) ?_
      refine Dq 4 Y Y Y (v_fieldP (ov Y) Y Y tF76_0) ?_
      refine Dq 5 Y Y Y (v_loadS (ov Y) Y Y Y tS3 (at_get (at0 (hdc (n := 0) hd0)))) ?_
      refine Dq 6 Y Y Y (v_lkN (e1 := 76) (R := R76) (m := groups2) (k := x.Number) (msel_l h_z2) (ov Y) (ov Y) tMp222 tKO3 Y (fun _ => .b Y) (zero_scal tZV58 Y)) ?_
      refine Dq 7 Y Y Y (v_loadA (ov Y) Y Y Y tA76 (at_sub (at_all (lnC (n := 131) (lnA (m := 64) (n := 67) arL (lnA (m := 64) (n := 3) arL (lnC (n := 2) (lnC (n := 1) (lnC (n := 0) (lnN))))))))) (lnC (n := 131) (lnA (m := 64) (n := 67) arL (lnA (m := 64) (n := 3) arL (lnC (n := 2) (lnC (n := 1) (lnC (n := 0) (lnN))))))) (hns := nsC Y (nsA (nsM fun _ => Y) (nsA (nsM fun _ => Y) (nsC Y (nsC Y (nsC Y (nsR Y)))))))) ?_
      refine D_q0 8 (.sl 76 (List.map R76 ([x] : List api_Rest))) Y (by kernel_rfl) Y Y (v_lit tL58 (.cons (cva (ov Y)) (lnC (n := 131) (lnA (m := 64) (n := 67) arL (lnA (m := 64) (n := 3) arL (lnC (n := 2) (lnC (n := 1) (lnC (n := 0) (lnN))))))) (pwD (alC Y (alA (arD fun _ => Y) (alA (arD fun _ => Y) (alC Y (alC Y (alC Y (alN)))))))) <| .nil) Y Y) ?_
      refine D_free 0 _ Y (by kernel_rfl) Y Y (fun hp' => v_move (ov Y)) ?_
      obtain ⟨l3, h_l3, h⟩ := bnd h
      refine Dw 1 9 Y Y Y Y Y Y (v_fieldP (ov Y) Y Y tF76_0) (w_append0G (r := 3) Y (ov Y) (slv_sl (ov Y) tZ_76) tL58 Y h_l3) ?_ ?_
      ·
       refine Dw 2 9 Y Y Y Y Y Y (v_loadS (ov Y) Y Y Y tS3 (at_get (at0 (hdc (n := 0) hd0)))) (w_append0G (r := 3) Y (ov Y) (slv_sl (ov Y) tZ_76) tL58 Y h_l3) ?_ ?_
       ·
        refine Do 9 Y Y Y (w_append0G (r := 3) Y (ov Y) (slv_sl (ov Y) tZ_76) tL58 Y h_l3) ?_
        refine Do 10 Y Y Y (w_putN (e1 := 76) (R := R76) (m := groups2) (k := x.Number) (ov Y) (ov Y) (ov Y) tMp222 tKO3 Y (fun _ => .b Y)) ?_
        refine D_doneE (by kernel_rfl) (Ent.absorbMk1 (e := 76) (R := R76) (m := groups2) (k := x.Number) (ys := l3) (fk := FK3) (r := 0) (q := 3) Y tZ_222 Y Y Y) ?_
        exact ⟨((mput kqI groups2 x.Number l3), numbers4), h, Ent.sel [some 0, some 1] (sr 3 Y (.mref _ Y) <| sr 4 Y (.own _ Y) <| sd 11 Y Y <| sd 12 Y Y <| sd 13 Y Y <| sn) (.cons Y (roMap (fk := FK3) (fv := (osF 76 R76)) (m := (mput kqI groups2 x.Number l3)) tZ_222 (fun _ => .dat Y) (fun _ => (rcOs D76))) <| .cons Y (roM D3) <| .nil) Y Y⟩
       ·
        refine Dq 2 Y Y Y (v_loadS (ov Y) Y Y Y tS3 (at_get (at0 (hdc (n := 0) hd0)))) ?_
        refine Do 10 Y Y Y (w_putN (e1 := 76) (R := R76) (m := groups2) (k := x.Number) (ov Y) (ov Y) (ov Y) tMp222 tKO3 Y (fun _ => .b Y)) ?_
        refine D_doneE (by kernel_rfl) (Ent.absorbMk1 (e := 76) (R := R76) (m := groups2) (k := x.Number) (ys := l3) (fk := FK3) (r := 0) (q := 3) Y tZ_222 Y Y Y) ?_
        exact ⟨((mput kqI groups2 x.Number l3), numbers4), h, Ent.sel [some 0, some 1] (sr 3 Y (.mref _ Y) <| sr 4 Y (.own _ Y) <| sd 11 Y Y <| sd 12 Y Y <| sd 13 Y Y <| sn) (.cons Y (roMap (fk := FK3) (fv := (osF 76 R76)) (m := (mput kqI groups2 x.Number l3)) tZ_222 (fun _ => .dat Y) (fun _ => (rcOs D76))) <| .cons Y (roM D3) <| .nil) Y Y⟩
      ·
       refine Dq 1 Y Y Y (v_fieldP (ov Y) Y Y tF76_0) ?_
       refine Dq 2 Y Y Y (v_loadS (ov Y) Y Y Y tS3 (at_get (at0 (hdc (n := 0) hd0)))) ?_
       refine Do 10 Y Y Y (w_putN (e1 := 76) (R := R76) (m := groups2) (k := x.Number) (ov Y) (ov Y) (ov Y) tMp222 tKO3 Y (fun _ => .b Y)) ?_
       refine D_doneE (by kernel_rfl) (Ent.absorbMk1 (e := 76) (R := R76) (m := groups2) (k := x.Number) (ys := l3) (fk := FK3) (r := 0) (q := 3) Y tZ_222 Y Y Y) ?_
       exact ⟨((mput kqI groups2 x.Number l3), numbers4), h, Ent.sel [some 0, some 1] (sr 3 Y (.mref _ Y) <| sr 4 Y (.own _ Y) <| sd 11 Y Y <| sd 12 Y Y <| sd 13 Y Y <| sn) (.cons Y (roMap (fk := FK3) (fv := (osF 76 R76)) (m := (mput kqI groups2 x.Number l3)) tZ_222 (fun _ => .dat Y) (fun _ => (rcOs D76))) <| .cons Y (roM D3) <| .nil) Y Y⟩
     ·
      replace h := elr h
      refine T_ent (Ent.focusMk1 (e := 76) (R := R76) (m := groups2) (k := x.Number) (r := 0) Y tZ_222 (msel_r h_z2) D76) ?_
      refine T_draw (cw := md0) (by kernel_rfl) ?_
      refine Dq 3 Y Y Y (v_move (ov Y)) ?_
      refine Dq 4 Y Y Y (v_fieldP (ov Y) Y Y tF76_0) ?_
      refine Dq 5 Y Y Y (v_loadS (ov Y) Y Y Y tS3 (at_get (at0 (hdc (n := 0) hd0)))) ?_
      refine Dq 6 Y Y Y (v_lkF (e1 := 76) (R := R76) (m := groups2) (k := x.Number) (ov Y) (ov Y) tMp222 tKO3 Y (fun _ => .b Y) (zero_scal tZV58 Y)) ?_
      refine Dq 7 Y Y Y (v_loadA (ov Y) Y Y Y tA76 (at_sub (at_all (lnC (n := 131) (lnA (m := 64) (n := 67) arL (lnA (m := 64) (n := 3) arL (lnC (n := 2) (lnC (n := 1) (lnC (n := 0) (lnN))))))))) (lnC (n := 131) (lnA (m := 64) (n := 67) arL (lnA (m := 64) (n := 3) arL (lnC (n := 2) (lnC (n := 1) (lnC (n := 0) (lnN))))))) (hns := nsC Y (nsA (nsM fun _ => Y) (nsA (nsM fun _ => Y) (nsC Y (nsC Y (nsC Y (nsR Y)))))))) ?_
      refine D_q0 8 (.sl 76 (List.map R76 ([x] : List api_Rest))) Y (by kernel_rfl) Y Y (v_lit tL58 (.cons (cva (ov Y)) (lnC (n := 131) (lnA (m := 64) (n := 67) arL (lnA (m := 64) (n := 3) arL (lnC (n := 2) (lnC (n := 1) (lnC (n := 0) (lnN))))))) (pwD (alC Y (alA (arD fun _ => Y) (alA (arD fun _ => Y) (alC Y (alC Y (alC Y (alN)))))))) <| .nil) Y Y) ?_
      refine D_free 0 _ Y (by kernel_rfl) Y Y (fun hp' => v_move (ov Y)) ?_
      obtain ⟨l4, h_l4, h⟩ := bnd h
      refine Dw 1 9 Y Y Y Y Y Y (v_fieldP (ov Y) Y Y tF76_0) (w_appendG (ov Y) (slv_sl (ov Y) tZ_76) tL58 Y Y Y (fun x => cell1_all (E76 x)) Y h_l4) ?_ ?_
      ·
       refine Dw 2 9 Y Y Y Y Y Y (v_loadS (ov Y) Y Y Y tS3 (at_get (at0 (hdc (n := 0) hd0)))) (w_appendG (ov Y) (slv_sl (ov Y) tZ_76) tL58 Y Y Y (fun x => cell1_all (E76 x)) Y h_l4) ?_ ?_
       ·
        refine Do 9 Y Y Y (w_appendG (ov Y) (slv_sl (ov Y) tZ_76) tL58 Y Y Y (fun x => cell1_all (E76 x)) Y h_l4) ?_
        refine Do 10 Y Y Y (w_putF (e1 := 76) (R := R76) (m := groups2) (k := x.Number) (ov Y) (ov Y) (ov Y) tMp222 tKO3 Y (fun _ => .b Y)) ?_
        refine D_doneE (by kernel_rfl) (Ent.absorbMk1 (e := 76) (R := R76) (m := groups2) (k := x.Number) (ys := l4) (fk := FK3) (r := 0) (q := 3) Y tZ_222 Y Y Y) ?_
        exact ⟨((mput kqI groups2 x.Number l4), numbers4), h, Ent.sel [some 0, some 1] (sr 3 Y (.mref _ Y) <| sr 4 Y (.own _ Y) <| sd 11 Y Y <| sd 12 Y Y <| sd 13 Y Y <| sn) (.cons Y (roMap (fk := FK3) (fv := (osF 76 R76)) (m := (mput kqI groups2 x.Number l4)) tZ_222 (fun _ => .dat Y) (fun _ => (rcOs D76))) <| .cons Y (roM D3) <| .nil) Y Y⟩
       ·
        refine Dq 2 Y Y Y (v_loadS (ov Y) Y Y Y tS3 (at_get (at0 (hdc (n := 0) hd0)))) ?_
        refine Do 10 Y Y Y (w_putF (e1 := 76) (R := R76) (m := groups2) (k := x.Number) (ov Y) (ov Y) (ov Y) tMp222 tKO3 Y (fun _ => .b Y)) ?_
        refine D_doneE (by kernel_rfl) (Ent.absorbMk1 (e := 76) (R := R76) (m := groups2) (k := x.Number) (ys := l4) (fk := FK3) (r := 0) (q := 3) Y tZ_222 Y Y Y) ?_
        exact ⟨((mput kqI groups2 x.Number l4), numbers4), h, Ent.sel [some 0, some 1] (sr 3 Y (.mref _ Y) <| sr 4 Y (.own _ Y) <| sd 11 Y Y <| sd 12 Y Y <| sd 13 Y Y <| sn) (.cons Y (roMap (fk := FK3) (fv := (osF 76 R76)) (m := (mput kqI groups2 x.Number l4)) tZ_222 (fun _ => .dat Y) (fun _ => (rcOs D76))) <| .cons Y (roM D3) <| .nil) Y Y⟩
      ·
       refine Dq 1 Y Y Y (v_fieldP (ov Y) Y Y tF76_0) ?_
       refine Dq 2 Y Y Y (v_loadS (ov Y) Y Y Y tS3 (at_get (at0 (hdc (n := 0) hd0)))) ?_
       refine Do 10 Y Y Y (w_putF (e1 := 76) (R := R76) (m := groups2) (k := x.Number) (ov Y) (ov Y) (ov Y) tMp222 tKO3 Y (fun _ => .b Y)) ?_
       refine D_doneE (by kernel_rfl) (Ent.absorbMk1 (e := 76) (R := R76) (m := groups2) (k := x.Number) (ys := l4) (fk := FK3) (r := 0) (q := 3) Y tZ_222 Y Y Y) ?_
       exact ⟨((mput kqI groups2 x.Number l4), numbers4), h, Ent.sel [some 0, some 1] (sr 3 Y (.mref _ Y) <| sr 4 Y (.own _ Y) <| sd 11 Y Y <| sd 12 Y Y <| sd 13 Y Y <| sn) (.cons Y (roMap (fk := FK3) (fv := (osF 76 R76)) (m := (mput kqI groups2 x.Number l4)) tZ_222 (fun _ => .dat Y) (fun _ => (rcOs D76))) <| .cons Y (roM D3) <| .nil) Y Y⟩
   ·
    obtain ⟨groups3, numbers3⟩ := j
    replace h := t2i h
    refine t2T ?_
    refine T_reg <| Rq Y (v_add (ov Y) (ov Y) Y) <| Rq Y (v_move (ov Y)) <| R_nil ?_
    exact ⟨(groups3, numbers3, (i64 (i + 1))), h, Ent.sel [some 0, some 1] (sr 3 Y (.mref _ Y) <| sr 4 Y (.own _ Y) <| sd 11 Y Y <| sd 12 Y Y <| sd 13 Y Y <| sn) (.cons Y (roMap (fk := FK3) (fv := (osF 76 R76)) (m := groups3) tZ_222 (fun _ => .dat Y) (fun _ => (rcOs D76))) <| .cons Y (roM D3) <| .nil) Y Y⟩
  ·
   refine T_exit ?_
   rw [lx h] at ho1
   replace h := ho1
   exact ⟨(groups2, numbers2), h, Ent.sel [some 0, some 1] (sr 3 Y (.mref _ Y) <| sr 4 Y (.own _ Y) <| sn) (.cons Y (roMap (fk := FK3) (fv := (osF 76 R76)) (m := groups2) tZ_222 (fun _ => .dat Y) (fun _ => (rcOs D76))) <| .cons Y (roM D3) <| .nil) Y Y⟩
 ·
  obtain ⟨groups, numbers⟩ := j
  replace h := t2i h
  refine t2T ?_
  refine Tr <| Rq Y (v_move (ov Y)) ?_
  obtain ⟨y, h_y, h⟩ := bnd h
  refine Rx Y (w_callG [1] (ok_sortIL h_y) (.cons (ov Y) (.own _ Y) <| .nil) (.cons Y (roM D3) <| .nil) Y (.keep Y Y <| .lent 0 (.inl Y) Y (roM D3) <| .nil) Y Y (rTup (rld Y))) ?_
  refine R_nil <| T_keep (kc 3 Y <| kc 4 Y <| kn) Y <| Tr <| Rq Y (v_assign (ov Y)) <| R_nil <| T_joinG id (t1 fun out => ⟨[(7, .own 0 out.length)], [some ⟨76, List.map R76 out⟩]⟩) h (fun h => ?_) (fun j h => ?_)
  ·
   refine Tr <| Rq Y (v_move (ov Y)) <| Rq Y (v_lenO (ov Y) Y (ln_sortI h_y) tL28) <| Rq Y (v_move (ov Y)) <| R_nil <| T_block ?_
   obtain ⟨r2, hl2, ho2⟩ := bndL h
   refine T_loopG _ (t2 fun out2 i2 => ⟨[(3, .mref 0 1), (7, .own 1 out2.length), (40, .own 2 y.length), (41, .int .i64 (y.length : Int)), (42, .int .i64 i2)], [some ⟨222, [[.mcon (List.map (mrow FK3 (osF 76 R76)) groups)]]⟩, some ⟨76, List.map R76 out2⟩, some ⟨3, List.map R3 y⟩]⟩) _ hl2 (Ent.sel [some 0, none, some 1] (sr 3 Y (.mref _ Y) <| sr 7 Y (.row Y) <| sr 40 Y (ownE (Eq.symm (ln_sortI h_y)) Y) <| sd 41 Y Y <| sd 42 Y Y <| sn) (.cons Y (roMap (fk := FK3) (fv := (osF 76 R76)) (m := groups) tZ_222 (fun _ => .dat Y) (fun _ => (rcOs D76))) <| .row 76 <| .cons Y (roM D3) <| .nil) Y Y) (fun n2 s2 h => ?_)
   obtain ⟨out2, i2⟩ := s2
   replace h := t2i h
   refine t2T ?_
   unfold salvage_grouped_L2 at h
   refine Tr <| Rq Y (v_lss (ov Y) (ov Y)) <| R_nil <| T_seq <| T_if h Y (fun b43 h => ?_) (fun b43 h => ?_)
   ·
    refine T_skip <| T_seq <| T_block <| T_keep (kc 3 Y <| kc 7 Y <| kc 40 Y <| kc 41 Y <| kc 42 Y <| kn) Y <| Tr ?_
    obtain ⟨x2, h_x2, h⟩ := bnd h
    refine Rq Y (v_ixOG (ov Y) (ov Y) tL28 Y Y h_x2) ?_
    refine Rq Y (v_loadSR (ov Y) Y Y h_x2 tS3 Y) ?_
    refine Rq Y (v_assign (ov Y)) ?_
    refine R_nil <| T_keep (kc 3 Y <| kc 7 Y <| kc 9 Y <| kc 40 Y <| kc 41 Y <| kc 42 Y <| kn) Y <| T_reg <| Rq Y (v_move (ov Y)) <| Rq Y (v_move (ov Y)) <| Rq Y (v_move (ov Y)) ?_
    obtain ⟨z3, h_z3, h⟩ := bnd h
    rcases z3 with z3 | z3
    ·
     replace h := ell h
     refine Rq Y (v_lkN (e1 := 76) (R := R76) (m := groups) (k := x2) (msel_l h_z3) (ov Y) (ov Y) tMp222 tKO3 Y (fun _ => .b Y) (zero_scal tZV58 Y)) ?_
     obtain ⟨y2, h_y2, h⟩ := bnd h
     refine Rq Y (v_call (ok_salvage_merge h_y2) (.cons (ov Y) (Dat.nils _) <| .nil)) ?_
     refine R_q (.sl 76 (List.map R76 ([y2] : List api_Rest))) Y (v_lit tL58 (.cons (cva (ov Y)) (lnC (n := 131) (lnA (m := 64) (n := 67) arL (lnA (m := 64) (n := 3) arL (lnC (n := 2) (lnC (n := 1) (lnC (n := 0) (lnN))))))) (pwD (alC Y (alA (arD fun _ => Y) (alA (arD fun _ => Y) (alC Y (alC Y (alC Y (alN)))))))) <| .nil) Y Y) ?_
     obtain ⟨l5, h_l5, h⟩ := bnd h
     refine Rx Y (w_appendG (ov Y) (slv_sl (ov Y) tZ_76) tL58 Y Y Y (fun x => cell1_all (E76 x)) Y h_l5) ?_
     refine Rq Y (v_assign (ov Y)) ?_
     refine R_nil <| T_keep (kc 3 Y <| kc 7 Y <| kc 40 Y <| kc 41 Y <| kc 42 Y <| kn) Y <| T_reg <| Rq Y (v_add (ov Y) (ov Y) Y) <| Rq Y (v_move (ov Y)) <| R_nil ?_
     exact ⟨(l5, (i64 (i2 + 1))), h, Ent.sel [some 0, some 1, some 2] (sr 3 Y (.mref _ Y) <| sr 7 Y (.own _ Y) <| sr 40 Y (.own _ Y) <| sd 41 Y Y <| sd 42 Y Y <| sn) (.cons Y (roMap (fk := FK3) (fv := (osF 76 R76)) (m := groups) tZ_222 (fun _ => .dat Y) (fun _ => (rcOs D76))) <| .cons Y (roM D76) <| .cons Y (roM D3) <| .nil) Y Y⟩
    ·
     replace h := elr h
     refine R_ent (Ent.focusMk1 (e := 76) (R := R76) (m := groups) (k := x2) (r := 0) Y tZ_222 (msel_r h_z3) D76) ?_
     refine Rq Y (v_lkF (e1 := 76) (R := R76) (m := groups) (k := x2) (ov Y) (ov Y) tMp222 tKO3 Y (fun _ => .b Y) (zero_scal tZV58 Y)) ?_
     obtain ⟨y3, h_y3, h⟩ := bnd h
     refine Rq Y (v_callB (ok_salvage_merge h_y3) (.agg (faC .int (faA (faV fun _ => .int) (faA (faV fun _ => .int) (faC .bool (faC .int (faC .bool (faN)))))))) (.cons (ov Y) (View.ownM Y Y D76) <| .nil)) ?_
     refine R_q (.sl 76 (List.map R76 ([y3] : List api_Rest))) Y (v_lit tL58 (.cons (cva (ov Y)) (lnC (n := 131) (lnA (m := 64) (n := 67) arL (lnA (m := 64) (n := 3) arL (lnC (n := 2) (lnC (n := 1) (lnC (n := 0) (lnN))))))) (pwD (alC Y (alA (arD fun _ => Y) (alA (arD fun _ => Y) (alC Y (alC Y (alC Y (alN)))))))) <| .nil) Y Y) ?_
     obtain ⟨l6, h_l6, h⟩ := bnd h
     refine Rx Y (w_appendG (ov Y) (slv_sl (ov Y) tZ_76) tL58 Y Y Y (fun x => cell1_all (E76 x)) Y h_l6) ?_
     refine Rq Y (v_assign (ov Y)) ?_
     refine R_ent (by exact Ent.absorbMs1 (e := 76) (R := R76) (m := groups) (k := x2) (ys := z3) (fk := FK3) (r := 0) (q := 3) (msel_r h_z3) Y tZ_222 Y Y Y) ?_
     refine R_nil <| T_keep (kc 3 Y <| kc 7 Y <| kc 40 Y <| kc 41 Y <| kc 42 Y <| kn) Y <| T_reg <| Rq Y (v_add (ov Y) (ov Y) Y) <| Rq Y (v_move (ov Y)) <| R_nil ?_
     exact ⟨(l6, (i64 (i2 + 1))), h, Ent.sel [some 0, some 1, some 2] (sr 3 Y (.mref _ Y) <| sr 7 Y (.own _ Y) <| sr 40 Y (.own _ Y) <| sd 41 Y Y <| sd 42 Y Y <| sn) (.cons Y (roMap (fk := FK3) (fv := (osF 76 R76)) (m := groups) tZ_222 (fun _ => .dat Y) (fun _ => (rcOs D76))) <| .cons Y (roM D76) <| .cons Y (roM D3) <| .nil) Y Y⟩
   ·
    refine T_exit ?_
    rw [lx h] at ho2
    replace h := ho2
    exact ⟨out2, h, Ent.sel [some 1] (sr 7 Y (.own _ Y) <| sn) (.cons Y (roM D76) <| .nil) Y Y⟩
  ·
   obtain ⟨out, rfl⟩ : ∃ x, x = j := ⟨_, rfl⟩
   replace h := t1i h
   refine t1T ?_
   refine Tr <| Rq Y (v_move (ov Y)) <| Rq Y (v_assign (ov Y)) <| R_nil ?_
   obtain rfl := rt (v := out) h
   refine T_ret (retq ?_ (.one (.tmp Y (View.ownM Y Y D76))))
   rfl

theorem ok_salvage_rests {h_ : List Int} {r : (List api_Rest)} (h : salvage_rests h_ = some r) :
  CSpec Tryz.prog gl0 98 [.sl 5 (List.map R5 h_)] (.sl 76 (List.map R76 r)) := by
 unfold salvage_rests at h
 replace h := bnd0 h
 refine spec_of (by kernel_rfl) Tryz.func98 Y Y ?_
 intro w0 A
 refine Tr <| Rq Y (v_assign (ov Y)) <| R_nil <| T_keep (kc 0 Y <| kn) Y <| Tr <| Rq Y (v_move (ov Y)) ?_
 obtain ⟨y, h_y, h⟩ := bnd h
 refine Rq Y (v_call (ok_salvage_newFinder h_y) (.cons (ov Y) (.b Y) <| .nil)) ?_
 refine Rq Y (v_assign (ov Y)) ?_
 refine R_nil <| T_keep (kc 3 Y <| kn) Y <| Tr <| Rq Y (v_assign (ov Y)) <| R_nil <| T_joinG id (t1 fun l => ⟨[(4, .own 0 l.length)], [some ⟨76, List.map R76 l⟩]⟩) h (fun h => ?_) (fun j h => ?_)
 ·
  refine Tr <| Rq Y (v_move (ov Y)) <| Rq Y (v_nilCheckR (ov Y)) <| Rq Y (v_fieldR (ov Y) tF217_1) <| Rq Y (v_loadS_r (ov Y) tS82 Y) <| Rq Y (v_len (slv_sl (ov Y) tZ_88) tL82 (len_map _ _)) <| Rq Y (v_move (ov Y)) <| R_nil <| T_block ?_
  obtain ⟨r1, hl1, ho1⟩ := bndL h
  refine T_loopG _ (t2 fun l2 i => ⟨[(3, .rp [.sl 5 (List.map R5 y.h_), .sl 88 (List.map R88 y.certain), .sl 3 (List.map R3 y.numbers), .any] 0), (4, .own 0 l2.length), (16, .sl 88 (List.map R88 y.certain)), (17, .int .i64 (y.certain.length : Int)), (18, .int .i64 i)], [some ⟨76, List.map R76 l2⟩]⟩) _ hl1 (Ent.sel [none] (sd 3 Y Y <| sr 4 Y (.row Y) <| sd 16 Y Y <| sd 17 Y Y <| sd 18 Y Y <| sn) (.row 76 <| .nil) Y Y) (fun n1 s1 h => ?_)
  obtain ⟨l2, i⟩ := s1
  replace h := t2i h
  refine t2T ?_
  unfold salvage_rests_L1 at h
  refine Tr <| Rq Y (v_lss (ov Y) (ov Y)) <| R_nil <| T_seq <| T_if h Y (fun b19 h => ?_) (fun b19 h => ?_)
  ·
   refine T_skip <| T_joinG id (t1 fun l3 => ⟨[(3, .rp [.sl 5 (List.map R5 y.h_), .sl 88 (List.map R88 y.certain), .sl 3 (List.map R3 y.numbers), .any] 0), (4, .own 0 l3.length), (16, .sl 88 (List.map R88 y.certain)), (17, .int .i64 (y.certain.length : Int)), (18, .int .i64 i)], [some ⟨76, List.map R76 l3⟩]⟩) h (fun h => ?_) (fun j h => ?_)
   ·
    refine T_block <| T_keep (kc 3 Y <| kc 4 Y <| kc 16 Y <| kc 17 Y <| kc 18 Y <| kn) Y <| Tr <| Rq Y (v_move (ov Y)) ?_
    obtain ⟨x, h_x, h⟩ := bnd h
    refine Rq Y (v_ixSG (ov Y) (ov Y) tL82 h_x) ?_
    refine Rq Y (v_loadA_r (ov Y) tA88 (at_sub (at_all (lnC (n := 64) (lnA (m := 64) (n := 0) arL (lnN))))) (lnC (n := 64) (lnA (m := 64) (n := 0) arL (lnN)))) ?_
    refine Rx Y (w_alloc (row := (.int .i64 0) :: ((List.map C47 (Vector.replicate 64 0).toList) ++ ([]))) 1 Y tZ88 (by kernel_rfl) (by exact Eq.symm (Eq.trans (b := 65) (lnC (n := 64) (lnA (m := 64) (n := 0) arL (lnN))) tZ_88.symm))) ?_
    refine Rq Y (v_assign (ov Y)) ?_
    refine Rx Y (w_store (ov Y) (ov Y) (cells_agg tA88 (lnC (n := 64) (lnA (m := 64) (n := 0) arL (lnN)))) Y Y Y (put_le (at_all (lnC (n := 64) (lnA (m := 64) (n := 0) arL (lnN)))) (lnC (n := 64) (lnA (m := 64) (n := 0) arL (lnN)))) (cell1_all (alC Y (alA (arC fun _ => Y) (alN)))) (put_all (Eq.trans (lnC (n := 64) (lnA (m := 64) (n := 0) arL (lnN))) (Eq.symm (lnC (n := 64) (lnA (m := 64) (n := 0) arL (lnN))))))) ?_
    refine R_nil <| T_keep (kc 3 Y <| kc 4 Y <| kc 5 Y <| kc 6 Y <| kc 16 Y <| kc 17 Y <| kc 18 Y <| kn) Y <| T_seq (T_draw (cw := md0) (by kernel_rfl) ?_)
    refine Dq 0 Y Y Y (v_move (ov Y)) ?_
    refine Dq 1 Y Y Y (v_move (ov Y)) ?_
    refine Dq 2 Y Y Y (v_nilCheckR (ov Y)) ?_
    refine Dq 3 Y Y Y (v_fieldR (ov Y) tF217_2) ?_
    refine Dq 4 Y Y Y (v_loadS_r (ov Y) tS28 Y) ?_
    refine Dq 5 Y Y Y (v_move (ov Y)) ?_
    obtain ⟨x2, h_x2, h⟩ := bnd h
    refine Dq 6 Y Y Y (v_ixSG (ov Y) (ov Y) tL28 h_x2) ?_
    refine Dq 7 Y Y Y (v_loadS_r (ov Y) tS3 Y) ?_
    refine Dq 8 Y Y Y (v_fieldP (ov Y) Y Y tF88_1) ?_
    refine Dq 9 Y Y Y (v_loadA (ov Y) Y Y Y tA49 (at_sub (atc (o := 0) (at0 (hdw arL)))) arL (hns := (nsM fun _ => Y))) ?_
    obtain ⟨y2, h_y2, h⟩ := bnd h
    refine Dq 10 Y Y Y (v_call (ok_salvage_filled h_y2) (.cons (ov Y) (.b Y) <| .nil)) ?_
    refine Dq 11 Y Y Y (v_buildX (zr := (.int .i64 0) :: ((List.map C47 (Vector.replicate 64 0).toList) ++ (((List.map C3 (Vector.replicate 64 0).toList) ++ ((.bool false) :: (.int .i64 0) :: (.bool false) :: []))))) tPL76 tHA76 tZ76 (by kernel_rfl) (.cons (cvs (ov Y) (cell1_b Y)) <| .cons (cva (ov Y)) <| .cons (cva (ov Y)) <| .cons (cvs (ov Y) (cell1_b Y)) <| .cons (cvs (ov Y) (cell1_b Y)) <| .nil) (fa_cons Y Y (at0 (hdc (n := 0) hd0)) (put1) <| fa_cons Y arL (atc (o := 0) (at0 (hdw arL))) (putc (o := 0) (putw (Eq.trans arL (Eq.symm arL)))) <| fa_cons Y arL (atc (o := 64) (ata (m := 64) (o := 0) arL (at0 (hdw arL)))) (putc (o := 64) (puta (m := 64) (o := 0) arL (putw (Eq.trans arL (Eq.symm arL))))) <| fa_cons Y Y (atc (o := 128) (ata (m := 64) (o := 64) arL (ata (m := 64) (o := 0) arL (at0 (hdc (n := 0) hd0))))) (putc (o := 128) (puta (m := 64) (o := 64) arL (puta (m := 64) (o := 0) arL (put1)))) <| fa_cons Y Y (atc (o := 129) (ata (m := 64) (o := 65) arL (ata (m := 64) (o := 1) arL (atc (o := 0) (at0 (hdc (n := 0) hd0)))))) (putc (o := 129) (puta (m := 64) (o := 65) arL (puta (m := 64) (o := 1) arL (putc (o := 0) (put1))))) <| fa_nil)) ?_
    refine D_q0 12 (.sl 76 (List.map R76 ([(api_Rest.mk x2 x.Frame y2 true 1 false)] : List api_Rest))) Y (by kernel_rfl) Y Y (v_lit tL58 (.cons (cva (ov Y)) (lnC (n := 131) (lnA (m := 64) (n := 67) arL (lnA (m := 64) (n := 3) arL (lnC (n := 2) (lnC (n := 1) (lnC (n := 0) (lnN))))))) (pwD (alC Y (alA (arD fun _ => Y) (alA (arD fun _ => Y) (alC Y (alC Y (alC Y (alN)))))))) <| .nil) Y Y) ?_
    obtain ⟨l4, h_l4, h⟩ := bnd h
    refine Do 13 Y Y Y (w_appendG (ov Y) (slv_sl (ov Y) tZ_76) tL58 Y Y Y (fun x => cell1_all (E76 x)) Y h_l4) ?_
    refine Dq 14 Y Y Y (v_assign (ov Y)) ?_
    refine D_done (by kernel_rfl) ?_
    refine T_keep (kc 3 Y <| kc 4 Y <| kc 5 Y <| kc 16 Y <| kc 17 Y <| kc 18 Y <| kn) Y <| Tr <| Rq Y (v_move (ov Y)) <| Rq Y (v_move (ov Y)) ?_
    obtain ⟨y3, h_y3, h⟩ := bnd h
    refine Rq Y (v_call (ok_salvage_finder_places h_y3) (.cons (ov Y) (.b Y) <| .cons (ov Y) (.b Y) <| .nil)) ?_
    refine Rq Y (v_len (slv_sl (ov Y) tZ_3) tL28 (len_map _ _)) ?_
    refine Rq Y (v_move (ov Y)) ?_
    refine R_nil <| T_block ?_
    obtain ⟨r2, hl2, ho2⟩ := bndL h
    refine T_loopG _ (t2 fun l5 i2 => ⟨[(3, .rp [.sl 5 (List.map R5 y.h_), .sl 88 (List.map R88 y.certain), .sl 3 (List.map R3 y.numbers), .any] 0), (4, .own 0 l5.length), (5, .int .i64 i), (16, .sl 88 (List.map R88 y.certain)), (17, .int .i64 (y.certain.length : Int)), (18, .int .i64 i), (39, .sl 3 (List.map R3 y3)), (40, .int .i64 (y3.length : Int)), (41, .int .i64 i2)], [some ⟨76, List.map R76 l5⟩]⟩) _ hl2 (Ent.sel [some 0] (sd 3 Y Y <| sr 4 Y (.own _ Y) <| sd 5 Y Y <| sd 16 Y Y <| sd 17 Y Y <| sd 18 Y Y <| sd 39 Y Y <| sd 40 Y Y <| sd 41 Y Y <| sn) (.cons Y (roM D76) <| .nil) Y Y) (fun n2 s2 h => ?_)
    obtain ⟨l5, i2⟩ := s2
    replace h := t2i h
    refine t2T ?_
    unfold salvage_rests_L2 at h
    refine Tr <| Rq Y (v_lss (ov Y) (ov Y)) <| R_nil <| T_seq <| T_if h Y (fun b42 h => ?_) (fun b42 h => ?_)
    ·
     refine T_skip <| T_seq <| T_block <| T_keep (kc 3 Y <| kc 4 Y <| kc 5 Y <| kc 16 Y <| kc 17 Y <| kc 18 Y <| kc 39 Y <| kc 40 Y <| kc 41 Y <| kn) Y <| Tr ?_
     obtain ⟨x3, h_x3, h⟩ := bnd h
     refine Rq Y (v_ixSG (ov Y) (ov Y) tL28 h_x3) ?_
     refine Rq Y (v_loadS_r (ov Y) tS3 Y) ?_
     refine Rq Y (v_assign (ov Y)) ?_
     refine R_nil <| T_keep (kc 3 Y <| kc 4 Y <| kc 5 Y <| kc 8 Y <| kc 16 Y <| kc 17 Y <| kc 18 Y <| kc 39 Y <| kc 40 Y <| kc 41 Y <| kn) Y <| Tr <| Rq Y (v_move (ov Y)) <| Rq Y (v_move (ov Y)) <| Rq Y (v_move (ov Y)) ?_
     obtain ⟨y4, h_y4, h⟩ := bnd h
     refine Rq Y (v_call (ok_salvage_finder_beside h_y4) (.cons (ov Y) (.b Y) <| .cons (ov Y) (.b Y) <| .cons (ov Y) (.b Y) <| .nil)) ?_
     refine Rq Y (v_move (ov Y)) ?_
     refine Rq Y (v_extract (ov Y) Y) ?_
     refine Rq Y (v_extract (ov Y) Y) ?_
     refine Rx Y (w_alloc (row := (.int .i64 0) :: ((List.map C47 (Vector.replicate 64 0).toList) ++ (((List.map C3 (Vector.replicate 64 0).toList) ++ ((.bool false) :: (.int .i64 0) :: (.bool false) :: []))))) 1 Y tZ76 (by kernel_rfl) (by exact Eq.symm (Eq.trans (b := 132) (lnC (n := 131) (lnA (m := 64) (n := 67) arL (lnA (m := 64) (n := 3) arL (lnC (n := 2) (lnC (n := 1) (lnC (n := 0) (lnN))))))) tZ_76.symm))) ?_
     refine Rx Y (w_store (ov Y) (ov Y) (cells_agg tA76 (lnC (n := 131) (lnA (m := 64) (n := 67) arL (lnA (m := 64) (n := 3) arL (lnC (n := 2) (lnC (n := 1) (lnC (n := 0) (lnN)))))))) Y Y Y (put_le (at_all (lnC (n := 131) (lnA (m := 64) (n := 67) arL (lnA (m := 64) (n := 3) arL (lnC (n := 2) (lnC (n := 1) (lnC (n := 0) (lnN)))))))) (lnC (n := 131) (lnA (m := 64) (n := 67) arL (lnA (m := 64) (n := 3) arL (lnC (n := 2) (lnC (n := 1) (lnC (n := 0) (lnN)))))))) (cell1_all (alC Y (alA (arC fun _ => Y) (alA (arC fun _ => Y) (alC Y (alC Y (alC Y (alN)))))))) (put_all (Eq.trans (lnC (n := 131) (lnA (m := 64) (n := 67) arL (lnA (m := 64) (n := 3) arL (lnC (n := 2) (lnC (n := 1) (lnC (n := 0) (lnN))))))) (Eq.symm (lnC (n := 131) (lnA (m := 64) (n := 67) arL (lnA (m := 64) (n := 3) arL (lnC (n := 2) (lnC (n := 1) (lnC (n := 0) (lnN))))))))))) ?_
     refine Rq Y (v_assign (ov Y)) ?_
     refine R_nil <| T_keep (kc 3 Y <| kc 4 Y <| kc 5 Y <| kc 9 Y <| kc 10 Y <| kc 16 Y <| kc 17 Y <| kc 18 Y <| kc 39 Y <| kc 40 Y <| kc 41 Y <| kn) Y <| Tr <| Rq Y (v_move (ov Y)) <| R_nil <| T_keep (kc 3 Y <| kc 4 Y <| kc 5 Y <| kc 9 Y <| kc 16 Y <| kc 17 Y <| kc 18 Y <| kc 39 Y <| kc 40 Y <| kc 41 Y <| kc 52 Y <| kn) Y <| T_if h Y (fun b52 h => ?_) (fun b52 h => ?_)
     ·
      refine T_keep (kc 3 Y <| kc 4 Y <| kc 5 Y <| kc 9 Y <| kc 16 Y <| kc 17 Y <| kc 18 Y <| kc 39 Y <| kc 40 Y <| kc 41 Y <| kn) Y <| T_reg <| Rq Y (v_move (ov Y)) <| Rq Y (v_loadA (ov Y) Y Y Y tA76 (at_sub (at_all (lnC (n := 131) (lnA (m := 64) (n := 67) arL (lnA (m := 64) (n := 3) arL (lnC (n := 2) (lnC (n := 1) (lnC (n := 0) (lnN))))))))) (lnC (n := 131) (lnA (m := 64) (n := 67) arL (lnA (m := 64) (n := 3) arL (lnC (n := 2) (lnC (n := 1) (lnC (n := 0) (lnN))))))) (hns := nsC Y (nsA (nsM fun _ => Y) (nsA (nsM fun _ => Y) (nsC Y (nsC Y (nsC Y (nsR Y)))))))) <| R_q (.sl 76 (List.map R76 ([y4.1] : List api_Rest))) Y (v_lit tL58 (.cons (cva (ov Y)) (lnC (n := 131) (lnA (m := 64) (n := 67) arL (lnA (m := 64) (n := 3) arL (lnC (n := 2) (lnC (n := 1) (lnC (n := 0) (lnN))))))) (pwD (alC Y (alA (arD fun _ => Y) (alA (arD fun _ => Y) (alC Y (alC Y (alC Y (alN)))))))) <| .nil) Y Y) ?_
      obtain ⟨l6, h_l6, h⟩ := bnd h
      refine Rx Y (w_appendG (ov Y) (slv_sl (ov Y) tZ_76) tL58 Y Y Y (fun x => cell1_all (E76 x)) Y h_l6) ?_
      refine Rq Y (v_assign (ov Y)) ?_
      refine R_nil <| T_keep (kc 3 Y <| kc 4 Y <| kc 5 Y <| kc 16 Y <| kc 17 Y <| kc 18 Y <| kc 39 Y <| kc 40 Y <| kc 41 Y <| kn) Y <| T_reg <| Rq Y (v_add (ov Y) (ov Y) Y) <| Rq Y (v_move (ov Y)) <| R_nil ?_
      exact ⟨(l6, (i64 (i2 + 1))), h, Ent.sel [some 0] (sd 3 Y Y <| sr 4 Y (.own _ Y) <| sd 5 Y Y <| sd 16 Y Y <| sd 17 Y Y <| sd 18 Y Y <| sd 39 Y Y <| sd 40 Y Y <| sd 41 Y Y <| sn) (.cons Y (roM D76) <| .nil) Y Y⟩
     ·
      refine T_skip <| T_keep (kc 3 Y <| kc 4 Y <| kc 5 Y <| kc 16 Y <| kc 17 Y <| kc 18 Y <| kc 39 Y <| kc 40 Y <| kc 41 Y <| kn) Y <| T_reg <| Rq Y (v_add (ov Y) (ov Y) Y) <| Rq Y (v_move (ov Y)) <| R_nil ?_
      exact ⟨(l5, (i64 (i2 + 1))), h, Ent.sel [some 0] (sd 3 Y Y <| sr 4 Y (.own _ Y) <| sd 5 Y Y <| sd 16 Y Y <| sd 17 Y Y <| sd 18 Y Y <| sd 39 Y Y <| sd 40 Y Y <| sd 41 Y Y <| sn) (.cons Y (roM D76) <| .nil) Y Y⟩
    ·
     refine T_exit ?_
     rw [lx h] at ho2
     replace h := ho2
     exact ⟨l5, h, Ent.sel [some 0] (sd 3 Y Y <| sr 4 Y (.own _ Y) <| sd 16 Y Y <| sd 17 Y Y <| sd 18 Y Y <| sn) (.cons Y (roM D76) <| .nil) Y Y⟩
   ·
    obtain ⟨l3, rfl⟩ : ∃ x, x = j := ⟨_, rfl⟩
    replace h := t1i h
    refine t1T ?_
    refine T_reg <| Rq Y (v_add (ov Y) (ov Y) Y) <| Rq Y (v_move (ov Y)) <| R_nil ?_
    exact ⟨(l3, (i64 (i + 1))), h, Ent.sel [some 0] (sd 3 Y Y <| sr 4 Y (.own _ Y) <| sd 16 Y Y <| sd 17 Y Y <| sd 18 Y Y <| sn) (.cons Y (roM D76) <| .nil) Y Y⟩
  ·
   refine T_exit ?_
   rw [lx h] at ho1
   replace h := ho1
   exact ⟨l2, h, Ent.sel [some 0] (sr 4 Y (.own _ Y) <| sn) (.cons Y (roM D76) <| .nil) Y Y⟩
 ·
  obtain ⟨l, rfl⟩ : ∃ x, x = j := ⟨_, rfl⟩
  replace h := t1i h
  refine t1T ?_
  refine Tr <| Rq Y (v_move (ov Y)) ?_
  obtain ⟨y5, h_y5, h⟩ := bnd h
  refine R_ent (Ent.sel [none] (sr 4 Y (frzM Y Y Y D76) <| sr 59 Y (frzM Y Y Y D76) <| sn) (.row 76 <| .nil) Y Y) ?_
  refine Rq Y (v_call (ok_salvage_grouped h_y5) (.cons (ov Y) (.b Y) <| .nil)) ?_
  refine Rq Y (v_assign (ov Y)) ?_
  refine R_nil ?_
  obtain rfl := rt (v := y5) h
  refine T_ret (retq ?_ (.one (.tmp Y (Dat.view (.b Y)))))
  rfl

theorem ok_salvage_grouped_o {l : List api_Rest} {r : (List api_Rest)} (h : salvage_grouped l = some r) :
  GSpec Tryz.prog gl0 182 [.sl 76 (List.map R76 l)] [] (.own 0 r.length) [some ⟨76, List.map R76 r⟩] := by
 unfold salvage_grouped at h
 replace h := bnd0 h
 refine gspec_of (by kernel_rfl) Tryz.func182 Y Y ?_
 intro w0 A W φ0
 refine Tr <| Rq Y (v_assign (ov Y)) <| R_nil <| T_keep (kc 0 Y <| kn) Y <| Tr <| Rx Y (w_makeMap 0 Y tMp222) <| Rq Y (v_assign (ov Y)) <| R_nil <| T_keep (kc 0 Y <| kc 3 Y <| kn) Y <| Tr <| Rq Y (v_assign (ov Y)) <| R_nil <| T_joinG id (t2 fun groups numbers => ⟨[(3, .mref 0 1), (4, .own 1 numbers.length)], [some ⟨222, [[.mcon (List.map (mrow FK3 (osF 76 R76)) groups)]]⟩, some ⟨3, List.map R3 numbers⟩]⟩) h (fun h => ?_) (fun j h => ?_)
 ·
  refine Tr <| Rq Y (v_move (ov Y)) <| Rq Y (v_len (slv_sl (ov Y) tZ_76) tL58 (len_map _ _)) <| Rq Y (v_move (ov Y)) <| R_nil <| T_block ?_
  obtain ⟨r1, hl1, ho1⟩ := bndL h
  refine T_loopG _ (t3 fun groups2 numbers2 i => ⟨[(3, .mref 0 1), (4, .own 1 numbers2.length), (11, .sl 76 (List.map R76 l)), (12, .int .i64 (l.length : Int)), (13, .int .i64 i)], [some ⟨222, [[.mcon (List.map (mrow FK3 (osF 76 R76)) groups2)]]⟩, some ⟨3, List.map R3 numbers2⟩]⟩) _ hl1 (Ent.sel [some 0, none] (sr 3 Y (.mref _ Y) <| sr 4 Y (.row Y) <| sd 11 Y Y <| sd 12 Y Y <| sd 13 Y Y <| sn) (.cons Y (roMap (fk := FK3) (fv := (osF 76 R76)) (m := ([] : List (Int × (List api_Rest)))) tZ_222 (fun _ => .dat Y) (fun _ => (rcOs D76))) <| .row 3 <| .nil) Y Y) (fun n1 s1 h => ?_)
  obtain ⟨groups2, numbers2, i⟩ := s1
  replace h := t3i h
  refine t3T ?_
  unfold salvage_grouped_L1 at h
  refine Tr <| Rq Y (v_lss (ov Y) (ov Y)) <| R_nil <| T_seq <| T_if h Y (fun b14 h => ?_) (fun b14 h => ?_)
  ·
   refine T_skip <| T_joinG id (t2 fun groups3 numbers3 => ⟨[(3, .mref 0 1), (4, .own 1 numbers3.length), (11, .sl 76 (List.map R76 l)), (12, .int .i64 (l.length : Int)), (13, .int .i64 i)], [some ⟨222, [[.mcon (List.map (mrow FK3 (osF 76 R76)) groups3)]]⟩, some ⟨3, List.map R3 numbers3⟩]⟩) h (fun h => ?_) (fun j h => ?_)
   ·
    refine T_block <| T_keep (kc 3 Y <| kc 4 Y <| kc 11 Y <| kc 12 Y <| kc 13 Y <| kn) Y <| Tr ?_
    obtain ⟨x, h_x, h⟩ := bnd h
    refine Rq Y (v_ixSG (ov Y) (ov Y) tL58 h_x) ?_
    refine Rq Y (v_loadA_r (ov Y) tA76 (at_sub (at_all (lnC (n := 131) (lnA (m := 64) (n := 67) arL (lnA (m := 64) (n := 3) arL (lnC (n := 2) (lnC (n := 1) (lnC (n := 0) (lnN))))))))) (lnC (n := 131) (lnA (m := 64) (n := 67) arL (lnA (m := 64) (n := 3) arL (lnC (n := 2) (lnC (n := 1) (lnC (n := 0) (lnN)))))))) ?_
    refine Rx Y (w_alloc (row := (.int .i64 0) :: ((List.map C47 (Vector.replicate 64 0).toList) ++ (((List.map C3 (Vector.replicate 64 0).toList) ++ ((.bool false) :: (.int .i64 0) :: (.bool false) :: []))))) 2 Y tZ76 (by kernel_rfl) (by exact Eq.symm (Eq.trans (b := 132) (lnC (n := 131) (lnA (m := 64) (n := 67) arL (lnA (m := 64) (n := 3) arL (lnC (n := 2) (lnC (n := 1) (lnC (n := 0) (lnN))))))) tZ_76.symm))) ?_
    refine Rx Y (w_store (ov Y) (ov Y) (cells_agg tA76 (lnC (n := 131) (lnA (m := 64) (n := 67) arL (lnA (m := 64) (n := 3) arL (lnC (n := 2) (lnC (n := 1) (lnC (n := 0) (lnN)))))))) Y Y Y (put_le (at_all (lnC (n := 131) (lnA (m := 64) (n := 67) arL (lnA (m := 64) (n := 3) arL (lnC (n := 2) (lnC (n := 1) (lnC (n := 0) (lnN)))))))) (lnC (n := 131) (lnA (m := 64) (n := 67) arL (lnA (m := 64) (n := 3) arL (lnC (n := 2) (lnC (n := 1) (lnC (n := 0) (lnN)))))))) (cell1_all (alC Y (alA (arC fun _ => Y) (alA (arC fun _ => Y) (alC Y (alC Y (alC Y (alN)))))))) (put_all (Eq.trans (lnC (n := 131) (lnA (m := 64) (n := 67) arL (lnA (m := 64) (n := 3) arL (lnC (n := 2) (lnC (n := 1) (lnC (n := 0) (lnN))))))) (Eq.symm (lnC (n := 131) (lnA (m := 64) (n := 67) arL (lnA (m := 64) (n := 3) arL (lnC (n := 2) (lnC (n := 1) (lnC (n := 0) (lnN))))))))))) ?_
    refine R_nil <| T_joinG id (t1 fun numbers4 => ⟨[(3, .mref 0 1), (4, .own 1 numbers4.length), (6, .ptr 2 1 0 0), (11, .sl 76 (List.map R76 l)), (12, .int .i64 (l.length : Int)), (13, .int .i64 i)], [some ⟨222, [[.mcon (List.map (mrow FK3 (osF 76 R76)) groups2)]]⟩, some ⟨3, List.map R3 numbers4⟩, some ⟨76, [(.int .i64 x.Number) :: ((List.map C47 x.Frame.toList) ++ (((List.map C3 x.States.toList) ++ ((.bool x.Sound) :: (.int .i64 x.Copies) :: (.bool x.Conflict) :: []))))]⟩]⟩) h (fun h => ?_) (fun j h => ?_)
    ·
     refine T_keep (kc 3 Y <| kc 4 Y <| kc 6 Y <| kc 11 Y <| kc 12 Y <| kc 13 Y <| kn) Y <| Tr <| Rq Y (v_move (ov Y)) <| Rq Y (v_fieldP (ov Y) Y Y tF76_0) <| Rq Y (v_loadS (ov Y) Y Y Y tS3 (at_get (at0 (hdc (n := 0) hd0)))) ?_
     obtain ⟨z, h_z, h⟩ := bnd h
     rcases z with z | z
     ·
      replace h := ell h
      refine Rq Y (v_lkN (e1 := 76) (R := R76) (m := groups2) (k := x.Number) (msel_l h_z) (ov Y) (ov Y) tMp222 tKO3 Y (fun _ => .b Y) (zero_scal tZV58 Y)) ?_
      refine Rq Y (v_nilN (ng := false) (ov Y) tIsl58) ?_
      refine R_nil <| T_keep (kc 3 Y <| kc 4 Y <| kc 6 Y <| kc 11 Y <| kc 12 Y <| kc 13 Y <| kc 21 Y <| kn) Y <| T_if h Y (fun b21 h => ?_) (fun b21 h => ?_)
      ·
       refine T_keep (kc 3 Y <| kc 4 Y <| kc 6 Y <| kc 11 Y <| kc 12 Y <| kc 13 Y <| kn) Y <| T_reg <| Rq Y (v_move (ov Y)) <| Rq Y (v_fieldP (ov Y) Y Y tF76_0) <| Rq Y (v_loadS (ov Y) Y Y Y tS3 (at_get (at0 (hdc (n := 0) hd0)))) <| R_q (.sl 3 (List.map R3 ([x.Number] : List Int))) Y (v_lit tL28 (.cons (cvs (ov Y) (cell1_b Y)) Y (.cons (.b Y) .nil) <| .nil) Y Y) ?_
       obtain ⟨l2, h_l2, h⟩ := bnd h
       refine Rx Y (w_appendG (ov Y) (slv_sl (ov Y) tZ_3) tL28 Y Y Y (fun _ => cell1_all Y) Y h_l2) ?_
       refine Rq Y (v_assign (ov Y)) ?_
       refine R_nil ?_
       exact ⟨l2, h, Ent.sel [some 0, some 1, some 2] (sr 3 Y (.mref _ Y) <| sr 4 Y (.own _ Y) <| sr 6 Y (.ptr _ _ _ Y) <| sd 11 Y Y <| sd 12 Y Y <| sd 13 Y Y <| sn) (.cons Y (roMap (fk := FK3) (fv := (osF 76 R76)) (m := groups2) tZ_222 (fun _ => .dat Y) (fun _ => (rcOs D76))) <| .cons Y (roM D3) <| .cons Y (ro1 (by exact Eq.trans (b := 132) (lnC (n := 131) (lnA (m := 64) (n := 67) arL (lnA (m := 64) (n := 3) arL (lnC (n := 2) (lnC (n := 1) (lnC (n := 0) (lnN))))))) tZ_76.symm) (rld (alC Y (alA (arD fun _ => Y) (alA (arD fun _ => Y) (alC Y (alC Y (alC Y (alN))))))))) <| .nil) Y Y⟩
      ·
       exact Bool.noConfusion b21
     ·
      replace h := elr h
      refine R_ent (Ent.focusMk1 (e := 76) (R := R76) (m := groups2) (k := x.Number) (r := 0) Y tZ_222 (msel_r h_z) D76) ?_
      refine Rq Y (v_lkF (e1 := 76) (R := R76) (m := groups2) (k := x.Number) (ov Y) (ov Y) tMp222 tKO3 Y (fun _ => .b Y) (zero_scal tZV58 Y)) ?_
      obtain ⟨u, h_u, h⟩ := bnd h
      refine Rq Y (v_nilO (ng := false) (ov Y) tIsl58 Y (List.length_map ..) h_u) ?_
      refine R_ent (by exact Ent.absorbMs1 (e := 76) (R := R76) (m := groups2) (k := x.Number) (ys := z) (fk := FK3) (r := 0) (q := 3) (msel_r h_z) Y tZ_222 Y Y Y) ?_
      refine R_nil <| T_keep (kc 3 Y <| kc 4 Y <| kc 6 Y <| kc 11 Y <| kc 12 Y <| kc 13 Y <| kc 21 Y <| kn) Y <| T_if h Y (fun b21 h => ?_) (fun b21 h => ?_)
      ·
       exact Bool.noConfusion b21
      ·
       refine T_skip ?_
       exact ⟨numbers2, h, Ent.sel [some 0, some 1, some 2] (sr 3 Y (.mref _ Y) <| sr 4 Y (.own _ Y) <| sr 6 Y (.ptr _ _ _ Y) <| sd 11 Y Y <| sd 12 Y Y <| sd 13 Y Y <| sn) (.cons Y (roMap (fk := FK3) (fv := (osF 76 R76)) (m := groups2) tZ_222 (fun _ => .dat Y) (fun _ => (rcOs D76))) <| .cons Y (roM D3) <| .cons Y (ro1 (by exact Eq.trans (b := 132) (lnC (n := 131) (lnA (m := 64) (n := 67) arL (lnA (m := 64) (n := 3) arL (lnC (n := 2) (lnC (n := 1) (lnC (n := 0) (lnN))))))) tZ_76.symm) (rld (alC Y (alA (arD fun _ => Y) (alA (arD fun _ => Y) (alC Y (alC Y (alC Y (alN))))))))) <| .nil) Y Y⟩
    ·
     obtain ⟨numbers4, rfl⟩ : ∃ x, x = j := ⟨_, rfl⟩
     replace h := t1i h
     refine t1T ?_
     obtain ⟨z2, h_z2, h⟩ := bnd h
     rcases z2 with z2 | z2
     ·
      replace h := ell h
      refine T_draw (cw := md0) (by kernel_rfl) ?_
      refine Dq 3 Y Y Y (v_move (ov Y)) ?_
      refine Dq 4 Y Y Y (v_fieldP (ov Y) Y Y tF76_0) ?_
      refine Dq 5 Y Y Y (v_loadS (ov Y) Y Y Y tS3 (at_get (at0 (hdc (n := 0) hd0)))) ?_
      refine Dq 6 Y Y Y (v_lkN (e1 := 76) (R := R76) (m := groups2) (k := x.Number) (msel_l h_z2) (ov Y) (ov Y) tMp222 tKO3 Y (fun _ => .b Y) (zero_scal tZV58 Y)) ?_
      refine Dq 7 Y Y Y (v_loadA (ov Y) Y Y Y tA76 (at_sub (at_all (lnC (n := 131) (lnA (m := 64) (n := 67) arL (lnA (m := 64) (n := 3) arL (lnC (n := 2) (lnC (n := 1) (lnC (n := 0) (lnN))))))))) (lnC (n := 131) (lnA (m := 64) (n := 67) arL (lnA (m := 64) (n := 3) arL (lnC (n := 2) (lnC (n := 1) (lnC (n := 0) (lnN))))))) (hns := nsC Y (nsA (nsM fun _ => Y) (nsA (nsM fun _ => Y) (nsC Y (nsC Y (nsC Y (nsR Y)))))))) ?_
      refine D_q0 8 (.sl 76 (List.map R76 ([x] : List api_Rest))) Y (by kernel_rfl) Y Y (v_lit tL58 (.cons (cva (ov Y)) (lnC (n := 131) (lnA (m := 64) (n := 67) arL (lnA (m := 64) (n := 3) arL (lnC (n := 2) (lnC (n := 1) (lnC (n := 0) (lnN))))))) (pwD (alC Y (alA (arD fun _ => Y) (alA (arD fun _ => Y) (alC Y (alC Y (alC Y (alN)))))))) <| .nil) Y Y) ?_
      refine D_free 0 _ Y (by kernel_rfl) Y Y (fun hp' => v_move (ov Y)) ?_
      obtain ⟨l3, h_l3, h⟩ := bnd h
      refine Dw 1 9 Y Y Y Y Y Y (v_fieldP (ov Y) Y Y tF76_0) (w_append0G (r := 3) Y (ov Y) (slv_sl (ov Y) tZ_76) tL58 Y h_l3) ?_ ?_
      ·
       refine Dw 2 9 Y Y Y Y Y Y (v_loadS (ov Y) Y Y Y tS3 (at_get (at0 (hdc (n := 0) hd0)))) (w_append0G (r := 3) Y (ov Y) (slv_sl (ov Y) tZ_76) tL58 Y h_l3) ?_ ?_
       ·
        refine Do 9 Y Y Y (w_append0G (r := 3) Y (ov Y) (slv_sl (ov Y) tZ_76) tL58 Y h_l3) ?_
        refine Do 10 Y Y Y (w_putN (e1 := 76) (R := R76) (m := groups2) (k := x.Number) (ov Y) (ov Y) (ov Y) tMp222 tKO3 Y (fun _ => .b Y)) ?_
        refine D_doneE (by kernel_rfl) (Ent.absorbMk1 (e := 76) (R := R76) (m := groups2) (k := x.Number) (ys := l3) (fk := FK3) (r := 0) (q := 3) Y tZ_222 Y Y Y) ?_
        exact ⟨((mput kqI groups2 x.Number l3), numbers4), h, Ent.sel [some 0, some 1] (sr 3 Y (.mref _ Y) <| sr 4 Y (.own _ Y) <| sd 11 Y Y <| sd 12 Y Y <| sd 13 Y Y <| sn) (.cons Y (roMap (fk := FK3) (fv := (osF 76 R76)) (m := (mput kqI groups2 x.Number l3)) tZ_222 (fun _ => .dat Y) (fun _ => (rcOs D76))) <| .cons Y (roM D3) <| .nil) Y Y⟩
       ·
        refine Dq 2 Y Y Y (v_loadS (ov Y) Y Y Y tS3 (at_get (at0 (hdc (n := 0) hd0)))) ?_
        refine Do 10 Y Y Y (w_putN (e1 := 76) (R := R76) (m := groups2) (k := x.Number) (ov Y) (ov Y) (ov Y) tMp222 tKO3 Y (fun _ => .b Y)) ?_
        refine D_doneE (by kernel_rfl) (Ent.absorbMk1 (e := 76) (R := R76) (m := groups2) (k := x.Number) (ys := l3) (fk := FK3) (r := 0) (q := 3) Y tZ_222 Y Y Y) ?_
        exact ⟨((mput kqI groups2 x.Number l3), numbers4), h, Ent.sel [some 0, some 1] (sr 3 Y (.mref _ Y) <| sr 4 Y (.own _ Y) <| sd 11 Y Y <| sd 12 Y Y <| sd 13 Y Y <| sn) (.cons Y (roMap (fk := FK3) (fv := (osF 76 R76)) (m := (mput kqI groups2 x.Number l3)) tZ_222 (fun _ => .dat Y) (fun _ => (rcOs D76))) <| .cons Y (roM D3) <| .nil) Y Y⟩
      ·
       refine Dq 1 Y Y Y (v_fieldP (ov Y) Y Y tF76_0) ?_
       refine Dq 2 Y Y Y (v_loadS (ov Y) Y Y Y tS3 (at_get (at0 (hdc (n := 0) hd0)))) ?_
       refine Do 10 Y Y Y (w_putN (e1 := 76) (R := R76) (m := groups2) (k := x.Number) (ov Y) (ov Y) (ov Y) tMp222 tKO3 Y (fun _ => .b Y)) ?_
       refine D_doneE (by kernel_rfl) (Ent.absorbMk1 (e := 76) (R := R76) (m := groups2) (k := x.Number) (ys := l3) (fk := FK3) (r := 0) (q := 3) Y tZ_222 Y Y Y) ?_
       exact ⟨((mput kqI groups2 x.Number l3), numbers4), h, Ent.sel [some 0, some 1] (sr 3 Y (.mref _ Y) <| sr 4 Y (.own _ Y) <| sd 11 Y Y <| sd 12 Y Y <| sd 13 Y Y <| sn) (.cons Y (roMap (fk := FK3) (fv := (osF 76 R76)) (m := (mput kqI groups2 x.Number l3)) tZ_222 (fun _ => .dat Y) (fun _ => (rcOs D76))) <| .cons Y (roM D3) <| .nil) Y Y⟩
     ·
      replace h := elr h
      refine T_ent (Ent.focusMk1 (e := 76) (R := R76) (m := groups2) (k := x.Number) (r := 0) Y tZ_222 (msel_r h_z2) D76) ?_
      refine T_draw (cw := md0) (by kernel_rfl) ?_
      refine Dq 3 Y Y Y (v_move (ov Y)) ?_
      refine Dq 4 Y Y Y (v_fieldP (ov Y) Y Y tF76_0) ?_
      refine Dq 5 Y Y Y (v_loadS (ov Y) Y Y Y tS3 (at_get (at0 (hdc (n := 0) hd0)))) ?_
      refine Dq 6 Y Y Y (v_lkF (e1 := 76) (R := R76) (m := groups2) (k := x.Number) (ov Y) (ov Y) tMp222 tKO3 Y (fun _ => .b Y) (zero_scal tZV58 Y)) ?_
      refine Dq 7 Y Y Y (v_loadA (ov Y) Y Y Y tA76 (at_sub (at_all (lnC (n := 131) (lnA (m := 64) (n := 67) arL (lnA (m := 64) (n := 3) arL (lnC (n := 2) (lnC (n := 1) (lnC (n := 0) (lnN))))))))) (lnC (n := 131) (lnA (m := 64) (n := 67) arL (lnA (m := 64) (n := 3) arL (lnC (n := 2) (lnC (n := 1) (lnC (n := 0) (lnN))))))) (hns := nsC Y (nsA (nsM fun _ => Y) (nsA (nsM fun _ => Y) (nsC Y (nsC Y (nsC Y (nsR Y)))))))) ?_
      refine D_q0 8 (.sl 76 (List.map R76 ([x] : List api_Rest))) Y (by kernel_rfl) Y Y (v_lit tL58 (.cons (cva (ov Y)) (lnC (n := 131) (lnA (m := 64) (n := 67) arL (lnA (m := 64) (n := 3) arL (lnC (n := 2) (lnC (n := 1) (lnC (n := 0) (lnN))))))) (pwD (alC Y (alA (arD fun _ => Y) (alA (arD fun _ => Y) (alC Y (alC Y (alC Y (alN)))))))) <| .nil) Y Y) ?_
      refine D_free 0 _ Y (by kernel_rfl) Y Y (fun hp' => v_move (ov Y)) ?_
      obtain ⟨l4, h_l4, h⟩ := bnd h
      refine Dw 1 9 Y Y Y Y Y Y (v_fieldP (ov Y) Y Y tF76_0) (w_appendG (ov Y) (slv_sl (ov Y) tZ_76) tL58 Y Y Y (fun x => cell1_all (E76 x)) Y h_l4) ?_ ?_
      ·
       refine Dw 2 9 Y Y Y Y Y Y (v_loadS (ov Y) Y Y Y tS3 (at_get (at0 (hdc (n := 0) hd0)))) (w_appendG (ov Y) (slv_sl (ov Y) tZ_76) tL58 Y Y Y (fun x => cell1_all (E76 x)) Y h_l4) ?_ ?_
       ·
        refine Do 9 Y Y Y (w_appendG (ov Y) (slv_sl (ov Y) tZ_76) tL58 Y Y Y (fun x => cell1_all (E76 x)) Y h_l4) ?_
        refine Do 10 Y Y Y (w_putF (e1 := 76) (R := R76) (m := groups2) (k := x.Number) (ov Y) (ov Y) (ov Y) tMp222 tKO3 Y (fun _ => .b Y)) ?_
        refine D_doneE (by kernel_rfl) (Ent.absorbMk1 (e := 76) (R := R76) (m := groups2) (k := x.Number) (ys := l4) (fk := FK3) (r := 0) (q := 3) Y tZ_222 Y Y Y) ?_
        exact ⟨((mput kqI groups2 x.Number l4), numbers4), h, Ent.sel [some 0, some 1] (sr 3 Y (.mref _ Y) <| sr 4 Y (.own _ Y) <| sd 11 Y Y <| sd 12 Y Y <| sd 13 Y Y <| sn) (.cons Y (roMap (fk := FK3) (fv := (osF 76 R76)) (m := (mput kqI groups2 x.Number l4)) tZ_222 (fun _ => .dat Y) (fun _ => (rcOs D76))) <| .cons Y (roM D3) <| .nil) Y Y⟩
       ·
        refine Dq 2 Y Y Y (v_loadS (ov Y) Y Y Y tS3 (at_get (at0 (hdc (n := 0) hd0)))) ?_
        refine Do 10 Y Y Y (w_putF (e1 := 76) (R := R76) (m := groups2) (k := x.Number) (ov Y) (ov Y) (ov Y) tMp222 tKO3 Y (fun _ => .b Y)) ?_
        refine D_doneE (by kernel_rfl) (Ent.absorbMk1 (e := 76) (R := R76) (m := groups2) (k := x.Number) (ys := l4) (fk := FK3) (r := 0) (q := 3) Y tZ_222 Y Y Y) ?_
        exact ⟨((mput kqI groups2 x.Number l4), numbers4), h, Ent.sel [some 0, some 1] (sr 3 Y (.mref _ Y) <| sr 4 Y (.own _ Y) <| sd 11 Y Y <| sd 12 Y Y <| sd 13 Y Y <| sn) (.cons Y (roMap (fk := FK3) (fv := (osF 76 R76)) (m := (mput kqI groups2 x.Number l4)) tZ_222 (fun _ => .dat Y) (fun _ => (rcOs D76))) <| .cons Y (roM D3) <| .nil) Y Y⟩
      ·
       refine Dq 1 Y Y Y (v_fieldP (ov Y) Y Y tF76_0) ?_
       refine Dq 2 Y Y Y (v_loadS (ov Y) Y Y Y tS3 (at_get (at0 (hdc (n := 0) hd0)))) ?_
       refine Do 10 Y Y Y (w_putF (e1 := 76) (R := R76) (m := groups2) (k := x.Number) (ov Y) (ov Y) (ov Y) tMp222 tKO3 Y (fun _ => .b Y)) ?_
       refine D_doneE (by kernel_rfl) (Ent.absorbMk1 (e := 76) (R := R76) (m := groups2) (k := x.Number) (ys := l4) (fk := FK3) (r := 0) (q := 3) Y tZ_222 Y Y Y) ?_
       exact ⟨((mput kqI groups2 x.Number l4), numbers4), h, Ent.sel [some 0, some 1] (sr 3 Y (.mref _ Y) <| sr 4 Y (.own _ Y) <| sd 11 Y Y <| sd 12 Y Y <| sd 13 Y Y <| sn) (.cons Y (roMap (fk := FK3) (fv := (osF 76 R76)) (m := (mput kqI groups2 x.Number l4)) tZ_222 (fun _ => .dat Y) (fun _ => (rcOs D76))) <| .cons Y (roM D3) <| .nil) Y Y⟩
   ·
    obtain ⟨groups3, numbers3⟩ := j
    replace h := t2i h
    refine t2T ?_
    refine T_reg <| Rq Y (v_add (ov Y) (ov Y) Y) <| Rq Y (v_move (ov Y)) <| R_nil ?_
    exact ⟨(groups3, numbers3, (i64 (i + 1))), h, Ent.sel [some 0, some 1] (sr 3 Y (.mref _ Y) <| sr 4 Y (.own _ Y) <| sd 11 Y Y <| sd 12 Y Y <| sd 13 Y Y <| sn) (.cons Y (roMap (fk := FK3) (fv := (osF 76 R76)) (m := groups3) tZ_222 (fun _ => .dat Y) (fun _ => (rcOs D76))) <| .cons Y (roM D3) <| .nil) Y Y⟩
  ·
   refine T_exit ?_
   rw [lx h] at ho1
   replace h := ho1
   exact ⟨(groups2, numbers2), h, Ent.sel [some 0, some 1] (sr 3 Y (.mref _ Y) <| sr 4 Y (.own _ Y) <| sn) (.cons Y (roMap (fk := FK3) (fv := (osF 76 R76)) (m := groups2) tZ_222 (fun _ => .dat Y) (fun _ => (rcOs D76))) <| .cons Y (roM D3) <| .nil) Y Y⟩
 ·
  obtain ⟨groups, numbers⟩ := j
  replace h := t2i h
  refine t2T ?_
  refine Tr <| Rq Y (v_move (ov Y)) ?_
  obtain ⟨y, h_y, h⟩ := bnd h
  refine Rx Y (w_callG [1] (ok_sortIL h_y) (.cons (ov Y) (.own _ Y) <| .nil) (.cons Y (roM D3) <| .nil) Y (.keep Y Y <| .lent 0 (.inl Y) Y (roM D3) <| .nil) Y Y (rTup (rld Y))) ?_
  refine R_nil <| T_keep (kc 3 Y <| kc 4 Y <| kn) Y <| Tr <| Rq Y (v_assign (ov Y)) <| R_nil <| T_joinG id (t1 fun out => ⟨[(7, .own 0 out.length)], [some ⟨76, List.map R76 out⟩]⟩) h (fun h => ?_) (fun j h => ?_)
  ·
   refine Tr <| Rq Y (v_move (ov Y)) <| Rq Y (v_lenO (ov Y) Y (ln_sortI h_y) tL28) <| Rq Y (v_move (ov Y)) <| R_nil <| T_block ?_
   obtain ⟨r2, hl2, ho2⟩ := bndL h
   refine T_loopG _ (t2 fun out2 i2 => ⟨[(3, .mref 0 1), (7, .own 1 out2.length), (40, .own 2 y.length), (41, .int .i64 (y.length : Int)), (42, .int .i64 i2)], [some ⟨222, [[.mcon (List.map (mrow FK3 (osF 76 R76)) groups)]]⟩, some ⟨76, List.map R76 out2⟩, some ⟨3, List.map R3 y⟩]⟩) _ hl2 (Ent.sel [some 0, none, some 1] (sr 3 Y (.mref _ Y) <| sr 7 Y (.row Y) <| sr 40 Y (ownE (Eq.symm (ln_sortI h_y)) Y) <| sd 41 Y Y <| sd 42 Y Y <| sn) (.cons Y (roMap (fk := FK3) (fv := (osF 76 R76)) (m := groups) tZ_222 (fun _ => .dat Y) (fun _ => (rcOs D76))) <| .row 76 <| .cons Y (roM D3) <| .nil) Y Y) (fun n2 s2 h => ?_)
   obtain ⟨out2, i2⟩ := s2
   replace h := t2i h
   refine t2T ?_
   unfold salvage_grouped_L2 at h
   refine Tr <| Rq Y (v_lss (ov Y) (ov Y)) <| R_nil <| T_seq <| T_if h Y (fun b43 h => ?_) (fun b43 h => ?_)
   ·
    refine T_skip <| T_seq <| T_block <| T_keep (kc 3 Y <| kc 7 Y <| kc 40 Y <| kc 41 Y <| kc 42 Y <| kn) Y <| Tr ?_
    obtain ⟨x2, h_x2, h⟩ := bnd h
    refine Rq Y (v_ixOG (ov Y) (ov Y) tL28 Y Y h_x2) ?_
    refine Rq Y (v_loadSR (ov Y) Y Y h_x2 tS3 Y) ?_
    refine Rq Y (v_assign (ov Y)) ?_
    refine R_nil <| T_keep (kc 3 Y <| kc 7 Y <| kc 9 Y <| kc 40 Y <| kc 41 Y <| kc 42 Y <| kn) Y <| T_reg <| Rq Y (v_move (ov Y)) <| Rq Y (v_move (ov Y)) <| Rq Y (v_move (ov Y)) ?_
    obtain ⟨z3, h_z3, h⟩ := bnd h
    rcases z3 with z3 | z3
    ·
     replace h := ell h
     refine Rq Y (v_lkN (e1 := 76) (R := R76) (m := groups) (k := x2) (msel_l h_z3) (ov Y) (ov Y) tMp222 tKO3 Y (fun _ => .b Y) (zero_scal tZV58 Y)) ?_
     obtain ⟨y2, h_y2, h⟩ := bnd h
     refine Rq Y (v_call (ok_salvage_merge h_y2) (.cons (ov Y) (Dat.nils _) <| .nil)) ?_
     refine R_q (.sl 76 (List.map R76 ([y2] : List api_Rest))) Y (v_lit tL58 (.cons (cva (ov Y)) (lnC (n := 131) (lnA (m := 64) (n := 67) arL (lnA (m := 64) (n := 3) arL (lnC (n := 2) (lnC (n := 1) (lnC (n := 0) (lnN))))))) (pwD (alC Y (alA (arD fun _ => Y) (alA (arD fun _ => Y) (alC Y (alC Y (alC Y (alN)))))))) <| .nil) Y Y) ?_
     obtain ⟨l5, h_l5, h⟩ := bnd h
     refine Rx Y (w_appendG (ov Y) (slv_sl (ov Y) tZ_76) tL58 Y Y Y (fun x => cell1_all (E76 x)) Y h_l5) ?_
     refine Rq Y (v_assign (ov Y)) ?_
     refine R_nil <| T_keep (kc 3 Y <| kc 7 Y <| kc 40 Y <| kc 41 Y <| kc 42 Y <| kn) Y <| T_reg <| Rq Y (v_add (ov Y) (ov Y) Y) <| Rq Y (v_move (ov Y)) <| R_nil ?_
     exact ⟨(l5, (i64 (i2 + 1))), h, Ent.sel [some 0, some 1, some 2] (sr 3 Y (.mref _ Y) <| sr 7 Y (.own _ Y) <| sr 40 Y (.own _ Y) <| sd 41 Y Y <| sd 42 Y Y <| sn) (.cons Y (roMap (fk := FK3) (fv := (osF 76 R76)) (m := groups) tZ_222 (fun _ => .dat Y) (fun _ => (rcOs D76))) <| .cons Y (roM D76) <| .cons Y (roM D3) <| .nil) Y Y⟩
    ·
     replace h := elr h
     refine R_ent (Ent.focusMk1 (e := 76) (R := R76) (m := groups) (k := x2) (r := 0) Y tZ_222 (msel_r h_z3) D76) ?_
     refine Rq Y (v_lkF (e1 := 76) (R := R76) (m := groups) (k := x2) (ov Y) (ov Y) tMp222 tKO3 Y (fun _ => .b Y) (zero_scal tZV58 Y)) ?_
     obtain ⟨y3, h_y3, h⟩ := bnd h
     refine Rq Y (v_callB (ok_salvage_merge h_y3) (.agg (faC .int (faA (faV fun _ => .int) (faA (faV fun _ => .int) (faC .bool (faC .int (faC .bool (faN)))))))) (.cons (ov Y) (View.ownM Y Y D76) <| .nil)) ?_
     refine R_q (.sl 76 (List.map R76 ([y3] : List api_Rest))) Y (v_lit tL58 (.cons (cva (ov Y)) (lnC (n := 131) (lnA (m := 64) (n := 67) arL (lnA (m := 64) (n := 3) arL (lnC (n := 2) (lnC (n := 1) (lnC (n := 0) (lnN))))))) (pwD (alC Y (alA (arD fun _ => Y) (alA (arD fun _ => Y) (alC Y (alC Y (alC Y (alN)))))))) <| .nil) Y Y) ?_
     obtain ⟨l6, h_l6, h⟩ := bnd h
     refine Rx Y (w_appendG (ov Y) (slv_sl (ov Y) tZ_76) tL58 Y Y Y (fun x => cell1_all (E76 x)) Y h_l6) ?_
     refine Rq Y (v_assign (ov Y)) ?_
     refine R_ent (by exact Ent.absorbMs1 (e := 76) (R := R76) (m := groups) (k := x2) (ys := z3) (fk := FK3) (r := 0) (q := 3) (msel_r h_z3) Y tZ_222 Y Y Y) ?_
     refine R_nil <| T_keep (kc 3 Y <| kc 7 Y <| kc 40 Y <| kc 41 Y <| kc 42 Y <| kn) Y <| T_reg <| Rq Y (v_add (ov Y) (ov Y) Y) <| Rq Y (v_move (ov Y)) <| R_nil ?_
     exact ⟨(l6, (i64 (i2 + 1))), h, Ent.sel [some 0, some 1, some 2] (sr 3 Y (.mref _ Y) <| sr 7 Y (.own _ Y) <| sr 40 Y (.own _ Y) <| sd 41 Y Y <| sd 42 Y Y <| sn) (.cons Y (roMap (fk := FK3) (fv := (osF 76 R76)) (m := groups) tZ_222 (fun _ => .dat Y) (fun _ => (rcOs D76))) <| .cons Y (roM D76) <| .cons Y (roM D3) <| .nil) Y Y⟩
   ·
    refine T_exit ?_
    rw [lx h] at ho2
    replace h := ho2
    exact ⟨out2, h, Ent.sel [some 1] (sr 7 Y (.own _ Y) <| sn) (.cons Y (roM D76) <| .nil) Y Y⟩
  ·
   obtain ⟨out, rfl⟩ : ∃ x, x = j := ⟨_, rfl⟩
   replace h := t1i h
   refine t1T ?_
   refine Tr <| Rq Y (v_move (ov Y)) <| Rq Y (v_assign (ov Y)) <| R_nil ?_
   obtain rfl := rt (v := out) h
   refine T_ret ?_
   exact retg [some 0] Y (.cons (.tmp Y) <| .nil) (.cons Y (roM D76) <| .nil) Y Y (.own _ Y)

theorem ok_frame_word {data : Int} {r : Int} (h : frame_word data = some r) :
  CSpec Tryz.prog gl0 135 [.int .i64 data] (.int .u16 r) := by
 unfold frame_word at h
 replace h := bnd0 h
 refine spec_of (by kernel_rfl) Tryz.func135 Y Y ?_
 intro w0 A
 refine Tr <| Rq Y (v_assign (ov Y)) <| R_nil <| T_keep (kc 0 Y <| kn) Y <| Tr <| Rq Y (v_move (ov Y)) <| Rq Y (v_conv (ov Y) tI3 tI47 Y) <| Rq Y (v_assign (ov Y)) <| R_nil <| T_seq <| T_keep (kc 3 Y <| kn) Y <| Tr <| Rq Y (v_move (ov Y)) ?_
 obtain ⟨y, h_y, h⟩ := bnd h
 refine Rq Y (v_call (ok_frame_odd h_y) (.cons (ov Y) (.b Y) <| .nil)) ?_
 refine Rq Y (v_not (ov Y)) ?_
 refine R_nil <| T_keep (kc 3 Y <| kc 8 Y <| kn) Y <| T_if h Y (fun b8 h => ?_) (fun b8 h => ?_)
 ·
  refine T_keep (kc 3 Y <| kn) Y <| T_reg <| Rq Y (v_move (ov Y)) <| Rq Y (v_or_ (ov Y) (ov Y)) <| Rq Y (v_assign (ov Y)) <| R_nil <| T_keep (kc 3 Y <| kn) Y <| Tr <| Rq Y (v_move (ov Y)) <| Rq Y (v_assign (ov Y)) <| R_nil ?_
  obtain rfl := rt (v := (bor .u16 (u16 data) 2048)) h
  refine T_ret (retq ?_ (.one (.tmp Y (Dat.view (.b Y)))))
  rfl
 ·
  refine T_skip <| T_keep (kc 3 Y <| kn) Y <| Tr <| Rq Y (v_move (ov Y)) <| Rq Y (v_assign (ov Y)) <| R_nil ?_
  obtain rfl := rt (v := (u16 data)) h
  refine T_ret (retq ?_ (.one (.tmp Y (Dat.view (.b Y)))))
  rfl

theorem ok_frame_replaced {f : Vector Int 64} {i : Int} {r : (Vector Int 64)} (h : frame_replaced f i = some r) :
  CSpec Tryz.prog gl0 258 [.agg (List.map C47 f.toList), .int .i64 i] (.agg (List.map C47 r.toList)) := by
 unfold frame_replaced at h
 replace h := bnd0 h
 refine spec_of (by kernel_rfl) Tryz.func258 Y Y ?_
 intro w0 A
 refine Tr <| Rx Y (w_box 0 Y (ov Y) tA49 arL) <| Rx Y (w_alloc (row := (List.map C47 (Vector.replicate 64 0).toList)) 1 Y tZ49 Y tZ_49) <| R_nil <| T_joinG id (t1 fun f2 => ⟨[(2, .ptr 0 1 0 0), (4, .ptr 1 1 0 0)], [some ⟨49, [(List.map C47 f2.toList)]⟩, some ⟨49, [(List.map C47 (Vector.replicate 64 0).toList)]⟩]⟩) h (fun h => ?_) (fun j h => ?_)
 ·
  refine T_keep (kc 1 Y <| kc 2 Y <| kc 4 Y <| kn) Y <| Tr <| Rq Y (v_move (ov Y)) <| R_nil <| T_block <| Tr <| Rq Y (v_eql (ov Y) (ov Y)) <| Rq Y (v_assign (ov Y)) <| R_nil <| T_keep (kc 1 Y <| kc 2 Y <| kc 4 Y <| kc 5 Y <| kc 19 Y <| kn) Y <| T_if h Y (fun b19 h => ?_) (fun b19 h => ?_)
  ·
   refine T_keep (kc 2 Y <| kc 4 Y <| kn) Y <| T_reg ?_
   obtain ⟨y, h_y, h⟩ := bnd h
   refine Rq Y (v_callB (ok_frame_numberOf h_y) .int (.cons (ov Y) (View.ptr Y Y Y (pwB (arD fun _ => Y)) (hns := (nsM fun _ => Y))) <| .nil)) ?_
   obtain ⟨q, h_q, h⟩ := bnd h
   refine Rq Y (v_remG (ov Y) (ov Y) h_q) ?_
   obtain ⟨x, h_x, h⟩ := bnd h
   refine Rq Y (v_ixRG (og (v := gv_frame_syncs) (k := .u16) (f := C47) (by simp [gl0]) (fun _ => Y)) (ov Y) tR250 h_x) ?_
   refine Rq Y (v_loadS_r (ov Y) tS47 (at_get (at_at (o := 0) (o' := (q.toNat * 1)) (at_all arL) (at_v1 h_x)))) ?_
   obtain ⟨x2, h_x2, h⟩ := bnd h
   refine Rq Y (v_ixAG (ov Y) (ov Y) tR49 Y Y h_x2) ?_
   refine Rx Y (w_store (ov Y) (ov Y) (cells_scal tS47) Y Y Y (arB h_x2) (cell1_all Y) (arS h_x2)) ?_
   refine R_nil ?_
   exact ⟨(vset f 0 x), h, Ent.sel [some 0, some 1] (sr 2 Y (.ptr _ _ _ Y) <| sr 4 Y (.ptr _ _ _ Y) <| sn) (.cons Y (ro1 (by exact Eq.trans (b := 64) arL tZ_49.symm) (rld (arD fun _ => Y))) <| .cons Y (ro1 (by exact Eq.trans (b := 64) arL tZ_49.symm) (rld (arD fun _ => Y))) <| .nil) Y Y⟩
  ·
   refine T_keep (kc 1 Y <| kc 2 Y <| kc 4 Y <| kc 5 Y <| kn) Y <| Tr <| Rq Y (v_eql (ov Y) (ov Y)) <| Rq Y (v_assign (ov Y)) <| R_nil <| T_keep (kc 1 Y <| kc 2 Y <| kc 4 Y <| kc 5 Y <| kc 26 Y <| kn) Y <| T_if h Y (fun b26 h => ?_) (fun b26 h => ?_)
   ·
    refine T_keep (kc 1 Y <| kc 2 Y <| kc 4 Y <| kn) Y <| T_reg <| Rq Y (v_move (ov Y)) ?_
    obtain ⟨y2, h_y2, h⟩ := bnd h
    refine Rq Y (v_callB (ok_frame_sumOf h_y2) .int (.cons (ov Y) (View.ptr Y Y Y (pwB (arD fun _ => Y)) (hns := (nsM fun _ => Y))) <| .nil)) ?_
    obtain ⟨y3, h_y3, h⟩ := bnd h
    refine Rq Y (v_call (ok_frame_word h_y3) (.cons (ov Y) (.b Y) <| .nil)) ?_
    obtain ⟨x3, h_x3, h⟩ := bnd h
    refine Rq Y (v_ixAG (ov Y) (ov Y) tR49 Y Y h_x3) ?_
    refine Rx Y (w_store (ov Y) (ov Y) (cells_scal tS47) Y Y Y (arB h_x3) (cell1_all Y) (arS h_x3)) ?_
    refine R_nil ?_
    exact ⟨(vset f i y3), h, Ent.sel [some 0, some 1] (sr 2 Y (.ptr _ _ _ Y) <| sr 4 Y (.ptr _ _ _ Y) <| sn) (.cons Y (ro1 (by exact Eq.trans (b := 64) arL tZ_49.symm) (rld (arD fun _ => Y))) <| .cons Y (ro1 (by exact Eq.trans (b := 64) arL tZ_49.symm) (rld (arD fun _ => Y))) <| .nil) Y Y⟩
   ·
    refine T_keep (kc 1 Y <| kc 2 Y <| kc 4 Y <| kc 5 Y <| kn) Y <| Tr <| Rq Y (v_eql (ov Y) (ov Y)) <| Rq Y (v_assign (ov Y)) <| R_nil <| T_keep (kc 1 Y <| kc 2 Y <| kc 4 Y <| kc 5 Y <| kc 32 Y <| kn) Y <| T_if h Y (fun b32 h => ?_) (fun b32 h => ?_)
    ·
     refine T_keep (kc 1 Y <| kc 2 Y <| kc 4 Y <| kn) Y <| T_reg <| Rq Y (v_move (ov Y)) ?_
     obtain ⟨y4, h_y4, h⟩ := bnd h
     refine Rq Y (v_callB (ok_frame_checkOf h_y4) .int (.cons (ov Y) (View.ptr Y Y Y (pwB (arD fun _ => Y)) (hns := (nsM fun _ => Y))) <| .nil)) ?_
     obtain ⟨q2, h_q2, h⟩ := bnd h
     refine Rq Y (v_shrG (ov Y) (ov Y) h_q2) ?_
     obtain ⟨y5, h_y5, h⟩ := bnd h
     refine Rq Y (v_call (ok_frame_word h_y5) (.cons (ov Y) (.b Y) <| .nil)) ?_
     obtain ⟨x4, h_x4, h⟩ := bnd h
     refine Rq Y (v_ixAG (ov Y) (ov Y) tR49 Y Y h_x4) ?_
     refine Rx Y (w_store (ov Y) (ov Y) (cells_scal tS47) Y Y Y (arB h_x4) (cell1_all Y) (arS h_x4)) ?_
     refine R_nil ?_
     exact ⟨(vset f i y5), h, Ent.sel [some 0, some 1] (sr 2 Y (.ptr _ _ _ Y) <| sr 4 Y (.ptr _ _ _ Y) <| sn) (.cons Y (ro1 (by exact Eq.trans (b := 64) arL tZ_49.symm) (rld (arD fun _ => Y))) <| .cons Y (ro1 (by exact Eq.trans (b := 64) arL tZ_49.symm) (rld (arD fun _ => Y))) <| .nil) Y Y⟩
    ·
     refine T_keep (kc 1 Y <| kc 2 Y <| kc 4 Y <| kc 5 Y <| kn) Y <| Tr <| Rq Y (v_eql (ov Y) (ov Y)) <| Rq Y (v_assign (ov Y)) <| R_nil <| T_keep (kc 1 Y <| kc 2 Y <| kc 4 Y <| kc 39 Y <| kn) Y <| T_if h Y (fun b39 h => ?_) (fun b39 h => ?_)
     ·
      refine T_keep (kc 1 Y <| kc 2 Y <| kc 4 Y <| kn) Y <| T_reg <| Rq Y (v_move (ov Y)) ?_
      obtain ⟨y6, h_y6, h⟩ := bnd h
      refine Rq Y (v_callB (ok_frame_checkOf h_y6) .int (.cons (ov Y) (View.ptr Y Y Y (pwB (arD fun _ => Y)) (hns := (nsM fun _ => Y))) <| .nil)) ?_
      refine Rq Y (v_and_ (ov Y) (ov Y)) ?_
      obtain ⟨y7, h_y7, h⟩ := bnd h
      refine Rq Y (v_call (ok_frame_word h_y7) (.cons (ov Y) (.b Y) <| .nil)) ?_
      obtain ⟨x5, h_x5, h⟩ := bnd h
      refine Rq Y (v_ixAG (ov Y) (ov Y) tR49 Y Y h_x5) ?_
      refine Rx Y (w_store (ov Y) (ov Y) (cells_scal tS47) Y Y Y (arB h_x5) (cell1_all Y) (arS h_x5)) ?_
      refine R_nil ?_
      exact ⟨(vset f i y7), h, Ent.sel [some 0, some 1] (sr 2 Y (.ptr _ _ _ Y) <| sr 4 Y (.ptr _ _ _ Y) <| sn) (.cons Y (ro1 (by exact Eq.trans (b := 64) arL tZ_49.symm) (rld (arD fun _ => Y))) <| .cons Y (ro1 (by exact Eq.trans (b := 64) arL tZ_49.symm) (rld (arD fun _ => Y))) <| .nil) Y Y⟩
     ·
      refine T_keep (kc 1 Y <| kc 2 Y <| kc 4 Y <| kn) Y <| T_draw (cw := md0) (by kernel_rfl) <| Dq 0 Y Y Y (v_move (ov Y)) ?_
      obtain ⟨y8, h_y8, h⟩ := bnd h
      refine Dq 1 Y Y Y (v_callB (ok_frame_sumOf h_y8) .int (.cons (ov Y) (View.ptr Y Y Y (pwB (arD fun _ => Y)) (hns := (nsM fun _ => Y))) <| .nil)) ?_
      refine Dq 2 Y Y Y (v_move (ov Y)) ?_
      obtain ⟨x6, h_x6, h⟩ := bnd h
      refine Dq 3 Y Y Y (v_ixAG (ov Y) (ov Y) tR49 Y Y h_x6) ?_
      refine Dq 4 Y Y Y (v_loadS (ov Y) Y Y Y tS47 (at_get (at_at (o := 0) (o' := (i.toNat * 1)) (at_all arL) (at_v1 h_x6)))) ?_
      obtain ⟨y9, h_y9, h⟩ := bnd h
      refine Dq 5 Y Y Y (v_call (ok_frame_data h_y9) (.cons (ov Y) (.b Y) <| .nil)) ?_
      refine Dq 6 Y Y Y (v_xor_ (ov Y) (ov Y)) ?_
      obtain ⟨x7, h_x7, h⟩ := bnd h
      refine Dq 7 Y Y Y (v_ixAG (ov Y) (ov Y) tR49 Y Y h_x7) ?_
      refine Dq 8 Y Y Y (v_loadS (ov Y) Y Y Y tS47 (at_get (at_at (o := 0) (o' := ((Int.toNat 61) * 1)) (at_all arL) (at_v1 h_x7)))) ?_
      obtain ⟨y10, h_y10, h⟩ := bnd h
      refine Dq 9 Y Y Y (v_call (ok_frame_data h_y10) (.cons (ov Y) (.b Y) <| .nil)) ?_
      refine Dq 10 Y Y Y (v_xor_ (ov Y) (ov Y)) ?_
      obtain ⟨y11, h_y11, h⟩ := bnd h
      refine Dq 11 Y Y Y (v_call (ok_frame_word h_y11) (.cons (ov Y) (.b Y) <| .nil)) ?_
      obtain ⟨x8, h_x8, h⟩ := bnd h
      refine Dq 12 Y Y Y (v_ixAG (ov Y) (ov Y) tR49 Y Y h_x8) ?_
      refine Do 13 Y Y Y (w_store (ov Y) (ov Y) (cells_scal tS47) Y Y Y (arB h_x8) (cell1_all Y) (arS h_x8)) ?_
      refine D_done (by kernel_rfl) ?_
      exact ⟨(vset f i y11), h, Ent.sel [some 0, some 1] (sr 2 Y (.ptr _ _ _ Y) <| sr 4 Y (.ptr _ _ _ Y) <| sn) (.cons Y (ro1 (by exact Eq.trans (b := 64) arL tZ_49.symm) (rld (arD fun _ => Y))) <| .cons Y (ro1 (by exact Eq.trans (b := 64) arL tZ_49.symm) (rld (arD fun _ => Y))) <| .nil) Y Y⟩
 ·
  obtain ⟨f2, rfl⟩ : ∃ x, x = j := ⟨_, rfl⟩
  replace h := t1i h
  refine t1T ?_
  refine Tr <| Rq Y (v_loadA (ov Y) Y Y Y tA49 (at_sub (at_all arL)) arL (hns := (nsM fun _ => Y))) <| Rx Y (w_store (ov Y) (ov Y) (cells_agg tA49 arL) Y Y Y (put_le (at_all arL) arL) (cell1_all (arC fun _ => Y)) (put_all (Eq.trans arL (Eq.symm arL)))) <| R_nil ?_
  obtain rfl := rt (v := f2) h
  refine T_ret (retq ?_ (.one (.agg Y Y Y Y tA49 (at_sub (at_all arL)) arL (pwB (arD fun _ => Y)) (hns := (nsM fun _ => Y)))))
  rfl

theorem ok_frame_Replaced {f : Vector Int 64} {i : Int} {r : (Vector Int 64) × Bool} (h : frame_Replaced f i = some r) :
  CSpec Tryz.prog gl0 206 [.agg (List.map C47 f.toList), .int .i64 i] (.tuple [.agg (List.map C47 r.1.toList), .bool r.2]) := by
 unfold frame_Replaced at h
 replace h := bnd0 h
 refine spec_of (by kernel_rfl) Tryz.func206 Y Y ?_
 intro w0 A
 refine Tr <| Rx Y (w_box 0 Y (ov Y) tA49 arL) <| Rx Y (w_alloc (row := (List.map C47 (Vector.replicate 64 0).toList)) 1 Y tZ49 Y tZ_49) <| Rq Y (v_assign (ov Y)) <| R_nil <| T_seq <| T_keep (kc 1 Y <| kc 2 Y <| kc 4 Y <| kn) Y <| Tr <| Rq Y (v_move (ov Y)) <| Rq Y (v_lss (ov Y) (ov Y)) <| Rq Y (v_move (ov Y)) <| Rq Y (.guarded ((decide (i < 0)) == false) Y Y Y Y fun h => v_move (ov Y)) <| Rq Y (.guarded ((decide (i < 0)) == false) Y Y Y Y fun h => v_geq (ow Y h) (ov Y)) <| Rq Y (v_or (ov Y) (fun hp => ow Y (gF hp))) <| R_nil <| T_keep (kc 1 Y <| kc 2 Y <| kc 4 Y <| kc 12 Y <| kn) Y <| T_if h Y (fun b12 h => ?_) (fun b12 h => ?_)
 ·
  refine T_keep (kc 4 Y <| kn) Y <| Tr <| R_q (.agg (List.map C47 (#v[0, 0, 0, 0, 0, 0, 0, 0, 0, 0, 0, 0, 0, 0, 0, 0, 0, 0, 0, 0, 0, 0, 0, 0, 0, 0, 0, 0, 0, 0, 0, 0, 0, 0, 0, 0, 0, 0, 0, 0, 0, 0, 0, 0, 0, 0, 0, 0, 0, 0, 0, 0, 0, 0, 0, 0, 0, 0, 0, 0, 0, 0, 0, 0] : Vector Int 64).toList)) Y (v_buildA (ys := [_, _, _, _, _, _, _, _, _, _, _, _, _, _, _, _, _, _, _, _, _, _, _, _, _, _, _, _, _, _, _, _, _, _, _, _, _, _, _, _, _, _, _, _, _, _, _, _, _, _, _, _, _, _, _, _, _, _, _, _, _, _, _, _]) tR49 tZ49 (.nil) Y) <| Rx Y (w_store (ov Y) (ov Y) (cells_agg tA49 arL) Y Y Y (put_le (at_all arL) arL) (cell1_all (arC fun _ => Y)) (put_all (Eq.trans arL (Eq.symm arL)))) <| Rq Y (v_assign (ov Y)) <| R_nil ?_
  obtain rfl := rt (v := ((#v[0, 0, 0, 0, 0, 0, 0, 0, 0, 0, 0, 0, 0, 0, 0, 0, 0, 0, 0, 0, 0, 0, 0, 0, 0, 0, 0, 0, 0, 0, 0, 0, 0, 0, 0, 0, 0, 0, 0, 0, 0, 0, 0, 0, 0, 0, 0, 0, 0, 0, 0, 0, 0, 0, 0, 0, 0, 0, 0, 0, 0, 0, 0, 0] : Vector Int 64), false)) h
  refine T_ret (retq ?_ (.two (.agg Y Y Y Y tA49 (at_sub (at_all arL)) arL (pwB (arD fun _ => Y)) (hns := (nsM fun _ => Y))) (.tmp Y (Dat.view (.b Y)))))
  rfl
 ·
  refine T_skip <| T_keep (kc 1 Y <| kc 2 Y <| kc 4 Y <| kn) Y <| Tr <| Rq Y (v_move (ov Y)) ?_
  obtain ⟨x, h_x, h⟩ := bnd h
  refine Rq Y (v_ixAG (ov Y) (ov Y) tR49 Y Y h_x) ?_
  refine Rx Y (w_store (ov Y) (ov Y) (cells_scal tS47) Y Y Y (arB h_x) (cell1_all Y) (arS h_x)) ?_
  refine R_nil <| T_seq <| T_keep (kc 1 Y <| kc 2 Y <| kc 4 Y <| kn) Y <| Tr ?_
  obtain ⟨y, h_y, h⟩ := bnd h
  refine Rq Y (v_callB (ok_frame_wide h_y) .bool (.cons (ov Y) (View.ptr Y Y Y (pwB (arD fun _ => Y)) (hns := (nsM fun _ => Y))) <| .nil)) ?_
  refine R_nil <| T_if h Y (fun b16 h => ?_) (fun b16 h => ?_)
  ·
   refine T_keep (kc 4 Y <| kn) Y <| Tr <| R_q (.agg (List.map C47 (#v[0, 0, 0, 0, 0, 0, 0, 0, 0, 0, 0, 0, 0, 0, 0, 0, 0, 0, 0, 0, 0, 0, 0, 0, 0, 0, 0, 0, 0, 0, 0, 0, 0, 0, 0, 0, 0, 0, 0, 0, 0, 0, 0, 0, 0, 0, 0, 0, 0, 0, 0, 0, 0, 0, 0, 0, 0, 0, 0, 0, 0, 0, 0, 0] : Vector Int 64).toList)) Y (v_buildA (ys := [_, _, _, _, _, _, _, _, _, _, _, _, _, _, _, _, _, _, _, _, _, _, _, _, _, _, _, _, _, _, _, _, _, _, _, _, _, _, _, _, _, _, _, _, _, _, _, _, _, _, _, _, _, _, _, _, _, _, _, _, _, _, _, _]) tR49 tZ49 (.nil) Y) <| Rx Y (w_store (ov Y) (ov Y) (cells_agg tA49 arL) Y Y Y (put_le (at_all arL) arL) (cell1_all (arC fun _ => Y)) (put_all (Eq.trans arL (Eq.symm arL)))) <| Rq Y (v_assign (ov Y)) <| R_nil ?_
   obtain rfl := rt (v := ((#v[0, 0, 0, 0, 0, 0, 0, 0, 0, 0, 0, 0, 0, 0, 0, 0, 0, 0, 0, 0, 0, 0, 0, 0, 0, 0, 0, 0, 0, 0, 0, 0, 0, 0, 0, 0, 0, 0, 0, 0, 0, 0, 0, 0, 0, 0, 0, 0, 0, 0, 0, 0, 0, 0, 0, 0, 0, 0, 0, 0, 0, 0, 0, 0] : Vector Int 64), false)) h
   refine T_ret (retq ?_ (.two (.agg Y Y Y Y tA49 (at_sub (at_all arL)) arL (pwB (arD fun _ => Y)) (hns := (nsM fun _ => Y))) (.tmp Y (Dat.view (.b Y)))))
   rfl
  ·
   refine T_skip <| T_keep (kc 1 Y <| kc 2 Y <| kc 4 Y <| kn) Y <| Tr <| Rq Y (v_loadA (ov Y) Y Y Y tA49 (at_sub (at_all arL)) arL (hns := (nsM fun _ => Y))) <| Rq Y (v_move (ov Y)) ?_
   obtain ⟨y2, h_y2, h⟩ := bnd h
   refine Rq Y (v_call (ok_frame_replaced h_y2) (.cons (ov Y) (.aggB (arD fun _ => Y)) <| .cons (ov Y) (.b Y) <| .nil)) ?_
   refine Rx Y (w_alloc (row := (List.map C47 (Vector.replicate 64 0).toList)) 2 Y tZ49 Y tZ_49) ?_
   refine Rx Y (w_store (ov Y) (ov Y) (cells_agg tA49 arL) Y Y Y (put_le (at_all arL) arL) (cell1_all (arC fun _ => Y)) (put_all (Eq.trans arL (Eq.symm arL)))) ?_
   refine R_nil <| T_seq <| T_keep (kc 4 Y <| kc 6 Y <| kn) Y <| Tr ?_
   obtain ⟨y3, h_y3, h⟩ := bnd h
   refine Rq Y (v_callB (ok_frame_sound h_y3) .bool (.cons (ov Y) (View.ptr Y Y Y (pwB (arD fun _ => Y)) (hns := (nsM fun _ => Y))) <| .nil)) ?_
   refine Rq Y (v_not (ov Y)) ?_
   refine R_nil <| T_keep (kc 4 Y <| kc 6 Y <| kc 22 Y <| kn) Y <| T_if h Y (fun b22 h => ?_) (fun b22 h => ?_)
   ·
    refine T_keep (kc 4 Y <| kn) Y <| Tr <| R_q (.agg (List.map C47 (#v[0, 0, 0, 0, 0, 0, 0, 0, 0, 0, 0, 0, 0, 0, 0, 0, 0, 0, 0, 0, 0, 0, 0, 0, 0, 0, 0, 0, 0, 0, 0, 0, 0, 0, 0, 0, 0, 0, 0, 0, 0, 0, 0, 0, 0, 0, 0, 0, 0, 0, 0, 0, 0, 0, 0, 0, 0, 0, 0, 0, 0, 0, 0, 0] : Vector Int 64).toList)) Y (v_buildA (ys := [_, _, _, _, _, _, _, _, _, _, _, _, _, _, _, _, _, _, _, _, _, _, _, _, _, _, _, _, _, _, _, _, _, _, _, _, _, _, _, _, _, _, _, _, _, _, _, _, _, _, _, _, _, _, _, _, _, _, _, _, _, _, _, _]) tR49 tZ49 (.nil) Y) <| Rx Y (w_store (ov Y) (ov Y) (cells_agg tA49 arL) Y Y Y (put_le (at_all arL) arL) (cell1_all (arC fun _ => Y)) (put_all (Eq.trans arL (Eq.symm arL)))) <| Rq Y (v_assign (ov Y)) <| R_nil ?_
    obtain rfl := rt (v := ((#v[0, 0, 0, 0, 0, 0, 0, 0, 0, 0, 0, 0, 0, 0, 0, 0, 0, 0, 0, 0, 0, 0, 0, 0, 0, 0, 0, 0, 0, 0, 0, 0, 0, 0, 0, 0, 0, 0, 0, 0, 0, 0, 0, 0, 0, 0, 0, 0, 0, 0, 0, 0, 0, 0, 0, 0, 0, 0, 0, 0, 0, 0, 0, 0] : Vector Int 64), false)) h
    refine T_ret (retq ?_ (.two (.agg Y Y Y Y tA49 (at_sub (at_all arL)) arL (pwB (arD fun _ => Y)) (hns := (nsM fun _ => Y))) (.tmp Y (Dat.view (.b Y)))))
    rfl
   ·
    refine T_skip <| T_keep (kc 4 Y <| kc 6 Y <| kn) Y <| Tr <| Rq Y (v_loadA (ov Y) Y Y Y tA49 (at_sub (at_all arL)) arL (hns := (nsM fun _ => Y))) <| Rx Y (w_store (ov Y) (ov Y) (cells_agg tA49 arL) Y Y Y (put_le (at_all arL) arL) (cell1_all (arC fun _ => Y)) (put_all (Eq.trans arL (Eq.symm arL)))) <| Rq Y (v_assign (ov Y)) <| R_nil ?_
    obtain rfl := rt (v := (y2, true)) h
    refine T_ret (retq ?_ (.two (.agg Y Y Y Y tA49 (at_sub (at_all arL)) arL (pwB (arD fun _ => Y)) (hns := (nsM fun _ => Y))) (.tmp Y (Dat.view (.b Y)))))
    rfl

theorem ok_salvage_mended {r_ : api_Rest} {r : api_Rest} (h : salvage_mended r_ = some r) :
  CSpec Tryz.prog gl0 128 [.agg ((.int .i64 r_.Number) :: ((List.map C47 r_.Frame.toList) ++ (((List.map C3 r_.States.toList) ++ ((.bool r_.Sound) :: (.int .i64 r_.Copies) :: (.bool r_.Conflict) :: [])))))] (.agg ((.int .i64 r.Number) :: ((List.map C47 r.Frame.toList) ++ (((List.map C3 r.States.toList) ++ ((.bool r.Sound) :: (.int .i64 r.Copies) :: (.bool r.Conflict) :: [])))))) := by
 unfold salvage_mended at h
 replace h := bnd0 h
 refine spec_of (by kernel_rfl) Tryz.func128 Y Y ?_
 intro w0 A
 refine Tr <| Rx Y (w_box 0 Y (ov Y) tA76 (lnC (n := 131) (lnA (m := 64) (n := 67) arL (lnA (m := 64) (n := 3) arL (lnC (n := 2) (lnC (n := 1) (lnC (n := 0) (lnN)))))))) <| Rx Y (w_alloc (row := (.int .i64 0) :: ((List.map C47 (Vector.replicate 64 0).toList) ++ (((List.map C3 (Vector.replicate 64 0).toList) ++ ((.bool false) :: (.int .i64 0) :: (.bool false) :: []))))) 1 Y tZ76 (by kernel_rfl) (by exact Eq.symm (Eq.trans (b := 132) (lnC (n := 131) (lnA (m := 64) (n := 67) arL (lnA (m := 64) (n := 3) arL (lnC (n := 2) (lnC (n := 1) (lnC (n := 0) (lnN))))))) tZ_76.symm))) <| R_nil <| T_seq <| T_keep (kc 1 Y <| kc 2 Y <| kn) Y <| Tr <| Rq Y (v_fieldP (ov Y) Y Y tF76_3) <| Rq Y (v_loadS (ov Y) Y Y Y tS4 (at_get (atc (o := 128) (ata (m := 64) (o := 64) arL (ata (m := 64) (o := 0) arL (at0 (hdc (n := 0) hd0))))))) <| Rq Y (v_move (ov Y)) <| Rq Y (.guarded (r_.Sound == false) Y Y Y Y fun h => v_fieldP (ov Y) Y Y tF76_5) <| Rq Y (.guarded (r_.Sound == false) Y Y Y Y fun h => v_loadS (ow Y h) Y Y Y tS4 (at_get (atc (o := 130) (ata (m := 64) (o := 66) arL (ata (m := 64) (o := 2) arL (atc (o := 1) (atc (o := 0) (at0 (hdc (n := 0) hd0))))))))) <| Rq Y (v_or (ov Y) (fun hp => ow Y (gF hp))) <| R_nil <| T_keep (kc 1 Y <| kc 2 Y <| kc 14 Y <| kn) Y <| T_if h Y (fun b14 h => ?_) (fun b14 h => ?_)
 ·
  refine T_keep (kc 1 Y <| kc 2 Y <| kn) Y <| Tr <| Rq Y (v_loadA (ov Y) Y Y Y tA76 (at_sub (at_all (lnC (n := 131) (lnA (m := 64) (n := 67) arL (lnA (m := 64) (n := 3) arL (lnC (n := 2) (lnC (n := 1) (lnC (n := 0) (lnN))))))))) (lnC (n := 131) (lnA (m := 64) (n := 67) arL (lnA (m := 64) (n := 3) arL (lnC (n := 2) (lnC (n := 1) (lnC (n := 0) (lnN))))))) (hns := nsC Y (nsA (nsM fun _ => Y) (nsA (nsM fun _ => Y) (nsC Y (nsC Y (nsC Y (nsR Y)))))))) <| Rx Y (w_store (ov Y) (ov Y) (cells_agg tA76 (lnC (n := 131) (lnA (m := 64) (n := 67) arL (lnA (m := 64) (n := 3) arL (lnC (n := 2) (lnC (n := 1) (lnC (n := 0) (lnN)))))))) Y Y Y (put_le (at_all (lnC (n := 131) (lnA (m := 64) (n := 67) arL (lnA (m := 64) (n := 3) arL (lnC (n := 2) (lnC (n := 1) (lnC (n := 0) (lnN)))))))) (lnC (n := 131) (lnA (m := 64) (n := 67) arL (lnA (m := 64) (n := 3) arL (lnC (n := 2) (lnC (n := 1) (lnC (n := 0) (lnN)))))))) (cell1_all (alC Y (alA (arC fun _ => Y) (alA (arC fun _ => Y) (alC Y (alC Y (alC Y (alN)))))))) (put_all (Eq.trans (lnC (n := 131) (lnA (m := 64) (n := 67) arL (lnA (m := 64) (n := 3) arL (lnC (n := 2) (lnC (n := 1) (lnC (n := 0) (lnN))))))) (Eq.symm (lnC (n := 131) (lnA (m := 64) (n := 67) arL (lnA (m := 64) (n := 3) arL (lnC (n := 2) (lnC (n := 1) (lnC (n := 0) (lnN))))))))))) <| R_nil ?_
  obtain rfl := rt (v := r_) h
  refine T_ret (retq ?_ (.one (.agg Y Y Y Y tA76 (at_sub (at_all (lnC (n := 131) (lnA (m := 64) (n := 67) arL (lnA (m := 64) (n := 3) arL (lnC (n := 2) (lnC (n := 1) (lnC (n := 0) (lnN))))))))) (lnC (n := 131) (lnA (m := 64) (n := 67) arL (lnA (m := 64) (n := 3) arL (lnC (n := 2) (lnC (n := 1) (lnC (n := 0) (lnN))))))) (pwB (alC Y (alA (arD fun _ => Y) (alA (arD fun _ => Y) (alC Y (alC Y (alC Y (alN)))))))) (hns := nsC Y (nsA (nsM fun _ => Y) (nsA (nsM fun _ => Y) (nsC Y (nsC Y (nsC Y (nsR Y))))))))))
  rfl
 ·
  refine T_skip <| T_keep (kc 1 Y <| kc 2 Y <| kn) Y <| Tr <| Rq Y (v_assign (ov Y)) <| Rq Y (v_assign (ov Y)) <| R_nil <| T_joinG id (t2 fun lost place => ⟨[(1, .ptr 0 1 0 0), (2, .ptr 1 1 0 0), (3, .int .i64 lost), (4, .int .i64 place)], [some ⟨76, [(.int .i64 r_.Number) :: ((List.map C47 r_.Frame.toList) ++ (((List.map C3 r_.States.toList) ++ ((.bool r_.Sound) :: (.int .i64 r_.Copies) :: (.bool r_.Conflict) :: []))))]⟩, some ⟨76, [(.int .i64 0) :: ((List.map C47 (Vector.replicate 64 0).toList) ++ (((List.map C3 (Vector.replicate 64 0).toList) ++ ((.bool false) :: (.int .i64 0) :: (.bool false) :: []))))]⟩]⟩) h (fun h => ?_) (fun j h => ?_)
  ·
   refine Tr <| Rq Y (v_fieldP (ov Y) Y Y tF76_2) <| Rq Y (v_loadA (ov Y) Y Y Y tA74 (at_sub (atc (o := 64) (ata (m := 64) (o := 0) arL (at0 (hdw arL))))) arL (hns := (nsM fun _ => Y))) <| Rq Y (v_move (ov Y)) <| R_nil <| T_block ?_
   obtain ⟨r1, hl1, ho1⟩ := bndL h
   refine T_loopG _ (t3 fun lost2 place2 i => ⟨[(1, .ptr 0 1 0 0), (2, .ptr 1 1 0 0), (3, .int .i64 lost2), (4, .int .i64 place2), (17, .agg (List.map C3 r_.States.toList)), (18, .int .i64 i)], [some ⟨76, [(.int .i64 r_.Number) :: ((List.map C47 r_.Frame.toList) ++ (((List.map C3 r_.States.toList) ++ ((.bool r_.Sound) :: (.int .i64 r_.Copies) :: (.bool r_.Conflict) :: []))))]⟩, some ⟨76, [(.int .i64 0) :: ((List.map C47 (Vector.replicate 64 0).toList) ++ (((List.map C3 (Vector.replicate 64 0).toList) ++ ((.bool false) :: (.int .i64 0) :: (.bool false) :: []))))]⟩]⟩) _ hl1 (Ent.sel [some 0, some 1] (sr 1 Y (.ptr _ _ _ Y) <| sr 2 Y (.ptr _ _ _ Y) <| sd 3 Y Y <| sd 4 Y Y <| sr 17 Y (rAgg (rld (arD fun _ => Y))) <| sd 18 Y Y <| sn) (.cons Y (ro1 (by exact Eq.trans (b := 132) (lnC (n := 131) (lnA (m := 64) (n := 67) arL (lnA (m := 64) (n := 3) arL (lnC (n := 2) (lnC (n := 1) (lnC (n := 0) (lnN))))))) tZ_76.symm) (rld (alC Y (alA (arD fun _ => Y) (alA (arD fun _ => Y) (alC Y (alC Y (alC Y (alN))))))))) <| .cons Y (ro1 (by exact Eq.trans (b := 132) (lnC (n := 131) (lnA (m := 64) (n := 67) arL (lnA (m := 64) (n := 3) arL (lnC (n := 2) (lnC (n := 1) (lnC (n := 0) (lnN))))))) tZ_76.symm) (rld (alC Y (alA (arD fun _ => Y) (alA (arD fun _ => Y) (alC Y (alC Y (alC Y (alN))))))))) <| .nil) Y Y) (fun n1 s1 h => ?_)
   obtain ⟨lost2, place2, i⟩ := s1
   replace h := t3i h
   refine t3T ?_
   unfold salvage_mended_L1 at h
   refine Tr <| Rq Y (v_lss (ov Y) (ov Y)) <| R_nil <| T_seq <| T_if h Y (fun b19 h => ?_) (fun b19 h => ?_)
   ·
    refine T_skip <| T_seq <| T_block <| T_keep (kc 1 Y <| kc 2 Y <| kc 3 Y <| kc 4 Y <| kc 17 Y <| kc 18 Y <| kn) Y <| Tr <| Rq Y (v_move (ov Y)) ?_
    obtain ⟨x, h_x, h⟩ := bnd h
    refine Rq Y (v_indexVG (ov Y) (ov Y) tR74 tS3 h_x) ?_
    refine Rq Y (v_assign (ov Y)) ?_
    refine Rq Y (v_assign (ov Y)) ?_
    refine R_nil <| T_keep (kc 1 Y <| kc 2 Y <| kc 3 Y <| kc 4 Y <| kc 5 Y <| kc 6 Y <| kc 17 Y <| kc 18 Y <| kn) Y <| Tr <| Rq Y (v_move (ov Y)) <| Rq Y (v_eql (ov Y) (ov Y)) <| R_nil <| T_keep (kc 1 Y <| kc 2 Y <| kc 3 Y <| kc 4 Y <| kc 5 Y <| kc 17 Y <| kc 18 Y <| kc 23 Y <| kn) Y <| T_if h Y (fun b23 h => ?_) (fun b23 h => ?_)
    ·
     refine T_keep (kc 1 Y <| kc 2 Y <| kc 3 Y <| kc 4 Y <| kc 5 Y <| kc 17 Y <| kc 18 Y <| kn) Y <| T_reg <| Rq Y (v_move (ov Y)) <| Rq Y (v_add (ov Y) (ov Y) Y) <| Rq Y (v_move (ov Y)) <| Rq Y (v_assign (ov Y)) <| Rq Y (v_assign (ov Y)) <| R_nil <| T_keep (kc 1 Y <| kc 2 Y <| kc 3 Y <| kc 4 Y <| kc 17 Y <| kc 18 Y <| kn) Y <| T_reg <| Rq Y (v_add (ov Y) (ov Y) Y) <| Rq Y (v_move (ov Y)) <| R_nil ?_
     exact ⟨((i64 (lost2 + 1)), i, (i64 (i + 1))), h, Ent.sel [some 0, some 1] (sr 1 Y (.ptr _ _ _ Y) <| sr 2 Y (.ptr _ _ _ Y) <| sd 3 Y Y <| sd 4 Y Y <| sr 17 Y (rAgg (rld (arD fun _ => Y))) <| sd 18 Y Y <| sn) (.cons Y (ro1 (by exact Eq.trans (b := 132) (lnC (n := 131) (lnA (m := 64) (n := 67) arL (lnA (m := 64) (n := 3) arL (lnC (n := 2) (lnC (n := 1) (lnC (n := 0) (lnN))))))) tZ_76.symm) (rld (alC Y (alA (arD fun _ => Y) (alA (arD fun _ => Y) (alC Y (alC Y (alC Y (alN))))))))) <| .cons Y (ro1 (by exact Eq.trans (b := 132) (lnC (n := 131) (lnA (m := 64) (n := 67) arL (lnA (m := 64) (n := 3) arL (lnC (n := 2) (lnC (n := 1) (lnC (n := 0) (lnN))))))) tZ_76.symm) (rld (alC Y (alA (arD fun _ => Y) (alA (arD fun _ => Y) (alC Y (alC Y (alC Y (alN))))))))) <| .nil) Y Y⟩
    ·
     refine T_skip <| T_keep (kc 1 Y <| kc 2 Y <| kc 3 Y <| kc 4 Y <| kc 17 Y <| kc 18 Y <| kn) Y <| T_reg <| Rq Y (v_add (ov Y) (ov Y) Y) <| Rq Y (v_move (ov Y)) <| R_nil ?_
     exact ⟨(lost2, place2, (i64 (i + 1))), h, Ent.sel [some 0, some 1] (sr 1 Y (.ptr _ _ _ Y) <| sr 2 Y (.ptr _ _ _ Y) <| sd 3 Y Y <| sd 4 Y Y <| sr 17 Y (rAgg (rld (arD fun _ => Y))) <| sd 18 Y Y <| sn) (.cons Y (ro1 (by exact Eq.trans (b := 132) (lnC (n := 131) (lnA (m := 64) (n := 67) arL (lnA (m := 64) (n := 3) arL (lnC (n := 2) (lnC (n := 1) (lnC (n := 0) (lnN))))))) tZ_76.symm) (rld (alC Y (alA (arD fun _ => Y) (alA (arD fun _ => Y) (alC Y (alC Y (alC Y (alN))))))))) <| .cons Y (ro1 (by exact Eq.trans (b := 132) (lnC (n := 131) (lnA (m := 64) (n := 67) arL (lnA (m := 64) (n := 3) arL (lnC (n := 2) (lnC (n := 1) (lnC (n := 0) (lnN))))))) tZ_76.symm) (rld (alC Y (alA (arD fun _ => Y) (alA (arD fun _ => Y) (alC Y (alC Y (alC Y (alN))))))))) <| .nil) Y Y⟩
   ·
    refine T_exit ?_
    rw [lx h] at ho1
    replace h := ho1
    exact ⟨(lost2, place2), h, Ent.sel [some 0, some 1] (sr 1 Y (.ptr _ _ _ Y) <| sr 2 Y (.ptr _ _ _ Y) <| sd 3 Y Y <| sd 4 Y Y <| sn) (.cons Y (ro1 (by exact Eq.trans (b := 132) (lnC (n := 131) (lnA (m := 64) (n := 67) arL (lnA (m := 64) (n := 3) arL (lnC (n := 2) (lnC (n := 1) (lnC (n := 0) (lnN))))))) tZ_76.symm) (rld (alC Y (alA (arD fun _ => Y) (alA (arD fun _ => Y) (alC Y (alC Y (alC Y (alN))))))))) <| .cons Y (ro1 (by exact Eq.trans (b := 132) (lnC (n := 131) (lnA (m := 64) (n := 67) arL (lnA (m := 64) (n := 3) arL (lnC (n := 2) (lnC (n := 1) (lnC (n := 0) (lnN))))))) tZ_76.symm) (rld (alC Y (alA (arD fun _ => Y) (alA (arD fun _ => Y) (alC Y (alC Y (alC Y (alN))))))))) <| .nil) Y Y⟩
  ·
   obtain ⟨lost, place⟩ := j
   replace h := t2i h
   refine t2T ?_
   refine T_seq <| Tr <| Rq Y (v_move (ov Y)) <| Rq Y (v_neq (ov Y) (ov Y)) <| R_nil <| T_keep (kc 1 Y <| kc 2 Y <| kc 4 Y <| kc 29 Y <| kn) Y <| T_if h Y (fun b29 h => ?_) (fun b29 h => ?_)
   ·
    refine T_keep (kc 1 Y <| kc 2 Y <| kn) Y <| Tr <| Rq Y (v_loadA (ov Y) Y Y Y tA76 (at_sub (at_all (lnC (n := 131) (lnA (m := 64) (n := 67) arL (lnA (m := 64) (n := 3) arL (lnC (n := 2) (lnC (n := 1) (lnC (n := 0) (lnN))))))))) (lnC (n := 131) (lnA (m := 64) (n := 67) arL (lnA (m := 64) (n := 3) arL (lnC (n := 2) (lnC (n := 1) (lnC (n := 0) (lnN))))))) (hns := nsC Y (nsA (nsM fun _ => Y) (nsA (nsM fun _ => Y) (nsC Y (nsC Y (nsC Y (nsR Y)))))))) <| Rx Y (w_store (ov Y) (ov Y) (cells_agg tA76 (lnC (n := 131) (lnA (m := 64) (n := 67) arL (lnA (m := 64) (n := 3) arL (lnC (n := 2) (lnC (n := 1) (lnC (n := 0) (lnN)))))))) Y Y Y (put_le (at_all (lnC (n := 131) (lnA (m := 64) (n := 67) arL (lnA (m := 64) (n := 3) arL (lnC (n := 2) (lnC (n := 1) (lnC (n := 0) (lnN)))))))) (lnC (n := 131) (lnA (m := 64) (n := 67) arL (lnA (m := 64) (n := 3) arL (lnC (n := 2) (lnC (n := 1) (lnC (n := 0) (lnN)))))))) (cell1_all (alC Y (alA (arC fun _ => Y) (alA (arC fun _ => Y) (alC Y (alC Y (alC Y (alN)))))))) (put_all (Eq.trans (lnC (n := 131) (lnA (m := 64) (n := 67) arL (lnA (m := 64) (n := 3) arL (lnC (n := 2) (lnC (n := 1) (lnC (n := 0) (lnN))))))) (Eq.symm (lnC (n := 131) (lnA (m := 64) (n := 67) arL (lnA (m := 64) (n := 3) arL (lnC (n := 2) (lnC (n := 1) (lnC (n := 0) (lnN))))))))))) <| R_nil ?_
    obtain rfl := rt (v := r_) h
    refine T_ret (retq ?_ (.one (.agg Y Y Y Y tA76 (at_sub (at_all (lnC (n := 131) (lnA (m := 64) (n := 67) arL (lnA (m := 64) (n := 3) arL (lnC (n := 2) (lnC (n := 1) (lnC (n := 0) (lnN))))))))) (lnC (n := 131) (lnA (m := 64) (n := 67) arL (lnA (m := 64) (n := 3) arL (lnC (n := 2) (lnC (n := 1) (lnC (n := 0) (lnN))))))) (pwB (alC Y (alA (arD fun _ => Y) (alA (arD fun _ => Y) (alC Y (alC Y (alC Y (alN)))))))) (hns := nsC Y (nsA (nsM fun _ => Y) (nsA (nsM fun _ => Y) (nsC Y (nsC Y (nsC Y (nsR Y))))))))))
    rfl
   ·
    refine T_skip <| T_keep (kc 1 Y <| kc 2 Y <| kc 4 Y <| kn) Y <| Tr <| Rq Y (v_fieldP (ov Y) Y Y tF76_1) <| Rq Y (v_loadA (ov Y) Y Y Y tA49 (at_sub (atc (o := 0) (at0 (hdw arL)))) arL (hns := (nsM fun _ => Y))) <| Rq Y (v_move (ov Y)) ?_
    obtain ⟨y, h_y, h⟩ := bnd h
    refine Rq Y (v_call (ok_frame_Replaced h_y) (.cons (ov Y) (.aggB (arD fun _ => Y)) <| .cons (ov Y) (.b Y) <| .nil)) ?_
    refine Rq Y (v_move (ov Y)) ?_
    refine Rq Y (v_extract (ov Y) Y) ?_
    refine Rq Y (v_extract (ov Y) Y) ?_
    refine Rx Y (w_alloc (row := (List.map C47 (Vector.replicate 64 0).toList)) 2 Y tZ49 Y tZ_49) ?_
    refine Rx Y (w_store (ov Y) (ov Y) (cells_agg tA49 arL) Y Y Y (put_le (at_all arL) arL) (cell1_all (arC fun _ => Y)) (put_all (Eq.trans arL (Eq.symm arL)))) ?_
    refine Rq Y (v_assign (ov Y)) ?_
    refine R_nil <| T_seq <| T_keep (kc 1 Y <| kc 2 Y <| kc 4 Y <| kc 7 Y <| kc 8 Y <| kn) Y <| Tr <| Rq Y (v_move (ov Y)) <| Rq Y (v_not (ov Y)) <| Rq Y (v_move (ov Y)) <| Rq Y (.guarded ((!y.2) == false) Y Y Y Y fun h => v_loadA (ov Y) Y Y Y tA49 (at_sub (at_all arL)) arL (hns := (nsM fun _ => Y))) <| Rq Y (.guarded ((!y.2) == false) Y Y Y Y fun h => v_fieldP (ov Y) Y Y tF76_0) <| Rq Y (.guarded ((!y.2) == false) Y Y Y Y fun h => v_loadS (ow Y h) Y Y Y tS3 (at_get (at0 (hdc (n := 0) hd0)))) ?_
    obtain ⟨y2, h_y2, h⟩ := bnd h
    refine Rq Y (.guarded ((!y.2) == false) Y Y Y Y fun h => v_call (ok_salvage_soundAs (gdT h_y2 h)) (.cons (ow Y h) (.aggB (arD fun _ => Y)) <| .cons (ow Y h) (.b Y) <| .nil)) ?_
    refine Rq Y (.guarded ((!y.2) == false) Y Y Y Y fun h => v_not (ow Y h)) ?_
    refine Rq Y (v_or (ov Y) (fun hp => ow Y (gF hp))) ?_
    refine R_nil <| T_keep (kc 1 Y <| kc 2 Y <| kc 4 Y <| kc 7 Y <| kc 46 Y <| kn) Y <| T_if h Y (fun b46 h => ?_) (fun b46 h => ?_)
    ·
     refine T_keep (kc 1 Y <| kc 2 Y <| kn) Y <| Tr <| Rq Y (v_loadA (ov Y) Y Y Y tA76 (at_sub (at_all (lnC (n := 131) (lnA (m := 64) (n := 67) arL (lnA (m := 64) (n := 3) arL (lnC (n := 2) (lnC (n := 1) (lnC (n := 0) (lnN))))))))) (lnC (n := 131) (lnA (m := 64) (n := 67) arL (lnA (m := 64) (n := 3) arL (lnC (n := 2) (lnC (n := 1) (lnC (n := 0) (lnN))))))) (hns := nsC Y (nsA (nsM fun _ => Y) (nsA (nsM fun _ => Y) (nsC Y (nsC Y (nsC Y (nsR Y)))))))) <| Rx Y (w_store (ov Y) (ov Y) (cells_agg tA76 (lnC (n := 131) (lnA (m := 64) (n := 67) arL (lnA (m := 64) (n := 3) arL (lnC (n := 2) (lnC (n := 1) (lnC (n := 0) (lnN)))))))) Y Y Y (put_le (at_all (lnC (n := 131) (lnA (m := 64) (n := 67) arL (lnA (m := 64) (n := 3) arL (lnC (n := 2) (lnC (n := 1) (lnC (n := 0) (lnN)))))))) (lnC (n := 131) (lnA (m := 64) (n := 67) arL (lnA (m := 64) (n := 3) arL (lnC (n := 2) (lnC (n := 1) (lnC (n := 0) (lnN)))))))) (cell1_all (alC Y (alA (arC fun _ => Y) (alA (arC fun _ => Y) (alC Y (alC Y (alC Y (alN)))))))) (put_all (Eq.trans (lnC (n := 131) (lnA (m := 64) (n := 67) arL (lnA (m := 64) (n := 3) arL (lnC (n := 2) (lnC (n := 1) (lnC (n := 0) (lnN))))))) (Eq.symm (lnC (n := 131) (lnA (m := 64) (n := 67) arL (lnA (m := 64) (n := 3) arL (lnC (n := 2) (lnC (n := 1) (lnC (n := 0) (lnN))))))))))) <| R_nil ?_
     obtain rfl := rt (v := r_) h
     refine T_ret (retq ?_ (.one (.agg Y Y Y Y tA76 (at_sub (at_all (lnC (n := 131) (lnA (m := 64) (n := 67) arL (lnA (m := 64) (n := 3) arL (lnC (n := 2) (lnC (n := 1) (lnC (n := 0) (lnN))))))))) (lnC (n := 131) (lnA (m := 64) (n := 67) arL (lnA (m := 64) (n := 3) arL (lnC (n := 2) (lnC (n := 1) (lnC (n := 0) (lnN))))))) (pwB (alC Y (alA (arD fun _ => Y) (alA (arD fun _ => Y) (alC Y (alC Y (alC Y (alN)))))))) (hns := nsC Y (nsA (nsM fun _ => Y) (nsA (nsM fun _ => Y) (nsC Y (nsC Y (nsC Y (nsR Y))))))))))
     rfl
    ·
     refine T_skip <| T_keep (kc 1 Y <| kc 2 Y <| kc 4 Y <| kc 7 Y <| kn) Y <| T_seq (T_draw (cw := md0) (by kernel_rfl) ?_)
     refine Dq 0 Y Y Y (v_loadA (ov Y) Y Y Y tA49 (at_sub (at_all arL)) arL (hns := (nsM fun _ => Y))) ?_
     obtain ⟨y3, h_y3, h⟩ := bnd h
     refine Dq 1 Y Y Y (v_call (ok_salvage_filled h_y3) (.cons (ov Y) (.b Y) <| .nil)) ?_
     refine Dq 2 Y Y Y (v_fieldP (ov Y) Y Y tF76_1) ?_
     refine Do 3 Y Y Y (w_store (ov Y) (ov Y) (cells_agg tA49 arL) Y Y Y (put_le (atc (o := 0) (at0 (hdw arL))) arL) (cell1_all (arC fun _ => Y)) (putc (o := 0) (putw (Eq.trans arL (Eq.symm arL))))) ?_
     refine Dq 4 Y Y Y (v_fieldP (ov Y) Y Y tF76_2) ?_
     refine Do 5 Y Y Y (w_store (ov Y) (ov Y) (cells_agg tA74 arL) Y Y Y (put_le (atc (o := 64) (ata (m := 64) (o := 0) arL (at0 (hdw arL)))) arL) (cell1_all (arC fun _ => Y)) (putc (o := 64) (puta (m := 64) (o := 0) arL (putw (Eq.trans arL (Eq.symm arL)))))) ?_
     refine Dq 6 Y Y Y (v_fieldP (ov Y) Y Y tF76_3) ?_
     refine Do 7 Y Y Y (w_store (ov Y) (ov Y) (cells_scal tS4) Y Y Y (put_le (atc (o := 128) (ata (m := 64) (o := 64) arL (ata (m := 64) (o := 0) arL (at0 (hdc (n := 0) hd0))))) Y) (cell1_all Y) (putc (o := 128) (puta (m := 64) (o := 64) arL (puta (m := 64) (o := 0) arL (put1))))) ?_
     refine Dq 8 Y Y Y (v_fieldP (ov Y) Y Y tF76_4) ?_
     refine Do 9 Y Y Y (w_store (ov Y) (ov Y) (cells_scal tS3) Y Y Y (put_le (atc (o := 129) (ata (m := 64) (o := 65) arL (ata (m := 64) (o := 1) arL (atc (o := 0) (at0 (hdc (n := 0) hd0)))))) Y) (cell1_all Y) (putc (o := 129) (puta (m := 64) (o := 65) arL (puta (m := 64) (o := 1) arL (putc (o := 0) (put1)))))) ?_
     refine D_done (by kernel_rfl) ?_
     refine T_keep (kc 1 Y <| kc 2 Y <| kc 4 Y <| kn) Y <| Tr <| Rq Y (v_move (ov Y)) <| Rq Y (v_fieldP (ov Y) Y Y tF76_2) ?_
     obtain ⟨x2, h_x2, h⟩ := bnd h
     refine Rq Y (v_ixAG (ov Y) (ov Y) tR74 Y Y h_x2) ?_
     refine Rx Y (w_store (ov Y) (ov Y) (cells_scal tS3) Y Y Y (put_le (at_at (o := 65) (o' := (place.toNat * 1)) (atc (o := 64) (ata (m := 64) (o := 0) arL (at0 (hdw arL)))) (at_v1 h_x2)) Y) (cell1_all Y) (put_put (o := 65) (o' := (place.toNat * 1)) (atc (o := 64) (ata (m := 64) (o := 0) arL (at0 (hdw arL)))) (at_v1 h_x2) Y (put_v1 h_x2 (x := 2)) (putc (o := 64) (puta (m := 64) (o := 0) arL (putw (Eq.trans arL (Eq.symm arL))))))) ?_
     refine R_nil <| T_keep (kc 1 Y <| kc 2 Y <| kn) Y <| Tr <| Rq Y (v_loadA (ov Y) Y Y Y tA76 (at_sub (at_all (lnC (n := 131) (lnA (m := 64) (n := 67) arL (lnA (m := 64) (n := 3) arL (lnC (n := 2) (lnC (n := 1) (lnC (n := 0) (lnN))))))))) (lnC (n := 131) (lnA (m := 64) (n := 67) arL (lnA (m := 64) (n := 3) arL (lnC (n := 2) (lnC (n := 1) (lnC (n := 0) (lnN))))))) (hns := nsC Y (nsA (nsM fun _ => Y) (nsA (nsM fun _ => Y) (nsC Y (nsC Y (nsC Y (nsR Y)))))))) <| Rx Y (w_store (ov Y) (ov Y) (cells_agg tA76 (lnC (n := 131) (lnA (m := 64) (n := 67) arL (lnA (m := 64) (n := 3) arL (lnC (n := 2) (lnC (n := 1) (lnC (n := 0) (lnN)))))))) Y Y Y (put_le (at_all (lnC (n := 131) (lnA (m := 64) (n := 67) arL (lnA (m := 64) (n := 3) arL (lnC (n := 2) (lnC (n := 1) (lnC (n := 0) (lnN)))))))) (lnC (n := 131) (lnA (m := 64) (n := 67) arL (lnA (m := 64) (n := 3) arL (lnC (n := 2) (lnC (n := 1) (lnC (n := 0) (lnN)))))))) (cell1_all (alC Y (alA (arC fun _ => Y) (alA (arC fun _ => Y) (alC Y (alC Y (alC Y (alN)))))))) (put_all (Eq.trans (lnC (n := 131) (lnA (m := 64) (n := 67) arL (lnA (m := 64) (n := 3) arL (lnC (n := 2) (lnC (n := 1) (lnC (n := 0) (lnN))))))) (Eq.symm (lnC (n := 131) (lnA (m := 64) (n := 67) arL (lnA (m := 64) (n := 3) arL (lnC (n := 2) (lnC (n := 1) (lnC (n := 0) (lnN))))))))))) <| R_nil ?_
     obtain rfl := rt (v := (api_Rest.mk r_.Number y.1 (vset y3 place 2) true 0 r_.Conflict)) h
     refine T_ret (retq ?_ (.one (.agg Y Y Y Y tA76 (at_sub (at_all (lnC (n := 131) (lnA (m := 64) (n := 67) arL (lnA (m := 64) (n := 3) arL (lnC (n := 2) (lnC (n := 1) (lnC (n := 0) (lnN))))))))) (lnC (n := 131) (lnA (m := 64) (n := 67) arL (lnA (m := 64) (n := 3) arL (lnC (n := 2) (lnC (n := 1) (lnC (n := 0) (lnN))))))) (pwB (alC Y (alA (arD fun _ => Y) (alA (arD fun _ => Y) (alC Y (alC Y (alC Y (alN)))))))) (hns := nsC Y (nsA (nsM fun _ => Y) (nsA (nsM fun _ => Y) (nsC Y (nsC Y (nsC Y (nsR Y))))))))))
     rfl

theorem ok_salvage_Salvage {l : List api_Piece} {r : (List api_Rest) × Int} (h : salvage_Salvage l = some r) :
  CSpec Tryz.prog gl0 103 [.sl 70 (List.map R70 l)] (.tuple [.sl 76 (List.map R76 r.1), .int .i64 r.2]) := by
 unfold salvage_Salvage at h
 replace h := bnd0 h
 refine spec_of (by kernel_rfl) Tryz.func103 Y Y ?_
 intro w0 A
 refine Tr <| Rq Y (v_assign (ov Y)) <| Rq Y (v_assign (ov Y)) <| R_nil <| T_seq <| T_keep (kc 0 Y <| kn) Y <| Tr <| Rq Y (v_move (ov Y)) <| Rq Y (v_len (slv_sl (ov Y) tZ_70) tL102 (len_map _ _)) <| Rq Y (v_gtr (ov Y) (ov Y)) <| R_nil <| T_keep (kc 0 Y <| kc 14 Y <| kn) Y <| T_if h Y (fun b14 h => ?_) (fun b14 h => ?_)
 ·
  refine T_keep (kn) Y <| Tr <| Rq Y (v_assign (ov Y)) <| Rq Y (v_assign (ov Y)) <| R_nil ?_
  obtain rfl := rt (v := ([], 3)) h
  refine T_ret (retq ?_ (.two (.tmp Y (View.nils 76)) (.tmp Y (Dat.view (.b Y)))))
  rfl
 ·
  refine T_skip <| T_joinG (fun j => (.inr j)) (t0 ⟨[(0, .sl 70 (List.map R70 l))], []⟩) h (fun h => ?_) (fun j h => ?_)
  ·
   refine T_keep (kc 0 Y <| kn) Y <| Tr <| Rq Y (v_move (ov Y)) <| Rq Y (v_len (slv_sl (ov Y) tZ_70) tL102 (len_map _ _)) <| Rq Y (v_move (ov Y)) <| R_nil <| T_block ?_
   obtain ⟨r1, hl1, ho1⟩ := bndL h
   refine T_loopG _ (t1 fun i => ⟨[(0, .sl 70 (List.map R70 l)), (15, .sl 70 (List.map R70 l)), (16, .int .i64 (l.length : Int)), (17, .int .i64 i)], []⟩) _ hl1 (Ent.sel [] (sd 0 Y Y <| sd 15 Y Y <| sd 16 Y Y <| sd 17 Y Y <| sn) (.nil) Y Y) (fun n1 s1 h => ?_)
   obtain ⟨i, rfl⟩ : ∃ x, x = s1 := ⟨_, rfl⟩
   replace h := t1i h
   refine t1T ?_
   unfold salvage_Salvage_L1 at h
   refine Tr <| Rq Y (v_lss (ov Y) (ov Y)) <| R_nil <| T_seq <| T_if h Y (fun b18 h => ?_) (fun b18 h => ?_)
   ·
    refine T_skip <| T_seq <| T_block <| T_keep (kc 0 Y <| kc 15 Y <| kc 16 Y <| kc 17 Y <| kn) Y <| Tr ?_
    obtain ⟨x, h_x, h⟩ := bnd h
    refine Rq Y (v_ixSG (ov Y) (ov Y) tL102 h_x) ?_
    refine Rq Y (v_loadA_r (ov Y) tA70 Y Y) ?_
    refine Rx Y (w_alloc (row := [_, _]) 0 Y tZ70 Y tZ_70) ?_
    refine Rx Y (w_store (ov Y) (ov Y) (cells_agg tA70 Y) Y Y Y (Nat.le_of_ble_eq_true Y) (cell1_all Y) Y) ?_
    refine R_nil <| T_keep (kc 0 Y <| kc 5 Y <| kc 15 Y <| kc 16 Y <| kc 17 Y <| kn) Y <| Tr <| Rq Y (v_loadA (ov Y) Y Y Y tA70 Y Y) ?_
    obtain ⟨y, h_y, h⟩ := bnd h
    refine Rq Y (v_call (ok_salvage_CheckPiece h_y) (.cons (ov Y) (.aggB Y) <| .nil)) ?_
    refine Rq Y (v_assign (ov Y)) ?_
    refine R_nil <| T_keep (kc 0 Y <| kc 6 Y <| kc 15 Y <| kc 16 Y <| kc 17 Y <| kn) Y <| Tr <| Rq Y (v_move (ov Y)) <| Rq Y (v_neq (ov Y) (ov Y)) <| R_nil <| T_keep (kc 0 Y <| kc 6 Y <| kc 15 Y <| kc 16 Y <| kc 17 Y <| kc 24 Y <| kn) Y <| T_if h Y (fun b24 h => ?_) (fun b24 h => ?_)
    ·
     refine T_keep (kc 6 Y <| kn) Y <| Tr <| Rq Y (v_move (ov Y)) <| Rq Y (v_assign (ov Y)) <| Rq Y (v_assign (ov Y)) <| R_nil ?_
     rw [lx h] at ho1
     replace h := ho1
     obtain rfl := rt (v := ([], y)) h
     refine T_ret (retq ?_ (.two (.tmp Y (View.nils 76)) (.tmp Y (Dat.view (.b Y)))))
     rfl
    ·
     refine T_skip <| T_keep (kc 0 Y <| kc 15 Y <| kc 16 Y <| kc 17 Y <| kn) Y <| T_reg <| Rq Y (v_add (ov Y) (ov Y) Y) <| Rq Y (v_move (ov Y)) <| R_nil ?_
     exact ⟨(i64 (i + 1)), h, Ent.sel [] (sd 0 Y Y <| sd 15 Y Y <| sd 16 Y Y <| sd 17 Y Y <| sn) (.nil) Y Y⟩
   ·
    refine T_exit ?_
    rw [lx h] at ho1
    replace h := ho1
    exact ⟨(), h, Ent.sel [] (sd 0 Y Y <| sn) (.nil) Y Y⟩
  ·
   replace h := elr h
   cases j
   replace h := t0i h
   refine t0T ?_
   refine Tr <| Rq Y (v_assign (ov Y)) <| R_nil <| T_joinG id (t1 fun parts => ⟨[(7, .own 0 parts.length)], [some ⟨76, List.map R76 parts⟩]⟩) h (fun h => ?_) (fun j h => ?_)
   ·
    refine Tr <| Rq Y (v_move (ov Y)) <| Rq Y (v_len (slv_sl (ov Y) tZ_70) tL102 (len_map _ _)) <| Rq Y (v_move (ov Y)) <| R_nil <| T_block ?_
    obtain ⟨r2, hl2, ho2⟩ := bndL h
    refine T_loopG _ (t2 fun parts2 i2 => ⟨[(7, .own 0 parts2.length), (27, .sl 70 (List.map R70 l)), (28, .int .i64 (l.length : Int)), (29, .int .i64 i2)], [some ⟨76, List.map R76 parts2⟩]⟩) _ hl2 (Ent.sel [none] (sr 7 Y (.row Y) <| sd 27 Y Y <| sd 28 Y Y <| sd 29 Y Y <| sn) (.row 76 <| .nil) Y Y) (fun n2 s2 h => ?_)
    obtain ⟨parts2, i2⟩ := s2
    replace h := t2i h
    refine t2T ?_
    unfold salvage_Salvage_L2 at h
    refine Tr <| Rq Y (v_lss (ov Y) (ov Y)) <| R_nil <| T_seq <| T_if h Y (fun b30 h => ?_) (fun b30 h => ?_)
    ·
     refine T_skip <| T_seq <| T_block <| T_keep (kc 7 Y <| kc 27 Y <| kc 28 Y <| kc 29 Y <| kn) Y <| Tr ?_
     obtain ⟨x2, h_x2, h⟩ := bnd h
     refine Rq Y (v_ixSG (ov Y) (ov Y) tL102 h_x2) ?_
     refine Rq Y (v_loadA_r (ov Y) tA70 Y Y) ?_
     refine Rx Y (w_alloc (row := [_, _]) 1 Y tZ70 Y tZ_70) ?_
     refine Rx Y (w_store (ov Y) (ov Y) (cells_agg tA70 Y) Y Y Y (Nat.le_of_ble_eq_true Y) (cell1_all Y) Y) ?_
     refine R_nil <| T_keep (kc 7 Y <| kc 9 Y <| kc 27 Y <| kc 28 Y <| kc 29 Y <| kn) Y <| T_reg <| Rq Y (v_move (ov Y)) <| Rq Y (v_loadA (ov Y) Y Y Y tA70 Y Y) ?_
     obtain ⟨y2, h_y2, h⟩ := bnd h
     refine Rq Y (v_call (ok_salvage_halves h_y2) (.cons (ov Y) (.aggB Y) <| .nil)) ?_
     obtain ⟨y3, h_y3, h⟩ := bnd h
     refine Rq Y (v_call (ok_salvage_rests h_y3) (.cons (ov Y) (.b Y) <| .nil)) ?_
     obtain ⟨l2, h_l2, h⟩ := bnd h
     refine Rx Y (w_appendZ (ov Y) (slv_sl (ov Y) tZ_76) tL58 Y Y (fun x => cell1_all (E76 x)) Y h_l2) ?_
     refine Rq Y (v_assign (ov Y)) ?_
     refine R_nil <| T_keep (kc 7 Y <| kc 27 Y <| kc 28 Y <| kc 29 Y <| kn) Y <| T_reg <| Rq Y (v_add (ov Y) (ov Y) Y) <| Rq Y (v_move (ov Y)) <| R_nil ?_
     exact ⟨(l2, (i64 (i2 + 1))), h, Ent.sel [some 0] (sr 7 Y (.own _ Y) <| sd 27 Y Y <| sd 28 Y Y <| sd 29 Y Y <| sn) (.cons Y (roM D76) <| .nil) Y Y⟩
    ·
     refine T_exit ?_
     rw [lx h] at ho2
     replace h := ho2
     exact ⟨parts2, h, Ent.sel [some 0] (sr 7 Y (.own _ Y) <| sn) (.cons Y (roM D76) <| .nil) Y Y⟩
   ·
    obtain ⟨parts, rfl⟩ : ∃ x, x = j := ⟨_, rfl⟩
    replace h := t1i h
    refine t1T ?_
    refine Tr <| Rq Y (v_move (ov Y)) ?_
    obtain ⟨y4, h_y4, h⟩ := bnd h
    refine R_ent (Ent.sel [none] (sr 7 Y (frzM Y Y Y D76) <| sr 39 Y (frzM Y Y Y D76) <| sn) (.row 76 <| .nil) Y Y) ?_
    refine Rx Y (w_callG [] (ok_salvage_grouped_o h_y4) (.cons (ov Y) (.dat Y) <| .nil) (.nil) Y (.keep Y Y <| .lent 0 (.inr ⟨Nat.le_of_ble_eq_true Y, Y⟩) Y (roM D76) <| .nil) Y Y (.own _ (.inr ⟨Nat.le_of_ble_eq_true Y, Y⟩))) ?_
    refine Rq Y (v_assign (ov Y)) ?_
    refine R_nil <| T_seq <| T_keep (kc 10 Y <| kn) Y <| T_seq (T_draw (cw := md0) (by kernel_rfl) ?_)
    refine Dq 0 Y Y Y (v_move (ov Y)) ?_
    refine Dq 1 Y Y Y (v_lenO (ov Y) Y Y tL58) ?_
    refine Dq 2 Y Y Y (v_gtr (ov Y) (ov Y)) ?_
    refine Dq 3 Y Y Y (v_move (ov Y)) ?_
    refine Dq 4 Y Y Y (.guarded ((decide (0 < (y4.length : Int))) == true) Y Y Y Y fun h => v_move (ov Y)) ?_
    refine Dq 5 Y Y Y (.guarded ((decide (0 < (y4.length : Int))) == true) Y Y Y Y fun h => v_move (ov Y)) ?_
    refine Dq 6 Y Y Y (.guarded ((decide (0 < (y4.length : Int))) == true) Y Y Y Y fun h => v_lenO (ow Y h) Y Y tL58) ?_
    refine Dq 7 Y Y Y (.guarded ((decide (0 < (y4.length : Int))) == true) Y Y Y Y fun h => v_sub (ow Y h) (ov Y) Y) ?_
    obtain ⟨x3, h_x3, h⟩ := bnd h
    refine Dq 8 Y Y Y (.guarded ((decide (0 < (y4.length : Int))) == true) Y Y Y Y fun h => v_ixOG (ow Y h) (ow Y h) tL58 Y Y (gdT h_x3 h)) ?_
    refine Dq 9 Y Y Y (.guarded ((decide (0 < (y4.length : Int))) == true) Y Y Y Y fun h => v_fieldPR (ow Y h) Y Y tF76_0) ?_
    refine Dq 10 Y Y Y (.guarded ((decide (0 < (y4.length : Int))) == true) Y Y Y Y fun h => v_loadSR (ow Y h) Y Y (gdT h_x3 h) tS3 (at_get (at0 (hdc (n := 0) hd0)))) ?_
    refine Dq 11 Y Y Y (.guarded ((decide (0 < (y4.length : Int))) == true) Y Y Y Y fun h => v_move (ov Y)) ?_
    obtain ⟨x4, h_x4, h⟩ := bnd h
    refine Dq 12 Y Y Y (.guarded ((decide (0 < (y4.length : Int))) == true) Y Y Y Y fun h => v_ixOG (ow Y h) (ov Y) tL58 Y Y (gdT h_x4 h)) ?_
    refine Dq 13 Y Y Y (.guarded ((decide (0 < (y4.length : Int))) == true) Y Y Y Y fun h => v_fieldPR (ow Y h) Y Y tF76_0) ?_
    refine Dq 14 Y Y Y (.guarded ((decide (0 < (y4.length : Int))) == true) Y Y Y Y fun h => v_loadSR (ow Y h) Y Y (gdT h_x4 h) tS3 (at_get (at0 (hdc (n := 0) hd0)))) ?_
    refine Dq 15 Y Y Y (.guarded ((decide (0 < (y4.length : Int))) == true) Y Y Y Y fun h => v_sub (ow Y h) (ow Y h) Y) ?_
    refine Dq 16 Y Y Y (.guarded ((decide (0 < (y4.length : Int))) == true) Y Y Y Y fun h => v_gtr (ow Y h) (ov Y)) ?_
    refine Dq 17 Y Y Y (v_and (ov Y) (fun hp => ow Y (gT hp))) ?_
    refine D_done (by kernel_rfl) ?_
    refine T_keep (kc 10 Y <| kc 58 Y <| kn) Y <| T_if h Y (fun b58 h => ?_) (fun b58 h => ?_)
    ·
     refine T_keep (kn) Y <| Tr <| Rq Y (v_assign (ov Y)) <| Rq Y (v_assign (ov Y)) <| R_nil ?_
     obtain rfl := rt (v := ([], 3)) h
     refine T_ret (retq ?_ (.two (.tmp Y (View.nils 76)) (.tmp Y (Dat.view (.b Y)))))
     rfl
    ·
     refine T_skip <| T_joinG id (t1 fun out => ⟨[(10, .own 0 out.length)], [some ⟨76, List.map R76 out⟩]⟩) h (fun h => ?_) (fun j h => ?_)
     ·
      refine T_keep (kc 10 Y <| kn) Y <| Tr <| Rq Y (v_move (ov Y)) <| Rq Y (v_lenO (ov Y) Y Y tL58) <| Rq Y (v_move (ov Y)) <| R_nil <| T_block ?_
      obtain ⟨r3, hl3, ho3⟩ := bndL h
      refine T_loopG _ (t2 fun out2 i3 => ⟨[(10, .own 0 out2.length), (60, .int .i64 (y4.length : Int)), (61, .int .i64 i3)], [some ⟨76, List.map R76 out2⟩]⟩) _ hl3 (Ent.sel [some 1] (sr 10 Y (.own _ Y) <| sd 60 Y Y <| sd 61 Y Y <| sn) (.cons Y (roM D76) <| .nil) Y Y) (fun n3 s3 h => ?_)
      obtain ⟨out2, i3⟩ := s3
      replace h := t2i h
      refine t2T ?_
      unfold salvage_Salvage_L3 at h
      refine Tr <| Rq Y (v_lss (ov Y) (ov Y)) <| R_nil <| T_seq <| T_if h Y (fun b62 h => ?_) (fun b62 h => ?_)
      ·
       refine T_skip <| T_seq <| T_block <| T_keep (kc 10 Y <| kc 60 Y <| kc 61 Y <| kn) Y <| Tr <| Rq Y (v_move (ov Y)) <| Rq Y (v_assign (ov Y)) <| R_nil <| T_keep (kc 10 Y <| kc 11 Y <| kc 60 Y <| kc 61 Y <| kn) Y <| T_reg <| Rq Y (v_move (ov Y)) <| Rq Y (v_move (ov Y)) <| Rq Y (v_move (ov Y)) <| Rq Y (v_move (ov Y)) ?_
       obtain ⟨x5, h_x5, h⟩ := bnd h
       refine Rq Y (v_ixOG (ov Y) (ov Y) tL58 Y Y h_x5) ?_
       refine Rq Y (v_loadAR (ov Y) Y Y h_x5 tA76 (at_sub (at_all (lnC (n := 131) (lnA (m := 64) (n := 67) arL (lnA (m := 64) (n := 3) arL (lnC (n := 2) (lnC (n := 1) (lnC (n := 0) (lnN))))))))) (lnC (n := 131) (lnA (m := 64) (n := 67) arL (lnA (m := 64) (n := 3) arL (lnC (n := 2) (lnC (n := 1) (lnC (n := 0) (lnN))))))) (hns := nsC Y (nsA (nsM fun _ => Y) (nsA (nsM fun _ => Y) (nsC Y (nsC Y (nsC Y (nsR Y)))))))) ?_
       obtain ⟨y5, h_y5, h⟩ := bnd h
       refine Rq Y (v_call (ok_salvage_mended h_y5) (.cons (ov Y) (.aggB (alC Y (alA (arD fun _ => Y) (alA (arD fun _ => Y) (alC Y (alC Y (alC Y (alN)))))))) <| .nil)) ?_
       obtain ⟨x6, h_x6, h⟩ := bnd h
       refine Rq Y (v_ixOG (ov Y) (ov Y) tL58 Y Y h_x6) ?_
       refine Rx Y (w_storeR (u' := y5) (ov Y) (ov Y) (cells_agg tA76 (lnC (n := 131) (lnA (m := 64) (n := 67) arL (lnA (m := 64) (n := 3) arL (lnC (n := 2) (lnC (n := 1) (lnC (n := 0) (lnN)))))))) Y Y h_x6 (Nat.ble_eq_true_of_le (put_le (at_all (lnC (n := 131) (lnA (m := 64) (n := 67) arL (lnA (m := 64) (n := 3) arL (lnC (n := 2) (lnC (n := 1) (lnC (n := 0) (lnN)))))))) (lnC (n := 131) (lnA (m := 64) (n := 67) arL (lnA (m := 64) (n := 3) arL (lnC (n := 2) (lnC (n := 1) (lnC (n := 0) (lnN))))))))) (cell1_all (alC Y (alA (arC fun _ => Y) (alA (arC fun _ => Y) (alC Y (alC Y (alC Y (alN)))))))) (put_all (Eq.trans (lnC (n := 131) (lnA (m := 64) (n := 67) arL (lnA (m := 64) (n := 3) arL (lnC (n := 2) (lnC (n := 1) (lnC (n := 0) (lnN))))))) (Eq.symm (lnC (n := 131) (lnA (m := 64) (n := 67) arL (lnA (m := 64) (n := 3) arL (lnC (n := 2) (lnC (n := 1) (lnC (n := 0) (lnN))))))))))) ?_
       refine R_nil <| T_keep (kc 10 Y <| kc 60 Y <| kc 61 Y <| kn) Y <| T_reg <| Rq Y (v_add (ov Y) (ov Y) Y) <| Rq Y (v_move (ov Y)) <| R_nil ?_
       exact ⟨((out2.set i3.toNat y5), (i64 (i3 + 1))), h, Ent.sel [some 0] (sr 10 Y (ownE (Eq.symm ((List.length_set ..).trans Y)) Y) <| sd 60 Y Y <| sd 61 Y Y <| sn) (.cons Y (roM D76) <| .nil) Y Y⟩
      ·
       refine T_exit ?_
       rw [lx h] at ho3
       replace h := ho3
       exact ⟨out2, h, Ent.sel [some 0] (sr 10 Y (.own _ Y) <| sn) (.cons Y (roM D76) <| .nil) Y Y⟩
     ·
      obtain ⟨out, rfl⟩ : ∃ x, x = j := ⟨_, rfl⟩
      replace h := t1i h
      refine t1T ?_
      refine Tr <| Rq Y (v_move (ov Y)) <| Rq Y (v_assign (ov Y)) <| Rq Y (v_assign (ov Y)) <| R_nil ?_
      obtain rfl := rt (v := (out, 0)) h
      refine T_ret (retq ?_ (.two (.tmp Y (View.ownM Y Y D76)) (.tmp Y (Dat.view (.b Y)))))
      rfl

theorem ok_law4_saved  {r : Bool} (h : law4_saved  = some r) :
  CSpec Tryz.prog gl0 32 [] (.bool r) := by
 unfold law4_saved at h
 replace h := bnd0 h
 refine spec_of (by kernel_rfl) Tryz.func32 Y Y ?_
 intro w0 A
 refine Tr <| Rq Y (v_assign (ov Y)) <| R_nil <| T_keep (kn) Y <| Tr ?_
 obtain ⟨l, h_l, h⟩ := bnd h
 refine Rx Y (w_makeG [none] (r := 0) (f := R3) (z0 := 0) Y (ov Y) (ov Y) tL28 Y tZ3 Y Y h_l) ?_
 obtain ⟨y, h_y, h⟩ := bnd h
 refine Rq Y (v_callB (ok_ref1_New h_y) (.tuple (by simp only [List.mem_cons, List.not_mem_nil, or_false, forall_eq_or_imp, forall_eq]; exact ⟨(flat_arr (fun _ => .int)), .int⟩)) (.cons (ov Y) (Dat.view (.b Y)) <| .cons (ov Y) (View.ownM Y Y D3) <| .nil)) ?_
 refine Rq Y (v_move (ov Y)) ?_
 refine Rq Y (v_extract (ov Y) Y) ?_
 refine Rq Y (v_extract (ov Y) Y) ?_
 refine Rx Y (w_alloc (row := (List.map C47 (Vector.replicate 64 0).toList)) 1 Y tZ49 Y tZ_49) ?_
 refine Rx Y (w_store (ov Y) (ov Y) (cells_agg tA49 arL) Y Y Y (put_le (at_all arL) arL) (cell1_all (arC fun _ => Y)) (put_all (Eq.trans arL (Eq.symm arL)))) ?_
 refine Rq Y (v_assign (ov Y)) ?_
 refine R_nil <| T_keep (kc 1 Y <| kn) Y <| Tr <| Rq Y (v_loadA (ov Y) Y Y Y tA49 (at_sub (at_all arL)) arL (hns := (nsM fun _ => Y))) ?_
 obtain ⟨y2, h_y2, h⟩ := bnd h
 refine Rq Y (v_call (ok_ref1_ToBytes h_y2) (.cons (ov Y) (.aggB (arD fun _ => Y)) <| .nil)) ?_
 refine Rq Y (v_move (ov Y)) ?_
 refine Rq Y (v_extract (ov Y) Y) ?_
 refine Rq Y (v_extract (ov Y) Y) ?_
 refine Rq Y (v_assign (ov Y)) ?_
 refine Rq Y (v_assign (ov Y)) ?_
 refine R_nil <| T_keep (kc 1 Y <| kc 3 Y <| kn) Y <| Tr <| Rx Y (w_litG (r := 2) (xs := ([7] : List Int)) (f := R5) Y tL68 (.cons (cvs (ov Y) (cell1_b Y)) Y (.cons (.b Y) .nil) <| .nil) Y Y Y) <| Rq Y (v_move (ov Y)) ?_
 obtain ⟨l2, h_l2, h⟩ := bnd h
 refine Rx Y (w_appendZ (ov Y) (slv_sl (ov Y) tZ_5) tL68 Y Y (fun _ => cell1_all Y) Y h_l2) ?_
 refine Rq Y (v_build (ys := [_, _]) tPL70 tHA70 tZ70 (.cons (cvs (ov Y) (cell1_b Y)) <| .nil) Y) ?_
 refine R_ent (Ent.sel [some 0, some 1, none] (sr 1 Y (.ptr (r' := 1) _ _ _ Y) <| sd 3 Y Y <| sd 19 Y Y <| sr 20 Y (frzM Y Y Y D5) <| sr 21 Y (rAgg (rlc (frzM Y Y Y D5) <| rlc (.dat Y) <| rln)) <| sn) (.cons Y (roM D3) <| .cons Y (ro1 (by exact Eq.trans (b := 64) arL tZ_49.symm) (rld (arD fun _ => Y))) <| .row 5 <| .nil) Y Y) ?_
 refine R_q (.sl 70 (List.map R70 ([(api_Piece.mk l2 false)] : List api_Piece))) Y (v_lit tL102 (.cons (cva (ov Y)) Y (pwD Y) <| .nil) Y Y) ?_
 obtain ⟨y3, h_y3, h⟩ := bnd h
 refine Rq Y (v_call (ok_salvage_Salvage h_y3) (.cons (ov Y) (.b Y) <| .nil)) ?_
 refine Rq Y (v_move (ov Y)) ?_
 refine Rq Y (v_extract (ov Y) Y) ?_
 refine Rq Y (v_extract (ov Y) Y) ?_
 refine Rq Y (v_assign (ov Y)) ?_
 refine Rq Y (v_assign (ov Y)) ?_
 refine R_nil <| T_keep (kc 1 Y <| kc 5 Y <| kc 6 Y <| kn) Y <| T_seq (T_draw (cw := md0) (by kernel_rfl) ?_)
 refine Dq 0 Y Y Y (v_move (ov Y)) ?_
 refine Dq 1 Y Y Y (v_eql (ov Y) (ov Y)) ?_
 refine Dq 2 Y Y Y (v_move (ov Y)) ?_
 refine Dq 3 Y Y Y (.guarded ((decide (y3.2 = 0)) == true) Y Y Y Y fun h => v_move (ov Y)) ?_
 refine Dq 4 Y Y Y (.guarded ((decide (y3.2 = 0)) == true) Y Y Y Y fun h => v_len (slv_sl (ow Y h) tZ_76) tL58 (len_map _ _)) ?_
 refine Dq 5 Y Y Y (.guarded ((decide (y3.2 = 0)) == true) Y Y Y Y fun h => v_eql (ow Y h) (ov Y)) ?_
 refine Dq 6 Y Y Y (v_and (ov Y) (fun hp => ow Y (gT hp))) ?_
 refine Dq 7 Y Y Y (v_move (ov Y)) ?_
 refine Dq 8 Y Y Y (.guarded (((decide (y3.2 = 0)) && (decide ((y3.1.length : Int) = 1))) == true) Y Y Y Y fun h => v_move (ov Y)) ?_
 obtain ⟨x, h_x, h⟩ := bnd h
 refine Dq 9 Y Y Y (.guarded (((decide (y3.2 = 0)) && (decide ((y3.1.length : Int) = 1))) == true) Y Y Y Y fun h => v_ixSG (ow Y h) (ov Y) tL58 (gdT h_x h)) ?_
 refine Dq 10 Y Y Y (.guarded (((decide (y3.2 = 0)) && (decide ((y3.1.length : Int) = 1))) == true) Y Y Y Y fun h => v_fieldR (ow Y h) tF76_0) ?_
 refine Dq 11 Y Y Y (.guarded (((decide (y3.2 = 0)) && (decide ((y3.1.length : Int) = 1))) == true) Y Y Y Y fun h => v_loadS_r (ow Y h) tS3 (at_get (at0 (hdc (n := 0) hd0)))) ?_
 refine Dq 12 Y Y Y (.guarded (((decide (y3.2 = 0)) && (decide ((y3.1.length : Int) = 1))) == true) Y Y Y Y fun h => v_eql (ow Y h) (ov Y)) ?_
 refine Dq 13 Y Y Y (v_and (ov Y) (fun hp => ow Y (gT hp))) ?_
 refine Dq 14 Y Y Y (v_move (ov Y)) ?_
 refine Dq 15 Y Y Y (.guarded ((((decide (y3.2 = 0)) && (decide ((y3.1.length : Int) = 1))) && (decide (x.Number = 9))) == true) Y Y Y Y fun h => v_move (ov Y)) ?_
 obtain ⟨x2, h_x2, h⟩ := bnd h
 refine Dq 16 Y Y Y (.guarded ((((decide (y3.2 = 0)) && (decide ((y3.1.length : Int) = 1))) && (decide (x.Number = 9))) == true) Y Y Y Y fun h => v_ixSG (ow Y h) (ov Y) tL58 (gdT h_x2 h)) ?_
 refine Dq 17 Y Y Y (.guarded ((((decide (y3.2 = 0)) && (decide ((y3.1.length : Int) = 1))) && (decide (x.Number = 9))) == true) Y Y Y Y fun h => v_fieldR (ow Y h) tF76_1) ?_
 refine Dq 18 Y Y Y (.guarded ((((decide (y3.2 = 0)) && (decide ((y3.1.length : Int) = 1))) && (decide (x.Number = 9))) == true) Y Y Y Y fun h => v_loadA_r (ow Y h) tA49 (at_sub (atc (o := 0) (at0 (hdw arL)))) arL) ?_
 refine Dq 19 Y Y Y (.guarded ((((decide (y3.2 = 0)) && (decide ((y3.1.length : Int) = 1))) && (decide (x.Number = 9))) == true) Y Y Y Y fun h => v_loadA (ov Y) Y Y Y tA49 (at_sub (at_all arL)) arL (hns := (nsM fun _ => Y))) ?_
 refine Dq 20 Y Y Y (.guarded ((((decide (y3.2 = 0)) && (decide ((y3.1.length : Int) = 1))) && (decide (x.Number = 9))) == true) Y Y Y Y fun h => v_eqlX tEq49 (ow Y h) (ow Y h) (.aggB (arD fun _ => Y)) (.aggB (arD fun _ => Y)) ((fkV fun _ => Y)) ((fkV fun _ => Y)) ((eqV fun _ _ => Y))) ?_
 refine Dq 21 Y Y Y (v_and (ov Y) (fun hp => ow Y (gT hp))) ?_
 refine Dq 22 Y Y Y (v_move (ov Y)) ?_
 refine Dq 23 Y Y Y (.guarded (((((decide (y3.2 = 0)) && (decide ((y3.1.length : Int) = 1))) && (decide (x.Number = 9))) && (decide (x2.Frame = y.1))) == true) Y Y Y Y fun h => v_move (ov Y)) ?_
 obtain ⟨x3, h_x3, h⟩ := bnd h
 refine Dq 24 Y Y Y (.guarded (((((decide (y3.2 = 0)) && (decide ((y3.1.length : Int) = 1))) && (decide (x.Number = 9))) && (decide (x2.Frame = y.1))) == true) Y Y Y Y fun h => v_ixSG (ow Y h) (ov Y) tL58 (gdT h_x3 h)) ?_
 refine Dq 25 Y Y Y (.guarded (((((decide (y3.2 = 0)) && (decide ((y3.1.length : Int) = 1))) && (decide (x.Number = 9))) && (decide (x2.Frame = y.1))) == true) Y Y Y Y fun h => v_fieldR (ow Y h) tF76_3) ?_
 refine Dq 26 Y Y Y (.guarded (((((decide (y3.2 = 0)) && (decide ((y3.1.length : Int) = 1))) && (decide (x.Number = 9))) && (decide (x2.Frame = y.1))) == true) Y Y Y Y fun h => v_loadS_r (ow Y h) tS4 (at_get (atc (o := 128) (ata (m := 64) (o := 64) arL (ata (m := 64) (o := 0) arL (at0 (hdc (n := 0) hd0))))))) ?_
 refine Dq 27 Y Y Y (v_and (ov Y) (fun hp => ow Y (gT hp))) ?_
 refine Dq 28 Y Y Y (v_move (ov Y)) ?_
 refine Dq 29 Y Y Y (.guarded ((((((decide (y3.2 = 0)) && (decide ((y3.1.length : Int) = 1))) && (decide (x.Number = 9))) && (decide (x2.Frame = y.1))) && x3.Sound) == true) Y Y Y Y fun h => v_move (ov Y)) ?_
 obtain ⟨x4, h_x4, h⟩ := bnd h
 refine Dq 30 Y Y Y (.guarded ((((((decide (y3.2 = 0)) && (decide ((y3.1.length : Int) = 1))) && (decide (x.Number = 9))) && (decide (x2.Frame = y.1))) && x3.Sound) == true) Y Y Y Y fun h => v_ixSG (ow Y h) (ov Y) tL58 (gdT h_x4 h)) ?_
 refine Dq 31 Y Y Y (.guarded ((((((decide (y3.2 = 0)) && (decide ((y3.1.length : Int) = 1))) && (decide (x.Number = 9))) && (decide (x2.Frame = y.1))) && x3.Sound) == true) Y Y Y Y fun h => v_fieldR (ow Y h) tF76_4) ?_
 refine Dq 32 Y Y Y (.guarded ((((((decide (y3.2 = 0)) && (decide ((y3.1.length : Int) = 1))) && (decide (x.Number = 9))) && (decide (x2.Frame = y.1))) && x3.Sound) == true) Y Y Y Y fun h => v_loadS_r (ow Y h) tS3 (at_get (atc (o := 129) (ata (m := 64) (o := 65) arL (ata (m := 64) (o := 1) arL (atc (o := 0) (at0 (hdc (n := 0) hd0)))))))) ?_
 refine Dq 33 Y Y Y (.guarded ((((((decide (y3.2 = 0)) && (decide ((y3.1.length : Int) = 1))) && (decide (x.Number = 9))) && (decide (x2.Frame = y.1))) && x3.Sound) == true) Y Y Y Y fun h => v_eql (ow Y h) (ov Y)) ?_
 refine Dq 34 Y Y Y (v_and (ov Y) (fun hp => ow Y (gT hp))) ?_
 refine Dq 35 Y Y Y (v_move (ov Y)) ?_
 refine Dq 36 Y Y Y (.guarded (((((((decide (y3.2 = 0)) && (decide ((y3.1.length : Int) = 1))) && (decide (x.Number = 9))) && (decide (x2.Frame = y.1))) && x3.Sound) && (decide (x4.Copies = 1))) == true) Y Y Y Y fun h => v_move (ov Y)) ?_
 obtain ⟨x5, h_x5, h⟩ := bnd h
 refine Dq 37 Y Y Y (.guarded (((((((decide (y3.2 = 0)) && (decide ((y3.1.length : Int) = 1))) && (decide (x.Number = 9))) && (decide (x2.Frame = y.1))) && x3.Sound) && (decide (x4.Copies = 1))) == true) Y Y Y Y fun h => v_ixSG (ow Y h) (ov Y) tL58 (gdT h_x5 h)) ?_
 refine Dq 38 Y Y Y (.guarded (((((((decide (y3.2 = 0)) && (decide ((y3.1.length : Int) = 1))) && (decide (x.Number = 9))) && (decide (x2.Frame = y.1))) && x3.Sound) && (decide (x4.Copies = 1))) == true) Y Y Y Y fun h => v_fieldR (ow Y h) tF76_2) ?_
 obtain ⟨x6, h_x6, h⟩ := bnd h
 refine Dq 39 Y Y Y (.guarded (((((((decide (y3.2 = 0)) && (decide ((y3.1.length : Int) = 1))) && (decide (x.Number = 9))) && (decide (x2.Frame = y.1))) && x3.Sound) && (decide (x4.Copies = 1))) == true) Y Y Y Y fun h => v_ixRG (ow Y h) (ov Y) tR74 (gdT h_x6 h)) ?_
 refine Dq 40 Y Y Y (.guarded (((((((decide (y3.2 = 0)) && (decide ((y3.1.length : Int) = 1))) && (decide (x.Number = 9))) && (decide (x2.Frame = y.1))) && x3.Sound) && (decide (x4.Copies = 1))) == true) Y Y Y Y fun h => v_loadS_r (ow Y h) tS3 (at_get (at_at (o := 65) (o' := ((Int.toNat 63) * 1)) (atc (o := 64) (ata (m := 64) (o := 0) arL (at0 (hdw arL)))) (at_v1 (gdT h_x6 h))))) ?_
 refine Dq 41 Y Y Y (.guarded (((((((decide (y3.2 = 0)) && (decide ((y3.1.length : Int) = 1))) && (decide (x.Number = 9))) && (decide (x2.Frame = y.1))) && x3.Sound) && (decide (x4.Copies = 1))) == true) Y Y Y Y fun h => v_eql (ow Y h) (ov Y)) ?_
 refine Dq 42 Y Y Y (v_and (ov Y) (fun hp => ow Y (gT hp))) ?_
 refine Dq 43 Y Y Y (v_assign (ov Y)) ?_
 refine D_done (by kernel_rfl) ?_
 obtain rfl := rt (v := (((((((decide (y3.2 = 0)) && (decide ((y3.1.length : Int) = 1))) && (decide (x.Number = 9))) && (decide (x2.Frame = y.1))) && x3.Sound) && (decide (x4.Copies = 1))) && (decide (x6 = 3)))) h
 refine T_ret (retq ?_ (.one (.tmp Y (Dat.view (.b Y)))))
 rfl

end Go.Proofs.YtciaeohnkfnamaaGreatDoor
