/- A text of the proof: a verified executor of the program form, or the contracts of the functions that the law reaches. -/
import Derived.Test.YtciaeohnkfnamaaGreatDoorOkZc
set_option linter.all false
namespace Go.Proofs.YtciaeohnkfnamaaGreatDoor
open Go Go.Vx
set_option maxRecDepth 10000
set_option maxHeartbeats 1000000
set_option linter.unusedVariables false
theorem ok_ref4_frameAt {h_ : List Int} {at_ : Int} {r : (Vector Int 64) × (Vector Bool 64)} (h : ref4_frameAt h_ at_ = some r) :
  CSpec Tryz.prog gl0 185 [.sl 5 (List.map R5 h_), .int .i64 at_] (.tuple [.agg (List.map C47 r.1.toList), .agg (List.map C4 r.2.toList)]) := by
 unfold ref4_frameAt at h
 replace h := bnd0 h
 refine spec_of (by kernel_rfl) Tryz.func185 Y Y ?_
 intro w0 A
 refine Tr <| Rx Y (w_alloc (row := (List.map C47 (Vector.replicate 64 0).toList)) 0 Y tZ49 Y tZ_49) <| Rx Y (w_alloc (row := (List.map C4 (Vector.replicate 64 false).toList)) 1 Y tZ224 Y tZ_224) <| R_nil <| Tr <| R_q (.agg (List.map C47 (#v[0, 0, 0, 0, 0, 0, 0, 0, 0, 0, 0, 0, 0, 0, 0, 0, 0, 0, 0, 0, 0, 0, 0, 0, 0, 0, 0, 0, 0, 0, 0, 0, 0, 0, 0, 0, 0, 0, 0, 0, 0, 0, 0, 0, 0, 0, 0, 0, 0, 0, 0, 0, 0, 0, 0, 0, 0, 0, 0, 0, 0, 0, 0, 0] : Vector Int 64).toList)) Y (v_buildA (ys := [_, _, _, _, _, _, _, _, _, _, _, _, _, _, _, _, _, _, _, _, _, _, _, _, _, _, _, _, _, _, _, _, _, _, _, _, _, _, _, _, _, _, _, _, _, _, _, _, _, _, _, _, _, _, _, _, _, _, _, _, _, _, _, _]) tR49 tZ49 (.nil) Y) <| R_q (.agg (List.map C4 (#v[false, false, false, false, false, false, false, false, false, false, false, false, false, false, false, false, false, false, false, false, false, false, false, false, false, false, false, false, false, false, false, false, false, false, false, false, false, false, false, false, false, false, false, false, false, false, false, false, false, false, false, false, false, false, false, false, false, false, false, false, false, false, false, false] : Vector Bool 64).toList)) Y (v_buildA (ys := [_, _, _, _, _, _, _, _, _, _, _, _, _, _, _, _, _, _, _, _, _, _, _, _, _, _, _, _, _, _, _, _, _, _, _, _, _, _, _, _, _, _, _, _, _, _, _, _, _, _, _, _, _, _, _, _, _, _, _, _, _, _, _, _]) tR224 tZ224 (.nil) Y) <| Rx Y (w_alloc (row := (List.map C47 (Vector.replicate 64 0).toList)) 2 Y tZ49 Y tZ_49) <| Rx Y (w_alloc (row := (List.map C4 (Vector.replicate 64 false).toList)) 3 Y tZ224 Y tZ_224) <| Rx Y (w_store (ov Y) (ov Y) (cells_agg tA49 arL) Y Y Y (put_le (at_all arL) arL) (cell1_all (arC fun _ => Y)) (put_all (Eq.trans arL (Eq.symm arL)))) <| Rx Y (w_store (ov Y) (ov Y) (cells_agg tA224 arL) Y Y Y (put_le (at_all arL) arL) (cell1_all (arC fun _ => Y)) (put_all (Eq.trans arL (Eq.symm arL)))) <| R_nil <| T_joinG id (t2 fun f whole => ⟨[(4, .ptr 0 1 0 0), (5, .ptr 1 1 0 0), (6, .ptr 2 1 0 0), (7, .ptr 3 1 0 0)], [some ⟨49, [(List.map C47 (Vector.replicate 64 0).toList)]⟩, some ⟨224, [(List.map C4 (Vector.replicate 64 false).toList)]⟩, some ⟨49, [(List.map C47 f.toList)]⟩, some ⟨224, [(List.map C4 whole.toList)]⟩]⟩) h (fun h => ?_) (fun j h => ?_)
 ·
  refine T_keep (kc 0 Y <| kc 1 Y <| kc 4 Y <| kc 5 Y <| kc 6 Y <| kc 7 Y <| kn) Y <| Tr <| Rq Y (v_move (ov Y)) <| R_nil <| T_block ?_
  obtain ⟨r1, hl1, ho1⟩ := bndL h
  refine T_loopG _ (t3 fun f2 whole2 i => ⟨[(0, .sl 5 (List.map R5 h_)), (1, .int .i64 at_), (4, .ptr 0 1 0 0), (5, .ptr 1 1 0 0), (6, .ptr 2 1 0 0), (7, .ptr 3 1 0 0), (12, .int .i64 i)], [some ⟨49, [(List.map C47 (Vector.replicate 64 0).toList)]⟩, some ⟨224, [(List.map C4 (Vector.replicate 64 false).toList)]⟩, some ⟨49, [(List.map C47 f2.toList)]⟩, some ⟨224, [(List.map C4 whole2.toList)]⟩]⟩) _ hl1 (Ent.sel [some 0, some 1, some 2, some 3] (sd 0 Y Y <| sd 1 Y Y <| sr 4 Y (.ptr _ _ _ Y) <| sr 5 Y (.ptr _ _ _ Y) <| sr 6 Y (.ptr _ _ _ Y) <| sr 7 Y (.ptr _ _ _ Y) <| sd 12 Y Y <| sn) (.cons Y (ro1 (by exact Eq.trans (b := 64) arL tZ_49.symm) (rld (arD fun _ => Y))) <| .cons Y (ro1 (by exact Eq.trans (b := 64) arL tZ_224.symm) (rld (arD fun _ => Y))) <| .cons Y (ro1 (by exact Eq.trans (b := 64) arL tZ_49.symm) (rld (arD fun _ => Y))) <| .cons Y (ro1 (by exact Eq.trans (b := 64) arL tZ_224.symm) (rld (arD fun _ => Y))) <| .nil) Y Y) (fun n1 s1 h => ?_)
  obtain ⟨f2, whole2, i⟩ := s1
  replace h := t3i h
  refine t3T ?_
  unfold ref4_frameAt_L1 at h
  refine Tr <| Rq Y (v_lss (ov Y) (ov Y)) <| R_nil <| T_seq <| T_if h Y (fun b13 h => ?_) (fun b13 h => ?_)
  ·
   refine T_skip <| T_seq <| T_block <| T_keep (kc 0 Y <| kc 1 Y <| kc 4 Y <| kc 5 Y <| kc 6 Y <| kc 7 Y <| kc 12 Y <| kn) Y <| Tr <| Rq Y (v_move (ov Y)) <| Rq Y (v_assign (ov Y)) <| R_nil <| T_keep (kc 0 Y <| kc 1 Y <| kc 4 Y <| kc 5 Y <| kc 6 Y <| kc 7 Y <| kc 8 Y <| kc 12 Y <| kn) Y <| Tr <| Rq Y (v_move (ov Y)) <| Rq Y (v_move (ov Y)) <| Rq Y (v_mul (ov Y) (ov Y) Y) <| Rq Y (v_add (ov Y) (ov Y) Y) <| Rq Y (v_assign (ov Y)) <| R_nil <| T_seq <| T_keep (kc 0 Y <| kc 1 Y <| kc 4 Y <| kc 5 Y <| kc 6 Y <| kc 7 Y <| kc 8 Y <| kc 9 Y <| kc 12 Y <| kn) Y <| Tr <| Rq Y (v_move (ov Y)) <| Rq Y (v_lss (ov Y) (ov Y)) <| Rq Y (v_move (ov Y)) <| Rq Y (.guarded ((decide ((i64 (at_ + (i64 (3 * i)))) < 0)) == false) Y Y Y Y fun h => v_move (ov Y)) <| Rq Y (.guarded ((decide ((i64 (at_ + (i64 (3 * i)))) < 0)) == false) Y Y Y Y fun h => v_add (ow Y h) (ov Y) Y) <| Rq Y (.guarded ((decide ((i64 (at_ + (i64 (3 * i)))) < 0)) == false) Y Y Y Y fun h => v_move (ov Y)) <| Rq Y (.guarded ((decide ((i64 (at_ + (i64 (3 * i)))) < 0)) == false) Y Y Y Y fun h => v_len (slv_sl (ow Y h) tZ_5) tL68 (len_map _ _)) <| Rq Y (.guarded ((decide ((i64 (at_ + (i64 (3 * i)))) < 0)) == false) Y Y Y Y fun h => v_gtr (ow Y h) (ow Y h)) <| Rq Y (v_or (ov Y) (fun hp => ow Y (gF hp))) <| R_nil <| T_keep (kc 0 Y <| kc 1 Y <| kc 4 Y <| kc 5 Y <| kc 6 Y <| kc 7 Y <| kc 8 Y <| kc 9 Y <| kc 12 Y <| kc 27 Y <| kn) Y <| T_if h Y (fun b27 h => ?_) (fun b27 h => ?_)
   ·
    refine T_exit ?_
    refine T_keep (kc 0 Y <| kc 1 Y <| kc 4 Y <| kc 5 Y <| kc 6 Y <| kc 7 Y <| kc 12 Y <| kn) Y <| T_reg <| Rq Y (v_add (ov Y) (ov Y) Y) <| Rq Y (v_move (ov Y)) <| R_nil ?_
    exact ⟨(f2, whole2, (i64 (i + 1))), h, Ent.sel [some 0, some 1, some 2, some 3] (sd 0 Y Y <| sd 1 Y Y <| sr 4 Y (.ptr _ _ _ Y) <| sr 5 Y (.ptr _ _ _ Y) <| sr 6 Y (.ptr _ _ _ Y) <| sr 7 Y (.ptr _ _ _ Y) <| sd 12 Y Y <| sn) (.cons Y (ro1 (by exact Eq.trans (b := 64) arL tZ_49.symm) (rld (arD fun _ => Y))) <| .cons Y (ro1 (by exact Eq.trans (b := 64) arL tZ_224.symm) (rld (arD fun _ => Y))) <| .cons Y (ro1 (by exact Eq.trans (b := 64) arL tZ_49.symm) (rld (arD fun _ => Y))) <| .cons Y (ro1 (by exact Eq.trans (b := 64) arL tZ_224.symm) (rld (arD fun _ => Y))) <| .nil) Y Y⟩
   ·
    refine T_skip <| T_keep (kc 0 Y <| kc 1 Y <| kc 4 Y <| kc 5 Y <| kc 6 Y <| kc 7 Y <| kc 8 Y <| kc 9 Y <| kc 12 Y <| kn) Y <| Tr <| Rq Y (v_move (ov Y)) ?_
    obtain ⟨x, h_x, h⟩ := bnd h
    refine Rq Y (v_ixAG (ov Y) (ov Y) tR224 Y Y h_x) ?_
    refine Rx Y (w_store (ov Y) (ov Y) (cells_scal tS4) Y Y Y (arB h_x) (cell1_all Y) (arS h_x)) ?_
    refine R_nil <| T_keep (kc 0 Y <| kc 1 Y <| kc 4 Y <| kc 5 Y <| kc 6 Y <| kc 7 Y <| kc 8 Y <| kc 9 Y <| kc 12 Y <| kn) Y <| T_draw (cw := md0) (by kernel_rfl) <| Dq 0 Y Y Y (v_move (ov Y)) <| Dq 1 Y Y Y (v_move (ov Y)) <| Dq 2 Y Y Y (v_move (ov Y)) ?_
    obtain ⟨x2, h_x2, h⟩ := bnd h
    refine Dq 3 Y Y Y (v_ixSG (ov Y) (ov Y) tL68 h_x2) ?_
    refine Dq 4 Y Y Y (v_loadS_r (ov Y) tS5 Y) ?_
    refine Dq 5 Y Y Y (v_conv (ov Y) tI5 tI47 Y) ?_
    refine Dq 6 Y Y Y (v_mul (ov Y) (ov Y) Y) ?_
    refine Dq 7 Y Y Y (v_move (ov Y)) ?_
    refine Dq 8 Y Y Y (v_move (ov Y)) ?_
    refine Dq 9 Y Y Y (v_add (ov Y) (ov Y) Y) ?_
    obtain ⟨x3, h_x3, h⟩ := bnd h
    refine Dq 10 Y Y Y (v_ixSG (ov Y) (ov Y) tL68 h_x3) ?_
    refine Dq 11 Y Y Y (v_loadS_r (ov Y) tS5 Y) ?_
    refine Dq 12 Y Y Y (v_conv (ov Y) tI5 tI47 Y) ?_
    refine Dq 13 Y Y Y (v_mul (ov Y) (ov Y) Y) ?_
    refine Dq 14 Y Y Y (v_add (ov Y) (ov Y) Y) ?_
    refine Dq 15 Y Y Y (v_move (ov Y)) ?_
    refine Dq 16 Y Y Y (v_move (ov Y)) ?_
    refine Dq 17 Y Y Y (v_add (ov Y) (ov Y) Y) ?_
    obtain ⟨x4, h_x4, h⟩ := bnd h
    refine Dq 18 Y Y Y (v_ixSG (ov Y) (ov Y) tL68 h_x4) ?_
    refine Dq 19 Y Y Y (v_loadS_r (ov Y) tS5 Y) ?_
    refine Dq 20 Y Y Y (v_conv (ov Y) tI5 tI47 Y) ?_
    refine Dq 21 Y Y Y (v_add (ov Y) (ov Y) Y) ?_
    obtain ⟨x5, h_x5, h⟩ := bnd h
    refine Dq 22 Y Y Y (v_ixAG (ov Y) (ov Y) tR49 Y Y h_x5) ?_
    refine Do 23 Y Y Y (w_store (ov Y) (ov Y) (cells_scal tS47) Y Y Y (arB h_x5) (cell1_all Y) (arS h_x5)) ?_
    refine D_done (by kernel_rfl) ?_
    refine T_keep (kc 0 Y <| kc 1 Y <| kc 4 Y <| kc 5 Y <| kc 6 Y <| kc 7 Y <| kc 12 Y <| kn) Y <| T_reg <| Rq Y (v_add (ov Y) (ov Y) Y) <| Rq Y (v_move (ov Y)) <| R_nil ?_
    exact ⟨((vset f2 i (u16 ((u16 ((u16 ((u16 x2) * 256)) + (u16 ((u16 x3) * 16)))) + (u16 x4)))), (vset whole2 i true), (i64 (i + 1))), h, Ent.sel [some 0, some 1, some 2, some 3] (sd 0 Y Y <| sd 1 Y Y <| sr 4 Y (.ptr _ _ _ Y) <| sr 5 Y (.ptr _ _ _ Y) <| sr 6 Y (.ptr _ _ _ Y) <| sr 7 Y (.ptr _ _ _ Y) <| sd 12 Y Y <| sn) (.cons Y (ro1 (by exact Eq.trans (b := 64) arL tZ_49.symm) (rld (arD fun _ => Y))) <| .cons Y (ro1 (by exact Eq.trans (b := 64) arL tZ_224.symm) (rld (arD fun _ => Y))) <| .cons Y (ro1 (by exact Eq.trans (b := 64) arL tZ_49.symm) (rld (arD fun _ => Y))) <| .cons Y (ro1 (by exact Eq.trans (b := 64) arL tZ_224.symm) (rld (arD fun _ => Y))) <| .nil) Y Y⟩
  ·
   refine T_exit ?_
   rw [lx h] at ho1
   replace h := ho1
   exact ⟨(f2, whole2), h, Ent.sel [some 0, some 1, some 2, some 3] (sr 4 Y (.ptr _ _ _ Y) <| sr 5 Y (.ptr _ _ _ Y) <| sr 6 Y (.ptr _ _ _ Y) <| sr 7 Y (.ptr _ _ _ Y) <| sn) (.cons Y (ro1 (by exact Eq.trans (b := 64) arL tZ_49.symm) (rld (arD fun _ => Y))) <| .cons Y (ro1 (by exact Eq.trans (b := 64) arL tZ_224.symm) (rld (arD fun _ => Y))) <| .cons Y (ro1 (by exact Eq.trans (b := 64) arL tZ_49.symm) (rld (arD fun _ => Y))) <| .cons Y (ro1 (by exact Eq.trans (b := 64) arL tZ_224.symm) (rld (arD fun _ => Y))) <| .nil) Y Y⟩
 ·
  obtain ⟨f, whole⟩ := j
  replace h := t2i h
  refine t2T ?_
  refine T_seq (T_draw (cw := md0) (by kernel_rfl) ?_)
  refine Dq 0 Y Y Y (v_loadA (ov Y) Y Y Y tA49 (at_sub (at_all arL)) arL (hns := (nsM fun _ => Y))) ?_
  refine Dw 1 2 Y Y Y Y Y Y (v_loadA (ov Y) Y Y Y tA224 (at_sub (at_all arL)) arL (hns := (nsM fun _ => Y))) (w_store (ov Y) (ov Y) (cells_agg tA49 arL) Y Y Y (put_le (at_all arL) arL) (cell1_all (arC fun _ => Y)) (put_all (Eq.trans arL (Eq.symm arL)))) ?_ ?_
  ·
   refine Do 2 Y Y Y (w_store (ov Y) (ov Y) (cells_agg tA49 arL) Y Y Y (put_le (at_all arL) arL) (cell1_all (arC fun _ => Y)) (put_all (Eq.trans arL (Eq.symm arL)))) ?_
   refine Do 3 Y Y Y (w_store (ov Y) (ov Y) (cells_agg tA224 arL) Y Y Y (put_le (at_all arL) arL) (cell1_all (arC fun _ => Y)) (put_all (Eq.trans arL (Eq.symm arL)))) ?_
   refine D_done (by kernel_rfl) ?_
   obtain rfl := rt (v := (f, whole)) h
   refine T_ret (retq ?_ (.two (.agg Y Y Y Y tA49 (at_sub (at_all arL)) arL (pwB (arD fun _ => Y)) (hns := (nsM fun _ => Y))) (.agg Y Y Y Y tA224 (at_sub (at_all arL)) arL (pwB (arD fun _ => Y)) (hns := (nsM fun _ => Y)))))
   rfl
  ·
   refine Dq 1 Y Y Y (v_loadA (ov Y) Y Y Y tA224 (at_sub (at_all arL)) arL (hns := (nsM fun _ => Y))) ?_
   refine Do 3 Y Y Y (w_store (ov Y) (ov Y) (cells_agg tA224 arL) Y Y Y (put_le (at_all arL) arL) (cell1_all (arC fun _ => Y)) (put_all (Eq.trans arL (Eq.symm arL)))) ?_
   refine D_done (by kernel_rfl) ?_
   obtain rfl := rt (v := (f, whole)) h
   refine T_ret (retq ?_ (.two (.agg Y Y Y Y tA49 (at_sub (at_all arL)) arL (pwB (arD fun _ => Y)) (hns := (nsM fun _ => Y))) (.agg Y Y Y Y tA224 (at_sub (at_all arL)) arL (pwB (arD fun _ => Y)) (hns := (nsM fun _ => Y)))))
   rfl

theorem ok_ref1_Flaws {f : Vector Int 64} {r : (List api_Flaw)} (h : ref1_Flaws f = some r) :
  CSpec Tryz.prog gl0 106 [.agg (List.map C47 f.toList)] (.sl 233 (List.map R233 r)) := by
 unfold ref1_Flaws at h
 replace h := bnd0 h
 refine spec_of (by kernel_rfl) Tryz.func106 Y Y ?_
 intro w0 A
 refine Tr <| Rq Y (v_boxD (cva (ov Y)) arL tZ_49 (arD fun _ => Y)) <| Rq Y (v_assign (ov Y)) <| R_nil <| T_keep (kc 1 Y <| kn) Y <| Tr <| Rq Y (v_assign (ov Y)) <| R_nil <| T_joinG id (t1 fun out => ⟨[(1, .rp (List.map C47 f.toList) 0), (3, .own 0 out.length)], [some ⟨233, List.map R233 out⟩]⟩) h (fun h => ?_) (fun j h => ?_)
 ·
  refine Tr <| Rq Y (v_loadA_r (ov Y) tA49 (at_sub (at_all arL)) arL) <| Rq Y (v_move (ov Y)) <| R_nil <| T_block ?_
  obtain ⟨r1, hl1, ho1⟩ := bndL h
  refine T_loopG _ (t2 fun out2 i => ⟨[(1, .rp (List.map C47 f.toList) 0), (3, .own 0 out2.length), (7, .agg (List.map C47 f.toList)), (8, .int .i64 i)], [some ⟨233, List.map R233 out2⟩]⟩) _ hl1 (Ent.sel [none] (sd 1 Y Y <| sr 3 Y (.row Y) <| sr 7 Y (rAgg (rld (arD fun _ => Y))) <| sd 8 Y Y <| sn) (.row 233 <| .nil) Y Y) (fun n1 s1 h => ?_)
  obtain ⟨out2, i⟩ := s1
  replace h := t2i h
  refine t2T ?_
  unfold ref1_Flaws_L1 at h
  refine Tr <| Rq Y (v_lss (ov Y) (ov Y)) <| R_nil <| T_seq <| T_if h Y (fun b9 h => ?_) (fun b9 h => ?_)
  ·
   refine T_skip <| T_seq <| T_block <| T_keep (kc 1 Y <| kc 3 Y <| kc 7 Y <| kc 8 Y <| kn) Y <| Tr <| Rq Y (v_move (ov Y)) ?_
   obtain ⟨x, h_x, h⟩ := bnd h
   refine Rq Y (v_indexVG (ov Y) (ov Y) tR49 tS47 h_x) ?_
   refine Rq Y (v_assign (ov Y)) ?_
   refine Rq Y (v_assign (ov Y)) ?_
   refine R_nil <| T_keep (kc 1 Y <| kc 3 Y <| kc 4 Y <| kc 5 Y <| kc 7 Y <| kc 8 Y <| kn) Y <| Tr <| Rq Y (v_move (ov Y)) <| Rq Y (v_gtr (ov Y) (ov Y)) <| R_nil <| T_keep (kc 1 Y <| kc 3 Y <| kc 4 Y <| kc 7 Y <| kc 8 Y <| kc 13 Y <| kn) Y <| T_if h Y (fun b13 h => ?_) (fun b13 h => ?_)
   ·
    refine T_keep (kc 1 Y <| kc 3 Y <| kc 4 Y <| kc 7 Y <| kc 8 Y <| kn) Y <| T_reg <| Rq Y (v_move (ov Y)) <| Rq Y (v_move (ov Y)) <| Rq Y (v_build (ys := [_, _]) tPL233 tHA233 tZ233 (.cons (cvs (ov Y) (cell1_b Y)) <| .cons (cvs (ov Y) (cell1_b Y)) <| .nil) Y) <| R_q (.sl 233 (List.map R233 ([(api_Flaw.mk i 5)] : List api_Flaw))) Y (v_lit tL156 (.cons (cva (ov Y)) Y (pwD Y) <| .nil) Y Y) ?_
    obtain ⟨l, h_l, h⟩ := bnd h
    refine Rx Y (w_appendG (ov Y) (slv_sl (ov Y) tZ_233) tL156 Y Y Y (fun _ => cell1_all Y) Y h_l) ?_
    refine Rq Y (v_assign (ov Y)) ?_
    refine R_nil <| T_keep (kc 1 Y <| kc 3 Y <| kc 7 Y <| kc 8 Y <| kn) Y <| T_reg <| Rq Y (v_add (ov Y) (ov Y) Y) <| Rq Y (v_move (ov Y)) <| R_nil ?_
    exact ⟨(l, (i64 (i + 1))), h, Ent.sel [some 0] (sd 1 Y Y <| sr 3 Y (.own _ Y) <| sr 7 Y (rAgg (rld (arD fun _ => Y))) <| sd 8 Y Y <| sn) (.cons Y (roM D233) <| .nil) Y Y⟩
   ·
    refine T_skip <| T_keep (kc 1 Y <| kc 3 Y <| kc 7 Y <| kc 8 Y <| kn) Y <| T_reg <| Rq Y (v_add (ov Y) (ov Y) Y) <| Rq Y (v_move (ov Y)) <| R_nil ?_
    exact ⟨(out2, (i64 (i + 1))), h, Ent.sel [some 0] (sd 1 Y Y <| sr 3 Y (.own _ Y) <| sr 7 Y (rAgg (rld (arD fun _ => Y))) <| sd 8 Y Y <| sn) (.cons Y (roM D233) <| .nil) Y Y⟩
  ·
   refine T_exit ?_
   rw [lx h] at ho1
   replace h := ho1
   exact ⟨out2, h, Ent.sel [some 0] (sd 1 Y Y <| sr 3 Y (.own _ Y) <| sn) (.cons Y (roM D233) <| .nil) Y Y⟩
 ·
  obtain ⟨out, rfl⟩ : ∃ x, x = j := ⟨_, rfl⟩
  replace h := t1i h
  refine t1T ?_
  refine T_seq <| Tr <| Rq Y (v_move (ov Y)) <| Rq Y (v_lenO (ov Y) Y Y tL156) <| Rq Y (v_gtr (ov Y) (ov Y)) <| R_nil <| T_keep (kc 1 Y <| kc 3 Y <| kc 22 Y <| kn) Y <| T_if h Y (fun b22 h => ?_) (fun b22 h => ?_)
  ·
   refine T_keep (kc 3 Y <| kn) Y <| Tr <| Rq Y (v_move (ov Y)) <| Rq Y (v_assign (ov Y)) <| R_nil ?_
   obtain rfl := rt (v := out) h
   refine T_ret (retq ?_ (.one (.tmp Y (View.ownM Y Y D233))))
   rfl
  ·
   refine T_skip <| T_joinG id (t1 fun out3 => ⟨[(1, .rp (List.map C47 f.toList) 0), (3, .own 0 out3.length)], [some ⟨233, List.map R233 out3⟩]⟩) h (fun h => ?_) (fun j h => ?_)
   ·
    refine T_keep (kc 1 Y <| kc 3 Y <| kn) Y <| T_seq (T_draw (cw := md0) (by kernel_rfl) ?_)
    obtain ⟨x2, h_x2, h⟩ := bnd h
    refine Dq 0 Y Y Y (v_ixRG (ov Y) (ov Y) tR49 h_x2) ?_
    refine Dq 1 Y Y Y (v_loadS_r (ov Y) tS47 (at_get (at_at (o := 0) (o' := ((Int.toNat 0) * 1)) (at_all arL) (at_v1 h_x2)))) ?_
    refine Dq 2 Y Y Y (v_conv (ov Y) tI47 tI3 Y) ?_
    refine Dq 3 Y Y Y (v_loadA_r (ov Y) tA49 (at_sub (at_all arL)) arL) ?_
    obtain ⟨y, h_y, h⟩ := bnd h
    refine Dq 4 Y Y Y (v_call (ok_ref1_numberOf h_y) (.cons (ov Y) (.aggB (arD fun _ => Y)) <| .nil)) ?_
    obtain ⟨y2, h_y2, h⟩ := bnd h
    refine Dq 5 Y Y Y (v_call (ok_ref1_syncOf h_y2) (.cons (ov Y) (.b Y) <| .nil)) ?_
    refine Dq 6 Y Y Y (v_neq (ov Y) (ov Y)) ?_
    refine D_done (by kernel_rfl) ?_
    refine T_keep (kc 1 Y <| kc 3 Y <| kc 30 Y <| kn) Y <| T_if h Y (fun b30 h => ?_) (fun b30 h => ?_)
    ·
     refine T_keep (kc 1 Y <| kc 3 Y <| kn) Y <| T_reg <| Rq Y (v_move (ov Y)) <| Rq Y (v_build (ys := [_, _]) tPL233 tHA233 tZ233 (.cons (cvs (ov Y) (cell1_b Y)) <| .cons (cvs (ov Y) (cell1_b Y)) <| .nil) Y) <| R_q (.sl 233 (List.map R233 ([(api_Flaw.mk 0 1)] : List api_Flaw))) Y (v_lit tL156 (.cons (cva (ov Y)) Y (pwD Y) <| .nil) Y Y) ?_
     obtain ⟨l2, h_l2, h⟩ := bnd h
     refine Rx Y (w_appendG (ov Y) (slv_sl (ov Y) tZ_233) tL156 Y Y Y (fun _ => cell1_all Y) Y h_l2) ?_
     refine Rq Y (v_assign (ov Y)) ?_
     refine R_nil ?_
     exact ⟨l2, h, Ent.sel [some 0] (sd 1 Y Y <| sr 3 Y (.own _ Y) <| sn) (.cons Y (roM D233) <| .nil) Y Y⟩
    ·
     refine T_skip ?_
     exact ⟨out, h, Ent.sel [some 0] (sd 1 Y Y <| sr 3 Y (.own _ Y) <| sn) (.cons Y (roM D233) <| .nil) Y Y⟩
   ·
    obtain ⟨out3, rfl⟩ : ∃ x, x = j := ⟨_, rfl⟩
    replace h := t1i h
    refine t1T ?_
    refine T_joinG id (t1 fun out4 => ⟨[(1, .rp (List.map C47 f.toList) 0), (3, .own 0 out4.length)], [some ⟨233, List.map R233 out4⟩]⟩) h (fun h => ?_) (fun j h => ?_)
    ·
     refine Tr <| Rq Y (v_assign (ov Y)) <| R_nil <| T_block ?_
     obtain ⟨r2, hl2, ho2⟩ := bndL h
     refine T_loopG _ (t2 fun out5 i2 => ⟨[(1, .rp (List.map C47 f.toList) 0), (3, .own 0 out5.length), (6, .int .i64 i2)], [some ⟨233, List.map R233 out5⟩]⟩) _ hl2 (Ent.sel [some 0] (sd 1 Y Y <| sr 3 Y (.own _ Y) <| sd 6 Y Y <| sn) (.cons Y (roM D233) <| .nil) Y Y) (fun n2 s2 h => ?_)
     obtain ⟨out5, i2⟩ := s2
     replace h := t2i h
     refine t2T ?_
     unfold ref1_Flaws_L2 at h
     refine T_seq <| Tr <| Rq Y (v_move (ov Y)) <| Rq Y (v_lss (ov Y) (ov Y)) <| R_nil <| T_keep (kc 1 Y <| kc 3 Y <| kc 6 Y <| kc 36 Y <| kn) Y <| T_if h Y (fun b36 h => ?_) (fun b36 h => ?_)
     ·
      refine T_skip <| T_seq <| T_block <| T_keep (kc 1 Y <| kc 3 Y <| kc 6 Y <| kn) Y <| Tr <| Rq Y (v_move (ov Y)) ?_
      obtain ⟨x3, h_x3, h⟩ := bnd h
      refine Rq Y (v_ixRG (ov Y) (ov Y) tR49 h_x3) ?_
      refine Rq Y (v_loadS_r (ov Y) tS47 (at_get (at_at (o := 0) (o' := (i2.toNat * 1)) (at_all arL) (at_v1 h_x3)))) ?_
      refine Rq Y (v_conv (ov Y) tI47 tI3 Y) ?_
      obtain ⟨y3, h_y3, h⟩ := bnd h
      refine Rq Y (v_call (ok_ref1_odd h_y3) (.cons (ov Y) (.b Y) <| .nil)) ?_
      refine Rq Y (v_not (ov Y)) ?_
      refine R_nil <| T_keep (kc 1 Y <| kc 3 Y <| kc 6 Y <| kc 44 Y <| kn) Y <| T_if h Y (fun b44 h => ?_) (fun b44 h => ?_)
      ·
       refine T_keep (kc 1 Y <| kc 3 Y <| kc 6 Y <| kn) Y <| T_reg <| Rq Y (v_move (ov Y)) <| Rq Y (v_move (ov Y)) <| Rq Y (v_build (ys := [_, _]) tPL233 tHA233 tZ233 (.cons (cvs (ov Y) (cell1_b Y)) <| .cons (cvs (ov Y) (cell1_b Y)) <| .nil) Y) <| R_q (.sl 233 (List.map R233 ([(api_Flaw.mk i2 2)] : List api_Flaw))) Y (v_lit tL156 (.cons (cva (ov Y)) Y (pwD Y) <| .nil) Y Y) ?_
       obtain ⟨l3, h_l3, h⟩ := bnd h
       refine Rx Y (w_appendG (ov Y) (slv_sl (ov Y) tZ_233) tL156 Y Y Y (fun _ => cell1_all Y) Y h_l3) ?_
       refine Rq Y (v_assign (ov Y)) ?_
       refine R_nil <| T_keep (kc 1 Y <| kc 3 Y <| kc 6 Y <| kn) Y <| T_reg <| Rq Y (v_move (ov Y)) <| Rq Y (v_add (ov Y) (ov Y) Y) <| Rq Y (v_assign (ov Y)) <| R_nil ?_
       exact ⟨(l3, (i64 (i2 + 1))), h, Ent.sel [some 0] (sd 1 Y Y <| sr 3 Y (.own _ Y) <| sd 6 Y Y <| sn) (.cons Y (roM D233) <| .nil) Y Y⟩
      ·
       refine T_skip <| T_keep (kc 1 Y <| kc 3 Y <| kc 6 Y <| kn) Y <| T_reg <| Rq Y (v_move (ov Y)) <| Rq Y (v_add (ov Y) (ov Y) Y) <| Rq Y (v_assign (ov Y)) <| R_nil ?_
       exact ⟨(out5, (i64 (i2 + 1))), h, Ent.sel [some 0] (sd 1 Y Y <| sr 3 Y (.own _ Y) <| sd 6 Y Y <| sn) (.cons Y (roM D233) <| .nil) Y Y⟩
     ·
      refine T_exit ?_
      rw [lx h] at ho2
      replace h := ho2
      exact ⟨out5, h, Ent.sel [some 0] (sd 1 Y Y <| sr 3 Y (.own _ Y) <| sn) (.cons Y (roM D233) <| .nil) Y Y⟩
    ·
     obtain ⟨out4, rfl⟩ : ∃ x, x = j := ⟨_, rfl⟩
     replace h := t1i h
     refine t1T ?_
     refine T_joinG id (t1 fun out6 => ⟨[(1, .rp (List.map C47 f.toList) 0), (3, .own 0 out6.length)], [some ⟨233, List.map R233 out6⟩]⟩) h (fun h => ?_) (fun j h => ?_)
     ·
      refine T_seq (T_draw (cw := md0) (by kernel_rfl) ?_)
      obtain ⟨x4, h_x4, h⟩ := bnd h
      refine Dq 0 Y Y Y (v_ixRG (ov Y) (ov Y) tR49 h_x4) ?_
      refine Dq 1 Y Y Y (v_loadS_r (ov Y) tS47 (at_get (at_at (o := 0) (o' := ((Int.toNat 61) * 1)) (at_all arL) (at_v1 h_x4)))) ?_
      refine Dq 2 Y Y Y (v_conv (ov Y) tI47 tI3 Y) ?_
      obtain ⟨q, h_q, h⟩ := bnd h
      refine Dq 3 Y Y Y (v_remG (ov Y) (ov Y) h_q) ?_
      refine Dq 4 Y Y Y (v_loadA_r (ov Y) tA49 (at_sub (at_all arL)) arL) ?_
      obtain ⟨y4, h_y4, h⟩ := bnd h
      refine Dq 5 Y Y Y (v_call (ok_ref1_sum h_y4) (.cons (ov Y) (.aggB (arD fun _ => Y)) <| .nil)) ?_
      refine Dq 6 Y Y Y (v_neq (ov Y) (ov Y)) ?_
      refine D_done (by kernel_rfl) ?_
      refine T_keep (kc 1 Y <| kc 3 Y <| kc 56 Y <| kn) Y <| T_if h Y (fun b56 h => ?_) (fun b56 h => ?_)
      ·
       refine T_keep (kc 1 Y <| kc 3 Y <| kn) Y <| T_reg <| Rq Y (v_move (ov Y)) <| Rq Y (v_build (ys := [_, _]) tPL233 tHA233 tZ233 (.cons (cvs (ov Y) (cell1_b Y)) <| .cons (cvs (ov Y) (cell1_b Y)) <| .nil) Y) <| R_q (.sl 233 (List.map R233 ([(api_Flaw.mk 61 3)] : List api_Flaw))) Y (v_lit tL156 (.cons (cva (ov Y)) Y (pwD Y) <| .nil) Y Y) ?_
       obtain ⟨l4, h_l4, h⟩ := bnd h
       refine Rx Y (w_appendG (ov Y) (slv_sl (ov Y) tZ_233) tL156 Y Y Y (fun _ => cell1_all Y) Y h_l4) ?_
       refine Rq Y (v_assign (ov Y)) ?_
       refine R_nil ?_
       exact ⟨l4, h, Ent.sel [some 0] (sd 1 Y Y <| sr 3 Y (.own _ Y) <| sn) (.cons Y (roM D233) <| .nil) Y Y⟩
      ·
       refine T_skip ?_
       exact ⟨out4, h, Ent.sel [some 0] (sd 1 Y Y <| sr 3 Y (.own _ Y) <| sn) (.cons Y (roM D233) <| .nil) Y Y⟩
     ·
      obtain ⟨out6, rfl⟩ : ∃ x, x = j := ⟨_, rfl⟩
      replace h := t1i h
      refine t1T ?_
      refine T_seq <| T_seq (T_draw (cw := md0) (by kernel_rfl) ?_)
      obtain ⟨x5, h_x5, h⟩ := bnd h
      refine Dq 0 Y Y Y (v_ixRG (ov Y) (ov Y) tR49 h_x5) ?_
      refine Dq 1 Y Y Y (v_loadS_r (ov Y) tS47 (at_get (at_at (o := 0) (o' := ((Int.toNat 62) * 1)) (at_all arL) (at_v1 h_x5)))) ?_
      refine Dq 2 Y Y Y (v_conv (ov Y) tI47 tI3 Y) ?_
      obtain ⟨q2, h_q2, h⟩ := bnd h
      refine Dq 3 Y Y Y (v_remG (ov Y) (ov Y) h_q2) ?_
      refine Dq 4 Y Y Y (v_mul (ov Y) (ov Y) Y) ?_
      obtain ⟨x6, h_x6, h⟩ := bnd h
      refine Dq 5 Y Y Y (v_ixRG (ov Y) (ov Y) tR49 h_x6) ?_
      refine Dq 6 Y Y Y (v_loadS_r (ov Y) tS47 (at_get (at_at (o := 0) (o' := ((Int.toNat 63) * 1)) (at_all arL) (at_v1 h_x6)))) ?_
      refine Dq 7 Y Y Y (v_conv (ov Y) tI47 tI3 Y) ?_
      obtain ⟨q3, h_q3, h⟩ := bnd h
      refine Dq 8 Y Y Y (v_remG (ov Y) (ov Y) h_q3) ?_
      refine Dq 9 Y Y Y (v_add (ov Y) (ov Y) Y) ?_
      refine Dq 10 Y Y Y (v_loadA_r (ov Y) tA49 (at_sub (at_all arL)) arL) ?_
      obtain ⟨y5, h_y5, h⟩ := bnd h
      refine Dq 11 Y Y Y (v_call (ok_ref1_check h_y5) (.cons (ov Y) (.aggB (arD fun _ => Y)) <| .nil)) ?_
      refine Dq 12 Y Y Y (v_neq (ov Y) (ov Y)) ?_
      refine D_done (by kernel_rfl) ?_
      refine T_keep (kc 3 Y <| kc 73 Y <| kn) Y <| T_if h Y (fun b73 h => ?_) (fun b73 h => ?_)
      ·
       refine T_keep (kc 3 Y <| kn) Y <| T_reg <| Rq Y (v_move (ov Y)) <| Rq Y (v_build (ys := [_, _]) tPL233 tHA233 tZ233 (.cons (cvs (ov Y) (cell1_b Y)) <| .cons (cvs (ov Y) (cell1_b Y)) <| .nil) Y) <| R_q (.sl 233 (List.map R233 ([(api_Flaw.mk 62 4)] : List api_Flaw))) Y (v_lit tL156 (.cons (cva (ov Y)) Y (pwD Y) <| .nil) Y Y) ?_
       obtain ⟨l5, h_l5, h⟩ := bnd h
       refine Rx Y (w_appendG (ov Y) (slv_sl (ov Y) tZ_233) tL156 Y Y Y (fun _ => cell1_all Y) Y h_l5) ?_
       refine Rq Y (v_assign (ov Y)) ?_
       refine R_nil <| T_keep (kc 3 Y <| kn) Y <| Tr <| Rq Y (v_move (ov Y)) <| Rq Y (v_assign (ov Y)) <| R_nil ?_
       obtain rfl := rt (v := l5) h
       refine T_ret (retq ?_ (.one (.tmp Y (View.ownM Y Y D233))))
       rfl
      ·
       refine T_skip <| T_keep (kc 3 Y <| kn) Y <| Tr <| Rq Y (v_move (ov Y)) <| Rq Y (v_assign (ov Y)) <| R_nil ?_
       obtain rfl := rt (v := out6) h
       refine T_ret (retq ?_ (.one (.tmp Y (View.ownM Y Y D233))))
       rfl

theorem ok_ref1_Sound {f : Vector Int 64} {r : Bool} (h : ref1_Sound f = some r) :
  CSpec Tryz.prog gl0 34 [.agg (List.map C47 f.toList)] (.bool r) := by
 unfold ref1_Sound at h
 replace h := bnd0 h
 refine spec_of (by kernel_rfl) Tryz.func34 Y Y ?_
 intro w0 A
 refine Tr <| Rq Y (v_boxD (cva (ov Y)) arL tZ_49 (arD fun _ => Y)) <| Rq Y (v_assign (ov Y)) <| R_nil <| T_keep (kc 1 Y <| kc 2 Y <| kn) Y <| Tr <| Rq Y (v_loadA_r (ov Y) tA49 (at_sub (at_all arL)) arL) ?_
 obtain ⟨y, h_y, h⟩ := bnd h
 refine Rq Y (v_call (ok_ref1_Flaws h_y) (.cons (ov Y) (.aggB (arD fun _ => Y)) <| .nil)) ?_
 refine Rq Y (v_len (slv_sl (ov Y) tZ_233) tL156 (len_map _ _)) ?_
 refine Rq Y (v_eql (ov Y) (ov Y)) ?_
 refine Rq Y (v_assign (ov Y)) ?_
 refine R_nil ?_
 obtain rfl := rt (v := (decide ((y.length : Int) = 0))) h
 refine T_ret (retq ?_ (.one (.tmp Y (Dat.view (.b Y)))))
 rfl

theorem ok_ref4_scan {h_ : List Int} {r : (List api_Found)} (h : ref4_scan h_ = some r) :
  CSpec Tryz.prog gl0 109 [.sl 5 (List.map R5 h_)] (.sl 88 (List.map R88 r)) := by
 unfold ref4_scan at h
 replace h := bnd0 h
 refine spec_of (by kernel_rfl) Tryz.func109 Y Y ?_
 intro w0 A
 refine Tr <| Rq Y (v_assign (ov Y)) <| R_nil <| T_keep (kc 0 Y <| kn) Y <| Tr <| Rq Y (v_assign (ov Y)) <| R_nil <| T_joinG id (t1 fun out => ⟨[(3, .own 0 out.length)], [some ⟨88, List.map R88 out⟩]⟩) h (fun h => ?_) (fun j h => ?_)
 ·
  refine Tr <| Rq Y (v_assign (ov Y)) <| R_nil <| T_block ?_
  obtain ⟨r1, hl1, ho1⟩ := bndL h
  refine T_loopG _ (t2 fun out2 at_ => ⟨[(0, .sl 5 (List.map R5 h_)), (3, .own 0 out2.length), (4, .int .i64 at_)], [some ⟨88, List.map R88 out2⟩]⟩) _ hl1 (Ent.sel [none] (sd 0 Y Y <| sr 3 Y (.row Y) <| sd 4 Y Y <| sn) (.row 88 <| .nil) Y Y) (fun n1 s1 h => ?_)
  obtain ⟨out2, at_⟩ := s1
  replace h := t2i h
  refine t2T ?_
  unfold ref4_scan_L1 at h
  refine T_seq <| Tr <| Rq Y (v_move (ov Y)) <| Rq Y (v_add (ov Y) (ov Y) Y) <| Rq Y (v_move (ov Y)) <| Rq Y (v_len (slv_sl (ov Y) tZ_5) tL68 (len_map _ _)) <| Rq Y (v_leq (ov Y) (ov Y)) <| R_nil <| T_keep (kc 0 Y <| kc 3 Y <| kc 4 Y <| kc 12 Y <| kn) Y <| T_if h Y (fun b12 h => ?_) (fun b12 h => ?_)
  ·
   refine T_skip <| T_joinG id (t1 fun out3 => ⟨[(0, .sl 5 (List.map R5 h_)), (3, .own 0 out3.length), (4, .int .i64 at_)], [some ⟨88, List.map R88 out3⟩]⟩) h (fun h => ?_) (fun j h => ?_)
   ·
    refine T_block <| T_keep (kc 0 Y <| kc 3 Y <| kc 4 Y <| kn) Y <| T_seq (T_draw (cw := md0) (by kernel_rfl) ?_)
    refine Dq 0 Y Y Y (v_move (ov Y)) ?_
    refine Dq 1 Y Y Y (v_move (ov Y)) ?_
    obtain ⟨x, h_x, h⟩ := bnd h
    refine Dq 2 Y Y Y (v_ixSG (ov Y) (ov Y) tL68 h_x) ?_
    refine Dq 3 Y Y Y (v_loadS_r (ov Y) tS5 Y) ?_
    refine Dq 4 Y Y Y (v_conv (ov Y) tI5 tI3 Y) ?_
    refine Dq 5 Y Y Y (v_mul (ov Y) (ov Y) Y) ?_
    refine Dq 6 Y Y Y (v_move (ov Y)) ?_
    refine Dq 7 Y Y Y (v_move (ov Y)) ?_
    refine Dq 8 Y Y Y (v_add (ov Y) (ov Y) Y) ?_
    obtain ⟨x2, h_x2, h⟩ := bnd h
    refine Dq 9 Y Y Y (v_ixSG (ov Y) (ov Y) tL68 h_x2) ?_
    refine Dq 10 Y Y Y (v_loadS_r (ov Y) tS5 Y) ?_
    refine Dq 11 Y Y Y (v_conv (ov Y) tI5 tI3 Y) ?_
    refine Dq 12 Y Y Y (v_mul (ov Y) (ov Y) Y) ?_
    refine Dq 13 Y Y Y (v_add (ov Y) (ov Y) Y) ?_
    refine Dq 14 Y Y Y (v_move (ov Y)) ?_
    refine Dq 15 Y Y Y (v_move (ov Y)) ?_
    refine Dq 16 Y Y Y (v_add (ov Y) (ov Y) Y) ?_
    obtain ⟨x3, h_x3, h⟩ := bnd h
    refine Dq 17 Y Y Y (v_ixSG (ov Y) (ov Y) tL68 h_x3) ?_
    refine Dq 18 Y Y Y (v_loadS_r (ov Y) tS5 Y) ?_
    refine Dq 19 Y Y Y (v_conv (ov Y) tI5 tI3 Y) ?_
    refine Dq 20 Y Y Y (v_add (ov Y) (ov Y) Y) ?_
    refine Dq 21 Y Y Y (v_assign (ov Y)) ?_
    refine D_done (by kernel_rfl) ?_
    refine T_seq <| T_keep (kc 0 Y <| kc 3 Y <| kc 4 Y <| kc 5 Y <| kn) Y <| Tr <| Rq Y (v_move (ov Y)) <| Rq Y (v_neq (ov Y) (ov Y)) <| Rq Y (v_move (ov Y)) <| Rq Y (.guarded ((!decide ((i64 ((i64 ((i64 ((i64 x) * 256)) + (i64 ((i64 x2) * 16)))) + (i64 x3))) = 583)) == true) Y Y Y Y fun h => v_move (ov Y)) <| Rq Y (.guarded ((!decide ((i64 ((i64 ((i64 ((i64 x) * 256)) + (i64 ((i64 x2) * 16)))) + (i64 x3))) = 583)) == true) Y Y Y Y fun h => v_neq (ow Y h) (ov Y)) <| Rq Y (v_and (ov Y) (fun hp => ow Y (gT hp))) <| Rq Y (v_move (ov Y)) <| Rq Y (.guarded (((!decide ((i64 ((i64 ((i64 ((i64 x) * 256)) + (i64 ((i64 x2) * 16)))) + (i64 x3))) = 583)) && (!decide ((i64 ((i64 ((i64 ((i64 x) * 256)) + (i64 ((i64 x2) * 16)))) + (i64 x3))) = 1464))) == true) Y Y Y Y fun h => v_move (ov Y)) <| Rq Y (.guarded (((!decide ((i64 ((i64 ((i64 ((i64 x) * 256)) + (i64 ((i64 x2) * 16)))) + (i64 x3))) = 583)) && (!decide ((i64 ((i64 ((i64 ((i64 x) * 256)) + (i64 ((i64 x2) * 16)))) + (i64 x3))) = 1464))) == true) Y Y Y Y fun h => v_neq (ow Y h) (ov Y)) <| Rq Y (v_and (ov Y) (fun hp => ow Y (gT hp))) <| Rq Y (v_move (ov Y)) <| Rq Y (.guarded ((((!decide ((i64 ((i64 ((i64 ((i64 x) * 256)) + (i64 ((i64 x2) * 16)))) + (i64 x3))) = 583)) && (!decide ((i64 ((i64 ((i64 ((i64 x) * 256)) + (i64 ((i64 x2) * 16)))) + (i64 x3))) = 1464))) && (!decide ((i64 ((i64 ((i64 ((i64 x) * 256)) + (i64 ((i64 x2) * 16)))) + (i64 x3))) = 2631))) == true) Y Y Y Y fun h => v_move (ov Y)) <| Rq Y (.guarded ((((!decide ((i64 ((i64 ((i64 ((i64 x) * 256)) + (i64 ((i64 x2) * 16)))) + (i64 x3))) = 583)) && (!decide ((i64 ((i64 ((i64 ((i64 x) * 256)) + (i64 ((i64 x2) * 16)))) + (i64 x3))) = 1464))) && (!decide ((i64 ((i64 ((i64 ((i64 x) * 256)) + (i64 ((i64 x2) * 16)))) + (i64 x3))) = 2631))) == true) Y Y Y Y fun h => v_neq (ow Y h) (ov Y)) <| Rq Y (v_and (ov Y) (fun hp => ow Y (gT hp))) <| R_nil <| T_keep (kc 0 Y <| kc 3 Y <| kc 4 Y <| kc 49 Y <| kn) Y <| T_if h Y (fun b49 h => ?_) (fun b49 h => ?_)
    ·
     refine T_exit ?_
     exact ⟨out2, h, Ent.sel [some 0] (sd 0 Y Y <| sr 3 Y (.own _ Y) <| sd 4 Y Y <| sn) (.cons Y (roM D88) <| .nil) Y Y⟩
    ·
     refine T_skip <| T_keep (kc 0 Y <| kc 3 Y <| kc 4 Y <| kn) Y <| Tr <| Rq Y (v_move (ov Y)) <| Rq Y (v_move (ov Y)) ?_
     obtain ⟨y, h_y, h⟩ := bnd h
     refine Rq Y (v_call (ok_ref4_frameAt h_y) (.cons (ov Y) (.b Y) <| .cons (ov Y) (.b Y) <| .nil)) ?_
     refine Rq Y (v_move (ov Y)) ?_
     refine Rq Y (v_extract (ov Y) Y) ?_
     refine Rq Y (v_extract (ov Y) Y) ?_
     refine Rx Y (w_alloc (row := (List.map C47 (Vector.replicate 64 0).toList)) 1 Y tZ49 Y tZ_49) ?_
     refine Rx Y (w_alloc (row := (List.map C4 (Vector.replicate 64 false).toList)) 2 Y tZ224 Y tZ_224) ?_
     refine Rx Y (w_store (ov Y) (ov Y) (cells_agg tA49 arL) Y Y Y (put_le (at_all arL) arL) (cell1_all (arC fun _ => Y)) (put_all (Eq.trans arL (Eq.symm arL)))) ?_
     refine Rx Y (w_store (ov Y) (ov Y) (cells_agg tA224 arL) Y Y Y (put_le (at_all arL) arL) (cell1_all (arC fun _ => Y)) (put_all (Eq.trans arL (Eq.symm arL)))) ?_
     refine R_nil <| T_keep (kc 0 Y <| kc 3 Y <| kc 4 Y <| kc 6 Y <| kn) Y <| Tr <| Rq Y (v_loadA (ov Y) Y Y Y tA49 (at_sub (at_all arL)) arL (hns := (nsM fun _ => Y))) ?_
     obtain ⟨y2, h_y2, h⟩ := bnd h
     refine Rq Y (v_call (ok_ref1_Sound h_y2) (.cons (ov Y) (.aggB (arD fun _ => Y)) <| .nil)) ?_
     refine R_nil <| T_keep (kc 0 Y <| kc 3 Y <| kc 4 Y <| kc 6 Y <| kc 57 Y <| kn) Y <| T_if h Y (fun b57 h => ?_) (fun b57 h => ?_)
     ·
      refine T_keep (kc 0 Y <| kc 3 Y <| kc 4 Y <| kc 6 Y <| kn) Y <| T_reg <| Rq Y (v_move (ov Y)) <| Rq Y (v_move (ov Y)) <| Rq Y (v_loadA (ov Y) Y Y Y tA49 (at_sub (at_all arL)) arL (hns := (nsM fun _ => Y))) <| Rq Y (v_buildX (zr := (.int .i64 0) :: ((List.map C47 (Vector.replicate 64 0).toList) ++ ([]))) tPL88 tHA88 tZ88 (by kernel_rfl) (.cons (cvs (ov Y) (cell1_b Y)) <| .cons (cva (ov Y)) <| .nil) (fa_cons Y Y (at0 (hdc (n := 0) hd0)) (put1) <| fa_cons Y arL (atc (o := 0) (at0 (hdw arL))) (putc (o := 0) (putw (Eq.trans arL (Eq.symm arL)))) <| fa_nil)) <| R_q (.sl 88 (List.map R88 ([(api_Found.mk at_ y.1)] : List api_Found))) Y (v_lit tL82 (.cons (cva (ov Y)) (lnC (n := 64) (lnA (m := 64) (n := 0) arL (lnN))) (pwD (alC Y (alA (arD fun _ => Y) (alN)))) <| .nil) Y Y) ?_
      obtain ⟨l, h_l, h⟩ := bnd h
      refine Rx Y (w_appendG (ov Y) (slv_sl (ov Y) tZ_88) tL82 Y Y Y (fun x => cell1_all (E88 x)) Y h_l) ?_
      refine Rq Y (v_assign (ov Y)) ?_
      refine R_nil ?_
      exact ⟨l, h, Ent.sel [some 0] (sd 0 Y Y <| sr 3 Y (.own _ Y) <| sd 4 Y Y <| sn) (.cons Y (roM D88) <| .nil) Y Y⟩
     ·
      refine T_skip ?_
      exact ⟨out2, h, Ent.sel [some 0] (sd 0 Y Y <| sr 3 Y (.own _ Y) <| sd 4 Y Y <| sn) (.cons Y (roM D88) <| .nil) Y Y⟩
   ·
    obtain ⟨out3, rfl⟩ : ∃ x, x = j := ⟨_, rfl⟩
    replace h := t1i h
    refine t1T ?_
    refine T_reg <| Rq Y (v_move (ov Y)) <| Rq Y (v_add (ov Y) (ov Y) Y) <| Rq Y (v_assign (ov Y)) <| R_nil ?_
    exact ⟨(out3, (i64 (at_ + 1))), h, Ent.sel [some 0] (sd 0 Y Y <| sr 3 Y (.own _ Y) <| sd 4 Y Y <| sn) (.cons Y (roM D88) <| .nil) Y Y⟩
  ·
   refine T_exit ?_
   rw [lx h] at ho1
   replace h := ho1
   exact ⟨out2, h, Ent.sel [some 0] (sr 3 Y (.own _ Y) <| sn) (.cons Y (roM D88) <| .nil) Y Y⟩
 ·
  obtain ⟨out, rfl⟩ : ∃ x, x = j := ⟨_, rfl⟩
  replace h := t1i h
  refine t1T ?_
  refine Tr <| Rq Y (v_move (ov Y)) <| Rq Y (v_assign (ov Y)) <| R_nil ?_
  obtain rfl := rt (v := out) h
  refine T_ret (retq ?_ (.one (.tmp Y (View.ownM Y Y D88))))
  rfl

theorem ok_ref4_Scan {p : api_Piece} {r : (List api_Found) × Int} (h : ref4_Scan p = some r) :
  CSpec Tryz.prog gl0 39 [.agg [.sl 5 (List.map R5 p.Bytes), .bool p.Half]] (.tuple [.sl 88 (List.map R88 r.1), .int .i64 r.2]) := by
 unfold ref4_Scan at h
 replace h := bnd0 h
 refine spec_of (by kernel_rfl) Tryz.func39 Y Y ?_
 intro w0 A
 refine Tr <| Rq Y (v_boxD (cva (ov Y)) Y tZ_70 Y) <| Rq Y (v_assign (ov Y)) <| Rq Y (v_assign (ov Y)) <| R_nil <| T_seq <| T_keep (kc 1 Y <| kn) Y <| Tr <| Rq Y (v_loadA_r (ov Y) tA70 Y Y) ?_
 obtain ⟨y, h_y, h⟩ := bnd h
 refine Rq Y (v_call (ok_ref4_CheckPiece h_y) (.cons (ov Y) (.aggB Y) <| .nil)) ?_
 refine Rq Y (v_assign (ov Y)) ?_
 refine R_nil <| T_keep (kc 1 Y <| kc 4 Y <| kn) Y <| Tr <| Rq Y (v_move (ov Y)) <| Rq Y (v_neq (ov Y) (ov Y)) <| R_nil <| T_keep (kc 1 Y <| kc 4 Y <| kc 8 Y <| kn) Y <| T_if h Y (fun b8 h => ?_) (fun b8 h => ?_)
 ·
  refine T_keep (kc 4 Y <| kn) Y <| Tr <| Rq Y (v_move (ov Y)) <| Rq Y (v_assign (ov Y)) <| Rq Y (v_assign (ov Y)) <| R_nil ?_
  obtain rfl := rt (v := ([], y)) h
  refine T_ret (retq ?_ (.two (.tmp Y (View.nils 88)) (.tmp Y (Dat.view (.b Y)))))
  rfl
 ·
  refine T_skip <| T_keep (kc 1 Y <| kn) Y <| Tr <| Rq Y (v_loadA_r (ov Y) tA70 Y Y) ?_
  obtain ⟨y2, h_y2, h⟩ := bnd h
  refine Rq Y (v_call (ok_ref4_Halves h_y2) (.cons (ov Y) (.aggB Y) <| .nil)) ?_
  obtain ⟨y3, h_y3, h⟩ := bnd h
  refine Rq Y (v_call (ok_ref4_scan h_y3) (.cons (ov Y) (.b Y) <| .nil)) ?_
  refine Rq Y (v_assign (ov Y)) ?_
  refine Rq Y (v_assign (ov Y)) ?_
  refine R_nil ?_
  obtain rfl := rt (v := (y3, 0)) h
  refine T_ret (retq ?_ (.two (.tmp Y (Dat.view (.b Y))) (.tmp Y (Dat.view (.b Y)))))
  rfl

theorem ok_slices_Equal_api_Found_api_Found {s1 : List api_Found} {s2 : List api_Found} {r : Bool} (h : slices_Equal_api_Found_api_Found s1 s2 = some r) :
  CSpec Tryz.prog gl0 40 [.sl 88 (List.map R88 s1), .sl 88 (List.map R88 s2)] (.bool r) := by
 unfold slices_Equal_api_Found_api_Found at h
 replace h := bnd0 h
 refine spec_of (by kernel_rfl) Tryz.func40 Y Y ?_
 intro w0 A
 refine Tr <| Rq Y (v_assign (ov Y)) <| R_nil <| T_seq <| T_keep (kc 0 Y <| kc 1 Y <| kn) Y <| Tr <| Rq Y (v_move (ov Y)) <| Rq Y (v_len (slv_sl (ov Y) tZ_88) tL82 (len_map _ _)) <| Rq Y (v_move (ov Y)) <| Rq Y (v_len (slv_sl (ov Y) tZ_88) tL82 (len_map _ _)) <| Rq Y (v_neq (ov Y) (ov Y)) <| R_nil <| T_keep (kc 0 Y <| kc 1 Y <| kc 10 Y <| kn) Y <| T_if h Y (fun b10 h => ?_) (fun b10 h => ?_)
 ·
  refine T_keep (kn) Y <| Tr <| Rq Y (v_assign (ov Y)) <| R_nil ?_
  obtain rfl := rt (v := false) h
  refine T_ret (retq ?_ (.one (.tmp Y (Dat.view (.b Y)))))
  rfl
 ·
  refine T_skip <| T_joinG (fun j => (.inr j)) (t0 ⟨[], []⟩) h (fun h => ?_) (fun j h => ?_)
  ·
   refine T_keep (kc 0 Y <| kc 1 Y <| kn) Y <| Tr <| Rq Y (v_move (ov Y)) <| Rq Y (v_len (slv_sl (ov Y) tZ_88) tL82 (len_map _ _)) <| Rq Y (v_move (ov Y)) <| R_nil <| T_block ?_
   obtain ⟨r1, hl1, ho1⟩ := bndL h
   refine T_loopG _ (t1 fun i => ⟨[(0, .sl 88 (List.map R88 s1)), (1, .sl 88 (List.map R88 s2)), (12, .int .i64 (s1.length : Int)), (13, .int .i64 i)], []⟩) _ hl1 (Ent.sel [] (sd 0 Y Y <| sd 1 Y Y <| sd 12 Y Y <| sd 13 Y Y <| sn) (.nil) Y Y) (fun n1 s1 h => ?_)
   obtain ⟨i, rfl⟩ : ∃ x, x = s1 := ⟨_, rfl⟩
   replace h := t1i h
   refine t1T ?_
   unfold slices_Equal_api_Found_api_Found_L1 at h
   refine Tr <| Rq Y (v_lss (ov Y) (ov Y)) <| R_nil <| T_seq <| T_if h Y (fun b14 h => ?_) (fun b14 h => ?_)
   ·
    refine T_skip <| T_seq <| T_block <| T_keep (kc 0 Y <| kc 1 Y <| kc 12 Y <| kc 13 Y <| kn) Y <| Tr <| Rq Y (v_move (ov Y)) <| Rq Y (v_assign (ov Y)) <| R_nil <| T_keep (kc 0 Y <| kc 1 Y <| kc 5 Y <| kc 12 Y <| kc 13 Y <| kn) Y <| T_seq (T_draw (cw := md0) (by kernel_rfl) ?_)
    refine Dq 0 Y Y Y (v_move (ov Y)) ?_
    refine Dq 1 Y Y Y (v_move (ov Y)) ?_
    obtain ⟨x, h_x, h⟩ := bnd h
    refine Dq 2 Y Y Y (v_ixSG (ov Y) (ov Y) tL82 h_x) ?_
    refine Dq 3 Y Y Y (v_loadA_r (ov Y) tA88 (at_sub (at_all (lnC (n := 64) (lnA (m := 64) (n := 0) arL (lnN))))) (lnC (n := 64) (lnA (m := 64) (n := 0) arL (lnN)))) ?_
    refine Dq 4 Y Y Y (v_move (ov Y)) ?_
    refine Dq 5 Y Y Y (v_move (ov Y)) ?_
    obtain ⟨x2, h_x2, h⟩ := bnd h
    refine Dq 6 Y Y Y (v_ixSG (ov Y) (ov Y) tL82 h_x2) ?_
    refine Dq 7 Y Y Y (v_loadA_r (ov Y) tA88 (at_sub (at_all (lnC (n := 64) (lnA (m := 64) (n := 0) arL (lnN))))) (lnC (n := 64) (lnA (m := 64) (n := 0) arL (lnN)))) ?_
    refine Dq 8 Y Y Y (v_neqX tEq88 (ov Y) (ov Y) (.aggB (alC Y (alA (arD fun _ => Y) (alN)))) (.aggB (alC Y (alA (arD fun _ => Y) (alN)))) (fkC Y (fkA (fkV fun _ => Y) (fkN))) (fkC Y (fkA (fkV fun _ => Y) (fkN))) (eqC Y (eqA (Eq.trans arL (Eq.symm arL)) (eqV fun _ _ => Y) (eqN)))) ?_
    refine D_done (by kernel_rfl) ?_
    refine T_keep (kc 0 Y <| kc 1 Y <| kc 12 Y <| kc 13 Y <| kc 24 Y <| kn) Y <| T_if h Y (fun b24 h => ?_) (fun b24 h => ?_)
    ·
     refine T_keep (kn) Y <| Tr <| Rq Y (v_assign (ov Y)) <| R_nil ?_
     rw [lx h] at ho1
     replace h := ho1
     obtain rfl := rt (v := false) h
     refine T_ret (retq ?_ (.one (.tmp Y (Dat.view (.b Y)))))
     rfl
    ·
     refine T_skip <| T_keep (kc 0 Y <| kc 1 Y <| kc 12 Y <| kc 13 Y <| kn) Y <| T_reg <| Rq Y (v_add (ov Y) (ov Y) Y) <| Rq Y (v_move (ov Y)) <| R_nil ?_
     exact ⟨(i64 (i + 1)), h, Ent.sel [] (sd 0 Y Y <| sd 1 Y Y <| sd 12 Y Y <| sd 13 Y Y <| sn) (.nil) Y Y⟩
   ·
    refine T_exit ?_
    rw [lx h] at ho1
    replace h := ho1
    exact ⟨(), h, Ent.sel [] (sn) (.nil) Y Y⟩
  ·
   replace h := elr h
   cases j
   replace h := t0i h
   refine t0T ?_
   refine Tr <| Rq Y (v_assign (ov Y)) <| R_nil ?_
   obtain rfl := rt (v := true) h
   refine T_ret (retq ?_ (.one (.tmp Y (Dat.view (.b Y)))))
   rfl

theorem ok_salvage_certain {h_ : List Int} {r : (List api_Found)} (h : salvage_certain h_ = some r) :
  CSpec Tryz.prog gl0 110 [.sl 5 (List.map R5 h_)] (.sl 88 (List.map R88 r)) := by
 unfold salvage_certain at h
 replace h := bnd0 h
 refine spec_of (by kernel_rfl) Tryz.func110 Y Y ?_
 intro w0 A
 refine Tr <| Rq Y (v_assign (ov Y)) <| R_nil <| T_keep (kc 0 Y <| kn) Y <| Tr <| Rq Y (v_move (ov Y)) ?_
 obtain ⟨y, h_y, h⟩ := bnd h
 refine Rq Y (v_call (ok_salvage_scan h_y) (.cons (ov Y) (.b Y) <| .nil)) ?_
 refine Rq Y (v_assign (ov Y)) ?_
 refine R_nil <| T_keep (kc 3 Y <| kn) Y <| Tr <| Rq Y (v_assign (ov Y)) <| R_nil <| T_joinG id (t1 fun out => ⟨[(4, .own 0 out.length)], [some ⟨88, List.map R88 out⟩]⟩) h (fun h => ?_) (fun j h => ?_)
 ·
  refine Tr <| Rq Y (v_move (ov Y)) <| Rq Y (v_len (slv_sl (ov Y) tZ_88) tL82 (len_map _ _)) <| Rq Y (v_move (ov Y)) <| R_nil <| T_block ?_
  obtain ⟨r1, hl1, ho1⟩ := bndL h
  refine T_loopG _ (t2 fun out2 i => ⟨[(3, .sl 88 (List.map R88 y)), (4, .own 0 out2.length), (9, .sl 88 (List.map R88 y)), (10, .int .i64 (y.length : Int)), (11, .int .i64 i)], [some ⟨88, List.map R88 out2⟩]⟩) _ hl1 (Ent.sel [none] (sd 3 Y Y <| sr 4 Y (.row Y) <| sd 9 Y Y <| sd 10 Y Y <| sd 11 Y Y <| sn) (.row 88 <| .nil) Y Y) (fun n1 s1 h => ?_)
  obtain ⟨out2, i⟩ := s1
  replace h := t2i h
  refine t2T ?_
  unfold salvage_certain_L1 at h
  refine Tr <| Rq Y (v_lss (ov Y) (ov Y)) <| R_nil <| T_seq <| T_if h Y (fun b12 h => ?_) (fun b12 h => ?_)
  ·
   refine T_skip <| T_seq <| T_block <| T_keep (kc 3 Y <| kc 4 Y <| kc 9 Y <| kc 10 Y <| kc 11 Y <| kn) Y <| Tr <| Rq Y (v_move (ov Y)) ?_
   obtain ⟨x, h_x, h⟩ := bnd h
   refine Rq Y (v_ixSG (ov Y) (ov Y) tL82 h_x) ?_
   refine Rq Y (v_loadA_r (ov Y) tA88 (at_sub (at_all (lnC (n := 64) (lnA (m := 64) (n := 0) arL (lnN))))) (lnC (n := 64) (lnA (m := 64) (n := 0) arL (lnN)))) ?_
   refine Rx Y (w_alloc (row := (.int .i64 0) :: ((List.map C47 (Vector.replicate 64 0).toList) ++ ([]))) 1 Y tZ88 (by kernel_rfl) (by exact Eq.symm (Eq.trans (b := 65) (lnC (n := 64) (lnA (m := 64) (n := 0) arL (lnN))) tZ_88.symm))) ?_
   refine Rq Y (v_assign (ov Y)) ?_
   refine Rx Y (w_store (ov Y) (ov Y) (cells_agg tA88 (lnC (n := 64) (lnA (m := 64) (n := 0) arL (lnN)))) Y Y Y (put_le (at_all (lnC (n := 64) (lnA (m := 64) (n := 0) arL (lnN)))) (lnC (n := 64) (lnA (m := 64) (n := 0) arL (lnN)))) (cell1_all (alC Y (alA (arC fun _ => Y) (alN)))) (put_all (Eq.trans (lnC (n := 64) (lnA (m := 64) (n := 0) arL (lnN))) (Eq.symm (lnC (n := 64) (lnA (m := 64) (n := 0) arL (lnN))))))) ?_
   refine R_nil <| T_keep (kc 3 Y <| kc 4 Y <| kc 5 Y <| kc 6 Y <| kc 9 Y <| kc 10 Y <| kc 11 Y <| kn) Y <| T_seq (T_draw (cw := md0) (by kernel_rfl) ?_)
   refine Dq 0 Y Y Y (v_move (ov Y)) ?_
   refine Dq 1 Y Y Y (v_eql (ov Y) (ov Y)) ?_
   refine Dq 2 Y Y Y (v_move (ov Y)) ?_
   refine Dq 3 Y Y Y (.guarded ((decide (i = 0)) == false) Y Y Y Y fun h => v_fieldP (ov Y) Y Y tF88_0) ?_
   refine Dq 4 Y Y Y (.guarded ((decide (i = 0)) == false) Y Y Y Y fun h => v_loadS (ow Y h) Y Y Y tS3 (at_get (at0 (hdc (n := 0) hd0)))) ?_
   refine Dq 5 Y Y Y (.guarded ((decide (i = 0)) == false) Y Y Y Y fun h => v_move (ov Y)) ?_
   refine Dq 6 Y Y Y (.guarded ((decide (i = 0)) == false) Y Y Y Y fun h => v_move (ov Y)) ?_
   refine Dq 7 Y Y Y (.guarded ((decide (i = 0)) == false) Y Y Y Y fun h => v_sub (ow Y h) (ov Y) Y) ?_
   obtain ⟨x2, h_x2, h⟩ := bnd h
   refine Dq 8 Y Y Y (.guarded ((decide (i = 0)) == false) Y Y Y Y fun h => v_ixSG (ow Y h) (ow Y h) tL82 (gdT h_x2 h)) ?_
   refine Dq 9 Y Y Y (.guarded ((decide (i = 0)) == false) Y Y Y Y fun h => v_fieldR (ow Y h) tF88_0) ?_
   refine Dq 10 Y Y Y (.guarded ((decide (i = 0)) == false) Y Y Y Y fun h => v_loadS_r (ow Y h) tS3 (at_get (at0 (hdc (n := 0) hd0)))) ?_
   refine Dq 11 Y Y Y (.guarded ((decide (i = 0)) == false) Y Y Y Y fun h => v_sub (ow Y h) (ow Y h) Y) ?_
   refine Dq 12 Y Y Y (.guarded ((decide (i = 0)) == false) Y Y Y Y fun h => v_geq (ow Y h) (ov Y)) ?_
   refine Dq 13 Y Y Y (v_or (ov Y) (fun hp => ow Y (gF hp))) ?_
   refine Dq 14 Y Y Y (v_move (ov Y)) ?_
   refine Dq 15 Y Y Y (.guarded (((decide (i = 0)) || (decide (192 ≤ (i64 (x.At - x2.At))))) == true) Y Y Y Y fun h => v_move (ov Y)) ?_
   refine Dq 16 Y Y Y (.guarded (((decide (i = 0)) || (decide (192 ≤ (i64 (x.At - x2.At))))) == true) Y Y Y Y fun h => v_move (ov Y)) ?_
   refine Dq 17 Y Y Y (.guarded (((decide (i = 0)) || (decide (192 ≤ (i64 (x.At - x2.At))))) == true) Y Y Y Y fun h => v_len (slv_sl (ow Y h) tZ_88) tL82 (len_map _ _)) ?_
   refine Dq 18 Y Y Y (.guarded (((decide (i = 0)) || (decide (192 ≤ (i64 (x.At - x2.At))))) == true) Y Y Y Y fun h => v_sub (ow Y h) (ov Y) Y) ?_
   refine Dq 19 Y Y Y (.guarded (((decide (i = 0)) || (decide (192 ≤ (i64 (x.At - x2.At))))) == true) Y Y Y Y fun h => v_eql (ow Y h) (ow Y h)) ?_
   refine Dq 20 Y Y Y (.guarded (((decide (i = 0)) || (decide (192 ≤ (i64 (x.At - x2.At))))) == true) Y Y Y Y fun h => v_move (ow Y h)) ?_
   refine Dq 21 Y Y Y (.guarded2 ((((decide (i = 0)) || (decide (192 ≤ (i64 (x.At - x2.At))))) == true) && ((decide (i = (i64 ((y.length : Int) - 1)))) == false)) Y Y Y Y fun h => v_move (ov Y)) ?_
   refine Dq 22 Y Y Y (.guarded2 ((((decide (i = 0)) || (decide (192 ≤ (i64 (x.At - x2.At))))) == true) && ((decide (i = (i64 ((y.length : Int) - 1)))) == false)) Y Y Y Y fun h => v_move (ov Y)) ?_
   refine Dq 23 Y Y Y (.guarded2 ((((decide (i = 0)) || (decide (192 ≤ (i64 (x.At - x2.At))))) == true) && ((decide (i = (i64 ((y.length : Int) - 1)))) == false)) Y Y Y Y fun h => v_add (ow Y h) (ov Y) Y) ?_
   obtain ⟨x3, h_x3, h⟩ := bnd h
   refine Dq 24 Y Y Y (.guarded2 ((((decide (i = 0)) || (decide (192 ≤ (i64 (x.At - x2.At))))) == true) && ((decide (i = (i64 ((y.length : Int) - 1)))) == false)) Y Y Y Y fun h => v_ixSG (ow Y h) (ow Y h) tL82 (gdT h_x3 h)) ?_
   refine Dq 25 Y Y Y (.guarded2 ((((decide (i = 0)) || (decide (192 ≤ (i64 (x.At - x2.At))))) == true) && ((decide (i = (i64 ((y.length : Int) - 1)))) == false)) Y Y Y Y fun h => v_fieldR (ow Y h) tF88_0) ?_
   refine Dq 26 Y Y Y (.guarded2 ((((decide (i = 0)) || (decide (192 ≤ (i64 (x.At - x2.At))))) == true) && ((decide (i = (i64 ((y.length : Int) - 1)))) == false)) Y Y Y Y fun h => v_loadS_r (ow Y h) tS3 (at_get (at0 (hdc (n := 0) hd0)))) ?_
   refine Dq 27 Y Y Y (.guarded2 ((((decide (i = 0)) || (decide (192 ≤ (i64 (x.At - x2.At))))) == true) && ((decide (i = (i64 ((y.length : Int) - 1)))) == false)) Y Y Y Y fun h => v_fieldP (ov Y) Y Y tF88_0) ?_
   refine Dq 28 Y Y Y (.guarded2 ((((decide (i = 0)) || (decide (192 ≤ (i64 (x.At - x2.At))))) == true) && ((decide (i = (i64 ((y.length : Int) - 1)))) == false)) Y Y Y Y fun h => v_loadS (ow Y h) Y Y Y tS3 (at_get (at0 (hdc (n := 0) hd0)))) ?_
   refine Dq 29 Y Y Y (.guarded2 ((((decide (i = 0)) || (decide (192 ≤ (i64 (x.At - x2.At))))) == true) && ((decide (i = (i64 ((y.length : Int) - 1)))) == false)) Y Y Y Y fun h => v_sub (ow Y h) (ow Y h) Y) ?_
   refine Dq 30 Y Y Y (.guarded2 ((((decide (i = 0)) || (decide (192 ≤ (i64 (x.At - x2.At))))) == true) && ((decide (i = (i64 ((y.length : Int) - 1)))) == false)) Y Y Y Y fun h => v_geq (ow Y h) (ov Y)) ?_
   refine Dq 31 Y Y Y (.guarded (((decide (i = 0)) || (decide (192 ≤ (i64 (x.At - x2.At))))) == true) Y Y Y Y fun h => v_or (ow Y h) (fun hp => ow Y (gA h (gF hp)))) ?_
   refine Dq 32 Y Y Y (v_and (ov Y) (fun hp => ow Y (gT hp))) ?_
   refine D_done (by kernel_rfl) ?_
   refine T_keep (kc 3 Y <| kc 4 Y <| kc 6 Y <| kc 9 Y <| kc 10 Y <| kc 11 Y <| kc 48 Y <| kn) Y <| T_if h Y (fun b48 h => ?_) (fun b48 h => ?_)
   ·
    refine T_keep (kc 3 Y <| kc 4 Y <| kc 6 Y <| kc 9 Y <| kc 10 Y <| kc 11 Y <| kn) Y <| T_reg <| Rq Y (v_move (ov Y)) <| Rq Y (v_loadA (ov Y) Y Y Y tA88 (at_sub (at_all (lnC (n := 64) (lnA (m := 64) (n := 0) arL (lnN))))) (lnC (n := 64) (lnA (m := 64) (n := 0) arL (lnN))) (hns := nsC Y (nsA (nsM fun _ => Y) (nsR Y)))) <| R_q (.sl 88 (List.map R88 ([x] : List api_Found))) Y (v_lit tL82 (.cons (cva (ov Y)) (lnC (n := 64) (lnA (m := 64) (n := 0) arL (lnN))) (pwD (alC Y (alA (arD fun _ => Y) (alN)))) <| .nil) Y Y) ?_
    obtain ⟨l, h_l, h⟩ := bnd h
    refine Rx Y (w_appendG (ov Y) (slv_sl (ov Y) tZ_88) tL82 Y Y Y (fun x => cell1_all (E88 x)) Y h_l) ?_
    refine Rq Y (v_assign (ov Y)) ?_
    refine R_nil <| T_keep (kc 3 Y <| kc 4 Y <| kc 9 Y <| kc 10 Y <| kc 11 Y <| kn) Y <| T_reg <| Rq Y (v_add (ov Y) (ov Y) Y) <| Rq Y (v_move (ov Y)) <| R_nil ?_
    exact ⟨(l, (i64 (i + 1))), h, Ent.sel [some 0] (sd 3 Y Y <| sr 4 Y (.own _ Y) <| sd 9 Y Y <| sd 10 Y Y <| sd 11 Y Y <| sn) (.cons Y (roM D88) <| .nil) Y Y⟩
   ·
    refine T_skip <| T_keep (kc 3 Y <| kc 4 Y <| kc 9 Y <| kc 10 Y <| kc 11 Y <| kn) Y <| T_reg <| Rq Y (v_add (ov Y) (ov Y) Y) <| Rq Y (v_move (ov Y)) <| R_nil ?_
    exact ⟨(out2, (i64 (i + 1))), h, Ent.sel [some 0] (sd 3 Y Y <| sr 4 Y (.own _ Y) <| sd 9 Y Y <| sd 10 Y Y <| sd 11 Y Y <| sn) (.cons Y (roM D88) <| .nil) Y Y⟩
  ·
   refine T_exit ?_
   rw [lx h] at ho1
   replace h := ho1
   exact ⟨out2, h, Ent.sel [some 0] (sr 4 Y (.own _ Y) <| sn) (.cons Y (roM D88) <| .nil) Y Y⟩
 ·
  obtain ⟨out, rfl⟩ : ∃ x, x = j := ⟨_, rfl⟩
  replace h := t1i h
  refine t1T ?_
  refine Tr <| Rq Y (v_move (ov Y)) <| Rq Y (v_assign (ov Y)) <| R_nil ?_
  obtain rfl := rt (v := out) h
  refine T_ret (retq ?_ (.one (.tmp Y (View.ownM Y Y D88))))
  rfl

theorem ok_salvage_Certain {p : api_Piece} {r : (List api_Found) × Int} (h : salvage_Certain p = some r) :
  CSpec Tryz.prog gl0 41 [.agg [.sl 5 (List.map R5 p.Bytes), .bool p.Half]] (.tuple [.sl 88 (List.map R88 r.1), .int .i64 r.2]) := by
 unfold salvage_Certain at h
 replace h := bnd0 h
 refine spec_of (by kernel_rfl) Tryz.func41 Y Y ?_
 intro w0 A
 refine Tr <| Rq Y (v_boxD (cva (ov Y)) Y tZ_70 Y) <| Rq Y (v_assign (ov Y)) <| Rq Y (v_assign (ov Y)) <| R_nil <| T_seq <| T_keep (kc 1 Y <| kn) Y <| Tr <| Rq Y (v_loadA_r (ov Y) tA70 Y Y) ?_
 obtain ⟨y, h_y, h⟩ := bnd h
 refine Rq Y (v_call (ok_salvage_CheckPiece h_y) (.cons (ov Y) (.aggB Y) <| .nil)) ?_
 refine Rq Y (v_assign (ov Y)) ?_
 refine R_nil <| T_keep (kc 1 Y <| kc 4 Y <| kn) Y <| Tr <| Rq Y (v_move (ov Y)) <| Rq Y (v_neq (ov Y) (ov Y)) <| R_nil <| T_keep (kc 1 Y <| kc 4 Y <| kc 8 Y <| kn) Y <| T_if h Y (fun b8 h => ?_) (fun b8 h => ?_)
 ·
  refine T_keep (kc 4 Y <| kn) Y <| Tr <| Rq Y (v_move (ov Y)) <| Rq Y (v_assign (ov Y)) <| Rq Y (v_assign (ov Y)) <| R_nil ?_
  obtain rfl := rt (v := ([], y)) h
  refine T_ret (retq ?_ (.two (.tmp Y (View.nils 88)) (.tmp Y (Dat.view (.b Y)))))
  rfl
 ·
  refine T_skip <| T_keep (kc 1 Y <| kn) Y <| Tr <| Rq Y (v_loadA_r (ov Y) tA70 Y Y) ?_
  obtain ⟨y2, h_y2, h⟩ := bnd h
  refine Rq Y (v_call (ok_salvage_halves h_y2) (.cons (ov Y) (.aggB Y) <| .nil)) ?_
  obtain ⟨y3, h_y3, h⟩ := bnd h
  refine Rq Y (v_call (ok_salvage_certain h_y3) (.cons (ov Y) (.b Y) <| .nil)) ?_
  refine Rq Y (v_assign (ov Y)) ?_
  refine Rq Y (v_assign (ov Y)) ?_
  refine R_nil ?_
  obtain rfl := rt (v := (y3, 0)) h
  refine T_ret (retq ?_ (.two (.tmp Y (Dat.view (.b Y))) (.tmp Y (Dat.view (.b Y)))))
  rfl

theorem ok_ref4_apart {a : Int} {b : Int} {r : Int} (h : ref4_apart a b = some r) :
  CSpec Tryz.prog gl0 184 [.int .i64 a, .int .i64 b] (.int .i64 r) := by
 unfold ref4_apart at h
 replace h := bnd0 h
 refine spec_of (by kernel_rfl) Tryz.func184 Y Y ?_
 intro w0 A
 refine Tr <| Rq Y (v_assign (ov Y)) <| R_nil <| T_seq <| T_keep (kc 0 Y <| kc 1 Y <| kn) Y <| Tr <| Rq Y (v_move (ov Y)) <| Rq Y (v_move (ov Y)) <| Rq Y (v_lss (ov Y) (ov Y)) <| R_nil <| T_keep (kc 0 Y <| kc 1 Y <| kc 7 Y <| kn) Y <| T_if h Y (fun b7 h => ?_) (fun b7 h => ?_)
 ·
  refine T_keep (kc 0 Y <| kc 1 Y <| kn) Y <| Tr <| Rq Y (v_move (ov Y)) <| Rq Y (v_move (ov Y)) <| Rq Y (v_sub (ov Y) (ov Y) Y) <| Rq Y (v_assign (ov Y)) <| R_nil ?_
  obtain rfl := rt (v := (i64 (b - a))) h
  refine T_ret (retq ?_ (.one (.tmp Y (Dat.view (.b Y)))))
  rfl
 ·
  refine T_skip <| T_keep (kc 0 Y <| kc 1 Y <| kn) Y <| Tr <| Rq Y (v_move (ov Y)) <| Rq Y (v_move (ov Y)) <| Rq Y (v_sub (ov Y) (ov Y) Y) <| Rq Y (v_assign (ov Y)) <| R_nil ?_
  obtain rfl := rt (v := (i64 (a - b))) h
  refine T_ret (retq ?_ (.one (.tmp Y (Dat.view (.b Y)))))
  rfl

theorem ok_ref4_certain {l : List api_Found} {r : (List api_Found)} (h : ref4_certain l = some r) :
  CSpec Tryz.prog gl0 111 [.sl 88 (List.map R88 l)] (.sl 88 (List.map R88 r)) := by
 unfold ref4_certain at h
 replace h := bnd0 h
 refine spec_of (by kernel_rfl) Tryz.func111 Y Y ?_
 intro w0 A
 refine Tr <| Rq Y (v_assign (ov Y)) <| R_nil <| T_keep (kc 0 Y <| kn) Y <| Tr <| Rq Y (v_assign (ov Y)) <| R_nil <| T_joinG id (t1 fun out => ⟨[(3, .own 0 out.length)], [some ⟨88, List.map R88 out⟩]⟩) h (fun h => ?_) (fun j h => ?_)
 ·
  refine Tr <| Rq Y (v_move (ov Y)) <| Rq Y (v_len (slv_sl (ov Y) tZ_88) tL82 (len_map _ _)) <| Rq Y (v_move (ov Y)) <| R_nil <| T_block ?_
  obtain ⟨r1, hl1, ho1⟩ := bndL h
  refine T_loopG _ (t2 fun out2 i => ⟨[(0, .sl 88 (List.map R88 l)), (3, .own 0 out2.length), (7, .sl 88 (List.map R88 l)), (8, .int .i64 (l.length : Int)), (9, .int .i64 i)], [some ⟨88, List.map R88 out2⟩]⟩) _ hl1 (Ent.sel [none] (sd 0 Y Y <| sr 3 Y (.row Y) <| sd 7 Y Y <| sd 8 Y Y <| sd 9 Y Y <| sn) (.row 88 <| .nil) Y Y) (fun n1 s1 h => ?_)
  obtain ⟨out2, i⟩ := s1
  replace h := t2i h
  refine t2T ?_
  unfold ref4_certain_L1 at h
  refine Tr <| Rq Y (v_lss (ov Y) (ov Y)) <| R_nil <| T_seq <| T_if h Y (fun b10 h => ?_) (fun b10 h => ?_)
  ·
   refine T_skip <| T_seq <| T_block <| T_keep (kc 0 Y <| kc 3 Y <| kc 7 Y <| kc 8 Y <| kc 9 Y <| kn) Y <| Tr <| Rq Y (v_move (ov Y)) ?_
   obtain ⟨x, h_x, h⟩ := bnd h
   refine Rq Y (v_ixSG (ov Y) (ov Y) tL82 h_x) ?_
   refine Rq Y (v_loadA_r (ov Y) tA88 (at_sub (at_all (lnC (n := 64) (lnA (m := 64) (n := 0) arL (lnN))))) (lnC (n := 64) (lnA (m := 64) (n := 0) arL (lnN)))) ?_
   refine Rx Y (w_alloc (row := (.int .i64 0) :: ((List.map C47 (Vector.replicate 64 0).toList) ++ ([]))) 1 Y tZ88 (by kernel_rfl) (by exact Eq.symm (Eq.trans (b := 65) (lnC (n := 64) (lnA (m := 64) (n := 0) arL (lnN))) tZ_88.symm))) ?_
   refine Rq Y (v_assign (ov Y)) ?_
   refine Rx Y (w_store (ov Y) (ov Y) (cells_agg tA88 (lnC (n := 64) (lnA (m := 64) (n := 0) arL (lnN)))) Y Y Y (put_le (at_all (lnC (n := 64) (lnA (m := 64) (n := 0) arL (lnN)))) (lnC (n := 64) (lnA (m := 64) (n := 0) arL (lnN)))) (cell1_all (alC Y (alA (arC fun _ => Y) (alN)))) (put_all (Eq.trans (lnC (n := 64) (lnA (m := 64) (n := 0) arL (lnN))) (Eq.symm (lnC (n := 64) (lnA (m := 64) (n := 0) arL (lnN))))))) ?_
   refine R_nil <| T_keep (kc 0 Y <| kc 3 Y <| kc 4 Y <| kc 5 Y <| kc 7 Y <| kc 8 Y <| kc 9 Y <| kn) Y <| T_seq (T_draw (cw := md0) (by kernel_rfl) ?_)
   refine Dq 0 Y Y Y (v_move (ov Y)) ?_
   refine Dq 1 Y Y Y (v_eql (ov Y) (ov Y)) ?_
   refine Dq 2 Y Y Y (v_move (ov Y)) ?_
   refine Dq 3 Y Y Y (.guarded ((decide (i = 0)) == false) Y Y Y Y fun h => v_move (ov Y)) ?_
   refine Dq 4 Y Y Y (.guarded ((decide (i = 0)) == false) Y Y Y Y fun h => v_move (ov Y)) ?_
   refine Dq 5 Y Y Y (.guarded ((decide (i = 0)) == false) Y Y Y Y fun h => v_sub (ow Y h) (ov Y) Y) ?_
   obtain ⟨x2, h_x2, h⟩ := bnd h
   refine Dq 6 Y Y Y (.guarded ((decide (i = 0)) == false) Y Y Y Y fun h => v_ixSG (ow Y h) (ow Y h) tL82 (gdT h_x2 h)) ?_
   refine Dq 7 Y Y Y (.guarded ((decide (i = 0)) == false) Y Y Y Y fun h => v_fieldR (ow Y h) tF88_0) ?_
   refine Dq 8 Y Y Y (.guarded ((decide (i = 0)) == false) Y Y Y Y fun h => v_loadS_r (ow Y h) tS3 (at_get (at0 (hdc (n := 0) hd0)))) ?_
   refine Dq 9 Y Y Y (.guarded ((decide (i = 0)) == false) Y Y Y Y fun h => v_fieldP (ov Y) Y Y tF88_0) ?_
   refine Dq 10 Y Y Y (.guarded ((decide (i = 0)) == false) Y Y Y Y fun h => v_loadS (ow Y h) Y Y Y tS3 (at_get (at0 (hdc (n := 0) hd0)))) ?_
   obtain ⟨y, h_y, h⟩ := bnd h
   refine Dq 11 Y Y Y (.guarded ((decide (i = 0)) == false) Y Y Y Y fun h => v_call (ok_ref4_apart (gdT h_y h)) (.cons (ow Y h) (.b Y) <| .cons (ow Y h) (.b Y) <| .nil)) ?_
   refine Dq 12 Y Y Y (.guarded ((decide (i = 0)) == false) Y Y Y Y fun h => v_geq (ow Y h) (ov Y)) ?_
   refine Dq 13 Y Y Y (v_or (ov Y) (fun hp => ow Y (gF hp))) ?_
   refine Dq 14 Y Y Y (v_move (ov Y)) ?_
   refine Dq 15 Y Y Y (.guarded (((decide (i = 0)) || (decide (192 ≤ y))) == true) Y Y Y Y fun h => v_move (ov Y)) ?_
   refine Dq 16 Y Y Y (.guarded (((decide (i = 0)) || (decide (192 ≤ y))) == true) Y Y Y Y fun h => v_add (ow Y h) (ov Y) Y) ?_
   refine Dq 17 Y Y Y (.guarded (((decide (i = 0)) || (decide (192 ≤ y))) == true) Y Y Y Y fun h => v_move (ov Y)) ?_
   refine Dq 18 Y Y Y (.guarded (((decide (i = 0)) || (decide (192 ≤ y))) == true) Y Y Y Y fun h => v_len (slv_sl (ow Y h) tZ_88) tL82 (len_map _ _)) ?_
   refine Dq 19 Y Y Y (.guarded (((decide (i = 0)) || (decide (192 ≤ y))) == true) Y Y Y Y fun h => v_eql (ow Y h) (ow Y h)) ?_
   refine Dq 20 Y Y Y (.guarded (((decide (i = 0)) || (decide (192 ≤ y))) == true) Y Y Y Y fun h => v_move (ow Y h)) ?_
   refine Dq 21 Y Y Y (.guarded2 ((((decide (i = 0)) || (decide (192 ≤ y))) == true) && ((decide ((i64 (i + 1)) = (l.length : Int))) == false)) Y Y Y Y fun h => v_move (ov Y)) ?_
   refine Dq 22 Y Y Y (.guarded2 ((((decide (i = 0)) || (decide (192 ≤ y))) == true) && ((decide ((i64 (i + 1)) = (l.length : Int))) == false)) Y Y Y Y fun h => v_move (ov Y)) ?_
   refine Dq 23 Y Y Y (.guarded2 ((((decide (i = 0)) || (decide (192 ≤ y))) == true) && ((decide ((i64 (i + 1)) = (l.length : Int))) == false)) Y Y Y Y fun h => v_add (ow Y h) (ov Y) Y) ?_
   obtain ⟨x3, h_x3, h⟩ := bnd h
   refine Dq 24 Y Y Y (.guarded2 ((((decide (i = 0)) || (decide (192 ≤ y))) == true) && ((decide ((i64 (i + 1)) = (l.length : Int))) == false)) Y Y Y Y fun h => v_ixSG (ow Y h) (ow Y h) tL82 (gdT h_x3 h)) ?_
   refine Dq 25 Y Y Y (.guarded2 ((((decide (i = 0)) || (decide (192 ≤ y))) == true) && ((decide ((i64 (i + 1)) = (l.length : Int))) == false)) Y Y Y Y fun h => v_fieldR (ow Y h) tF88_0) ?_
   refine Dq 26 Y Y Y (.guarded2 ((((decide (i = 0)) || (decide (192 ≤ y))) == true) && ((decide ((i64 (i + 1)) = (l.length : Int))) == false)) Y Y Y Y fun h => v_loadS_r (ow Y h) tS3 (at_get (at0 (hdc (n := 0) hd0)))) ?_
   refine Dq 27 Y Y Y (.guarded2 ((((decide (i = 0)) || (decide (192 ≤ y))) == true) && ((decide ((i64 (i + 1)) = (l.length : Int))) == false)) Y Y Y Y fun h => v_fieldP (ov Y) Y Y tF88_0) ?_
   refine Dq 28 Y Y Y (.guarded2 ((((decide (i = 0)) || (decide (192 ≤ y))) == true) && ((decide ((i64 (i + 1)) = (l.length : Int))) == false)) Y Y Y Y fun h => v_loadS (ow Y h) Y Y Y tS3 (at_get (at0 (hdc (n := 0) hd0)))) ?_
   obtain ⟨y2, h_y2, h⟩ := bnd h
   refine Dq 29 Y Y Y (.guarded2 ((((decide (i = 0)) || (decide (192 ≤ y))) == true) && ((decide ((i64 (i + 1)) = (l.length : Int))) == false)) Y Y Y Y fun h => v_call (ok_ref4_apart (gdT h_y2 h)) (.cons (ow Y h) (.b Y) <| .cons (ow Y h) (.b Y) <| .nil)) ?_
   refine Dq 30 Y Y Y (.guarded2 ((((decide (i = 0)) || (decide (192 ≤ y))) == true) && ((decide ((i64 (i + 1)) = (l.length : Int))) == false)) Y Y Y Y fun h => v_geq (ow Y h) (ov Y)) ?_
   refine Dq 31 Y Y Y (.guarded (((decide (i = 0)) || (decide (192 ≤ y))) == true) Y Y Y Y fun h => v_or (ow Y h) (fun hp => ow Y (gA h (gF hp)))) ?_
   refine Dq 32 Y Y Y (v_and (ov Y) (fun hp => ow Y (gT hp))) ?_
   refine Dq 33 Y Y Y (v_assign (ov Y)) ?_
   refine D_done (by kernel_rfl) ?_
   refine T_keep (kc 0 Y <| kc 3 Y <| kc 5 Y <| kc 6 Y <| kc 7 Y <| kc 8 Y <| kc 9 Y <| kn) Y <| Tr <| Rq Y (v_move (ov Y)) <| R_nil <| T_keep (kc 0 Y <| kc 3 Y <| kc 5 Y <| kc 7 Y <| kc 8 Y <| kc 9 Y <| kc 47 Y <| kn) Y <| T_if h Y (fun b47 h => ?_) (fun b47 h => ?_)
   ·
    refine T_keep (kc 0 Y <| kc 3 Y <| kc 5 Y <| kc 7 Y <| kc 8 Y <| kc 9 Y <| kn) Y <| T_reg <| Rq Y (v_move (ov Y)) <| Rq Y (v_loadA (ov Y) Y Y Y tA88 (at_sub (at_all (lnC (n := 64) (lnA (m := 64) (n := 0) arL (lnN))))) (lnC (n := 64) (lnA (m := 64) (n := 0) arL (lnN))) (hns := nsC Y (nsA (nsM fun _ => Y) (nsR Y)))) <| R_q (.sl 88 (List.map R88 ([x] : List api_Found))) Y (v_lit tL82 (.cons (cva (ov Y)) (lnC (n := 64) (lnA (m := 64) (n := 0) arL (lnN))) (pwD (alC Y (alA (arD fun _ => Y) (alN)))) <| .nil) Y Y) ?_
    obtain ⟨l2, h_l2, h⟩ := bnd h
    refine Rx Y (w_appendG (ov Y) (slv_sl (ov Y) tZ_88) tL82 Y Y Y (fun x => cell1_all (E88 x)) Y h_l2) ?_
    refine Rq Y (v_assign (ov Y)) ?_
    refine R_nil <| T_keep (kc 0 Y <| kc 3 Y <| kc 7 Y <| kc 8 Y <| kc 9 Y <| kn) Y <| T_reg <| Rq Y (v_add (ov Y) (ov Y) Y) <| Rq Y (v_move (ov Y)) <| R_nil ?_
    exact ⟨(l2, (i64 (i + 1))), h, Ent.sel [some 0] (sd 0 Y Y <| sr 3 Y (.own _ Y) <| sd 7 Y Y <| sd 8 Y Y <| sd 9 Y Y <| sn) (.cons Y (roM D88) <| .nil) Y Y⟩
   ·
    refine T_skip <| T_keep (kc 0 Y <| kc 3 Y <| kc 7 Y <| kc 8 Y <| kc 9 Y <| kn) Y <| T_reg <| Rq Y (v_add (ov Y) (ov Y) Y) <| Rq Y (v_move (ov Y)) <| R_nil ?_
    exact ⟨(out2, (i64 (i + 1))), h, Ent.sel [some 0] (sd 0 Y Y <| sr 3 Y (.own _ Y) <| sd 7 Y Y <| sd 8 Y Y <| sd 9 Y Y <| sn) (.cons Y (roM D88) <| .nil) Y Y⟩
  ·
   refine T_exit ?_
   rw [lx h] at ho1
   replace h := ho1
   exact ⟨out2, h, Ent.sel [some 0] (sr 3 Y (.own _ Y) <| sn) (.cons Y (roM D88) <| .nil) Y Y⟩
 ·
  obtain ⟨out, rfl⟩ : ∃ x, x = j := ⟨_, rfl⟩
  replace h := t1i h
  refine t1T ?_
  refine Tr <| Rq Y (v_move (ov Y)) <| Rq Y (v_assign (ov Y)) <| R_nil ?_
  obtain rfl := rt (v := out) h
  refine T_ret (retq ?_ (.one (.tmp Y (View.ownM Y Y D88))))
  rfl

theorem ok_ref4_Certain {p : api_Piece} {r : (List api_Found) × Int} (h : ref4_Certain p = some r) :
  CSpec Tryz.prog gl0 42 [.agg [.sl 5 (List.map R5 p.Bytes), .bool p.Half]] (.tuple [.sl 88 (List.map R88 r.1), .int .i64 r.2]) := by
 unfold ref4_Certain at h
 replace h := bnd0 h
 refine spec_of (by kernel_rfl) Tryz.func42 Y Y ?_
 intro w0 A
 refine Tr <| Rq Y (v_boxD (cva (ov Y)) Y tZ_70 Y) <| Rq Y (v_assign (ov Y)) <| Rq Y (v_assign (ov Y)) <| R_nil <| T_keep (kc 1 Y <| kn) Y <| Tr <| Rq Y (v_loadA_r (ov Y) tA70 Y Y) ?_
 obtain ⟨y, h_y, h⟩ := bnd h
 refine Rq Y (v_call (ok_ref4_Scan h_y) (.cons (ov Y) (.aggB Y) <| .nil)) ?_
 refine Rq Y (v_move (ov Y)) ?_
 refine Rq Y (v_extract (ov Y) Y) ?_
 refine Rq Y (v_extract (ov Y) Y) ?_
 refine Rq Y (v_assign (ov Y)) ?_
 refine Rq Y (v_assign (ov Y)) ?_
 refine R_nil <| T_keep (kc 4 Y <| kc 5 Y <| kn) Y <| Tr <| Rq Y (v_move (ov Y)) ?_
 obtain ⟨y2, h_y2, h⟩ := bnd h
 refine Rq Y (v_call (ok_ref4_certain h_y2) (.cons (ov Y) (.b Y) <| .nil)) ?_
 refine Rq Y (v_move (ov Y)) ?_
 refine Rq Y (v_assign (ov Y)) ?_
 refine Rq Y (v_assign (ov Y)) ?_
 refine R_nil ?_
 obtain rfl := rt (v := (y2, y.2)) h
 refine T_ret (retq ?_ (.two (.tmp Y (Dat.view (.b Y))) (.tmp Y (Dat.view (.b Y)))))
 rfl

theorem ok_law4_SalvageScanMatchesSpec {p : api_Piece} {r : Bool} (h : law4_SalvageScanMatchesSpec p = some r) :
  CSpec Tryz.prog gl0 7 [.agg [.sl 5 (List.map R5 p.Bytes), .bool p.Half]] (.bool r) := by
 unfold law4_SalvageScanMatchesSpec at h
 replace h := bnd0 h
 refine spec_of (by kernel_rfl) Tryz.func7 Y Y ?_
 intro w0 A
 refine Tr <| Rq Y (v_boxD (cva (ov Y)) Y tZ_70 Y) <| Rq Y (v_assign (ov Y)) <| R_nil <| T_keep (kc 1 Y <| kn) Y <| Tr <| Rq Y (v_loadA_r (ov Y) tA70 Y Y) ?_
 obtain ⟨y, h_y, h⟩ := bnd h
 refine Rq Y (v_call (ok_salvage_Scan h_y) (.cons (ov Y) (.aggB Y) <| .nil)) ?_
 refine Rq Y (v_move (ov Y)) ?_
 refine Rq Y (v_extract (ov Y) Y) ?_
 refine Rq Y (v_extract (ov Y) Y) ?_
 refine Rq Y (v_assign (ov Y)) ?_
 refine Rq Y (v_assign (ov Y)) ?_
 refine R_nil <| T_keep (kc 1 Y <| kc 3 Y <| kc 4 Y <| kn) Y <| Tr <| Rq Y (v_loadA_r (ov Y) tA70 Y Y) ?_
 obtain ⟨y2, h_y2, h⟩ := bnd h
 refine Rq Y (v_call (ok_ref4_Scan h_y2) (.cons (ov Y) (.aggB Y) <| .nil)) ?_
 refine Rq Y (v_move (ov Y)) ?_
 refine Rq Y (v_extract (ov Y) Y) ?_
 refine Rq Y (v_extract (ov Y) Y) ?_
 refine Rq Y (v_assign (ov Y)) ?_
 refine Rq Y (v_assign (ov Y)) ?_
 refine R_nil <| T_seq <| T_keep (kc 1 Y <| kc 3 Y <| kc 4 Y <| kc 5 Y <| kc 6 Y <| kn) Y <| Tr <| Rq Y (v_move (ov Y)) <| Rq Y (v_move (ov Y)) <| Rq Y (v_neq (ov Y) (ov Y)) <| Rq Y (v_move (ov Y)) <| Rq Y (.guarded ((!decide (y.2 = y2.2)) == false) Y Y Y Y fun h => v_move (ov Y)) <| Rq Y (.guarded ((!decide (y.2 = y2.2)) == false) Y Y Y Y fun h => v_move (ov Y)) ?_
 obtain ⟨y3, h_y3, h⟩ := bnd h
 refine Rq Y (.guarded ((!decide (y.2 = y2.2)) == false) Y Y Y Y fun h => v_call (ok_slices_Equal_api_Found_api_Found (gdT h_y3 h)) (.cons (ow Y h) (.b Y) <| .cons (ow Y h) (.b Y) <| .nil)) ?_
 refine Rq Y (.guarded ((!decide (y.2 = y2.2)) == false) Y Y Y Y fun h => v_not (ow Y h)) ?_
 refine Rq Y (v_or (ov Y) (fun hp => ow Y (gF hp))) ?_
 refine R_nil <| T_keep (kc 1 Y <| kc 25 Y <| kn) Y <| T_if h Y (fun b25 h => ?_) (fun b25 h => ?_)
 ·
  refine T_keep (kn) Y <| Tr <| Rq Y (v_assign (ov Y)) <| R_nil ?_
  obtain rfl := rt (v := false) h
  refine T_ret (retq ?_ (.one (.tmp Y (Dat.view (.b Y)))))
  rfl
 ·
  refine T_skip <| T_keep (kc 1 Y <| kn) Y <| Tr <| Rq Y (v_loadA_r (ov Y) tA70 Y Y) ?_
  obtain ⟨y4, h_y4, h⟩ := bnd h
  refine Rq Y (v_call (ok_salvage_Certain h_y4) (.cons (ov Y) (.aggB Y) <| .nil)) ?_
  refine Rq Y (v_move (ov Y)) ?_
  refine Rq Y (v_extract (ov Y) Y) ?_
  refine Rq Y (v_extract (ov Y) Y) ?_
  refine Rq Y (v_assign (ov Y)) ?_
  refine Rq Y (v_assign (ov Y)) ?_
  refine R_nil <| T_keep (kc 1 Y <| kc 3 Y <| kc 4 Y <| kn) Y <| Tr <| Rq Y (v_loadA_r (ov Y) tA70 Y Y) ?_
  obtain ⟨y5, h_y5, h⟩ := bnd h
  refine Rq Y (v_call (ok_ref4_Certain h_y5) (.cons (ov Y) (.aggB Y) <| .nil)) ?_
  refine Rq Y (v_move (ov Y)) ?_
  refine Rq Y (v_extract (ov Y) Y) ?_
  refine Rq Y (v_extract (ov Y) Y) ?_
  refine Rq Y (v_assign (ov Y)) ?_
  refine Rq Y (v_assign (ov Y)) ?_
  refine R_nil <| T_keep (kc 3 Y <| kc 4 Y <| kc 5 Y <| kc 6 Y <| kn) Y <| Tr <| Rq Y (v_move (ov Y)) <| Rq Y (v_move (ov Y)) <| Rq Y (v_eql (ov Y) (ov Y)) <| Rq Y (v_move (ov Y)) <| Rq Y (.guarded ((decide (y4.2 = y5.2)) == true) Y Y Y Y fun h => v_move (ov Y)) <| Rq Y (.guarded ((decide (y4.2 = y5.2)) == true) Y Y Y Y fun h => v_move (ov Y)) ?_
  obtain ⟨y6, h_y6, h⟩ := bnd h
  refine Rq Y (.guarded ((decide (y4.2 = y5.2)) == true) Y Y Y Y fun h => v_call (ok_slices_Equal_api_Found_api_Found (gdT h_y6 h)) (.cons (ow Y h) (.b Y) <| .cons (ow Y h) (.b Y) <| .nil)) ?_
  refine Rq Y (v_and (ov Y) (fun hp => ow Y (gT hp))) ?_
  refine Rq Y (v_move (ov Y)) ?_
  obtain ⟨y7, h_y7, h⟩ := bnd h
  refine Rq Y (.guarded (((decide (y4.2 = y5.2)) && y6) == true) Y Y Y Y fun h => v_call (ok_law4_saved (gdT h_y7 h)) (.nil)) ?_
  refine Rq Y (v_and (ov Y) (fun hp => ow Y (gT hp))) ?_
  refine Rq Y (v_assign (ov Y)) ?_
  refine R_nil ?_
  obtain rfl := rt (v := (((decide (y4.2 = y5.2)) && y6) && y7)) h
  refine T_ret (retq ?_ (.one (.tmp Y (Dat.view (.b Y)))))
  rfl

end Go.Proofs.YtciaeohnkfnamaaGreatDoor
