/- A text of the proof: a verified executor of the program form, or the contracts of the functions that the law reaches. -/
import Derived.Test.YtciaeohnkfnamaaGreatDoorOkZc
set_option linter.all false
namespace Go.Proofs.YtciaeohnkfnamaaGreatDoor
open Go Go.Vx
set_option maxRecDepth 10000
set_option maxHeartbeats 1000000
set_option linter.unusedVariables false
theorem ok_ref1_Flaws {f : Vector Int 64} {r : (List api_Flaw)} (h : ref1_Flaws f = some r) :
  CSpec Tryz.prog gl0 106 [.agg (List.map C47 f.toList)] (.sl 233 (List.map R233 r)) := by
 unfold ref1_Flaws at h
 replace h := bnd0 h
 refine spec_of (by kernel_rfl) Tryz.func106 Y Y ?_
 intro w0 A
 refine Tr <| Rq Y (v_boxD (cva (ov Y)) arL tZ_49 (arD fun _ => Y)) <| Rq Y (v_assign (ov Y)) <| R_nil <| T_keep (kc 1 Y <| kn) Y <| Tr <| Rq Y (v_assign (ov Y)) <| R_nil <| T_joinG id (t1 fun out => ⟨[(1, .rp (List.map C47 f.toList) 0), (3, .own 0 out.length)], [some ⟨233, List.map R233 out⟩]⟩) h (fun h => ?_) (fun j h => ?_)
 ·
  refine Tr <| Rq Y (v_loadA_r (ov Y) tA49 (at_sub (at_all arL)) arL) <| Rq Y (v_move (ov Y)) <| R_nil <| T_block ?_
  obtain ⟨r1, hl1, ho1⟩ := bndL h
  refine T_loopG _ (t2 fun out2 i => ⟨[(1, .rp (List.map C47 f.toList) 0), (3, .own 0 out2.length), (7, .agg (List.map C47 f.toList)), (8, .int .i64 i)], [some ⟨233, List.map R233 out2⟩]⟩) _ hl1 (Ent.sel [none] (sd 1 Y Y <| sr 3 Y (.row Y) <| sr 7 Y (rAgg (rld (arD fun _ => Y))) <| sd 8 Y Y <| sn) (.row 233 <| .nil) Y Y) (fun n1 s1 h => ?_)
  obtain ⟨out2, i⟩ := s1
  replace h := t2i h
  refine t2T ?_
  unfold ref1_Flaws_L1 at h
  refine Tr <| Rq Y (v_lss (ov Y) (ov Y)) <| R_nil <| T_seq <| T_if h Y (fun b9 h => ?_) (fun b9 h => ?_)
  ·
   refine T_skip <| T_seq <| T_block <| T_keep (kc 1 Y <| kc 3 Y <| kc 7 Y <| kc 8 Y <| kn) Y <| Tr <| Rq Y (v_move (ov Y)) ?_
   obtain ⟨x, h_x, h⟩ := bnd h
   refine Rq Y (v_indexVG (ov Y) (ov Y) tR49 tS47 h_x) ?_
   refine Rq Y (v_assign (ov Y)) ?_
   refine Rq Y (v_assign (ov Y)) ?_
   refine R_nil <| T_keep (kc 1 Y <| kc 3 Y <| kc 4 Y <| kc 5 Y <| kc 7 Y <| kc 8 Y <| kn) Y <| Tr <| Rq Y (v_move (ov Y)) <| Rq Y (v_gtr (ov Y) (ov Y)) <| R_nil <| T_keep (kc 1 Y <| kc 3 Y <| kc 4 Y <| kc 7 Y <| kc 8 Y <| kc 13 Y <| kn) Y <| T_if h Y (fun b13 h => ?_) (fun b13 h => ?_)
   ·
    refine T_keep (kc 1 Y <| kc 3 Y <| kc 4 Y <| kc 7 Y <| kc 8 Y <| kn) Y <| T_reg <| Rq Y (v_move (ov Y)) <| Rq Y (v_move (ov Y)) <| Rq Y (v_build (ys := [_, _]) tPL233 tHA233 tZ233 (.cons (cvs (ov Y) (cell1_b Y)) <| .cons (cvs (ov Y) (cell1_b Y)) <| .nil) Y) <| R_q (.sl 233 (List.map R233 ([(api_Flaw.mk i 5)] : List api_Flaw))) Y (v_lit tL156 (.cons (cva (ov Y)) Y (pwD Y) <| .nil) Y Y) ?_
    obtain ⟨l, h_l, h⟩ := bnd h
    refine Rx Y (w_appendG (ov Y) (slv_sl (ov Y) tZ_233) tL156 Y Y Y (fun _ => cell1_all Y) Y h_l) ?_
    refine Rq Y (v_assign (ov Y)) ?_
    refine R_nil <| T_keep (kc 1 Y <| kc 3 Y <| kc 7 Y <| kc 8 Y <| kn) Y <| T_reg <| Rq Y (v_add (ov Y) (ov Y) Y) <| Rq Y (v_move (ov Y)) <| R_nil ?_
    exact ⟨(l, (i64 (i + 1))), h, Ent.sel [some 0] (sd 1 Y Y <| sr 3 Y (.own _ Y) <| sr 7 Y (rAgg (rld (arD fun _ => Y))) <| sd 8 Y Y <| sn) (.cons Y (roM D233) <| .nil) Y Y⟩
   ·
    refine T_skip <| T_keep (kc 1 Y <| kc 3 Y <| kc 7 Y <| kc 8 Y <| kn) Y <| T_reg <| Rq Y (v_add (ov Y) (ov Y) Y) <| Rq Y (v_move (ov Y)) <| R_nil ?_
    exact ⟨(out2, (i64 (i + 1))), h, Ent.sel [some 0] (sd 1 Y Y <| sr 3 Y (.own _ Y) <| sr 7 Y (rAgg (rld (arD fun _ => Y))) <| sd 8 Y Y <| sn) (.cons Y (roM D233) <| .nil) Y Y⟩
  ·
   refine T_exit ?_
   rw [lx h] at ho1
   replace h := ho1
   exact ⟨out2, h, Ent.sel [some 0] (sd 1 Y Y <| sr 3 Y (.own _ Y) <| sn) (.cons Y (roM D233) <| .nil) Y Y⟩
 ·
  obtain ⟨out, rfl⟩ : ∃ x, x = j := ⟨_, rfl⟩
  replace h := t1i h
  refine t1T ?_
  refine T_seq <| Tr <| Rq Y (v_move (ov Y)) <| Rq Y (v_lenO (ov Y) Y Y tL156) <| Rq Y (v_gtr (ov Y) (ov Y)) <| R_nil <| T_keep (kc 1 Y <| kc 3 Y <| kc 22 Y <| kn) Y <| T_if h Y (fun b22 h => ?_) (fun b22 h => ?_)
  ·
   refine T_keep (kc 3 Y <| kn) Y <| Tr <| Rq Y (v_move (ov Y)) <| Rq Y (v_assign (ov Y)) <| R_nil ?_
   obtain rfl := rt (v := out) h
   refine T_ret (retq ?_ (.one (.tmp Y (View.ownM Y Y D233))))
   rfl
  ·
   refine T_skip <| T_joinG id (t1 fun out3 => ⟨[(1, .rp (List.map C47 f.toList) 0), (3, .own 0 out3.length)], [some ⟨233, List.map R233 out3⟩]⟩) h (fun h => ?_) (fun j h => ?_)
   ·
    refine T_keep (kc 1 Y <| kc 3 Y <| kn) Y <| T_seq (T_draw (cw := md0) (by kernel_rfl) ?_)
    obtain ⟨x2, h_x2, h⟩ := bnd h
    refine Dq 0 Y Y Y (v_ixRG (ov Y) (ov Y) tR49 h_x2) ?_
    refine Dq 1 Y Y Y (v_loadS_r (ov Y) tS47 (at_get (at_at (o := 0) (o' := ((Int.toNat 0) * 1)) (at_all arL) (at_v1 h_x2)))) ?_
    refine Dq 2 Y Y Y (v_conv (ov Y) tI47 tI3 Y) ?_
    refine Dq 3 Y Y Y (v_loadA_r (ov Y) tA49 (at_sub (at_all arL)) arL) ?_
    obtain ⟨y, h_y, h⟩ := bnd h
    refine Dq 4 Y Y Y (v_call (ok_ref1_numberOf h_y) (.cons (ov Y) (.aggB (arD fun _ => Y)) <| .nil)) ?_
    obtain ⟨y2, h_y2, h⟩ := bnd h
    refine Dq 5 Y Y Y (v_call (ok_ref1_syncOf h_y2) (.cons (ov Y) (.b Y) <| .nil)) ?_
    refine Dq 6 Y Y Y (v_neq (ov Y) (ov Y)) ?_
    refine D_done (by kernel_rfl) ?_
    refine T_keep (kc 1 Y <| kc 3 Y <| kc 30 Y <| kn) Y <| T_if h Y (fun b30 h => ?_) (fun b30 h => ?_)
    ·
     refine T_keep (kc 1 Y <| kc 3 Y <| kn) Y <| T_reg <| Rq Y (v_move (ov Y)) <| Rq Y (v_build (ys := [_, _]) tPL233 tHA233 tZ233 (.cons (cvs (ov Y) (cell1_b Y)) <| .cons (cvs (ov Y) (cell1_b Y)) <| .nil) Y) <| R_q (.sl 233 (List.map R233 ([(api_Flaw.mk 0 1)] : List api_Flaw))) Y (v_lit tL156 (.cons (cva (ov Y)) Y (pwD Y) <| .nil) Y Y) ?_
     obtain ⟨l2, h_l2, h⟩ := bnd h
     refine Rx Y (w_appendG (ov Y) (slv_sl (ov Y) tZ_233) tL156 Y Y Y (fun _ => cell1_all Y) Y h_l2) ?_
     refine Rq Y (v_assign (ov Y)) ?_
     refine R_nil ?_
     exact ⟨l2, h, Ent.sel [some 0] (sd 1 Y Y <| sr 3 Y (.own _ Y) <| sn) (.cons Y (roM D233) <| .nil) Y Y⟩
    ·
     refine T_skip ?_
     exact ⟨out, h, Ent.sel [some 0] (sd 1 Y Y <| sr 3 Y (.own _ Y) <| sn) (.cons Y (roM D233) <| .nil) Y Y⟩
   ·
    obtain ⟨out3, rfl⟩ : ∃ x, x = j := ⟨_, rfl⟩
    replace h := t1i h
    refine t1T ?_
    refine T_joinG id (t1 fun out4 => ⟨[(1, .rp (List.map C47 f.toList) 0), (3, .own 0 out4.length)], [some ⟨233, List.map R233 out4⟩]⟩) h (fun h => ?_) (fun j h => ?_)
    ·
     refine Tr <| Rq Y (v_assign (ov Y)) <| R_nil <| T_block ?_
     obtain ⟨r2, hl2, ho2⟩ := bndL h
     refine T_loopG _ (t2 fun out5 i2 => ⟨[(1, .rp (List.map C47 f.toList) 0), (3, .own 0 out5.length), (6, .int .i64 i2)], [some ⟨233, List.map R233 out5⟩]⟩) _ hl2 (Ent.sel [some 0] (sd 1 Y Y <| sr 3 Y (.own _ Y) <| sd 6 Y Y <| sn) (.cons Y (roM D233) <| .nil) Y Y) (fun n2 s2 h => ?_)
     obtain ⟨out5, i2⟩ := s2
     replace h := t2i h
     refine t2T ?_
     unfold ref1_Flaws_L2 at h
     refine T_seq <| Tr <| Rq Y (v_move (ov Y)) <| Rq Y (v_lss (ov Y) (ov Y)) <| R_nil <| T_keep (kc 1 Y <| kc 3 Y <| kc 6 Y <| kc 36 Y <| kn) Y <| T_if h Y (fun b36 h => ?_) (fun b36 h => ?_)
     ·
      refine T_skip <| T_seq <| T_block <| T_keep (kc 1 Y <| kc 3 Y <| kc 6 Y <| kn) Y <| Tr <| Rq Y (v_move (ov Y)) ?_
      obtain ⟨x3, h_x3, h⟩ := bnd h
      refine Rq Y (v_ixRG (ov Y) (ov Y) tR49 h_x3) ?_
      refine Rq Y (v_loadS_r (ov Y) tS47 (at_get (at_at (o := 0) (o' := (i2.toNat * 1)) (at_all arL) (at_v1 h_x3)))) ?_
      refine Rq Y (v_conv (ov Y) tI47 tI3 Y) ?_
      obtain ⟨y3, h_y3, h⟩ := bnd h
      refine Rq Y (v_call (ok_ref1_odd h_y3) (.cons (ov Y) (.b Y) <| .nil)) ?_
      refine Rq Y (v_not (ov Y)) ?_
      refine R_nil <| T_keep (kc 1 Y <| kc 3 Y <| kc 6 Y <| kc 44 Y <| kn) Y <| T_if h Y (fun b44 h => ?_) (fun b44 h => ?_)
      ·
       refine T_keep (kc 1 Y <| kc 3 Y <| kc 6 Y <| kn) Y <| T_reg <| Rq Y (v_move (ov Y)) <| Rq Y (v_move (ov Y)) <| Rq Y (v_build (ys := [_, _]) tPL233 tHA233 tZ233 (.cons (cvs (ov Y) (cell1_b Y)) <| .cons (cvs (ov Y) (cell1_b Y)) <| .nil) Y) <| R_q (.sl 233 (List.map R233 ([(api_Flaw.mk i2 2)] : List api_Flaw))) Y (v_lit tL156 (.cons (cva (ov Y)) Y (pwD Y) <| .nil) Y Y) ?_
       obtain ⟨l3, h_l3, h⟩ := bnd h
       refine Rx Y (w_appendG (ov Y) (slv_sl (ov Y) tZ_233) tL156 Y Y Y (fun _ => cell1_all Y) Y h_l3) ?_
       refine Rq Y (v_assign (ov Y)) ?_
       refine R_nil <| T_keep (kc 1 Y <| kc 3 Y <| kc 6 Y <| kn) Y <| T_reg <| Rq Y (v_move (ov Y)) <| Rq Y (v_add (ov Y) (ov Y) Y) <| Rq Y (v_assign (ov Y)) <| R_nil ?_
       exact ⟨(l3, (i64 (i2 + 1))), h, Ent.sel [some 0] (sd 1 Y Y <| sr 3 Y (.own _ Y) <| sd 6 Y Y <| sn) (.cons Y (roM D233) <| .nil) Y Y⟩
      ·
       refine T_skip <| T_keep (kc 1 Y <| kc 3 Y <| kc 6 Y <| kn) Y <| T_reg <| Rq Y (v_move (ov Y)) <| Rq Y (v_add (ov Y) (ov Y) Y) <| Rq Y (v_assign (ov Y)) <| R_nil ?_
       exact ⟨(out5, (i64 (i2 + 1))), h, Ent.sel [some 0] (sd 1 Y Y <| sr 3 Y (.own _ Y) <| sd 6 Y Y <| sn) (.cons Y (roM D233) <| .nil) Y Y⟩
     ·
      refine T_exit ?_
      rw [lx h] at ho2
      replace h := ho2
      exact ⟨out5, h, Ent.sel [some 0] (sd 1 Y Y <| sr 3 Y (.own _ Y) <| sn) (.cons Y (roM D233) <| .nil) Y Y⟩
    ·
     obtain ⟨out4, rfl⟩ : ∃ x, x = j := ⟨_, rfl⟩
     replace h := t1i h
     refine t1T ?_
     refine T_joinG id (t1 fun out6 => ⟨[(1, .rp (List.map C47 f.toList) 0), (3, .own 0 out6.length)], [some ⟨233, List.map R233 out6⟩]⟩) h (fun h => ?_) (fun j h => ?_)
     ·
      refine T_seq (T_draw (cw := md0) (by kernel_rfl) ?_)
      obtain ⟨x4, h_x4, h⟩ := bnd h
      refine Dq 0 Y Y Y (v_ixRG (ov Y) (ov Y) tR49 h_x4) ?_
      refine Dq 1 Y Y Y (v_loadS_r (ov Y) tS47 (at_get (at_at (o := 0) (o' := ((Int.toNat 61) * 1)) (at_all arL) (at_v1 h_x4)))) ?_
      refine Dq 2 Y Y Y (v_conv (ov Y) tI47 tI3 Y) ?_
      obtain ⟨q, h_q, h⟩ := bnd h
      refine Dq 3 Y Y Y (v_remG (ov Y) (ov Y) h_q) ?_
      refine Dq 4 Y Y Y (v_loadA_r (ov Y) tA49 (at_sub (at_all arL)) arL) ?_
      obtain ⟨y4, h_y4, h⟩ := bnd h
      refine Dq 5 Y Y Y (v_call (ok_ref1_sum h_y4) (.cons (ov Y) (.aggB (arD fun _ => Y)) <| .nil)) ?_
      refine Dq 6 Y Y Y (v_neq (ov Y) (ov Y)) ?_
      refine D_done (by kernel_rfl) ?_
      refine T_keep (kc 1 Y <| kc 3 Y <| kc 56 Y <| kn) Y <| T_if h Y (fun b56 h => ?_) (fun b56 h => ?_)
      ·
       refine T_keep (kc 1 Y <| kc 3 Y <| kn) Y <| T_reg <| Rq Y (v_move (ov Y)) <| Rq Y (v_build (ys := [_, _]) tPL233 tHA233 tZ233 (.cons (cvs (ov Y) (cell1_b Y)) <| .cons (cvs (ov Y) (cell1_b Y)) <| .nil) Y) <| R_q (.sl 233 (List.map R233 ([(api_Flaw.mk 61 3)] : List api_Flaw))) Y (v_lit tL156 (.cons (cva (ov Y)) Y (pwD Y) <| .nil) Y Y) ?_
       obtain ⟨l4, h_l4, h⟩ := bnd h
       refine Rx Y (w_appendG (ov Y) (slv_sl (ov Y) tZ_233) tL156 Y Y Y (fun _ => cell1_all Y) Y h_l4) ?_
       refine Rq Y (v_assign (ov Y)) ?_
       refine R_nil ?_
       exact ⟨l4, h, Ent.sel [some 0] (sd 1 Y Y <| sr 3 Y (.own _ Y) <| sn) (.cons Y (roM D233) <| .nil) Y Y⟩
      ·
       refine T_skip ?_
       exact ⟨out4, h, Ent.sel [some 0] (sd 1 Y Y <| sr 3 Y (.own _ Y) <| sn) (.cons Y (roM D233) <| .nil) Y Y⟩
     ·
      obtain ⟨out6, rfl⟩ : ∃ x, x = j := ⟨_, rfl⟩
      replace h := t1i h
      refine t1T ?_
      refine T_seq <| T_seq (T_draw (cw := md0) (by kernel_rfl) ?_)
      obtain ⟨x5, h_x5, h⟩ := bnd h
      refine Dq 0 Y Y Y (v_ixRG (ov Y) (ov Y) tR49 h_x5) ?_
      refine Dq 1 Y Y Y (v_loadS_r (ov Y) tS47 (at_get (at_at (o := 0) (o' := ((Int.toNat 62) * 1)) (at_all arL) (at_v1 h_x5)))) ?_
      refine Dq 2 Y Y Y (v_conv (ov Y) tI47 tI3 Y) ?_
      obtain ⟨q2, h_q2, h⟩ := bnd h
      refine Dq 3 Y Y Y (v_remG (ov Y) (ov Y) h_q2) ?_
      refine Dq 4 Y Y Y (v_mul (ov Y) (ov Y) Y) ?_
      obtain ⟨x6, h_x6, h⟩ := bnd h
      refine Dq 5 Y Y Y (v_ixRG (ov Y) (ov Y) tR49 h_x6) ?_
      refine Dq 6 Y Y Y (v_loadS_r (ov Y) tS47 (at_get (at_at (o := 0) (o' := ((Int.toNat 63) * 1)) (at_all arL) (at_v1 h_x6)))) ?_
      refine Dq 7 Y Y Y (v_conv (ov Y) tI47 tI3 Y) ?_
      obtain ⟨q3, h_q3, h⟩ := bnd h
      refine Dq 8 Y Y Y (v_remG (ov Y) (ov Y) h_q3) ?_
      refine Dq 9 Y Y Y (v_add (ov Y) (ov Y) Y) ?_
      refine Dq 10 Y Y Y (v_loadA_r (ov Y) tA49 (at_sub (at_all arL)) arL) ?_
      obtain ⟨y5, h_y5, h⟩ := bnd h
      refine Dq 11 Y Y Y (v_call (ok_ref1_check h_y5) (.cons (ov Y) (.aggB (arD fun _ => Y)) <| .nil)) ?_
      refine Dq 12 Y Y Y (v_neq (ov Y) (ov Y)) ?_
      refine D_done (by kernel_rfl) ?_
      refine T_keep (kc 3 Y <| kc 73 Y <| kn) Y <| T_if h Y (fun b73 h => ?_) (fun b73 h => ?_)
      ·
       refine T_keep (kc 3 Y <| kn) Y <| T_reg <| Rq Y (v_move (ov Y)) <| Rq Y (v_build (ys := [_, _]) tPL233 tHA233 tZ233 (.cons (cvs (ov Y) (cell1_b Y)) <| .cons (cvs (ov Y) (cell1_b Y)) <| .nil) Y) <| R_q (.sl 233 (List.map R233 ([(api_Flaw.mk 62 4)] : List api_Flaw))) Y (v_lit tL156 (.cons (cva (ov Y)) Y (pwD Y) <| .nil) Y Y) ?_
       obtain ⟨l5, h_l5, h⟩ := bnd h
       refine Rx Y (w_appendG (ov Y) (slv_sl (ov Y) tZ_233) tL156 Y Y Y (fun _ => cell1_all Y) Y h_l5) ?_
       refine Rq Y (v_assign (ov Y)) ?_
       refine R_nil <| T_keep (kc 3 Y <| kn) Y <| Tr <| Rq Y (v_move (ov Y)) <| Rq Y (v_assign (ov Y)) <| R_nil ?_
       obtain rfl := rt (v := l5) h
       refine T_ret (retq ?_ (.one (.tmp Y (View.ownM Y Y D233))))
       rfl
      ·
       refine T_skip <| T_keep (kc 3 Y <| kn) Y <| Tr <| Rq Y (v_move (ov Y)) <| Rq Y (v_assign (ov Y)) <| R_nil ?_
       obtain rfl := rt (v := out6) h
       refine T_ret (retq ?_ (.one (.tmp Y (View.ownM Y Y D233))))
       rfl

theorem ok_ref1_Sound {f : Vector Int 64} {r : Bool} (h : ref1_Sound f = some r) :
  CSpec Tryz.prog gl0 34 [.agg (List.map C47 f.toList)] (.bool r) := by
 unfold ref1_Sound at h
 replace h := bnd0 h
 refine spec_of (by kernel_rfl) Tryz.func34 Y Y ?_
 intro w0 A
 refine Tr <| Rq Y (v_boxD (cva (ov Y)) arL tZ_49 (arD fun _ => Y)) <| Rq Y (v_assign (ov Y)) <| R_nil <| T_keep (kc 1 Y <| kc 2 Y <| kn) Y <| Tr <| Rq Y (v_loadA_r (ov Y) tA49 (at_sub (at_all arL)) arL) ?_
 obtain ⟨y, h_y, h⟩ := bnd h
 refine Rq Y (v_call (ok_ref1_Flaws h_y) (.cons (ov Y) (.aggB (arD fun _ => Y)) <| .nil)) ?_
 refine Rq Y (v_len (slv_sl (ov Y) tZ_233) tL156 (len_map _ _)) ?_
 refine Rq Y (v_eql (ov Y) (ov Y)) ?_
 refine Rq Y (v_assign (ov Y)) ?_
 refine R_nil ?_
 obtain rfl := rt (v := (decide ((y.length : Int) = 0))) h
 refine T_ret (retq ?_ (.one (.tmp Y (Dat.view (.b Y)))))
 rfl

theorem ok_ref4_Halves_o {p : api_Piece} {r : (List Int)} (h : ref4_Halves p = some r) :
  GSpec Tryz.prog gl0 35 [.agg [.sl 5 (List.map R5 p.Bytes), .bool p.Half]] [] (.own 0 r.length) [some ⟨5, List.map R5 r⟩] := by
 unfold ref4_Halves at h
 replace h := bnd0 h
 refine gspec_of (by kernel_rfl) Tryz.func35 Y Y ?_
 intro w0 A W φ0
 refine Tr <| Rq Y (v_boxD (cva (ov Y)) Y tZ_70 Y) <| Rq Y (v_assign (ov Y)) <| R_nil <| T_keep (kc 1 Y <| kn) Y <| Tr <| Rq Y (v_assign (ov Y)) <| R_nil <| T_joinG id (t1 fun out => ⟨[(3, .own 0 out.length)], [some ⟨5, List.map R5 out⟩]⟩) h (fun h => ?_) (fun j h => ?_)
 ·
  refine Tr <| Rq Y (v_fieldR (ov Y) tF70_0) <| Rq Y (v_loadS_r (ov Y) tS68 Y) <| Rq Y (v_len (slv_sl (ov Y) tZ_5) tL68 (len_map _ _)) <| Rq Y (v_move (ov Y)) <| R_nil <| T_block ?_
  obtain ⟨r1, hl1, ho1⟩ := bndL h
  refine T_loopG _ (t2 fun out2 i => ⟨[(1, .rp [.sl 5 (List.map R5 p.Bytes), .bool p.Half] 0), (3, .own 0 out2.length), (7, .sl 5 (List.map R5 p.Bytes)), (8, .int .i64 (p.Bytes.length : Int)), (9, .int .i64 i)], [some ⟨5, List.map R5 out2⟩]⟩) _ hl1 (Ent.sel [none] (sd 1 Y Y <| sr 3 Y (.row Y) <| sd 7 Y Y <| sd 8 Y Y <| sd 9 Y Y <| sn) (.row 5 <| .nil) Y Y) (fun n1 s1 h => ?_)
  obtain ⟨out2, i⟩ := s1
  replace h := t2i h
  refine t2T ?_
  unfold ref4_Halves_L1 at h
  refine Tr <| Rq Y (v_lss (ov Y) (ov Y)) <| R_nil <| T_seq <| T_if h Y (fun b10 h => ?_) (fun b10 h => ?_)
  ·
   refine T_skip <| T_seq <| T_block <| T_keep (kc 1 Y <| kc 3 Y <| kc 7 Y <| kc 8 Y <| kc 9 Y <| kn) Y <| Tr <| Rq Y (v_move (ov Y)) ?_
   obtain ⟨x, h_x, h⟩ := bnd h
   refine Rq Y (v_ixSG (ov Y) (ov Y) tL68 h_x) ?_
   refine Rq Y (v_loadS_r (ov Y) tS5 Y) ?_
   refine Rq Y (v_assign (ov Y)) ?_
   refine Rq Y (v_assign (ov Y)) ?_
   refine R_nil <| T_joinG id (t1 fun out3 => ⟨[(1, .rp [.sl 5 (List.map R5 p.Bytes), .bool p.Half] 0), (3, .own 0 out3.length), (5, .int .u8 x), (7, .sl 5 (List.map R5 p.Bytes)), (8, .int .i64 (p.Bytes.length : Int)), (9, .int .i64 i)], [some ⟨5, List.map R5 out3⟩]⟩) h (fun h => ?_) (fun j h => ?_)
   ·
    refine T_keep (kc 1 Y <| kc 3 Y <| kc 4 Y <| kc 5 Y <| kc 7 Y <| kc 8 Y <| kc 9 Y <| kn) Y <| Tr <| Rq Y (v_move (ov Y)) <| Rq Y (v_gtr (ov Y) (ov Y)) <| Rq Y (v_move (ov Y)) <| Rq Y (.guarded ((decide (0 < i)) == false) Y Y Y Y fun h => v_fieldR (ov Y) tF70_1) <| Rq Y (.guarded ((decide (0 < i)) == false) Y Y Y Y fun h => v_loadS_r (ow Y h) tS4 Y) <| Rq Y (.guarded ((decide (0 < i)) == false) Y Y Y Y fun h => v_not (ow Y h)) <| Rq Y (v_or (ov Y) (fun hp => ow Y (gF hp))) <| R_nil <| T_keep (kc 1 Y <| kc 3 Y <| kc 5 Y <| kc 7 Y <| kc 8 Y <| kc 9 Y <| kc 20 Y <| kn) Y <| T_if h Y (fun b20 h => ?_) (fun b20 h => ?_)
    ·
     refine T_keep (kc 1 Y <| kc 3 Y <| kc 5 Y <| kc 7 Y <| kc 8 Y <| kc 9 Y <| kn) Y <| T_reg <| Rq Y (v_move (ov Y)) <| Rq Y (v_move (ov Y)) ?_
     obtain ⟨q, h_q, h⟩ := bnd h
     refine Rq Y (v_quoG (ov Y) (ov Y) h_q) ?_
     refine R_q (.sl 5 (List.map R5 ([q] : List Int))) Y (v_lit tL68 (.cons (cvs (ov Y) (cell1_b Y)) Y (.cons (.b Y) .nil) <| .nil) Y Y) ?_
     obtain ⟨l, h_l, h⟩ := bnd h
     refine Rx Y (w_appendG (ov Y) (slv_sl (ov Y) tZ_5) tL68 Y Y Y (fun _ => cell1_all Y) Y h_l) ?_
     refine Rq Y (v_assign (ov Y)) ?_
     refine R_nil ?_
     exact ⟨l, h, Ent.sel [some 0] (sd 1 Y Y <| sr 3 Y (.own _ Y) <| sd 5 Y Y <| sd 7 Y Y <| sd 8 Y Y <| sd 9 Y Y <| sn) (.cons Y (roM D5) <| .nil) Y Y⟩
    ·
     refine T_skip ?_
     exact ⟨out2, h, Ent.sel [some 0] (sd 1 Y Y <| sr 3 Y (.own _ Y) <| sd 5 Y Y <| sd 7 Y Y <| sd 8 Y Y <| sd 9 Y Y <| sn) (.cons Y (roM D5) <| .nil) Y Y⟩
   ·
    obtain ⟨out3, rfl⟩ : ∃ x, x = j := ⟨_, rfl⟩
    replace h := t1i h
    refine t1T ?_
    refine T_reg <| Rq Y (v_move (ov Y)) <| Rq Y (v_move (ov Y)) ?_
    obtain ⟨q2, h_q2, h⟩ := bnd h
    refine Rq Y (v_remG (ov Y) (ov Y) h_q2) ?_
    refine R_q (.sl 5 (List.map R5 ([q2] : List Int))) Y (v_lit tL68 (.cons (cvs (ov Y) (cell1_b Y)) Y (.cons (.b Y) .nil) <| .nil) Y Y) ?_
    obtain ⟨l2, h_l2, h⟩ := bnd h
    refine Rx Y (w_appendG (ov Y) (slv_sl (ov Y) tZ_5) tL68 Y Y Y (fun _ => cell1_all Y) Y h_l2) ?_
    refine Rq Y (v_assign (ov Y)) ?_
    refine R_nil <| T_keep (kc 1 Y <| kc 3 Y <| kc 7 Y <| kc 8 Y <| kc 9 Y <| kn) Y <| T_reg <| Rq Y (v_add (ov Y) (ov Y) Y) <| Rq Y (v_move (ov Y)) <| R_nil ?_
    exact ⟨(l2, (i64 (i + 1))), h, Ent.sel [some 0] (sd 1 Y Y <| sr 3 Y (.own _ Y) <| sd 7 Y Y <| sd 8 Y Y <| sd 9 Y Y <| sn) (.cons Y (roM D5) <| .nil) Y Y⟩
  ·
   refine T_exit ?_
   rw [lx h] at ho1
   replace h := ho1
   exact ⟨out2, h, Ent.sel [some 0] (sr 3 Y (.own _ Y) <| sn) (.cons Y (roM D5) <| .nil) Y Y⟩
 ·
  obtain ⟨out, rfl⟩ : ∃ x, x = j := ⟨_, rfl⟩
  replace h := t1i h
  refine t1T ?_
  refine Tr <| Rq Y (v_move (ov Y)) <| Rq Y (v_assign (ov Y)) <| R_nil ?_
  obtain rfl := rt (v := out) h
  refine T_ret ?_
  exact retg [some 0] Y (.cons (.tmp Y) <| .nil) (.cons Y (roM D5) <| .nil) Y Y (.own _ Y)

theorem ok_slices_Index_api_Found_api_Found {s : List api_Found} {v : api_Found} {r : Int} (h : slices_Index_api_Found_api_Found s v = some r) :
  CSpec Tryz.prog gl0 108 [.sl 88 (List.map R88 s), .agg ((.int .i64 v.At) :: ((List.map C47 v.Frame.toList) ++ ([])))] (.int .i64 r) := by
 unfold slices_Index_api_Found_api_Found at h
 replace h := bnd0 h
 refine spec_of (by kernel_rfl) Tryz.func108 Y Y ?_
 intro w0 A
 refine Tr <| Rq Y (v_boxD (cva (ov Y)) (lnC (n := 64) (lnA (m := 64) (n := 0) arL (lnN))) tZ_88 (alC Y (alA (arD fun _ => Y) (alN)))) <| Rq Y (v_assign (ov Y)) <| R_nil <| T_joinG (fun j => (.inr j)) (t0 ⟨[], []⟩) h (fun h => ?_) (fun j h => ?_)
 ·
  refine T_keep (kc 0 Y <| kc 3 Y <| kn) Y <| Tr <| Rq Y (v_move (ov Y)) <| Rq Y (v_len (slv_sl (ov Y) tZ_88) tL82 (len_map _ _)) <| Rq Y (v_move (ov Y)) <| R_nil <| T_block ?_
  obtain ⟨r1, hl1, ho1⟩ := bndL h
  refine T_loopG _ (t1 fun i => ⟨[(0, .sl 88 (List.map R88 s)), (3, .rp ((.int .i64 v.At) :: ((List.map C47 v.Frame.toList) ++ ([]))) 0), (7, .int .i64 (s.length : Int)), (8, .int .i64 i)], []⟩) _ hl1 (Ent.sel [] (sd 0 Y Y <| sd 3 Y Y <| sd 7 Y Y <| sd 8 Y Y <| sn) (.nil) Y Y) (fun n1 s1 h => ?_)
  obtain ⟨i, rfl⟩ : ∃ x, x = s1 := ⟨_, rfl⟩
  replace h := t1i h
  refine t1T ?_
  unfold slices_Index_api_Found_api_Found_L1 at h
  refine Tr <| Rq Y (v_lss (ov Y) (ov Y)) <| R_nil <| T_seq <| T_if h Y (fun b9 h => ?_) (fun b9 h => ?_)
  ·
   refine T_skip <| T_seq <| T_block <| T_keep (kc 0 Y <| kc 3 Y <| kc 7 Y <| kc 8 Y <| kn) Y <| Tr <| Rq Y (v_move (ov Y)) <| Rq Y (v_assign (ov Y)) <| R_nil <| T_keep (kc 0 Y <| kc 3 Y <| kc 5 Y <| kc 7 Y <| kc 8 Y <| kn) Y <| T_seq (T_draw (cw := md0) (by kernel_rfl) ?_)
   refine Dq 0 Y Y Y (v_loadA_r (ov Y) tA88 (at_sub (at_all (lnC (n := 64) (lnA (m := 64) (n := 0) arL (lnN))))) (lnC (n := 64) (lnA (m := 64) (n := 0) arL (lnN)))) ?_
   refine Dq 1 Y Y Y (v_move (ov Y)) ?_
   refine Dq 2 Y Y Y (v_move (ov Y)) ?_
   obtain ⟨x, h_x, h⟩ := bnd h
   refine Dq 3 Y Y Y (v_ixSG (ov Y) (ov Y) tL82 h_x) ?_
   refine Dq 4 Y Y Y (v_loadA_r (ov Y) tA88 (at_sub (at_all (lnC (n := 64) (lnA (m := 64) (n := 0) arL (lnN))))) (lnC (n := 64) (lnA (m := 64) (n := 0) arL (lnN)))) ?_
   refine Dq 5 Y Y Y (v_eqlX tEq88 (ov Y) (ov Y) (.aggB (alC Y (alA (arD fun _ => Y) (alN)))) (.aggB (alC Y (alA (arD fun _ => Y) (alN)))) (fkC Y (fkA (fkV fun _ => Y) (fkN))) (fkC Y (fkA (fkV fun _ => Y) (fkN))) (eqC Y (eqA (Eq.trans arL (Eq.symm arL)) (eqV fun _ _ => Y) (eqN)))) ?_
   refine D_done (by kernel_rfl) ?_
   refine T_keep (kc 0 Y <| kc 3 Y <| kc 5 Y <| kc 7 Y <| kc 8 Y <| kc 16 Y <| kn) Y <| T_if h Y (fun b16 h => ?_) (fun b16 h => ?_)
   ·
    refine T_keep (kc 5 Y <| kn) Y <| Tr <| Rq Y (v_move (ov Y)) <| Rq Y (v_assign (ov Y)) <| R_nil ?_
    rw [lx h] at ho1
    replace h := ho1
    obtain rfl := rt (v := i) h
    refine T_ret (retq ?_ (.one (.tmp Y (Dat.view (.b Y)))))
    rfl
   ·
    refine T_skip <| T_keep (kc 0 Y <| kc 3 Y <| kc 7 Y <| kc 8 Y <| kn) Y <| T_reg <| Rq Y (v_add (ov Y) (ov Y) Y) <| Rq Y (v_move (ov Y)) <| R_nil ?_
    exact ⟨(i64 (i + 1)), h, Ent.sel [] (sd 0 Y Y <| sd 3 Y Y <| sd 7 Y Y <| sd 8 Y Y <| sn) (.nil) Y Y⟩
  ·
   refine T_exit ?_
   rw [lx h] at ho1
   replace h := ho1
   exact ⟨(), h, Ent.sel [] (sn) (.nil) Y Y⟩
 ·
  replace h := elr h
  cases j
  replace h := t0i h
  refine t0T ?_
  refine Tr <| Rq Y (v_assign (ov Y)) <| R_nil ?_
  obtain rfl := rt (v := (-1)) h
  refine T_ret (retq ?_ (.one (.tmp Y (Dat.view (.b Y)))))
  rfl

theorem ok_slices_Contains_api_Found_api_Found {s : List api_Found} {v : api_Found} {r : Bool} (h : slices_Contains_api_Found_api_Found s v = some r) :
  CSpec Tryz.prog gl0 38 [.sl 88 (List.map R88 s), .agg ((.int .i64 v.At) :: ((List.map C47 v.Frame.toList) ++ ([])))] (.bool r) := by
 unfold slices_Contains_api_Found_api_Found at h
 replace h := bnd0 h
 refine spec_of (by kernel_rfl) Tryz.func38 Y Y ?_
 intro w0 A
 refine Tr <| Rq Y (v_boxD (cva (ov Y)) (lnC (n := 64) (lnA (m := 64) (n := 0) arL (lnN))) tZ_88 (alC Y (alA (arD fun _ => Y) (alN)))) <| Rq Y (v_assign (ov Y)) <| R_nil <| T_keep (kc 0 Y <| kc 3 Y <| kc 4 Y <| kn) Y <| Tr <| Rq Y (v_move (ov Y)) <| Rq Y (v_loadA_r (ov Y) tA88 (at_sub (at_all (lnC (n := 64) (lnA (m := 64) (n := 0) arL (lnN))))) (lnC (n := 64) (lnA (m := 64) (n := 0) arL (lnN)))) ?_
 obtain ⟨y, h_y, h⟩ := bnd h
 refine Rq Y (v_call (ok_slices_Index_api_Found_api_Found h_y) (.cons (ov Y) (.b Y) <| .cons (ov Y) (.aggB (alC Y (alA (arD fun _ => Y) (alN)))) <| .nil)) ?_
 refine Rq Y (v_geq (ov Y) (ov Y)) ?_
 refine Rq Y (v_assign (ov Y)) ?_
 refine R_nil ?_
 obtain rfl := rt (v := (decide (0 ≤ y))) h
 refine T_ret (retq ?_ (.one (.tmp Y (Dat.view (.b Y)))))
 rfl

theorem ok_law4_SalvageFindsWholeFrames {x : Vector Int 64} {ahead : List Int} {behind : List Int} {half : Bool} {r : Bool} (h : law4_SalvageFindsWholeFrames x ahead behind half = some r) :
  CSpec Tryz.prog gl0 6 [.agg (List.map C47 x.toList), .sl 5 (List.map R5 ahead), .sl 5 (List.map R5 behind), .bool half] (.bool r) := by
 unfold law4_SalvageFindsWholeFrames at h
 replace h := bnd0 h
 refine spec_of (by kernel_rfl) Tryz.func6 Y Y ?_
 intro w0 A
 refine Tr <| Rq Y (v_boxD (cva (ov Y)) arL tZ_49 (arD fun _ => Y)) <| Rq Y (v_assign (ov Y)) <| R_nil <| T_keep (kc 1 Y <| kc 2 Y <| kc 3 Y <| kc 4 Y <| kn) Y <| Tr <| Rq Y (v_loadA_r (ov Y) tA49 (at_sub (at_all arL)) arL) ?_
 obtain ⟨y, h_y, h⟩ := bnd h
 refine Rq Y (v_call (ok_ref1_ToBytes h_y) (.cons (ov Y) (.aggB (arD fun _ => Y)) <| .nil)) ?_
 refine Rq Y (v_move (ov Y)) ?_
 refine Rq Y (v_extract (ov Y) Y) ?_
 refine Rq Y (v_extract (ov Y) Y) ?_
 refine Rq Y (v_assign (ov Y)) ?_
 refine Rq Y (v_assign (ov Y)) ?_
 refine R_nil <| T_seq <| T_keep (kc 1 Y <| kc 2 Y <| kc 3 Y <| kc 4 Y <| kc 9 Y <| kc 10 Y <| kn) Y <| Tr <| Rq Y (v_move (ov Y)) <| Rq Y (v_neq (ov Y) (ov Y)) <| Rq Y (v_move (ov Y)) <| Rq Y (.guarded ((!decide (y.2 = 0)) == false) Y Y Y Y fun h => v_loadA_r (ov Y) tA49 (at_sub (at_all arL)) arL) ?_
 obtain ⟨y2, h_y2, h⟩ := bnd h
 refine Rq Y (.guarded ((!decide (y.2 = 0)) == false) Y Y Y Y fun h => v_call (ok_ref1_Sound (gdT h_y2 h)) (.cons (ow Y h) (.aggB (arD fun _ => Y)) <| .nil)) ?_
 refine Rq Y (.guarded ((!decide (y.2 = 0)) == false) Y Y Y Y fun h => v_not (ow Y h)) ?_
 refine Rq Y (v_or (ov Y) (fun hp => ow Y (gF hp))) ?_
 refine Rq Y (v_move (ov Y)) ?_
 refine Rq Y (.guarded (((!decide (y.2 = 0)) || (!y2)) == false) Y Y Y Y fun h => v_move (ov Y)) ?_
 refine Rq Y (.guarded (((!decide (y.2 = 0)) || (!y2)) == false) Y Y Y Y fun h => v_len (slv_sl (ow Y h) tZ_5) tL68 (len_map _ _)) ?_
 refine Rq Y (.guarded (((!decide (y.2 = 0)) || (!y2)) == false) Y Y Y Y fun h => v_move (ov Y)) ?_
 refine Rq Y (.guarded (((!decide (y.2 = 0)) || (!y2)) == false) Y Y Y Y fun h => v_len (slv_sl (ow Y h) tZ_5) tL68 (len_map _ _)) ?_
 refine Rq Y (.guarded (((!decide (y.2 = 0)) || (!y2)) == false) Y Y Y Y fun h => v_add (ow Y h) (ow Y h) Y) ?_
 refine Rq Y (.guarded (((!decide (y.2 = 0)) || (!y2)) == false) Y Y Y Y fun h => v_gtr (ow Y h) (ov Y)) ?_
 refine Rq Y (v_or (ov Y) (fun hp => ow Y (gF hp))) ?_
 refine R_nil <| T_keep (kc 1 Y <| kc 2 Y <| kc 3 Y <| kc 4 Y <| kc 9 Y <| kc 33 Y <| kn) Y <| T_if h Y (fun b33 h => ?_) (fun b33 h => ?_)
 ·
  refine T_keep (kn) Y <| Tr ?_
  obtain ⟨y3, h_y3, h⟩ := bnd h
  refine Rq Y (v_call (ok_law4_saved h_y3) (.nil)) ?_
  refine Rq Y (v_assign (ov Y)) ?_
  refine R_nil ?_
  obtain rfl := rt (v := y3) h
  refine T_ret (retq ?_ (.one (.tmp Y (Dat.view (.b Y)))))
  rfl
 ·
  refine T_skip <| T_keep (kc 1 Y <| kc 2 Y <| kc 3 Y <| kc 4 Y <| kc 9 Y <| kn) Y <| Tr <| Rq Y (v_move (ov Y)) <| Rq Y (v_build (ys := [_, _]) tPL70 tHA70 tZ70 (.cons (cvs (ov Y) (cell1_b Y)) <| .nil) Y) ?_
  obtain ⟨y4, h_y4, h⟩ := bnd h
  refine Rx Y (w_callG [] (ok_ref4_Halves_o h_y4) (.cons (ov Y) (rAgg (rld Y)) <| .nil) (.nil) Y (.lent 0 (.inr ⟨Nat.le_of_ble_eq_true Y, Y⟩) Y (roM D5) <| .nil) Y Y (.own _ (.inr ⟨Nat.le_of_ble_eq_true Y, Y⟩))) ?_
  refine Rq Y (v_assign (ov Y)) ?_
  refine R_nil <| T_keep (kc 2 Y <| kc 3 Y <| kc 4 Y <| kc 9 Y <| kc 11 Y <| kn) Y <| Tr <| Rq Y (v_move (ov Y)) <| Rq Y (v_lenO (ov Y) Y Y tL68) <| Rq Y (v_assign (ov Y)) <| R_nil <| T_joinG id (t2 fun h_ at_ => ⟨[(2, .sl 5 (List.map R5 behind)), (4, .rp (List.map C47 x.toList) 0), (9, .sl 5 (List.map R5 y.1)), (11, .own 0 h_.length), (12, .int .i64 at_)], [some ⟨5, List.map R5 h_⟩]⟩) h (fun h => ?_) (fun j h => ?_)
  ·
   refine T_keep (kc 2 Y <| kc 3 Y <| kc 4 Y <| kc 9 Y <| kc 11 Y <| kc 12 Y <| kn) Y <| Tr <| Rq Y (v_move (ov Y)) <| R_nil <| T_keep (kc 2 Y <| kc 4 Y <| kc 9 Y <| kc 11 Y <| kc 12 Y <| kc 40 Y <| kn) Y <| T_if h Y (fun b40 h => ?_) (fun b40 h => ?_)
   ·
    refine T_keep (kc 2 Y <| kc 4 Y <| kc 9 Y <| kc 11 Y <| kc 12 Y <| kn) Y <| Tr <| Rq Y (v_move (ov Y)) <| R_q (.sl 5 (List.map R5 ([5] : List Int))) Y (v_lit tL68 (.cons (cvs (ov Y) (cell1_b Y)) Y (.cons (.b Y) .nil) <| .nil) Y Y) ?_
    obtain ⟨l, h_l, h⟩ := bnd h
    refine Rx Y (w_appendG (ov Y) (slv_sl (ov Y) tZ_5) tL68 Y Y Y (fun _ => cell1_all Y) Y h_l) ?_
    refine Rq Y (v_assign (ov Y)) ?_
    refine R_nil <| T_keep (kc 2 Y <| kc 4 Y <| kc 9 Y <| kc 11 Y <| kc 12 Y <| kn) Y <| T_reg <| Rq Y (v_move (ov Y)) <| Rq Y (v_add (ov Y) (ov Y) Y) <| Rq Y (v_assign (ov Y)) <| R_nil ?_
    exact ⟨(l, (i64 ((y4.length : Int) + 1))), h, Ent.sel [some 0] (sd 2 Y Y <| sd 4 Y Y <| sd 9 Y Y <| sr 11 Y (.own _ Y) <| sd 12 Y Y <| sn) (.cons Y (roM D5) <| .nil) Y Y⟩
   ·
    refine T_skip ?_
    exact ⟨(y4, (y4.length : Int)), h, Ent.sel [some 0] (sd 2 Y Y <| sd 4 Y Y <| sd 9 Y Y <| sr 11 Y (.own _ Y) <| sd 12 Y Y <| sn) (.cons Y (roM D5) <| .nil) Y Y⟩
  ·
   obtain ⟨h_, at_⟩ := j
   replace h := t2i h
   refine t2T ?_
   refine Tr <| Rq Y (v_move (ov Y)) <| Rq Y (v_move (ov Y)) <| Rq Y (v_build (ys := [_, _]) tPL70 tHA70 tZ70 (.cons (cvs (ov Y) (cell1_b Y)) <| .nil) Y) ?_
   obtain ⟨y5, h_y5, h⟩ := bnd h
   refine Rq Y (v_call (ok_ref4_Halves h_y5) (.cons (ov Y) (.aggB Y) <| .nil)) ?_
   obtain ⟨l2, h_l2, h⟩ := bnd h
   refine Rx Y (w_appendZ (ov Y) (slv_sl (ov Y) tZ_5) tL68 Y Y (fun _ => cell1_all Y) Y h_l2) ?_
   refine Rq Y (v_move (ov Y)) ?_
   refine Rq Y (v_build (ys := [_, _]) tPL70 tHA70 tZ70 (.cons (cvs (ov Y) (cell1_b Y)) <| .nil) Y) ?_
   obtain ⟨y6, h_y6, h⟩ := bnd h
   refine Rq Y (v_call (ok_ref4_Halves h_y6) (.cons (ov Y) (.aggB Y) <| .nil)) ?_
   obtain ⟨l3, h_l3, h⟩ := bnd h
   refine Rx Y (w_appendZ (ov Y) (slv_sl (ov Y) tZ_5) tL68 Y Y (fun _ => cell1_all Y) Y h_l3) ?_
   refine Rq Y (v_assign (ov Y)) ?_
   refine R_nil <| T_keep (kc 4 Y <| kc 11 Y <| kc 12 Y <| kn) Y <| Tr <| Rq Y (v_move (ov Y)) ?_
   obtain ⟨y7, h_y7, h⟩ := bnd h
   refine R_ent (Ent.sel [none] (sd 4 Y Y <| sr 11 Y (frzM Y Y Y D5) <| sd 12 Y Y <| sr 56 Y (frzM Y Y Y D5) <| sn) (.row 5 <| .nil) Y Y) ?_
   refine Rq Y (v_call (ok_ref4_OfHalves h_y7) (.cons (ov Y) (.b Y) <| .cons (ov Y) (.b Y) <| .nil)) ?_
   obtain ⟨y8, h_y8, h⟩ := bnd h
   refine Rq Y (v_call (ok_salvage_Scan h_y8) (.cons (ov Y) (.aggB Y) <| .nil)) ?_
   refine Rq Y (v_move (ov Y)) ?_
   refine Rq Y (v_extract (ov Y) Y) ?_
   refine Rq Y (v_extract (ov Y) Y) ?_
   refine Rq Y (v_assign (ov Y)) ?_
   refine Rq Y (v_assign (ov Y)) ?_
   refine R_nil <| T_keep (kc 4 Y <| kc 10 Y <| kc 12 Y <| kc 13 Y <| kn) Y <| Tr <| Rq Y (v_move (ov Y)) <| Rq Y (v_eql (ov Y) (ov Y)) <| Rq Y (v_move (ov Y)) <| Rq Y (.guarded ((decide (y8.2 = 0)) == true) Y Y Y Y fun h => v_move (ov Y)) <| Rq Y (.guarded ((decide (y8.2 = 0)) == true) Y Y Y Y fun h => v_move (ov Y)) <| Rq Y (.guarded ((decide (y8.2 = 0)) == true) Y Y Y Y fun h => v_loadA_r (ov Y) tA49 (at_sub (at_all arL)) arL) <| Rq Y (.guarded ((decide (y8.2 = 0)) == true) Y Y Y Y fun h => v_buildX (zr := (.int .i64 0) :: ((List.map C47 (Vector.replicate 64 0).toList) ++ ([]))) tPL88 tHA88 tZ88 (by kernel_rfl) (.cons (cvs (ow Y h) (cell1_b Y)) <| .cons (cva (ow Y h)) <| .nil) (fa_cons Y Y (at0 (hdc (n := 0) hd0)) (put1) <| fa_cons Y arL (atc (o := 0) (at0 (hdw arL))) (putc (o := 0) (putw (Eq.trans arL (Eq.symm arL)))) <| fa_nil)) ?_
   obtain ⟨y9, h_y9, h⟩ := bnd h
   refine Rq Y (.guarded ((decide (y8.2 = 0)) == true) Y Y Y Y fun h => v_call (ok_slices_Contains_api_Found_api_Found (gdT h_y9 h)) (.cons (ow Y h) (.b Y) <| .cons (ow Y h) (.aggB (alC Y (alA (arD fun _ => Y) (alN)))) <| .nil)) ?_
   refine Rq Y (v_and (ov Y) (fun hp => ow Y (gT hp))) ?_
   refine Rq Y (v_move (ov Y)) ?_
   obtain ⟨y10, h_y10, h⟩ := bnd h
   refine Rq Y (.guarded (((decide (y8.2 = 0)) && y9) == true) Y Y Y Y fun h => v_call (ok_law4_saved (gdT h_y10 h)) (.nil)) ?_
   refine Rq Y (v_and (ov Y) (fun hp => ow Y (gT hp))) ?_
   refine Rq Y (v_assign (ov Y)) ?_
   refine R_nil ?_
   obtain rfl := rt (v := (((decide (y8.2 = 0)) && y9) && y10)) h
   refine T_ret (retq ?_ (.one (.tmp Y (Dat.view (.b Y)))))
   rfl

end Go.Proofs.YtciaeohnkfnamaaGreatDoor
