/- A text of the proof: a verified executor of the program form, or the contracts of the functions that the law reaches. -/
import Derived.Test.YthdiljjohpamnaaGreatDoorRROkZd
set_option linter.all false
namespace Go.Proofs.YthdiljjohpamnaaGreatDoorRR
open Go Go.Vx
set_option maxRecDepth 10000
set_option maxHeartbeats 1000000
set_option linter.unusedVariables false
theorem ok_salvage_Join {p : api_Piece} {q : api_Piece} {r : api_Piece × Int} (h : salvage_Join p q = some r) :
 CSpec Tryz.prog gl0 27 [.agg [.sl 5 (List.map R5 p.Bytes), .bool p.Half], .agg [.sl 5 (List.map R5 q.Bytes), .bool q.Half]] (.tuple [.agg [.sl 5 (List.map R5 r.1.Bytes), .bool r.1.Half], .int .i64 r.2]) := by
 unfold salvage_Join at h
 replace h := bnd0 h
 refine So Tryz.func27 Y fun w0 A=>Tr<|Rq Y (v_boxD (cva<|ov Y) Y tZ_68 Y)<|Rq Y (v_boxD (cva<|ov Y) Y tZ_68 Y)<|Rx Y (w_alloc (row := [_, _]) 0 Y tZ68 Y tZ_68)<|Ra Y<|R_nil<|J0 (fun j => (.inr j)) ⟨[(2, .rp [.sl 5 (List.map R5 p.Bytes), .bool p.Half] 0), (3, .rp [.sl 5 (List.map R5 q.Bytes), .bool q.Half] 0), (4, .ptr 0 1 0 0)], [some ⟨68, [[.nils, .bool false]]⟩]⟩ h (fun h=>?_) fun h=>?_
 ·
  refine K3 2 3 4 Y<|Tr<|Rq Y (v_loadA_r (ov Y) tA68 Y Y)<|Rq Y (v_loadA_r (ov Y) tA68 Y Y)<|R_q (.sl 68<|List.map R68 ([p, q] : List api_Piece)) Y (v_lit tL76 (.cons (cva<|ov Y) Y (pwD Y)<|.cons (cva<|ov Y) Y (pwD Y) .nil) Y Y)<|Rl tZ_68 tL76 Y<|Rm Y<|R_nil<|T_block<|?_
  obtain ⟨r1, hl1, ho1⟩ := bndL h
  refine L1 (fun i=>⟨[(2, .rp [.sl 5 (List.map R5 p.Bytes), .bool p.Half] 0), (3, .rp [.sl 5 (List.map R5 q.Bytes), .bool q.Half] 0), (4, .ptr 0 1 0 0), (11, .sl 68 (List.map R68 ([p, q] : List api_Piece))), (12, .int .i64 (([p, q] : List api_Piece).length : Int)), (13, .int .i64 i)], [some ⟨68, [[.nils, .bool false]]⟩]⟩) hl1 (ES [some 0]) fun n1 i h=>?_
  unfold salvage_Join_L1 at h
  refine Tr<|R2 v_lss Y<|R_nil<|T_seq<|If h Y (fun h=>?_) fun h=>?_
  ·
   refine T_skip<|T_seq<|T_block<|K6 2 3 4 11 12 13 Y<|Tr<|bE h fun x h_x h=>Rq Y (v_ixSG (ov Y) (ov Y) tL76 h_x)<|Rq Y (v_loadA_r (ov Y) tA68 Y Y)<|Rx Y (w_alloc (row := [_, _]) 1 Y tZ68 Y tZ_68)<|Rx Y (w_store (ov Y) (ov Y) (cells_agg tA68 Y) Y Y Y (Nat.le_of_ble_eq_true Y) (cell1_all Y) Y)<|R_nil<|K7 2 3 4 7 11 12 13 Y<|Tr<|Rq Y (v_loadA (ov Y) Y Y Y tA68 Y Y)<|bE h fun y h_y h=>Rq Y (v_call (ok_salvage_CheckPiece h_y)<|.cons (ov Y) (.aggB Y) .nil)<|Ra Y<|R_nil<|K7 2 3 4 8 11 12 13 Y<|Tr<|Rm Y<|R2 v_neq Y<|R_nil<|K8 2 3 4 8 11 12 13 20 Y<|If h Y (fun h=>?_) fun h=>?_
   ·
    refine K2 4 8 Y<|Tr<|Rq Y (v_build (ys := [_, _]) tPL68 tHA68 tZ68 .nil Y)<|Rm Y<|Rx Y (w_store (ov Y) (ov Y) (cells_agg tA68 Y) Y Y Y (Nat.le_of_ble_eq_true Y) (cell1_all Y) Y)<|Ra Y<|R_nil<|?_
    replace h := lx h ▸ ho1
    obtain rfl := rt h
    exact T_ret (retq Y (.two (.agg Y Y Y Y tA68 Y Y<|.cons (View.nils 5)<|.cons (Dat.view<|.b Y) .nil)<|rb Y))
   ·
    exact T_skip<|K6 2 3 4 11 12 13 Y<|T_reg<|R2 vadd Y<|Rm Y<|R_nil<|⟨_, h, ES [some 0]⟩
  ·
   refine T_exit<|?_
   replace h := lx h ▸ ho1
   exact ⟨_, h, ES [some 0]⟩
 ·
  replace h := elr h
  replace h := t0i h
  refine T_seq<|T_block<|Tr<|Rq Y (v_fieldR (ov Y) tF68_1)<|Rq Y (v_loadS_r (ov Y) tS4 Y)<|Ra Y<|R_nil<|K4 2 3 4 24 Y<|If h Y (fun h=>?_) fun h=>?_
  ·
   refine K1 4 Y<|Tr<|Rq Y (v_build (ys := [_, _]) tPL68 tHA68 tZ68 .nil Y)<|Rx Y (w_store (ov Y) (ov Y) (cells_agg tA68 Y) Y Y Y (Nat.le_of_ble_eq_true Y) (cell1_all Y) Y)<|Ra Y<|R_nil<|?_
   obtain rfl := rt h
   exact T_ret (retq Y (.two (.agg Y Y Y Y tA68 Y Y<|.cons (View.nils 5)<|.cons (Dat.view<|.b Y) .nil)<|rb Y))
  ·
   refine K3 2 3 4 Y<|Tr<|Rq Y (v_fieldR (ov Y) tF68_0)<|Rq Y (v_loadS_r (ov Y) tS66 Y)<|Rl tZ_5 tL66 Y<|Rq Y (v_fieldR (ov Y) tF68_0)<|Rq Y (v_loadS_r (ov Y) tS66 Y)<|Rl tZ_5 tL66 Y<|R2 vadd Y<|R2 v_gtr Y<|Ra Y<|R_nil<|K4 2 3 4 28 Y<|If h Y (fun h=>?_) fun h=>?_
   ·
    refine K1 4 Y<|Tr<|Rq Y (v_build (ys := [_, _]) tPL68 tHA68 tZ68 .nil Y)<|Rx Y (w_store (ov Y) (ov Y) (cells_agg tA68 Y) Y Y Y (Nat.le_of_ble_eq_true Y) (cell1_all Y) Y)<|Ra Y<|R_nil<|?_
    obtain rfl := rt h
    exact T_ret (retq Y (.two (.agg Y Y Y Y tA68 Y Y<|.cons (View.nils 5)<|.cons (Dat.view<|.b Y) .nil)<|rb Y))
   ·
    refine T_skip<|K3 2 3 4 Y<|Td ⟨false, false, [], [38, 39, 41, 42, 44, 45], []⟩<|Dq 0 Y (v_fieldR (ov Y) tF68_0)<|Dq 1 Y (v_loadS_r (ov Y) tS66 Y)<|D_free 3 _ Y (by kernel_rfl) Y Y (fun hp'=>v_fieldR (ov Y) tF68_0)<|D_free 4 _ Y (by kernel_rfl) Y Y (fun hp'=>v_loadS_r (ov Y) tS66 Y)<|D_free 6 _ Y (by kernel_rfl) Y Y (fun hp'=>v_fieldR (ov Y) tF68_1)<|D_free 7 _ Y (by kernel_rfl) Y Y (fun hp'=>v_loadS_r (ov Y) tS4 Y)<|bE h fun l h_l h=>D_one 2 _ _ Y (by kernel_rfl) Y Y (fun _=>Ext.app) (fun h=>by cases h) (w_append0G (r := 1) Y (ov Y) (slv_sl (ov Y) tZ_5) tL66 Y h_l)<|bE h fun l2 h_l2 h=>Do 5 Y (w_appendZ (ov Y) (slv_sl (ov Y) tZ_5) tL66 Y Y (fun _=>cell1_all Y) Y h_l2)<|Dq 8 Y (v_build (ys := [_, _]) tPL68 tHA68 tZ68 (.cons (cvs (ov Y)<|cell1_b Y)<|.cons (cvs (ov Y)<|cell1_b Y) .nil) Y)<|Do 9 Y (w_store (ov Y) (ov Y) (cells_agg tA68 Y) Y Y Y (Nat.le_of_ble_eq_true Y) (cell1_all Y) Y)<|D1 10 v_assign Y<|Dd<|?_
    obtain rfl := rt h
    exact T_ret (retq Y (.two (.agg Y Y Y Y tA68 Y Y<|.cons (View.ownM Y Y D5)<|.cons (Dat.view<|.b Y) .nil)<|rb Y))
theorem ok_ref4_Join {p : api_Piece} {q : api_Piece} {r : api_Piece × Int} (h : ref4_Join p q = some r) :
 CSpec Tryz.prog gl0 28 [.agg [.sl 5 (List.map R5 p.Bytes), .bool p.Half], .agg [.sl 5 (List.map R5 q.Bytes), .bool q.Half]] (.tuple [.agg [.sl 5 (List.map R5 r.1.Bytes), .bool r.1.Half], .int .i64 r.2]) := by
 unfold ref4_Join at h
 replace h := bnd0 h
 refine So Tryz.func28 Y fun w0 A=>Tr<|Rq Y (v_boxD (cva<|ov Y) Y tZ_68 Y)<|Rq Y (v_boxD (cva<|ov Y) Y tZ_68 Y)<|Rx Y (w_alloc (row := [_, _]) 0 Y tZ68 Y tZ_68)<|Ra Y<|R_nil<|T_seq<|K3 2 3 4 Y<|Tr<|Rq Y (v_loadA_r (ov Y) tA68 Y Y)<|Rq Y (v_loadA_r (ov Y) tA68 Y Y)<|R_q (.sl 68<|List.map R68 ([p, q] : List api_Piece)) Y (v_lit tL76 (.cons (cva<|ov Y) Y (pwD Y)<|.cons (cva<|ov Y) Y (pwD Y) .nil) Y Y)<|bE h fun y h_y h=>Rq Y (v_call (ok_ref4_piecesFault h_y)<|.cons (ov Y) (.b Y) .nil)<|Ra Y<|R_nil<|K4 2 3 4 6 Y<|Tr<|Rm Y<|R2 v_neq Y<|R_nil<|K5 2 3 4 6 12 Y<|If h Y (fun h=>?_) fun h=>?_
 ·
  refine K2 4 6 Y<|Tr<|Rq Y (v_build (ys := [_, _]) tPL68 tHA68 tZ68 .nil Y)<|Rm Y<|Rx Y (w_store (ov Y) (ov Y) (cells_agg tA68 Y) Y Y Y (Nat.le_of_ble_eq_true Y) (cell1_all Y) Y)<|Ra Y<|R_nil<|?_
  obtain rfl := rt h
  exact T_ret (retq Y (.two (.agg Y Y Y Y tA68 Y Y<|.cons (View.nils 5)<|.cons (Dat.view<|.b Y) .nil)<|rb Y))
 ·
  refine T_skip<|T_seq<|K3 2 3 4 Y<|Tr<|Rq Y (v_fieldR (ov Y) tF68_1)<|Rq Y (v_loadS_r (ov Y) tS4 Y)<|R_nil<|K4 2 3 4 16 Y<|If h Y (fun h=>?_) fun h=>?_
  ·
   refine K1 4 Y<|Tr<|Rq Y (v_build (ys := [_, _]) tPL68 tHA68 tZ68 .nil Y)<|Rx Y (w_store (ov Y) (ov Y) (cells_agg tA68 Y) Y Y Y (Nat.le_of_ble_eq_true Y) (cell1_all Y) Y)<|Ra Y<|R_nil<|?_
   obtain rfl := rt h
   exact T_ret (retq Y (.two (.agg Y Y Y Y tA68 Y Y<|.cons (View.nils 5)<|.cons (Dat.view<|.b Y) .nil)<|rb Y))
  ·
   refine T_skip<|T_seq<|K3 2 3 4 Y<|Tr<|Rq Y (v_fieldR (ov Y) tF68_0)<|Rq Y (v_loadS_r (ov Y) tS66 Y)<|Rl tZ_5 tL66 Y<|Rq Y (v_fieldR (ov Y) tF68_0)<|Rq Y (v_loadS_r (ov Y) tS66 Y)<|Rl tZ_5 tL66 Y<|R2 vadd Y<|R2 v_gtr Y<|R_nil<|K4 2 3 4 25 Y<|If h Y (fun h=>?_) fun h=>?_
   ·
    refine K1 4 Y<|Tr<|Rq Y (v_build (ys := [_, _]) tPL68 tHA68 tZ68 .nil Y)<|Rx Y (w_store (ov Y) (ov Y) (cells_agg tA68 Y) Y Y Y (Nat.le_of_ble_eq_true Y) (cell1_all Y) Y)<|Ra Y<|R_nil<|?_
    obtain rfl := rt h
    exact T_ret (retq Y (.two (.agg Y Y Y Y tA68 Y Y<|.cons (View.nils 5)<|.cons (Dat.view<|.b Y) .nil)<|rb Y))
   ·
    refine T_skip<|K3 2 3 4 Y<|Td ⟨true, false, [], [28, 29, 31, 32, 34, 35], []⟩<|D_free 1 _ Y (by kernel_rfl) Y Y (fun hp'=>v_fieldR (ov Y) tF68_0)<|D_free 2 _ Y (by kernel_rfl) Y Y (fun hp'=>v_loadS_r (ov Y) tS66 Y)<|D_free 4 _ Y (by kernel_rfl) Y Y (fun hp'=>v_fieldR (ov Y) tF68_0)<|D_free 5 _ Y (by kernel_rfl) Y Y (fun hp'=>v_loadS_r (ov Y) tS66 Y)<|D_free 7 _ Y (by kernel_rfl) Y Y (fun hp'=>v_fieldR (ov Y) tF68_1)<|D_free 8 _ Y (by kernel_rfl) Y Y (fun hp'=>v_loadS_r (ov Y) tS4 Y)<|Do 0 Y (w_litG (r := 1) (xs := ([] : List Int)) (f := R5) Y tL66 .nil Y Y Y)<|bE h fun l h_l h=>Do 3 Y (w_appendZ (ov Y) (slv_sl (ov Y) tZ_5) tL66 Y Y (fun _=>cell1_all Y) Y h_l)<|bE h fun l2 h_l2 h=>Do 6 Y (w_appendZ (ov Y) (slv_sl (ov Y) tZ_5) tL66 Y Y (fun _=>cell1_all Y) Y h_l2)<|Dq 9 Y (v_build (ys := [_, _]) tPL68 tHA68 tZ68 (.cons (cvs (ov Y)<|cell1_b Y)<|.cons (cvs (ov Y)<|cell1_b Y) .nil) Y)<|Do 10 Y (w_store (ov Y) (ov Y) (cells_agg tA68 Y) Y Y Y (Nat.le_of_ble_eq_true Y) (cell1_all Y) Y)<|D1 11 v_assign Y<|Dd<|?_
    obtain rfl := rt h
    exact T_ret (retq Y (.two (.agg Y Y Y Y tA68 Y Y<|.cons (View.ownM Y Y D5)<|.cons (Dat.view<|.b Y) .nil)<|rb Y))
theorem ok_bytes_Equal {a : List Int} {b : List Int} {r : Bool} (h : bytes_Equal a b = some r) :
 CSpec Tryz.prog gl0 69 [.sl 5 (List.map R5 a), .sl 5 (List.map R5 b)] (.bool r) := by
 unfold bytes_Equal at h
 replace h := bnd0 h
 refine So Tryz.func69 Y fun w0 A=>Tr<|Ra Y<|R_nil<|Tr<|Rm Y<|Rq Y (v_strOf (f := R5) (slv_sl (ov Y) tZ_5) (fun _=>Y) tL66 tStr9 tU85)<|Rm Y<|Rq Y (v_strOf (f := R5) (slv_sl (ov Y) tZ_5) (fun _=>Y) tL66 tStr9 tU85)<|R2 v_eqlStr Y<|Ra Y<|R_nil<|?_
 obtain rfl := rt h
 exact T_ret (retq Y (.one<|rb Y))
theorem ok_law4_samePiece {a : api_Piece} {b : api_Piece} {r : Bool} (h : law4_samePiece a b = some r) :
 CSpec Tryz.prog gl0 29 [.agg [.sl 5 (List.map R5 a.Bytes), .bool a.Half], .agg [.sl 5 (List.map R5 b.Bytes), .bool b.Half]] (.bool r) := by
 unfold law4_samePiece at h
 replace h := bnd0 h
 refine So Tryz.func29 Y fun w0 A=>Tr<|Rq Y (v_boxD (cva<|ov Y) Y tZ_68 Y)<|Rq Y (v_boxD (cva<|ov Y) Y tZ_68 Y)<|Ra Y<|R_nil<|K3 2 3 4 Y<|Tr<|Rq Y (v_fieldR (ov Y) tF68_1)<|Rq Y (v_loadS_r (ov Y) tS4 Y)<|Rq Y (v_fieldR (ov Y) tF68_1)<|Rq Y (v_loadS_r (ov Y) tS4 Y)<|Rq Y (tBool_eq .eql (by simp) (ov Y) (ov Y) tB4)<|Rm Y<|Rq Y (.guarded ((a.Half == b.Half) == true) Y Y Y Y fun h => v_fieldR (ov Y) tF68_0)<|Rq Y (.guarded ((a.Half == b.Half) == true) Y Y Y Y fun h => v_loadS_r (ow Y h) tS66 Y)<|Rq Y (.guarded ((a.Half == b.Half) == true) Y Y Y Y fun h => v_fieldR (ov Y) tF68_0)<|Rq Y (.guarded ((a.Half == b.Half) == true) Y Y Y Y fun h => v_loadS_r (ow Y h) tS66 Y)<|bE h fun y h_y h=>Rq Y (.guarded ((a.Half == b.Half) == true) Y Y Y Y fun h => v_call (ok_bytes_Equal<|gdT h_y h)<|.cons (ow Y h) (.b Y)<|.cons (ow Y h) (.b Y) .nil)<|Rq Y (v_and (ov Y) fun hp=>ow Y<|gT hp)<|Ra Y<|R_nil<|?_
 obtain rfl := rt h
 exact T_ret (retq Y (.one<|rb Y))
theorem ok_salvage_borders {h_ : List Int} {r : (List Int)} (h : salvage_borders h_ = some r) :
 CSpec Tryz.prog gl0 70 [.sl 5 (List.map R5 h_)] (.sl 3 (List.map R3 r)) := by
 unfold salvage_borders at h
 replace h := bnd0 h
 refine So Tryz.func70 Y fun w0 A=>Tr<|Ra Y<|R_nil<|K1 0 Y<|Tr<|Rm Y<|Rl tZ_5 tL66 Y<|bE h fun l h_l h=>Rx Y (w_makeG [none] (r := 0) (f := R3) (z0 := 0) Y (ov Y) (ov Y) tL28 Y tZ3 Y Y h_l)<|Ra Y<|R_nil<|K2 0 3 Y<|Tr<|Ra Y<|R_nil<|I1 (fun out=>⟨[(3, .own 0 out.length)], [some ⟨3, List.map R3 out⟩]⟩) h (fun h=>?_) fun out h=>?_
 ·
  refine Tr<|Ra Y<|R_nil<|T_block<|?_
  obtain ⟨r1, hl1, ho1⟩ := bndL h
  refine L3 (fun out2 n i=>⟨[(0, .sl 5 (List.map R5 h_)), (3, .own 0 out2.length), (4, .int .i64 n), (5, .int .i64 i)], [some ⟨3, List.map R3 out2⟩]⟩) hl1 (ES [some 0]) fun n1 out2 n i h=>?_
  unfold salvage_borders_L1 at h
  refine T_seq<|Tr<|Rm Y<|Rm Y<|Rl tZ_5 tL66 Y<|R2 v_lss Y<|R_nil<|K5 0 3 4 5 12 Y<|If h Y (fun h=>?_) fun h=>?_
  ·
   refine T_skip<|T_seq<|T_block<|I1 (fun n2=>⟨[(0, .sl 5 (List.map R5 h_)), (3, .own 0 out2.length), (4, .int .i64 n2), (5, .int .i64 i)], [some ⟨3, List.map R3 out2⟩]⟩) h (fun h=>?_) fun n2 h=>?_
   ·
    refine T_block<|?_
    obtain ⟨r2, hl2, ho2⟩ := bndL h
    refine L1 (fun n3=>⟨[(0, .sl 5 (List.map R5 h_)), (3, .own 0 out2.length), (4, .int .i64 n3), (5, .int .i64 i)], [some ⟨3, List.map R3 out2⟩]⟩) hl2 (ES [some 0]) fun n2 n3 h=>?_
    unfold salvage_borders_L2 at h
    refine T_seq<|Td md0<|D1 0 v_move Y<|D2 1 v_gtr Y<|D1 2 v_move Y<|Dq 3 Y (.guarded ((decide (0 < n3)) == true) Y Y Y Y fun h => v_move<|ov Y)<|Dq 4 Y (.guarded ((decide (0 < n3)) == true) Y Y Y Y fun h => v_move<|ov Y)<|bE h fun x h_x h=>Dq 5 Y (.guarded ((decide (0 < n3)) == true) Y Y Y Y fun h => v_ixSG (ow Y h) (ow Y h) tL66<|gdT h_x h)<|Dq 6 Y (.guarded ((decide (0 < n3)) == true) Y Y Y Y fun h => v_loadS_r (ow Y h) tS5 Y)<|Dq 7 Y (.guarded ((decide (0 < n3)) == true) Y Y Y Y fun h => v_move<|ov Y)<|Dq 8 Y (.guarded ((decide (0 < n3)) == true) Y Y Y Y fun h => v_move<|ov Y)<|bE h fun x2 h_x2 h=>Dq 9 Y (.guarded ((decide (0 < n3)) == true) Y Y Y Y fun h => v_ixSG (ow Y h) (ow Y h) tL66<|gdT h_x2 h)<|Dq 10 Y (.guarded ((decide (0 < n3)) == true) Y Y Y Y fun h => v_loadS_r (ow Y h) tS5 Y)<|Dq 11 Y (.guarded ((decide (0 < n3)) == true) Y Y Y Y fun h => v_neq (ow Y h)<|ow Y h)<|Dq 12 Y (v_and (ov Y) fun hp=>ow Y<|gT hp)<|Dd<|K5 0 3 4 5 27 Y<|If h Y (fun h=>?_) fun h=>?_
    ·
     exact T_skip<|T_block<|K4 0 3 4 5 Y<|T_reg<|Rm Y<|Rm Y<|R2 vsub Y<|bE h fun x3 h_x3 h=>Rq Y (v_ixOG (ov Y) (ov Y) tL28 Y Y h_x3)<|Rq Y (v_loadSR (ov Y) Y Y h_x3 tS3 Y)<|Ra Y<|R_nil<|⟨_, h, ES [some 0]⟩
    ·
     refine T_exit<|?_
     replace h := lx h ▸ ho2
     exact ⟨_, h, ES [some 0]⟩
   ·
    refine I1 (fun n4=>⟨[(0, .sl 5 (List.map R5 h_)), (3, .own 0 out2.length), (4, .int .i64 n4), (5, .int .i64 i)], [some ⟨3, List.map R3 out2⟩]⟩) h (fun h=>?_) fun n4 h=>?_
    ·
     refine Td md0<|D1 0 v_move Y<|D1 1 v_move Y<|bE h fun x4 h_x4 h=>Dq 2 Y (v_ixSG (ov Y) (ov Y) tL66 h_x4)<|Dq 3 Y (v_loadS_r (ov Y) tS5 Y)<|D1 4 v_move Y<|D1 5 v_move Y<|bE h fun x5 h_x5 h=>Dq 6 Y (v_ixSG (ov Y) (ov Y) tL66 h_x5)<|Dq 7 Y (v_loadS_r (ov Y) tS5 Y)<|D2 8 v_eql Y<|Dd<|K5 0 3 4 5 41 Y<|If h Y (fun h=>?_) fun h=>?_
     ·
      exact K4 0 3 4 5 Y<|T_reg<|Rm Y<|R2 vadd Y<|Ra Y<|R_nil<|⟨_, h, ES [some 0]⟩
     ·
      exact T_skip<|⟨_, h, ES [some 0]⟩
    ·
     exact T_reg<|Rm Y<|Rm Y<|Rm Y<|bE h fun x6 h_x6 h=>Rq Y (v_ixOG (ov Y) (ov Y) tL28 Y Y h_x6)<|Rx Y (w_storeR (u' := n4) (ov Y) (ov Y) (cells_scal tS3) Y Y h_x6 Y (cell1_all Y) Y)<|R_nil<|K4 0 3 4 5 Y<|T_reg<|Rm Y<|R2 vadd Y<|Ra Y<|R_nil<|⟨_, h, ES [some 0]<|sd 0 Y Y<|sr 3 Y (ownE (Eq.symm<|(List.length_set ..).trans Y) Y)<|sd 4 Y Y<|sd 5 Y Y sn⟩
  ·
   refine T_exit<|?_
   replace h := lx h ▸ ho1
   exact ⟨_, h, ES [some 0]⟩
 ·
  refine Tr<|Rm Y<|Ra Y<|R_nil<|?_
  obtain rfl := rt h
  exact T_ret (retq Y (.one<|.tmp Y<|View.ownM Y Y D3))
theorem ok_salvage_Overlap {p : api_Piece} {q : api_Piece} {least : Int} {r : Int × Bool × Int} (h : salvage_Overlap p q least = some r) :
 CSpec Tryz.prog gl0 30 [.agg [.sl 5 (List.map R5 p.Bytes), .bool p.Half], .agg [.sl 5 (List.map R5 q.Bytes), .bool q.Half], .int .i64 least] (.tuple [.int .i64 r.1, .bool r.2.1, .int .i64 r.2.2]) := by
 unfold salvage_Overlap at h
 replace h := bnd0 h
 refine So Tryz.func30 Y fun w0 A=>Tr<|Rq Y (v_boxD (cva<|ov Y) Y tZ_68 Y)<|Rq Y (v_boxD (cva<|ov Y) Y tZ_68 Y)<|Ra Y<|Ra Y<|Ra Y<|R_nil<|J0 (fun j => (.inr j)) ⟨[(2, .int .i64 least), (3, .rp [.sl 5 (List.map R5 p.Bytes), .bool p.Half] 0), (4, .rp [.sl 5 (List.map R5 q.Bytes), .bool q.Half] 0)], []⟩ h (fun h=>?_) fun h=>?_
 ·
  refine K3 2 3 4 Y<|Tr<|Rq Y (v_loadA_r (ov Y) tA68 Y Y)<|Rq Y (v_loadA_r (ov Y) tA68 Y Y)<|R_q (.sl 68<|List.map R68 ([p, q] : List api_Piece)) Y (v_lit tL76 (.cons (cva<|ov Y) Y (pwD Y)<|.cons (cva<|ov Y) Y (pwD Y) .nil) Y Y)<|Rl tZ_68 tL76 Y<|Rm Y<|R_nil<|T_block<|?_
  obtain ⟨r1, hl1, ho1⟩ := bndL h
  refine L1 (fun i=>⟨[(2, .int .i64 least), (3, .rp [.sl 5 (List.map R5 p.Bytes), .bool p.Half] 0), (4, .rp [.sl 5 (List.map R5 q.Bytes), .bool q.Half] 0), (20, .sl 68 (List.map R68 ([p, q] : List api_Piece))), (21, .int .i64 (([p, q] : List api_Piece).length : Int)), (22, .int .i64 i)], []⟩) hl1 (ES []) fun n1 i h=>?_
  unfold salvage_Overlap_L1 at h
  refine Tr<|R2 v_lss Y<|R_nil<|T_seq<|If h Y (fun h=>?_) fun h=>?_
  ·
   refine T_skip<|T_seq<|T_block<|K6 2 3 4 20 21 22 Y<|Tr<|bE h fun x h_x h=>Rq Y (v_ixSG (ov Y) (ov Y) tL76 h_x)<|Rq Y (v_loadA_r (ov Y) tA68 Y Y)<|Rx Y (w_alloc (row := [_, _]) 0 Y tZ68 Y tZ_68)<|Rx Y (w_store (ov Y) (ov Y) (cells_agg tA68 Y) Y Y Y (Nat.le_of_ble_eq_true Y) (cell1_all Y) Y)<|R_nil<|K7 2 3 4 10 20 21 22 Y<|Tr<|Rq Y (v_loadA (ov Y) Y Y Y tA68 Y Y)<|bE h fun y h_y h=>Rq Y (v_call (ok_salvage_CheckPiece h_y)<|.cons (ov Y) (.aggB Y) .nil)<|Ra Y<|R_nil<|K7 2 3 4 11 20 21 22 Y<|Tr<|Rm Y<|R2 v_neq Y<|R_nil<|K8 2 3 4 11 20 21 22 29 Y<|If h Y (fun h=>?_) fun h=>?_
   ·
    refine K1 11 Y<|Tr<|Rm Y<|Ra Y<|Ra Y<|Ra Y<|R_nil<|?_
    replace h := lx h ▸ ho1
    obtain rfl := rt h
    exact T_ret (retq Y (.three (rb Y) (rb Y)<|rb Y))
   ·
    exact T_skip<|K6 2 3 4 20 21 22 Y<|T_reg<|R2 vadd Y<|Rm Y<|R_nil<|⟨_, h, ES []⟩
  ·
   refine T_exit<|?_
   replace h := lx h ▸ ho1
   exact ⟨_, h, ES []⟩
 ·
  replace h := elr h
  replace h := t0i h
  refine T_seq<|Tr<|Rm Y<|R2 v_lss Y<|Rm Y<|Rq Y (.guarded ((decide (least < 1)) == false) Y Y Y Y fun h => v_move<|ov Y)<|Rq Y (.guarded ((decide (least < 1)) == false) Y Y Y Y fun h => v_gtr (ow Y h)<|ov Y)<|Rq Y (v_or (ov Y) fun hp=>ow Y<|gF hp)<|R_nil<|K4 2 3 4 37 Y<|If h Y (fun h=>?_) fun h=>?_
  ·
   refine K0<|Tr<|Ra Y<|Ra Y<|Ra Y<|R_nil<|?_
   obtain rfl := rt h
   exact T_ret (retq Y (.three (rb Y) (rb Y)<|rb Y))
  ·
   refine T_skip<|K3 2 3 4 Y<|Td md0<|Dq 0 Y (v_loadA_r (ov Y) tA68 Y Y)<|bE h fun y2 h_y2 h=>Dq 1 Y (v_call (ok_salvage_halves h_y2)<|.cons (ov Y) (.aggB Y) .nil)<|Dq 2 Y (v_loadA_r (ov Y) tA68 Y Y)<|bE h fun y3 h_y3 h=>Dq 3 Y (v_call (ok_salvage_halves h_y3)<|.cons (ov Y) (.aggB Y) .nil)<|D1 4 v_assign Y<|D1 5 v_assign Y<|Dd<|K3 2 12 13 Y<|Tr<|Rm Y<|bE h fun y4 h_y4 h=>Rq Y (v_call (ok_salvage_borders h_y4)<|.cons (ov Y) (.b Y) .nil)<|Ra Y<|R_nil<|K4 2 12 13 14 Y<|Tr<|Ra Y<|R_nil<|I1 (fun n=>⟨[(2, .int .i64 least), (15, .int .i64 n)], []⟩) h (fun h=>?_) fun n h=>?_
   ·
    refine Tr<|Rm Y<|Rm Y<|Rl tZ_5 tL66 Y<|Rm Y<|Rl tZ_5 tL66 Y<|R2 vsub Y<|Rq Y (v_max (ov Y) (ov Y) Y)<|bE h fun l h_l h=>Rq Y (v_sliceG (ov Y) tL66 (oi<|ov Y) on h_l)<|Rl tZ_5 tL66 Y<|Rm Y<|R_nil<|T_block<|?_
    obtain ⟨r2, hl2, ho2⟩ := bndL h
    refine L2 (fun n2 i2=>⟨[(2, .int .i64 least), (13, .sl 5 (List.map R5 y3)), (14, .sl 3 (List.map R3 y4)), (15, .int .i64 n2), (51, .sl 5 (List.map R5 l)), (52, .int .i64 (l.length : Int)), (53, .int .i64 i2)], []⟩) hl2 (ES []) fun n2 n2 i2 h=>?_
    unfold salvage_Overlap_L2 at h
    refine Tr<|R2 v_lss Y<|R_nil<|T_seq<|If h Y (fun h=>?_) fun h=>?_
    ·
     refine T_skip<|T_seq<|T_block<|K7 2 13 14 15 51 52 53 Y<|Tr<|bE h fun x2 h_x2 h=>Rq Y (v_ixSG (ov Y) (ov Y) tL66 h_x2)<|Rq Y (v_loadS_r (ov Y) tS5 Y)<|Ra Y<|R_nil<|I1 (fun n3=>⟨[(2, .int .i64 least), (13, .sl 5 (List.map R5 y3)), (14, .sl 3 (List.map R3 y4)), (15, .int .i64 n3), (17, .int .u8 x2), (51, .sl 5 (List.map R5 l)), (52, .int .i64 (l.length : Int)), (53, .int .i64 i2)], []⟩) h (fun h=>?_) fun n3 h=>?_
     ·
      refine T_block<|?_
      obtain ⟨r3, hl3, ho3⟩ := bndL h
      refine L1 (fun n4=>⟨[(2, .int .i64 least), (13, .sl 5 (List.map R5 y3)), (14, .sl 3 (List.map R3 y4)), (15, .int .i64 n4), (17, .int .u8 x2), (51, .sl 5 (List.map R5 l)), (52, .int .i64 (l.length : Int)), (53, .int .i64 i2)], []⟩) hl3 (ES []) fun n3 n4 h=>?_
      unfold salvage_Overlap_L3 at h
      refine T_seq<|Tr<|Rm Y<|R2 v_gtr Y<|Rm Y<|Rq Y (.guarded ((decide (0 < n4)) == true) Y Y Y Y fun h => v_move<|ov Y)<|Rq Y (.guarded ((decide (0 < n4)) == true) Y Y Y Y fun h => v_move<|ov Y)<|Rq Y (.guarded ((decide (0 < n4)) == true) Y Y Y Y fun h => v_len (slv_sl (ow Y h) tZ_5) tL66<|len_map _ _)<|Rq Y (.guarded ((decide (0 < n4)) == true) Y Y Y Y fun h => v_eql (ow Y h)<|ow Y h)<|Rq Y (.guarded ((decide (0 < n4)) == true) Y Y Y Y fun h => v_move<|ow Y h)<|Rq Y (.guarded2 (((decide (0 < n4)) == true) && ((decide (n4 = (y3.length : Int))) == false)) Y Y Y Y fun h => v_move<|ov Y)<|Rq Y (.guarded2 (((decide (0 < n4)) == true) && ((decide (n4 = (y3.length : Int))) == false)) Y Y Y Y fun h => v_move<|ov Y)<|bE h fun x3 h_x3 h=>Rq Y (.guarded2 (((decide (0 < n4)) == true) && ((decide (n4 = (y3.length : Int))) == false)) Y Y Y Y fun h => v_ixSG (ow Y h) (ow Y h) tL66<|gdT h_x3 h)<|Rq Y (.guarded2 (((decide (0 < n4)) == true) && ((decide (n4 = (y3.length : Int))) == false)) Y Y Y Y fun h => v_loadS_r (ow Y h) tS5 Y)<|Rq Y (.guarded2 (((decide (0 < n4)) == true) && ((decide (n4 = (y3.length : Int))) == false)) Y Y Y Y fun h => v_move<|ov Y)<|Rq Y (.guarded2 (((decide (0 < n4)) == true) && ((decide (n4 = (y3.length : Int))) == false)) Y Y Y Y fun h => v_neq (ow Y h)<|ow Y h)<|Rq Y (.guarded ((decide (0 < n4)) == true) Y Y Y Y fun h => v_or (ow Y h) fun hp=>ow Y<|gA h<|gF hp)<|Rq Y (v_and (ov Y) fun hp=>ow Y<|gT hp)<|R_nil<|K9 2 13 14 15 17 51 52 53 72 Y<|If h Y (fun h=>?_) fun h=>?_
      ·
       exact T_skip<|T_block<|K8 2 13 14 15 17 51 52 53 Y<|T_reg<|Rm Y<|Rm Y<|R2 vsub Y<|bE h fun x4 h_x4 h=>Rq Y (v_ixSG (ov Y) (ov Y) tL28 h_x4)<|Rq Y (v_loadS_r (ov Y) tS3 Y)<|Ra Y<|R_nil<|⟨_, h, ES []⟩
      ·
       refine T_exit<|?_
       replace h := lx h ▸ ho3
       exact ⟨_, h, ES []⟩
     ·
      refine Tr<|Rm Y<|Rm Y<|Rl tZ_5 tL66 Y<|R2 v_lss Y<|Rm Y<|Rq Y (.guarded ((decide (n3 < (y3.length : Int))) == true) Y Y Y Y fun h => v_move<|ov Y)<|Rq Y (.guarded ((decide (n3 < (y3.length : Int))) == true) Y Y Y Y fun h => v_move<|ov Y)<|bE h fun x5 h_x5 h=>Rq Y (.guarded ((decide (n3 < (y3.length : Int))) == true) Y Y Y Y fun h => v_ixSG (ow Y h) (ow Y h) tL66<|gdT h_x5 h)<|Rq Y (.guarded ((decide (n3 < (y3.length : Int))) == true) Y Y Y Y fun h => v_loadS_r (ow Y h) tS5 Y)<|Rq Y (.guarded ((decide (n3 < (y3.length : Int))) == true) Y Y Y Y fun h => v_move<|ov Y)<|Rq Y (.guarded ((decide (n3 < (y3.length : Int))) == true) Y Y Y Y fun h => v_eql (ow Y h)<|ow Y h)<|Rq Y (v_and (ov Y) fun hp=>ow Y<|gT hp)<|R_nil<|K8 2 13 14 15 51 52 53 89 Y<|If h Y (fun h=>?_) fun h=>?_
      ·
       exact K7 2 13 14 15 51 52 53 Y<|T_reg<|Rm Y<|R2 vadd Y<|Ra Y<|R_nil<|K7 2 13 14 15 51 52 53 Y<|T_reg<|R2 vadd Y<|Rm Y<|R_nil<|⟨_, h, ES []⟩
      ·
       exact T_skip<|K7 2 13 14 15 51 52 53 Y<|T_reg<|R2 vadd Y<|Rm Y<|R_nil<|⟨_, h, ES []⟩
    ·
     refine T_exit<|?_
     replace h := lx h ▸ ho2
     exact ⟨_, h, ES []⟩
   ·
    refine T_seq<|Tr<|Rm Y<|Rm Y<|R2 v_lss Y<|R_nil<|K2 15 95 Y<|If h Y (fun h=>?_) fun h=>?_
    ·
     refine K0<|Tr<|Ra Y<|Ra Y<|Ra Y<|R_nil<|?_
     obtain rfl := rt h
     exact T_ret (retq Y (.three (rb Y) (rb Y)<|rb Y))
    ·
     refine T_skip<|K1 15 Y<|Tr<|Rm Y<|Ra Y<|Ra Y<|Ra Y<|R_nil<|?_
     obtain rfl := rt h
     exact T_ret (retq Y (.three (rb Y) (rb Y)<|rb Y))
theorem ok_ref4_Overlap {p : api_Piece} {q : api_Piece} {least : Int} {r : Int × Bool × Int} (h : ref4_Overlap p q least = some r) :
 CSpec Tryz.prog gl0 31 [.agg [.sl 5 (List.map R5 p.Bytes), .bool p.Half], .agg [.sl 5 (List.map R5 q.Bytes), .bool q.Half], .int .i64 least] (.tuple [.int .i64 r.1, .bool r.2.1, .int .i64 r.2.2]) := by
 unfold ref4_Overlap at h
 replace h := bnd0 h
 refine So Tryz.func31 Y fun w0 A=>Tr<|Rq Y (v_boxD (cva<|ov Y) Y tZ_68 Y)<|Rq Y (v_boxD (cva<|ov Y) Y tZ_68 Y)<|Ra Y<|Ra Y<|Ra Y<|R_nil<|T_seq<|K3 2 3 4 Y<|Tr<|Rq Y (v_loadA_r (ov Y) tA68 Y Y)<|Rq Y (v_loadA_r (ov Y) tA68 Y Y)<|R_q (.sl 68<|List.map R68 ([p, q] : List api_Piece)) Y (v_lit tL76 (.cons (cva<|ov Y) Y (pwD Y)<|.cons (cva<|ov Y) Y (pwD Y) .nil) Y Y)<|bE h fun y h_y h=>Rq Y (v_call (ok_ref4_piecesFault h_y)<|.cons (ov Y) (.b Y) .nil)<|Ra Y<|R_nil<|K4 2 3 4 9 Y<|Tr<|Rm Y<|R2 v_neq Y<|R_nil<|K5 2 3 4 9 18 Y<|If h Y (fun h=>?_) fun h=>?_
 ·
  refine K1 9 Y<|Tr<|Rm Y<|Ra Y<|Ra Y<|Ra Y<|R_nil<|?_
  obtain rfl := rt h
  exact T_ret (retq Y (.three (rb Y) (rb Y)<|rb Y))
 ·
  refine T_skip<|T_seq<|K3 2 3 4 Y<|Tr<|Rm Y<|R2 v_lss Y<|Rm Y<|Rq Y (.guarded ((decide (least < 1)) == false) Y Y Y Y fun h => v_move<|ov Y)<|Rq Y (.guarded ((decide (least < 1)) == false) Y Y Y Y fun h => v_gtr (ow Y h)<|ov Y)<|Rq Y (v_or (ov Y) fun hp=>ow Y<|gF hp)<|R_nil<|K4 2 3 4 25 Y<|If h Y (fun h=>?_) fun h=>?_
  ·
   refine K0<|Tr<|Ra Y<|Ra Y<|Ra Y<|R_nil<|?_
   obtain rfl := rt h
   exact T_ret (retq Y (.three (rb Y) (rb Y)<|rb Y))
  ·
   refine T_skip<|K3 2 3 4 Y<|Td md0<|Dq 0 Y (v_loadA_r (ov Y) tA68 Y Y)<|bE h fun y2 h_y2 h=>Dq 1 Y (v_call (ok_ref4_Halves h_y2)<|.cons (ov Y) (.aggB Y) .nil)<|Dq 2 Y (v_strOf (f := R5) (slv_sl (ov Y) tZ_5) (fun _=>Y) tL66 tStr9 tU85)<|Dq 3 Y (v_loadA_r (ov Y) tA68 Y Y)<|bE h fun y3 h_y3 h=>Dq 4 Y (v_call (ok_ref4_Halves h_y3)<|.cons (ov Y) (.aggB Y) .nil)<|Dq 5 Y (v_strOf (f := R5) (slv_sl (ov Y) tZ_5) (fun _=>Y) tL66 tStr9 tU85)<|D1 6 v_assign Y<|D1 7 v_assign Y<|Dd<|J0 (fun j => (.inr j)) ⟨[], []⟩ h (fun h=>?_) fun h=>?_
   ·
    refine K3 2 10 11 Y<|Tr<|Rm Y<|Rq Y (v_lenStr (ov Y) tStr9 Y)<|Rm Y<|Rq Y (v_lenStr (ov Y) tStr9 Y)<|Rq Y (v_min (ov Y) (ov Y) Y)<|Ra Y<|R_nil<|T_block<|?_
    obtain ⟨r1, hl1, ho1⟩ := bndL h
    refine L1 (fun n=>⟨[(2, .int .i64 least), (10, .str (ofBytes y2)), (11, .str (ofBytes y3)), (12, .int .i64 n)], []⟩) hl1 (ES []) fun n1 n h=>?_
    unfold ref4_Overlap_L1 at h
    refine T_seq<|Tr<|Rm Y<|Rm Y<|R2 v_geq Y<|R_nil<|K5 2 10 11 12 39 Y<|If h Y (fun h=>?_) fun h=>?_
    ·
     refine T_skip<|T_seq<|T_block<|K4 2 10 11 12 Y<|Td md0<|D1 0 v_move Y<|D1 1 v_move Y<|Dq 2 Y (v_lenStr (ov Y) tStr9 Y)<|D1 3 v_move Y<|D2 4 vsub Y<|bE h fun s h_s h=>Dq 5 Y (v_sliceStrG (ov Y) tStr9 (oi<|ov Y) on h_s)<|D1 6 v_move Y<|D1 7 v_move Y<|bE h fun s2 h_s2 h=>Dq 8 Y (v_sliceStrG (ov Y) tStr9 on (oi<|ov Y) h_s2)<|D2 9 v_eqlStr Y<|Dd<|K5 2 10 11 12 51 Y<|If h Y (fun h=>?_) fun h=>?_
     ·
      refine K1 12 Y<|Tr<|Rm Y<|Ra Y<|Ra Y<|Ra Y<|R_nil<|?_
      replace h := lx h ▸ ho1
      obtain rfl := rt h
      exact T_ret (retq Y (.three (rb Y) (rb Y)<|rb Y))
     ·
      exact T_skip<|K4 2 10 11 12 Y<|T_reg<|Rm Y<|R2 vsub Y<|Ra Y<|R_nil<|⟨_, h, ES []⟩
    ·
     refine T_exit<|?_
     replace h := lx h ▸ ho1
     exact ⟨_, h, ES []⟩
   ·
    replace h := elr h
    replace h := t0i h
    refine Tr<|Ra Y<|Ra Y<|Ra Y<|R_nil<|?_
    obtain rfl := rt h
    exact T_ret (retq Y (.three (rb Y) (rb Y)<|rb Y))
theorem ok_law4_SalvageJoinMatchesSpec {p : api_Piece} {q : api_Piece} {least : Int} {r : Bool} (h : law4_SalvageJoinMatchesSpec p q least = some r) :
 CSpec Tryz.prog gl0 6 [.agg [.sl 5 (List.map R5 p.Bytes), .bool p.Half], .agg [.sl 5 (List.map R5 q.Bytes), .bool q.Half], .int .i64 least] (.bool r) := by
 unfold law4_SalvageJoinMatchesSpec at h
 replace h := bnd0 h
 refine So Tryz.func6 Y fun w0 A=>Tr<|Rq Y (v_boxD (cva<|ov Y) Y tZ_68 Y)<|Rq Y (v_boxD (cva<|ov Y) Y tZ_68 Y)<|Ra Y<|R_nil<|K3 2 3 4 Y<|Tr<|Rq Y (v_loadA_r (ov Y) tA68 Y Y)<|Rq Y (v_loadA_r (ov Y) tA68 Y Y)<|bE h fun y h_y h=>Rq Y (v_call (ok_salvage_Join h_y)<|.cons (ov Y) (.aggB Y)<|.cons (ov Y) (.aggB Y) .nil)<|Rm Y<|Rq Y (v_extract (ov Y) Y)<|Rq Y (v_extract (ov Y) Y)<|Rx Y (w_alloc (row := [_, _]) 0 Y tZ68 Y tZ_68)<|Rx Y (w_store (ov Y) (ov Y) (cells_agg tA68 Y) Y Y Y (Nat.le_of_ble_eq_true Y) (cell1_all Y) Y)<|Ra Y<|R_nil<|K5 2 3 4 7 8 Y<|Tr<|Rq Y (v_loadA_r (ov Y) tA68 Y Y)<|Rq Y (v_loadA_r (ov Y) tA68 Y Y)<|bE h fun y2 h_y2 h=>Rq Y (v_call (ok_ref4_Join h_y2)<|.cons (ov Y) (.aggB Y)<|.cons (ov Y) (.aggB Y) .nil)<|Rm Y<|Rq Y (v_extract (ov Y) Y)<|Rq Y (v_extract (ov Y) Y)<|Rx Y (w_alloc (row := [_, _]) 1 Y tZ68 Y tZ_68)<|Rx Y (w_store (ov Y) (ov Y) (cells_agg tA68 Y) Y Y Y (Nat.le_of_ble_eq_true Y) (cell1_all Y) Y)<|Ra Y<|R_nil<|T_seq<|K7 2 3 4 7 8 9 10 Y<|Tr<|Rm Y<|Rm Y<|R2 v_neq Y<|Rm Y<|Rq Y (.guarded ((!decide (y.2 = y2.2)) == false) Y Y Y Y fun h => v_loadA (ov Y) Y Y Y tA68 Y Y)<|Rq Y (.guarded ((!decide (y.2 = y2.2)) == false) Y Y Y Y fun h => v_loadA (ov Y) Y Y Y tA68 Y Y)<|bE h fun y3 h_y3 h=>Rq Y (.guarded ((!decide (y.2 = y2.2)) == false) Y Y Y Y fun h => v_call (ok_law4_samePiece<|gdT h_y3 h)<|.cons (ow Y h) (.aggB Y)<|.cons (ow Y h) (.aggB Y) .nil)<|Rq Y (.guarded ((!decide (y.2 = y2.2)) == false) Y Y Y Y fun h => v_not<|ow Y h)<|Rq Y (v_or (ov Y) fun hp=>ow Y<|gF hp)<|R_nil<|K4 2 3 4 35 Y<|If h Y (fun h=>?_) fun h=>?_
 ·
  refine K0<|Tr<|Ra Y<|R_nil<|?_
  obtain rfl := rt h
  exact T_ret (retq Y (.one<|rb Y))
 ·
  refine T_skip<|K3 2 3 4 Y<|Tr<|Rq Y (v_loadA_r (ov Y) tA68 Y Y)<|Rq Y (v_loadA_r (ov Y) tA68 Y Y)<|Rm Y<|bE h fun y4 h_y4 h=>Rq Y (v_call (ok_salvage_Overlap h_y4)<|.cons (ov Y) (.aggB Y)<|.cons (ov Y) (.aggB Y)<|.cons (ov Y) (.b Y) .nil)<|Rm Y<|Rq Y (v_extract (ov Y) Y)<|Rq Y (v_extract (ov Y) Y)<|Rq Y (v_extract (ov Y) Y)<|Ra Y<|Ra Y<|Ra Y<|R_nil<|K6 2 3 4 8 11 12 Y<|Tr<|Rq Y (v_loadA_r (ov Y) tA68 Y Y)<|Rq Y (v_loadA_r (ov Y) tA68 Y Y)<|Rm Y<|bE h fun y5 h_y5 h=>Rq Y (v_call (ok_ref4_Overlap h_y5)<|.cons (ov Y) (.aggB Y)<|.cons (ov Y) (.aggB Y)<|.cons (ov Y) (.b Y) .nil)<|Rm Y<|Rq Y (v_extract (ov Y) Y)<|Rq Y (v_extract (ov Y) Y)<|Rq Y (v_extract (ov Y) Y)<|Ra Y<|Ra Y<|Ra Y<|R_nil<|K6 8 10 11 12 13 14 Y<|Tr<|Rm Y<|Rm Y<|R2 v_eql Y<|Rm Y<|Rq Y (.guarded ((decide (y4.1 = y5.1)) == true) Y Y Y Y fun h => v_move<|ov Y)<|Rq Y (.guarded ((decide (y4.1 = y5.1)) == true) Y Y Y Y fun h => v_move<|ov Y)<|Rq Y (.guarded ((decide (y4.1 = y5.1)) == true) Y Y Y Y fun h => tBool_eq .eql (by simp) (ow Y h) (ow Y h) tB4)<|Rq Y (v_and (ov Y) fun hp=>ow Y<|gT hp)<|Rm Y<|Rq Y (.guarded (((decide (y4.1 = y5.1)) && (y4.2.1 == y5.2.1)) == true) Y Y Y Y fun h => v_move<|ov Y)<|Rq Y (.guarded (((decide (y4.1 = y5.1)) && (y4.2.1 == y5.2.1)) == true) Y Y Y Y fun h => v_move<|ov Y)<|Rq Y (.guarded (((decide (y4.1 = y5.1)) && (y4.2.1 == y5.2.1)) == true) Y Y Y Y fun h => v_eql (ow Y h)<|ow Y h)<|Rq Y (v_and (ov Y) fun hp=>ow Y<|gT hp)<|Rm Y<|bE h fun y6 h_y6 h=>Rq Y (.guarded ((((decide (y4.1 = y5.1)) && (y4.2.1 == y5.2.1)) && (decide (y4.2.2 = y5.2.2))) == true) Y Y Y Y fun h => v_call (ok_law4_saved<|gdT h_y6 h) .nil)<|Rq Y (v_and (ov Y) fun hp=>ow Y<|gT hp)<|Ra Y<|R_nil<|?_
  obtain rfl := rt h
  exact T_ret (retq Y (.one<|rb Y))
end Go.Proofs.YthdiljjohpamnaaGreatDoorRR
