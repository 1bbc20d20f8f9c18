/- A text of the proof: a verified executor of the program form, or the contracts of the functions that the law reaches. -/
import Derived.Test.YthdiljjohpamnaaGreatDoorRROkZb
set_option linter.all false
namespace Go.Proofs.YthdiljjohpamnaaGreatDoorRR
open Go Go.Vx
set_option maxRecDepth 10000
set_option maxHeartbeats 1000000
set_option linter.unusedVariables false
theorem ok_salvage_rests {h_ : List Int} {r : (List api_Rest)} (h : salvage_rests h_ = some r) :
 CSpec Tryz.prog gl0 57 [.sl 5 (List.map R5 h_)] (.sl 74 (List.map R74 r)) := by
 unfold salvage_rests at h
 replace h := bnd0 h
 refine So Tryz.func57 Y fun w0 A=>Tr<|Ra Y<|R_nil<|K1 0 Y<|Tr<|Rm Y<|bE h fun y h_y h=>Rq Y (v_call (ok_salvage_newFinder h_y)<|.cons (ov Y) (.b Y) .nil)<|Ra Y<|R_nil<|K1 3 Y<|Tr<|Ra Y<|R_nil<|I1 (fun l=>⟨[(4, .own 0 l.length)], [some ⟨74, List.map R74 l⟩]⟩) h (fun h=>?_) fun l h=>?_
 ·
  refine Tr<|Rm Y<|R1 v_nilCheckR Y<|Rq Y (v_fieldR (ov Y) tF156_1)<|Rq Y (v_loadS_r (ov Y) tS153 Y)<|Rl tZ_158 tL153 Y<|Rm Y<|R_nil<|T_block<|?_
  obtain ⟨r1, hl1, ho1⟩ := bndL h
  refine L2 (fun l2 i=>⟨[(3, .rp [.sl 5 (List.map R5 y.h_), .sl 158 (List.map R158 y.certain), .sl 3 (List.map R3 y.numbers), .any] 0), (4, .own 0 l2.length), (16, .sl 158 (List.map R158 y.certain)), (17, .int .i64 (y.certain.length : Int)), (18, .int .i64 i)], [some ⟨74, List.map R74 l2⟩]⟩) hl1 (ES [none]) fun n1 l2 i h=>?_
  unfold salvage_rests_L1 at h
  refine Tr<|R2 v_lss Y<|R_nil<|T_seq<|If h Y (fun h=>?_) fun h=>?_
  ·
   refine T_skip<|I1 (fun l3=>⟨[(3, .rp [.sl 5 (List.map R5 y.h_), .sl 158 (List.map R158 y.certain), .sl 3 (List.map R3 y.numbers), .any] 0), (4, .own 0 l3.length), (16, .sl 158 (List.map R158 y.certain)), (17, .int .i64 (y.certain.length : Int)), (18, .int .i64 i)], [some ⟨74, List.map R74 l3⟩]⟩) h (fun h=>?_) fun l3 h=>?_
   ·
    refine T_block<|K5 3 4 16 17 18 Y<|Tr<|Rm Y<|bE h fun x h_x h=>Rq Y (v_ixSG (ov Y) (ov Y) tL153 h_x)<|Rq Y (v_loadA_r (ov Y) tA158 (at_sub<|at_all ln0) ln0)<|Rx Y (w_alloc (row := (.int .i64 0) :: ((List.map C47 (Vector.replicate 64 0).toList) ++ ([]))) 1 Y tZ158 (by kernel_rfl)<|by exact Eq.symm (Eq.trans (b := 65) ln0 tZ_158.symm))<|Ra Y<|Rx Y (w_store (ov Y) (ov Y) (cells_agg tA158 ln0) Y Y Y (put_le (at_all ln0) ln0) (cell1_all al6)<|put_all<|Eq.trans ln0<|Eq.symm ln0)<|R_nil<|K7 3 4 5 6 16 17 18 Y<|Td md0<|D1 0 v_move Y<|D1 1 v_move Y<|D1 2 v_nilCheckR Y<|Dq 3 Y (v_fieldR (ov Y) tF156_2)<|Dq 4 Y (v_loadS_r (ov Y) tS28 Y)<|D1 5 v_move Y<|bE h fun x2 h_x2 h=>Dq 6 Y (v_ixSG (ov Y) (ov Y) tL28 h_x2)<|Dq 7 Y (v_loadS_r (ov Y) tS3 Y)<|Dq 8 Y (v_fieldP (ov Y) Y Y tF158_1)<|Dq 9 Y (v_loadA (ov Y) Y Y Y tA49 (at_sub at4) arL (hns := (nsM fun _ => Y)))<|bE h fun y2 h_y2 h=>Dq 10 Y (v_call (ok_salvage_filled h_y2)<|.cons (ov Y) (.b Y) .nil)<|Dq 11 Y (v_buildX (zr := (.int .i64 0) :: ((List.map C47 (Vector.replicate 64 0).toList) ++ (((List.map C3 (Vector.replicate 64 0).toList) ++ ((.bool false) :: (.int .i64 0) :: (.bool false) :: []))))) tPL74 tHA74 tZ74 (by kernel_rfl) (.cons (cvs (ov Y)<|cell1_b Y)<|.cons (cva<|ov Y)<|.cons (cva<|ov Y)<|.cons (cvs (ov Y)<|cell1_b Y)<|.cons (cvs (ov Y)<|cell1_b Y) .nil)<|fa_cons Y Y at8 pt9<|fa_cons Y arL at10 pt11<|fa_cons Y arL at12 pt13<|fa_cons Y Y at14 pt15<|fa_cons Y Y at16 pt17 fa_nil)<|D_q0 12 (.sl 74<|List.map R74 ([(api_Rest.mk x2 x.Frame y2 true 1 false)] : List api_Rest)) Y (by kernel_rfl) Y Y (v_lit tL58 (.cons (cva<|ov Y) ln18 (pwD al19) .nil) Y Y)<|bE h fun l4 h_l4 h=>Do 13 Y (w_appendG (ov Y) (slv_sl (ov Y) tZ_74) tL58 Y Y Y (fun x=>cell1_all<|E74 x) Y h_l4)<|D1 14 v_assign Y<|Dd<|K6 3 4 5 16 17 18 Y<|Tr<|Rm Y<|Rm Y<|bE h fun y3 h_y3 h=>Rq Y (v_call (ok_salvage_finder_places h_y3)<|.cons (ov Y) (.b Y)<|.cons (ov Y) (.b Y) .nil)<|Rl tZ_3 tL28 Y<|Rm Y<|R_nil<|T_block<|?_
    obtain ⟨r2, hl2, ho2⟩ := bndL h
    refine L2 (fun l5 i2=>⟨[(3, .rp [.sl 5 (List.map R5 y.h_), .sl 158 (List.map R158 y.certain), .sl 3 (List.map R3 y.numbers), .any] 0), (4, .own 0 l5.length), (5, .int .i64 i), (16, .sl 158 (List.map R158 y.certain)), (17, .int .i64 (y.certain.length : Int)), (18, .int .i64 i), (39, .sl 3 (List.map R3 y3)), (40, .int .i64 (y3.length : Int)), (41, .int .i64 i2)], [some ⟨74, List.map R74 l5⟩]⟩) hl2 (ES [some 0]) fun n2 l5 i2 h=>?_
    unfold salvage_rests_L2 at h
    refine Tr<|R2 v_lss Y<|R_nil<|T_seq<|If h Y (fun h=>?_) fun h=>?_
    ·
     refine T_skip<|T_seq<|T_block<|K9 3 4 5 16 17 18 39 40 41 Y<|Tr<|bE h fun x3 h_x3 h=>Rq Y (v_ixSG (ov Y) (ov Y) tL28 h_x3)<|Rq Y (v_loadS_r (ov Y) tS3 Y)<|Ra Y<|R_nil<|K10 3 4 5 8 16 17 18 39 40 41 Y<|Tr<|Rm Y<|Rm Y<|Rm Y<|bE h fun y4 h_y4 h=>Rq Y (v_call (ok_salvage_finder_beside h_y4)<|.cons (ov Y) (.b Y)<|.cons (ov Y) (.b Y)<|.cons (ov Y) (.b Y) .nil)<|Rm Y<|Rq Y (v_extract (ov Y) Y)<|Rq Y (v_extract (ov Y) Y)<|Rx Y (w_alloc (row := (.int .i64 0) :: ((List.map C47 (Vector.replicate 64 0).toList) ++ (((List.map C3 (Vector.replicate 64 0).toList) ++ ((.bool false) :: (.int .i64 0) :: (.bool false) :: []))))) 1 Y tZ74 (by kernel_rfl)<|by exact Eq.symm (Eq.trans (b := 132) ln18 tZ_74.symm))<|Rx Y (w_store (ov Y) (ov Y) (cells_agg tA74 ln18) Y Y Y (put_le (at_all ln18) ln18) (cell1_all al20)<|put_all<|Eq.trans ln18<|Eq.symm ln18)<|Ra Y<|R_nil<|K11 3 4 5 9 10 16 17 18 39 40 41 Y<|Tr<|Rm Y<|R_nil<|K11 3 4 5 9 16 17 18 39 40 41 52 Y<|If h Y (fun h=>?_) fun h=>?_
     ·
      exact K10 3 4 5 9 16 17 18 39 40 41 Y<|T_reg<|Rm Y<|Rq Y (v_loadA (ov Y) Y Y Y tA74 (at_sub<|at_all ln18) ln18 (hns := ns21))<|R_q (.sl 74<|List.map R74 ([y4.1] : List api_Rest)) Y (v_lit tL58 (.cons (cva<|ov Y) ln18 (pwD al19) .nil) Y Y)<|bE h fun l6 h_l6 h=>Rx Y (w_appendG (ov Y) (slv_sl (ov Y) tZ_74) tL58 Y Y Y (fun x=>cell1_all<|E74 x) Y h_l6)<|Ra Y<|R_nil<|K9 3 4 5 16 17 18 39 40 41 Y<|T_reg<|R2 vadd Y<|Rm Y<|R_nil<|⟨_, h, ES [some 0]⟩
     ·
      exact T_skip<|K9 3 4 5 16 17 18 39 40 41 Y<|T_reg<|R2 vadd Y<|Rm Y<|R_nil<|⟨_, h, ES [some 0]⟩
    ·
     refine T_exit<|?_
     replace h := lx h ▸ ho2
     exact ⟨_, h, ES [some 0]⟩
   ·
    exact T_reg<|R2 vadd Y<|Rm Y<|R_nil<|⟨_, h, ES [some 0]⟩
  ·
   refine T_exit<|?_
   replace h := lx h ▸ ho1
   exact ⟨_, h, ES [some 0]⟩
 ·
  refine Tr<|Rm Y<|bE h fun y5 h_y5 h=>R_ent (Ent.sel [none] (sr 4 Y (frzM Y Y Y D74)<|sr 59 Y (frzM Y Y Y D74) sn) (.row 74 .nil) Y Y)<|Rq Y (v_call (ok_salvage_grouped h_y5)<|.cons (ov Y) (.b Y) .nil)<|Ra Y<|R_nil<|?_
  obtain rfl := rt h
  exact T_ret (retq Y (.one<|rb Y))
theorem ok_salvage_Rests {p : api_Piece} {r : (List api_Rest) × Int} (h : salvage_Rests p = some r) :
 CSpec Tryz.prog gl0 19 [.agg [.sl 5 (List.map R5 p.Bytes), .bool p.Half]] (.tuple [.sl 74 (List.map R74 r.1), .int .i64 r.2]) := by
 unfold salvage_Rests at h
 replace h := bnd0 h
 refine So Tryz.func19 Y fun w0 A=>Tr<|Rq Y (v_boxD (cva<|ov Y) Y tZ_68 Y)<|Ra Y<|Ra Y<|R_nil<|T_seq<|K1 1 Y<|Tr<|Rq Y (v_loadA_r (ov Y) tA68 Y Y)<|bE h fun y h_y h=>Rq Y (v_call (ok_salvage_CheckPiece h_y)<|.cons (ov Y) (.aggB Y) .nil)<|Ra Y<|R_nil<|K2 1 4 Y<|Tr<|Rm Y<|R2 v_neq Y<|R_nil<|K3 1 4 8 Y<|If h Y (fun h=>?_) fun h=>?_
 ·
  refine K1 4 Y<|Tr<|Rm Y<|Ra Y<|Ra Y<|R_nil<|?_
  obtain rfl := rt h
  exact T_ret (retq Y (.two (.tmp Y<|View.nils 74)<|rb Y))
 ·
  refine T_skip<|K1 1 Y<|Tr<|Rq Y (v_loadA_r (ov Y) tA68 Y Y)<|bE h fun y2 h_y2 h=>Rq Y (v_call (ok_salvage_halves h_y2)<|.cons (ov Y) (.aggB Y) .nil)<|bE h fun y3 h_y3 h=>Rq Y (v_call (ok_salvage_rests h_y3)<|.cons (ov Y) (.b Y) .nil)<|Ra Y<|Ra Y<|R_nil<|?_
  obtain rfl := rt h
  exact T_ret (retq Y (.two (rb Y)<|rb Y))
theorem ok_ref4_CheckPiece {p : api_Piece} {r : Int} (h : ref4_CheckPiece p = some r) :
 CSpec Tryz.prog gl0 59 [.agg [.sl 5 (List.map R5 p.Bytes), .bool p.Half]] (.int .i64 r) := by
 unfold ref4_CheckPiece at h
 replace h := bnd0 h
 refine So Tryz.func59 Y fun w0 A=>Tr<|Rq Y (v_boxD (cva<|ov Y) Y tZ_68 Y)<|Ra Y<|R_nil<|T_seq<|K1 1 Y<|Tr<|Rq Y (v_fieldR (ov Y) tF68_0)<|Rq Y (v_loadS_r (ov Y) tS66 Y)<|Rl tZ_5 tL66 Y<|R2 v_gtr Y<|R_nil<|K2 1 6 Y<|If h Y (fun h=>?_) fun h=>?_
 ·
  refine K0<|Tr<|Ra Y<|R_nil<|?_
  obtain rfl := rt h
  exact T_ret (retq Y (.one<|rb Y))
 ·
  refine T_skip<|T_seq<|K1 1 Y<|Tr<|Rq Y (v_fieldR (ov Y) tF68_1)<|Rq Y (v_loadS_r (ov Y) tS4 Y)<|Rm Y<|Rq Y (.guarded (p.Half == true) Y Y Y Y fun h => v_fieldR (ov Y) tF68_0)<|Rq Y (.guarded (p.Half == true) Y Y Y Y fun h => v_loadS_r (ow Y h) tS66 Y)<|Rq Y (.guarded (p.Half == true) Y Y Y Y fun h => v_len (slv_sl (ow Y h) tZ_5) tL66<|len_map _ _)<|Rq Y (.guarded (p.Half == true) Y Y Y Y fun h => v_eql (ow Y h)<|ov Y)<|Rq Y (.guarded (p.Half == true) Y Y Y Y fun h => v_move<|ow Y h)<|Rq Y (.guarded2 ((p.Half == true) && ((decide ((p.Bytes.length : Int) = 0)) == false)) Y Y Y Y fun h => v_fieldR (ov Y) tF68_0)<|Rq Y (.guarded2 ((p.Half == true) && ((decide ((p.Bytes.length : Int) = 0)) == false)) Y Y Y Y fun h => v_loadS_r (ow Y h) tS66 Y)<|bE h fun x h_x h=>Rq Y (.guarded2 ((p.Half == true) && ((decide ((p.Bytes.length : Int) = 0)) == false)) Y Y Y Y fun h => v_ixSG (ow Y h) (ov Y) tL66<|gdT h_x h)<|Rq Y (.guarded2 ((p.Half == true) && ((decide ((p.Bytes.length : Int) = 0)) == false)) Y Y Y Y fun h => v_loadS_r (ow Y h) tS5 Y)<|Rq Y (.guarded2 ((p.Half == true) && ((decide ((p.Bytes.length : Int) = 0)) == false)) Y Y Y Y fun h => v_gtr (ow Y h)<|ov Y)<|Rq Y (.guarded (p.Half == true) Y Y Y Y fun h => v_or (ow Y h) fun hp=>ow Y<|gA h<|gF hp)<|Rq Y (v_and (ov Y) fun hp=>ow Y<|gT hp)<|R_nil<|K1 21 Y<|If h Y (fun h=>?_) fun h=>?_
  ·
   refine K0<|Tr<|Ra Y<|R_nil<|?_
   obtain rfl := rt h
   exact T_ret (retq Y (.one<|rb Y))
  ·
   refine T_skip<|K0<|Tr<|Ra Y<|R_nil<|?_
   obtain rfl := rt h
   exact T_ret (retq Y (.one<|rb Y))
theorem ok_ref4_Halves {p : api_Piece} {r : (List Int)} (h : ref4_Halves p = some r) :
 CSpec Tryz.prog gl0 62 [.agg [.sl 5 (List.map R5 p.Bytes), .bool p.Half]] (.sl 5 (List.map R5 r)) := by
 unfold ref4_Halves at h
 replace h := bnd0 h
 refine So Tryz.func62 Y fun w0 A=>Tr<|Rq Y (v_boxD (cva<|ov Y) Y tZ_68 Y)<|Ra Y<|R_nil<|K1 1 Y<|Tr<|Ra Y<|R_nil<|I1 (fun out=>⟨[(3, .own 0 out.length)], [some ⟨5, List.map R5 out⟩]⟩) h (fun h=>?_) fun out h=>?_
 ·
  refine Tr<|Rq Y (v_fieldR (ov Y) tF68_0)<|Rq Y (v_loadS_r (ov Y) tS66 Y)<|Rl tZ_5 tL66 Y<|Rm Y<|R_nil<|T_block<|?_
  obtain ⟨r1, hl1, ho1⟩ := bndL h
  refine L2 (fun out2 i=>⟨[(1, .rp [.sl 5 (List.map R5 p.Bytes), .bool p.Half] 0), (3, .own 0 out2.length), (7, .sl 5 (List.map R5 p.Bytes)), (8, .int .i64 (p.Bytes.length : Int)), (9, .int .i64 i)], [some ⟨5, List.map R5 out2⟩]⟩) hl1 (ES [none]) fun n1 out2 i h=>?_
  unfold ref4_Halves_L1 at h
  refine Tr<|R2 v_lss Y<|R_nil<|T_seq<|If h Y (fun h=>?_) fun h=>?_
  ·
   refine T_skip<|T_seq<|T_block<|K5 1 3 7 8 9 Y<|Tr<|Rm Y<|bE h fun x h_x h=>Rq Y (v_ixSG (ov Y) (ov Y) tL66 h_x)<|Rq Y (v_loadS_r (ov Y) tS5 Y)<|Ra Y<|Ra Y<|R_nil<|I1 (fun out3=>⟨[(1, .rp [.sl 5 (List.map R5 p.Bytes), .bool p.Half] 0), (3, .own 0 out3.length), (5, .int .u8 x), (7, .sl 5 (List.map R5 p.Bytes)), (8, .int .i64 (p.Bytes.length : Int)), (9, .int .i64 i)], [some ⟨5, List.map R5 out3⟩]⟩) h (fun h=>?_) fun out3 h=>?_
   ·
    refine K7 1 3 4 5 7 8 9 Y<|Tr<|Rm Y<|R2 v_gtr Y<|Rm Y<|Rq Y (.guarded ((decide (0 < i)) == false) Y Y Y Y fun h => v_fieldR (ov Y) tF68_1)<|Rq Y (.guarded ((decide (0 < i)) == false) Y Y Y Y fun h => v_loadS_r (ow Y h) tS4 Y)<|Rq Y (.guarded ((decide (0 < i)) == false) Y Y Y Y fun h => v_not<|ow Y h)<|Rq Y (v_or (ov Y) fun hp=>ow Y<|gF hp)<|R_nil<|K7 1 3 5 7 8 9 20 Y<|If h Y (fun h=>?_) fun h=>?_
    ·
     exact K6 1 3 5 7 8 9 Y<|T_reg<|Rm Y<|Rm Y<|bE h fun q h_q h=>Rq Y (v_quoG (ov Y) (ov Y) h_q)<|R_q (.sl 5<|List.map R5 ([q] : List Int)) Y (v_lit tL66 (.cons (cvs (ov Y)<|cell1_b Y) Y (.cons (.b Y) .nil) .nil) Y Y)<|bE h fun l h_l h=>Rx Y (w_appendG (ov Y) (slv_sl (ov Y) tZ_5) tL66 Y Y Y (fun _=>cell1_all Y) Y h_l)<|Ra Y<|R_nil<|⟨_, h, ES [some 0]⟩
    ·
     exact T_skip<|⟨_, h, ES [some 0]⟩
   ·
    exact T_reg<|Rm Y<|Rm Y<|bE h fun q2 h_q2 h=>Rq Y (v_remG (ov Y) (ov Y) h_q2)<|R_q (.sl 5<|List.map R5 ([q2] : List Int)) Y (v_lit tL66 (.cons (cvs (ov Y)<|cell1_b Y) Y (.cons (.b Y) .nil) .nil) Y Y)<|bE h fun l2 h_l2 h=>Rx Y (w_appendG (ov Y) (slv_sl (ov Y) tZ_5) tL66 Y Y Y (fun _=>cell1_all Y) Y h_l2)<|Ra Y<|R_nil<|K5 1 3 7 8 9 Y<|T_reg<|R2 vadd Y<|Rm Y<|R_nil<|⟨_, h, ES [some 0]⟩
  ·
   refine T_exit<|?_
   replace h := lx h ▸ ho1
   exact ⟨_, h, ES [some 0]⟩
 ·
  refine Tr<|Rm Y<|Ra Y<|R_nil<|?_
  obtain rfl := rt h
  exact T_ret (retq Y (.one<|.tmp Y<|View.ownM Y Y D5))
theorem ok_ref4_frameAt {h_ : List Int} {at_ : Int} {r : (Vector Int 64) × (Vector Bool 64)} (h : ref4_frameAt h_ at_ = some r) :
 CSpec Tryz.prog gl0 118 [.sl 5 (List.map R5 h_), .int .i64 at_] (.tuple [.agg (List.map C47 r.1.toList), .agg (List.map C4 r.2.toList)]) := by
 unfold ref4_frameAt at h
 replace h := bnd0 h
 refine So Tryz.func118 Y fun w0 A=>Tr<|Rx Y (w_alloc (row := (List.map C47 (Vector.replicate 64 0).toList)) 0 Y tZ49 Y tZ_49)<|Rx Y (w_alloc (row := (List.map C4 (Vector.replicate 64 false).toList)) 1 Y tZ171 Y tZ_171)<|R_nil<|Tr<|R_q (.agg<|List.map C47 (#v[0, 0, 0, 0, 0, 0, 0, 0, 0, 0, 0, 0, 0, 0, 0, 0, 0, 0, 0, 0, 0, 0, 0, 0, 0, 0, 0, 0, 0, 0, 0, 0, 0, 0, 0, 0, 0, 0, 0, 0, 0, 0, 0, 0, 0, 0, 0, 0, 0, 0, 0, 0, 0, 0, 0, 0, 0, 0, 0, 0, 0, 0, 0, 0] : Vector Int 64).toList) Y (v_buildA (ys := [_, _, _, _, _, _, _, _, _, _, _, _, _, _, _, _, _, _, _, _, _, _, _, _, _, _, _, _, _, _, _, _, _, _, _, _, _, _, _, _, _, _, _, _, _, _, _, _, _, _, _, _, _, _, _, _, _, _, _, _, _, _, _, _]) tR49 tZ49 .nil Y)<|R_q (.agg<|List.map C4 (#v[false, false, false, false, false, false, false, false, false, false, false, false, false, false, false, false, false, false, false, false, false, false, false, false, false, false, false, false, false, false, false, false, false, false, false, false, false, false, false, false, false, false, false, false, false, false, false, false, false, false, false, false, false, false, false, false, false, false, false, false, false, false, false, false] : Vector Bool 64).toList) Y (v_buildA (ys := [_, _, _, _, _, _, _, _, _, _, _, _, _, _, _, _, _, _, _, _, _, _, _, _, _, _, _, _, _, _, _, _, _, _, _, _, _, _, _, _, _, _, _, _, _, _, _, _, _, _, _, _, _, _, _, _, _, _, _, _, _, _, _, _]) tR171 tZ171 .nil Y)<|Rx Y (w_alloc (row := (List.map C47 (Vector.replicate 64 0).toList)) 2 Y tZ49 Y tZ_49)<|Rx Y (w_alloc (row := (List.map C4 (Vector.replicate 64 false).toList)) 3 Y tZ171 Y tZ_171)<|Rx Y (w_store (ov Y) (ov Y) (cells_agg tA49 arL) Y Y Y (put_le (at_all arL) arL) (cell1_all<|arC fun _ => Y)<|put_all<|Eq.trans arL<|Eq.symm arL)<|Rx Y (w_store (ov Y) (ov Y) (cells_agg tA171 arL) Y Y Y (put_le (at_all arL) arL) (cell1_all<|arC fun _ => Y)<|put_all<|Eq.trans arL<|Eq.symm arL)<|R_nil<|I2 (fun f whole=>⟨[(4, .ptr 0 1 0 0), (5, .ptr 1 1 0 0), (6, .ptr 2 1 0 0), (7, .ptr 3 1 0 0)], [some ⟨49, [(List.map C47 (Vector.replicate 64 0).toList)]⟩, some ⟨171, [(List.map C4 (Vector.replicate 64 false).toList)]⟩, some ⟨49, [(List.map C47 f.toList)]⟩, some ⟨171, [(List.map C4 whole.toList)]⟩]⟩) h (fun h=>?_) fun f whole h=>?_
 ·
  refine K6 0 1 4 5 6 7 Y<|Tr<|Rm Y<|R_nil<|T_block<|?_
  obtain ⟨r1, hl1, ho1⟩ := bndL h
  refine L3 (fun f2 whole2 i=>⟨[(0, .sl 5 (List.map R5 h_)), (1, .int .i64 at_), (4, .ptr 0 1 0 0), (5, .ptr 1 1 0 0), (6, .ptr 2 1 0 0), (7, .ptr 3 1 0 0), (12, .int .i64 i)], [some ⟨49, [(List.map C47 (Vector.replicate 64 0).toList)]⟩, some ⟨171, [(List.map C4 (Vector.replicate 64 false).toList)]⟩, some ⟨49, [(List.map C47 f2.toList)]⟩, some ⟨171, [(List.map C4 whole2.toList)]⟩]⟩) hl1 (ES [some 0, some 1, some 2, some 3]) fun n1 f2 whole2 i h=>?_
  unfold ref4_frameAt_L1 at h
  refine Tr<|R2 v_lss Y<|R_nil<|T_seq<|If h Y (fun h=>?_) fun h=>?_
  ·
   refine T_skip<|T_seq<|T_block<|K7 0 1 4 5 6 7 12 Y<|Tr<|Rm Y<|Ra Y<|R_nil<|K8 0 1 4 5 6 7 8 12 Y<|Tr<|Rm Y<|Rm Y<|R2 vmul Y<|R2 vadd Y<|Ra Y<|R_nil<|T_seq<|K9 0 1 4 5 6 7 8 9 12 Y<|Tr<|Rm Y<|R2 v_lss Y<|Rm Y<|Rq Y (.guarded ((decide ((i64 (at_ + (i64 (3 * i)))) < 0)) == false) Y Y Y Y fun h => v_move<|ov Y)<|Rq Y (.guarded ((decide ((i64 (at_ + (i64 (3 * i)))) < 0)) == false) Y Y Y Y fun h => v_add (ow Y h) (ov Y) Y)<|Rq Y (.guarded ((decide ((i64 (at_ + (i64 (3 * i)))) < 0)) == false) Y Y Y Y fun h => v_move<|ov Y)<|Rq Y (.guarded ((decide ((i64 (at_ + (i64 (3 * i)))) < 0)) == false) Y Y Y Y fun h => v_len (slv_sl (ow Y h) tZ_5) tL66<|len_map _ _)<|Rq Y (.guarded ((decide ((i64 (at_ + (i64 (3 * i)))) < 0)) == false) Y Y Y Y fun h => v_gtr (ow Y h)<|ow Y h)<|Rq Y (v_or (ov Y) fun hp=>ow Y<|gF hp)<|R_nil<|K10 0 1 4 5 6 7 8 9 12 27 Y<|If h Y (fun h=>?_) fun h=>?_
   ·
    exact T_exit<|K7 0 1 4 5 6 7 12 Y<|T_reg<|R2 vadd Y<|Rm Y<|R_nil<|⟨_, h, ES [some 0, some 1, some 2, some 3]⟩
   ·
    exact T_skip<|K9 0 1 4 5 6 7 8 9 12 Y<|Tr<|Rm Y<|bE h fun x h_x h=>Rq Y (v_ixAG (ov Y) (ov Y) tR171 Y Y h_x)<|Rx Y (w_store (ov Y) (ov Y) (cells_scal tS4) Y Y Y (arB h_x) (cell1_all Y)<|arS h_x)<|R_nil<|K9 0 1 4 5 6 7 8 9 12 Y<|T_draw (cw := md0) (by kernel_rfl)<|D1 0 v_move Y<|D1 1 v_move Y<|D1 2 v_move Y<|bE h fun x2 h_x2 h=>Dq 3 Y (v_ixSG (ov Y) (ov Y) tL66 h_x2)<|Dq 4 Y (v_loadS_r (ov Y) tS5 Y)<|Dq 5 Y (v_conv (ov Y) tI5 tI47 Y)<|D2 6 vmul Y<|D1 7 v_move Y<|D1 8 v_move Y<|D2 9 vadd Y<|bE h fun x3 h_x3 h=>Dq 10 Y (v_ixSG (ov Y) (ov Y) tL66 h_x3)<|Dq 11 Y (v_loadS_r (ov Y) tS5 Y)<|Dq 12 Y (v_conv (ov Y) tI5 tI47 Y)<|D2 13 vmul Y<|D2 14 vadd Y<|D1 15 v_move Y<|D1 16 v_move Y<|D2 17 vadd Y<|bE h fun x4 h_x4 h=>Dq 18 Y (v_ixSG (ov Y) (ov Y) tL66 h_x4)<|Dq 19 Y (v_loadS_r (ov Y) tS5 Y)<|Dq 20 Y (v_conv (ov Y) tI5 tI47 Y)<|D2 21 vadd Y<|bE h fun x5 h_x5 h=>Dq 22 Y (v_ixAG (ov Y) (ov Y) tR49 Y Y h_x5)<|Do 23 Y (w_store (ov Y) (ov Y) (cells_scal tS47) Y Y Y (arB h_x5) (cell1_all Y)<|arS h_x5)<|Dd<|K7 0 1 4 5 6 7 12 Y<|T_reg<|R2 vadd Y<|Rm Y<|R_nil<|⟨_, h, ES [some 0, some 1, some 2, some 3]⟩
  ·
   refine T_exit<|?_
   replace h := lx h ▸ ho1
   exact ⟨_, h, ES [some 0, some 1, some 2, some 3]⟩
 ·
  refine Td md0<|Dq 0 Y (v_loadA (ov Y) Y Y Y tA49 (at_sub<|at_all arL) arL (hns := (nsM fun _ => Y)))<|Dw 1 2 Y (v_loadA (ov Y) Y Y Y tA171 (at_sub<|at_all arL) arL (hns := (nsM fun _ => Y))) (w_store (ov Y) (ov Y) (cells_agg tA49 arL) Y Y Y (put_le (at_all arL) arL) (cell1_all<|arC fun _ => Y)<|put_all<|Eq.trans arL<|Eq.symm arL) ?_ ?_
  ·
   refine Do 2 Y (w_store (ov Y) (ov Y) (cells_agg tA49 arL) Y Y Y (put_le (at_all arL) arL) (cell1_all<|arC fun _ => Y)<|put_all<|Eq.trans arL<|Eq.symm arL)<|Do 3 Y (w_store (ov Y) (ov Y) (cells_agg tA171 arL) Y Y Y (put_le (at_all arL) arL) (cell1_all<|arC fun _ => Y)<|put_all<|Eq.trans arL<|Eq.symm arL)<|Dd<|?_
   obtain rfl := rt h
   exact T_ret (retq Y (.two (.agg Y Y Y Y tA49 (at_sub<|at_all arL) arL (pwB<|arD fun _ => Y) (hns := (nsM fun _ => Y)))<|.agg Y Y Y Y tA171 (at_sub<|at_all arL) arL (pwB<|arD fun _ => Y) (hns := (nsM fun _ => Y))))
  ·
   refine Dq 1 Y (v_loadA (ov Y) Y Y Y tA171 (at_sub<|at_all arL) arL (hns := (nsM fun _ => Y)))<|Do 3 Y (w_store (ov Y) (ov Y) (cells_agg tA171 arL) Y Y Y (put_le (at_all arL) arL) (cell1_all<|arC fun _ => Y)<|put_all<|Eq.trans arL<|Eq.symm arL)<|Dd<|?_
   obtain rfl := rt h
   exact T_ret (retq Y (.two (.agg Y Y Y Y tA49 (at_sub<|at_all arL) arL (pwB<|arD fun _ => Y) (hns := (nsM fun _ => Y)))<|.agg Y Y Y Y tA171 (at_sub<|at_all arL) arL (pwB<|arD fun _ => Y) (hns := (nsM fun _ => Y))))
theorem ok_ref1_numberOf {f : Vector Int 64} {r : Int} (h : ref1_numberOf f = some r) :
 CSpec Tryz.prog gl0 167 [.agg (List.map C47 f.toList)] (.int .i64 r) := by
 unfold ref1_numberOf at h
 replace h := bnd0 h
 refine So Tryz.func167 Y fun w0 A=>Tr<|Rq Y (v_boxD (cva<|ov Y) arL tZ_49<|arD fun _ => Y)<|Ra Y<|R_nil<|K2 1 2 Y<|Tr<|bE h fun x h_x h=>Rq Y (v_ixRG (ov Y) (ov Y) tR49 h_x)<|Rq Y (v_loadS_r (ov Y) tS47<|at_get<|at_at (o := 0) (o' := ((Int.toNat 1) * 1)) (at_all arL)<|at_v1 h_x)<|Rq Y (v_conv (ov Y) tI47 tI3 Y)<|bE h fun q h_q h=>Rq Y (v_remG (ov Y) (ov Y) h_q)<|bE h fun x2 h_x2 h=>Rq Y (v_ixRG (ov Y) (ov Y) tR49 h_x2)<|Rq Y (v_loadS_r (ov Y) tS47<|at_get<|at_at (o := 0) (o' := ((Int.toNat 2) * 1)) (at_all arL)<|at_v1 h_x2)<|Rq Y (v_conv (ov Y) tI47 tI3 Y)<|bE h fun q2 h_q2 h=>Rq Y (v_remG (ov Y) (ov Y) h_q2)<|R2 vmul Y<|R2 vadd Y<|Ra Y<|R_nil<|?_
 obtain rfl := rt h
 exact T_ret (retq Y (.one<|rb Y))
theorem ok_ref1_syncOf {number : Int} {r : Int} (h : ref1_syncOf number = some r) :
 CSpec Tryz.prog gl0 166 [.int .i64 number] (.int .i64 r) := by
 unfold ref1_syncOf at h
 replace h := bnd0 h
 refine So Tryz.func166 Y fun w0 A=>Tr<|Ra Y<|R_nil<|Tr<|R_q (.agg<|List.map C3 (#v[583, 1464, 2631, 3512] : Vector Int 4).toList) Y (v_buildA (ys := [_, _, _, _]) tR232 tZ232 (.cons (cvs (ov Y)<|cell1_b Y)<|.cons (cvs (ov Y)<|cell1_b Y)<|.cons (cvs (ov Y)<|cell1_b Y)<|.cons (cvs (ov Y)<|cell1_b Y) .nil) Y)<|Rm Y<|bE h fun q h_q h=>Rq Y (v_remG (ov Y) (ov Y) h_q)<|bE h fun x h_x h=>Rq Y (v_indexVG (ov Y) (ov Y) tR232 tS3 h_x)<|Ra Y<|R_nil<|?_
 obtain rfl := rt h
 exact T_ret (retq Y (.one<|rb Y))
theorem ok_ref1_odd {n : Int} {r : Bool} (h : ref1_odd n = some r) :
 CSpec Tryz.prog gl0 202 [.int .i64 n] (.bool r) := by
 unfold ref1_odd at h
 replace h := bnd0 h
 refine So Tryz.func202 Y fun w0 A=>Tr<|Ra Y<|R_nil<|K1 0 Y<|Tr<|Ra Y<|R_nil<|I1 (fun ones=>⟨[(3, .int .i64 ones)], []⟩) h (fun h=>?_) fun ones h=>?_
 ·
  refine T_block<|?_
  obtain ⟨r1, hl1, ho1⟩ := bndL h
  refine L2 (fun n2 ones2=>⟨[(0, .int .i64 n2), (3, .int .i64 ones2)], []⟩) hl1 (ES []) fun n1 n2 ones2 h=>?_
  unfold ref1_odd_L1 at h
  refine T_seq<|Tr<|Rm Y<|R2 v_gtr Y<|R_nil<|K3 0 3 5 Y<|If h Y (fun h=>?_) fun h=>?_
  ·
   exact T_skip<|T_seq<|T_block<|K2 0 3 Y<|T_reg<|Rm Y<|Rm Y<|bE h fun q h_q h=>Rq Y (v_remG (ov Y) (ov Y) h_q)<|R2 vadd Y<|Ra Y<|R_nil<|K2 0 3 Y<|T_reg<|Rm Y<|bE h fun q2 h_q2 h=>Rq Y (v_quoG (ov Y) (ov Y) h_q2)<|Ra Y<|R_nil<|⟨_, h, ES []⟩
  ·
   refine T_exit<|?_
   replace h := lx h ▸ ho1
   exact ⟨_, h, ES []⟩
 ·
  refine Tr<|Rm Y<|bE h fun q3 h_q3 h=>Rq Y (v_remG (ov Y) (ov Y) h_q3)<|R2 v_eql Y<|Ra Y<|R_nil<|?_
  obtain rfl := rt h
  exact T_ret (retq Y (.one<|rb Y))
theorem ok_ref1_sum {f : Vector Int 64} {r : Int} (h : ref1_sum f = some r) :
 CSpec Tryz.prog gl0 168 [.agg (List.map C47 f.toList)] (.int .i64 r) := by
 unfold ref1_sum at h
 replace h := bnd0 h
 refine So Tryz.func168 Y fun w0 A=>Tr<|Rq Y (v_boxD (cva<|ov Y) arL tZ_49<|arD fun _ => Y)<|Ra Y<|R_nil<|K1 1 Y<|Tr<|Ra Y<|R_nil<|I1 (fun x=>⟨[(3, .int .i64 x)], []⟩) h (fun h=>?_) fun x h=>?_
 ·
  refine Tr<|Ra Y<|R_nil<|T_block<|?_
  obtain ⟨r1, hl1, ho1⟩ := bndL h
  refine L2 (fun x2 i=>⟨[(1, .rp (List.map C47 f.toList) 0), (3, .int .i64 x2), (4, .int .i64 i)], []⟩) hl1 (ES []) fun n1 x2 i h=>?_
  unfold ref1_sum_L1 at h
  refine T_seq<|Tr<|Rm Y<|R2 v_leq Y<|R_nil<|K4 1 3 4 6 Y<|If h Y (fun h=>?_) fun h=>?_
  ·
   exact T_skip<|T_seq<|T_block<|K3 1 3 4 Y<|T_reg<|Rm Y<|Rm Y<|bE h fun x3 h_x3 h=>Rq Y (v_ixRG (ov Y) (ov Y) tR49 h_x3)<|Rq Y (v_loadS_r (ov Y) tS47<|at_get<|at_at (o := 0) (o' := (i.toNat * 1)) (at_all arL)<|at_v1 h_x3)<|Rq Y (v_conv (ov Y) tI47 tI3 Y)<|bE h fun q h_q h=>Rq Y (v_remG (ov Y) (ov Y) h_q)<|R2 v_xor_ Y<|Ra Y<|R_nil<|K3 1 3 4 Y<|T_reg<|Rm Y<|R2 vadd Y<|Ra Y<|R_nil<|⟨_, h, ES []⟩
  ·
   refine T_exit<|?_
   replace h := lx h ▸ ho1
   exact ⟨_, h, ES []⟩
 ·
  refine Tr<|Rm Y<|Ra Y<|R_nil<|?_
  obtain rfl := rt h
  exact T_ret (retq Y (.one<|rb Y))
theorem ok_ref1_check {f : Vector Int 64} {r : Int} (h : ref1_check f = some r) :
 CSpec Tryz.prog gl0 181 [.agg (List.map C47 f.toList)] (.int .i64 r) := by
 unfold ref1_check at h
 replace h := bnd0 h
 refine So Tryz.func181 Y fun w0 A=>Tr<|Rq Y (v_boxD (cva<|ov Y) arL tZ_49<|arD fun _ => Y)<|Ra Y<|R_nil<|K1 1 Y<|Tr<|Ra Y<|R_nil<|I1 (fun rest=>⟨[(3, .int .i64 rest)], []⟩) h (fun h=>?_) fun rest h=>?_
 ·
  refine Tr<|Ra Y<|R_nil<|T_block<|?_
  obtain ⟨r1, hl1, ho1⟩ := bndL h
  refine L2 (fun rest2 i=>⟨[(1, .rp (List.map C47 f.toList) 0), (3, .int .i64 rest2), (4, .int .i64 i)], []⟩) hl1 (ES []) fun n1 rest2 i h=>?_
  unfold ref1_check_L1 at h
  refine T_seq<|Tr<|Rm Y<|R2 v_lss Y<|R_nil<|K4 1 3 4 7 Y<|If h Y (fun h=>?_) fun h=>?_
  ·
   refine T_skip<|T_seq<|T_block<|K3 1 3 4 Y<|Tr<|Ra Y<|R_nil<|I1 (fun bit=>⟨[(1, .rp (List.map C47 f.toList) 0), (3, .int .i64 rest2), (4, .int .i64 i), (5, .int .i64 bit)], []⟩) h (fun h=>?_) fun bit h=>?_
   ·
    refine Tr<|Rm Y<|R2 v_lss Y<|R_nil<|K5 1 3 4 5 11 Y<|If h Y (fun h=>?_) fun h=>?_
    ·
     exact K4 1 3 4 5 Y<|T_reg<|Rm Y<|bE h fun q h_q h=>Rq Y (v_quoG (ov Y) (ov Y) h_q)<|bE h fun x h_x h=>Rq Y (v_ixRG (ov Y) (ov Y) tR49 h_x)<|Rq Y (v_loadS_r (ov Y) tS47<|at_get<|at_at (o := 0) (o' := (q.toNat * 1)) (at_all arL)<|at_v1 h_x)<|Rq Y (v_conv (ov Y) tI47 tI3 Y)<|Rm Y<|bE h fun q2 h_q2 h=>Rq Y (v_remG (ov Y) (ov Y) h_q2)<|R2 vsub Y<|bE h fun q3 h_q3 h=>Rq Y (v_shrG (ov Y) (ov Y) h_q3)<|R2 v_and_ Y<|Ra Y<|R_nil<|⟨_, h, ES []⟩
    ·
     exact T_skip<|⟨_, h, ES []⟩
   ·
    refine Tr<|Rm Y<|R2 vmul Y<|Rm Y<|R2 vadd Y<|Ra Y<|R_nil<|K3 1 3 4 Y<|Tr<|Rm Y<|R2 v_geq Y<|R_nil<|K4 1 3 4 27 Y<|If h Y (fun h=>?_) fun h=>?_
    ·
     exact K3 1 3 4 Y<|T_reg<|Rm Y<|R2 v_xor_ Y<|Ra Y<|R_nil<|K3 1 3 4 Y<|T_reg<|Rm Y<|R2 vadd Y<|Ra Y<|R_nil<|⟨_, h, ES []⟩
    ·
     exact T_skip<|K3 1 3 4 Y<|T_reg<|Rm Y<|R2 vadd Y<|Ra Y<|R_nil<|⟨_, h, ES []⟩
  ·
   refine T_exit<|?_
   replace h := lx h ▸ ho1
   exact ⟨_, h, ES []⟩
 ·
  refine Tr<|Rm Y<|Ra Y<|R_nil<|?_
  obtain rfl := rt h
  exact T_ret (retq Y (.one<|rb Y))
theorem ok_ref1_Flaws {f : Vector Int 64} {r : (List api_Flaw)} (h : ref1_Flaws f = some r) :
 CSpec Tryz.prog gl0 182 [.agg (List.map C47 f.toList)] (.sl 247 (List.map R247 r)) := by
 unfold ref1_Flaws at h
 replace h := bnd0 h
 refine So Tryz.func182 Y fun w0 A=>Tr<|Rq Y (v_boxD (cva<|ov Y) arL tZ_49<|arD fun _ => Y)<|Ra Y<|R_nil<|K1 1 Y<|Tr<|Ra Y<|R_nil<|I1 (fun out=>⟨[(1, .rp (List.map C47 f.toList) 0), (3, .own 0 out.length)], [some ⟨247, List.map R247 out⟩]⟩) h (fun h=>?_) fun out h=>?_
 ·
  refine Tr<|Rq Y (v_loadA_r (ov Y) tA49 (at_sub<|at_all arL) arL)<|Rm Y<|R_nil<|T_block<|?_
  obtain ⟨r1, hl1, ho1⟩ := bndL h
  refine L2 (fun out2 i=>⟨[(1, .rp (List.map C47 f.toList) 0), (3, .own 0 out2.length), (7, .agg (List.map C47 f.toList)), (8, .int .i64 i)], [some ⟨247, List.map R247 out2⟩]⟩) hl1 (ES [none]) fun n1 out2 i h=>?_
  unfold ref1_Flaws_L1 at h
  refine Tr<|R2 v_lss Y<|R_nil<|T_seq<|If h Y (fun h=>?_) fun h=>?_
  ·
   refine T_skip<|T_seq<|T_block<|K4 1 3 7 8 Y<|Tr<|Rm Y<|bE h fun x h_x h=>Rq Y (v_indexVG (ov Y) (ov Y) tR49 tS47 h_x)<|Ra Y<|Ra Y<|R_nil<|K6 1 3 4 5 7 8 Y<|Tr<|Rm Y<|R2 v_gtr Y<|R_nil<|K6 1 3 4 7 8 13 Y<|If h Y (fun h=>?_) fun h=>?_
   ·
    exact K5 1 3 4 7 8 Y<|T_reg<|Rm Y<|Rm Y<|Rq Y (v_build (ys := [_, _]) tPL247 tHA247 tZ247 (.cons (cvs (ov Y)<|cell1_b Y)<|.cons (cvs (ov Y)<|cell1_b Y) .nil) Y)<|R_q (.sl 247<|List.map R247 ([(api_Flaw.mk i 5)] : List api_Flaw)) Y (v_lit tL219 (.cons (cva<|ov Y) Y (pwD Y) .nil) Y Y)<|bE h fun l h_l h=>Rx Y (w_appendG (ov Y) (slv_sl (ov Y) tZ_247) tL219 Y Y Y (fun _=>cell1_all Y) Y h_l)<|Ra Y<|R_nil<|K4 1 3 7 8 Y<|T_reg<|R2 vadd Y<|Rm Y<|R_nil<|⟨_, h, ES [some 0]⟩
   ·
    exact T_skip<|K4 1 3 7 8 Y<|T_reg<|R2 vadd Y<|Rm Y<|R_nil<|⟨_, h, ES [some 0]⟩
  ·
   refine T_exit<|?_
   replace h := lx h ▸ ho1
   exact ⟨_, h, ES [some 0]⟩
 ·
  refine T_seq<|Tr<|Rm Y<|Rq Y (v_lenO (ov Y) Y Y tL219)<|R2 v_gtr Y<|R_nil<|K3 1 3 22 Y<|If h Y (fun h=>?_) fun h=>?_
  ·
   refine K1 3 Y<|Tr<|Rm Y<|Ra Y<|R_nil<|?_
   obtain rfl := rt h
   exact T_ret (retq Y (.one<|.tmp Y<|View.ownM Y Y D247))
  ·
   refine T_skip<|I1 (fun out3=>⟨[(1, .rp (List.map C47 f.toList) 0), (3, .own 0 out3.length)], [some ⟨247, List.map R247 out3⟩]⟩) h (fun h=>?_) fun out3 h=>?_
   ·
    refine K2 1 3 Y<|Td md0<|bE h fun x2 h_x2 h=>Dq 0 Y (v_ixRG (ov Y) (ov Y) tR49 h_x2)<|Dq 1 Y (v_loadS_r (ov Y) tS47<|at_get<|at_at (o := 0) (o' := ((Int.toNat 0) * 1)) (at_all arL)<|at_v1 h_x2)<|Dq 2 Y (v_conv (ov Y) tI47 tI3 Y)<|Dq 3 Y (v_loadA_r (ov Y) tA49 (at_sub<|at_all arL) arL)<|bE h fun y h_y h=>Dq 4 Y (v_call (ok_ref1_numberOf h_y)<|.cons (ov Y) (.aggB<|arD fun _ => Y) .nil)<|bE h fun y2 h_y2 h=>Dq 5 Y (v_call (ok_ref1_syncOf h_y2)<|.cons (ov Y) (.b Y) .nil)<|D2 6 v_neq Y<|Dd<|K3 1 3 30 Y<|If h Y (fun h=>?_) fun h=>?_
    ·
     exact K2 1 3 Y<|T_reg<|Rm Y<|Rq Y (v_build (ys := [_, _]) tPL247 tHA247 tZ247 (.cons (cvs (ov Y)<|cell1_b Y)<|.cons (cvs (ov Y)<|cell1_b Y) .nil) Y)<|R_q (.sl 247<|List.map R247 ([(api_Flaw.mk 0 1)] : List api_Flaw)) Y (v_lit tL219 (.cons (cva<|ov Y) Y (pwD Y) .nil) Y Y)<|bE h fun l2 h_l2 h=>Rx Y (w_appendG (ov Y) (slv_sl (ov Y) tZ_247) tL219 Y Y Y (fun _=>cell1_all Y) Y h_l2)<|Ra Y<|R_nil<|⟨_, h, ES [some 0]⟩
    ·
     exact T_skip<|⟨_, h, ES [some 0]⟩
   ·
    refine I1 (fun out4=>⟨[(1, .rp (List.map C47 f.toList) 0), (3, .own 0 out4.length)], [some ⟨247, List.map R247 out4⟩]⟩) h (fun h=>?_) fun out4 h=>?_
    ·
     refine Tr<|Ra Y<|R_nil<|T_block<|?_
     obtain ⟨r2, hl2, ho2⟩ := bndL h
     refine L2 (fun out5 i2=>⟨[(1, .rp (List.map C47 f.toList) 0), (3, .own 0 out5.length), (6, .int .i64 i2)], [some ⟨247, List.map R247 out5⟩]⟩) hl2 (ES [some 0]) fun n2 out5 i2 h=>?_
     unfold ref1_Flaws_L2 at h
     refine T_seq<|Tr<|Rm Y<|R2 v_lss Y<|R_nil<|K4 1 3 6 36 Y<|If h Y (fun h=>?_) fun h=>?_
     ·
      refine T_skip<|T_seq<|T_block<|K3 1 3 6 Y<|Tr<|Rm Y<|bE h fun x3 h_x3 h=>Rq Y (v_ixRG (ov Y) (ov Y) tR49 h_x3)<|Rq Y (v_loadS_r (ov Y) tS47<|at_get<|at_at (o := 0) (o' := (i2.toNat * 1)) (at_all arL)<|at_v1 h_x3)<|Rq Y (v_conv (ov Y) tI47 tI3 Y)<|bE h fun y3 h_y3 h=>Rq Y (v_call (ok_ref1_odd h_y3)<|.cons (ov Y) (.b Y) .nil)<|R1 v_not Y<|R_nil<|K4 1 3 6 44 Y<|If h Y (fun h=>?_) fun h=>?_
      ·
       exact K3 1 3 6 Y<|T_reg<|Rm Y<|Rm Y<|Rq Y (v_build (ys := [_, _]) tPL247 tHA247 tZ247 (.cons (cvs (ov Y)<|cell1_b Y)<|.cons (cvs (ov Y)<|cell1_b Y) .nil) Y)<|R_q (.sl 247<|List.map R247 ([(api_Flaw.mk i2 2)] : List api_Flaw)) Y (v_lit tL219 (.cons (cva<|ov Y) Y (pwD Y) .nil) Y Y)<|bE h fun l3 h_l3 h=>Rx Y (w_appendG (ov Y) (slv_sl (ov Y) tZ_247) tL219 Y Y Y (fun _=>cell1_all Y) Y h_l3)<|Ra Y<|R_nil<|K3 1 3 6 Y<|T_reg<|Rm Y<|R2 vadd Y<|Ra Y<|R_nil<|⟨_, h, ES [some 0]⟩
      ·
       exact T_skip<|K3 1 3 6 Y<|T_reg<|Rm Y<|R2 vadd Y<|Ra Y<|R_nil<|⟨_, h, ES [some 0]⟩
     ·
      refine T_exit<|?_
      replace h := lx h ▸ ho2
      exact ⟨_, h, ES [some 0]⟩
    ·
     refine I1 (fun out6=>⟨[(1, .rp (List.map C47 f.toList) 0), (3, .own 0 out6.length)], [some ⟨247, List.map R247 out6⟩]⟩) h (fun h=>?_) fun out6 h=>?_
     ·
      refine Td md0<|bE h fun x4 h_x4 h=>Dq 0 Y (v_ixRG (ov Y) (ov Y) tR49 h_x4)<|Dq 1 Y (v_loadS_r (ov Y) tS47<|at_get<|at_at (o := 0) (o' := ((Int.toNat 61) * 1)) (at_all arL)<|at_v1 h_x4)<|Dq 2 Y (v_conv (ov Y) tI47 tI3 Y)<|bE h fun q h_q h=>Dq 3 Y (v_remG (ov Y) (ov Y) h_q)<|Dq 4 Y (v_loadA_r (ov Y) tA49 (at_sub<|at_all arL) arL)<|bE h fun y4 h_y4 h=>Dq 5 Y (v_call (ok_ref1_sum h_y4)<|.cons (ov Y) (.aggB<|arD fun _ => Y) .nil)<|D2 6 v_neq Y<|Dd<|K3 1 3 56 Y<|If h Y (fun h=>?_) fun h=>?_
      ·
       exact K2 1 3 Y<|T_reg<|Rm Y<|Rq Y (v_build (ys := [_, _]) tPL247 tHA247 tZ247 (.cons (cvs (ov Y)<|cell1_b Y)<|.cons (cvs (ov Y)<|cell1_b Y) .nil) Y)<|R_q (.sl 247<|List.map R247 ([(api_Flaw.mk 61 3)] : List api_Flaw)) Y (v_lit tL219 (.cons (cva<|ov Y) Y (pwD Y) .nil) Y Y)<|bE h fun l4 h_l4 h=>Rx Y (w_appendG (ov Y) (slv_sl (ov Y) tZ_247) tL219 Y Y Y (fun _=>cell1_all Y) Y h_l4)<|Ra Y<|R_nil<|⟨_, h, ES [some 0]⟩
      ·
       exact T_skip<|⟨_, h, ES [some 0]⟩
     ·
      refine T_seq<|Td md0<|bE h fun x5 h_x5 h=>Dq 0 Y (v_ixRG (ov Y) (ov Y) tR49 h_x5)<|Dq 1 Y (v_loadS_r (ov Y) tS47<|at_get<|at_at (o := 0) (o' := ((Int.toNat 62) * 1)) (at_all arL)<|at_v1 h_x5)<|Dq 2 Y (v_conv (ov Y) tI47 tI3 Y)<|bE h fun q2 h_q2 h=>Dq 3 Y (v_remG (ov Y) (ov Y) h_q2)<|D2 4 vmul Y<|bE h fun x6 h_x6 h=>Dq 5 Y (v_ixRG (ov Y) (ov Y) tR49 h_x6)<|Dq 6 Y (v_loadS_r (ov Y) tS47<|at_get<|at_at (o := 0) (o' := ((Int.toNat 63) * 1)) (at_all arL)<|at_v1 h_x6)<|Dq 7 Y (v_conv (ov Y) tI47 tI3 Y)<|bE h fun q3 h_q3 h=>Dq 8 Y (v_remG (ov Y) (ov Y) h_q3)<|D2 9 vadd Y<|Dq 10 Y (v_loadA_r (ov Y) tA49 (at_sub<|at_all arL) arL)<|bE h fun y5 h_y5 h=>Dq 11 Y (v_call (ok_ref1_check h_y5)<|.cons (ov Y) (.aggB<|arD fun _ => Y) .nil)<|D2 12 v_neq Y<|Dd<|K2 3 73 Y<|If h Y (fun h=>?_) fun h=>?_
      ·
       refine K1 3 Y<|T_reg<|Rm Y<|Rq Y (v_build (ys := [_, _]) tPL247 tHA247 tZ247 (.cons (cvs (ov Y)<|cell1_b Y)<|.cons (cvs (ov Y)<|cell1_b Y) .nil) Y)<|R_q (.sl 247<|List.map R247 ([(api_Flaw.mk 62 4)] : List api_Flaw)) Y (v_lit tL219 (.cons (cva<|ov Y) Y (pwD Y) .nil) Y Y)<|bE h fun l5 h_l5 h=>Rx Y (w_appendG (ov Y) (slv_sl (ov Y) tZ_247) tL219 Y Y Y (fun _=>cell1_all Y) Y h_l5)<|Ra Y<|R_nil<|K1 3 Y<|Tr<|Rm Y<|Ra Y<|R_nil<|?_
       obtain rfl := rt h
       exact T_ret (retq Y (.one<|.tmp Y<|View.ownM Y Y D247))
      ·
       refine T_skip<|K1 3 Y<|Tr<|Rm Y<|Ra Y<|R_nil<|?_
       obtain rfl := rt h
       exact T_ret (retq Y (.one<|.tmp Y<|View.ownM Y Y D247))
theorem ok_ref1_Sound {f : Vector Int 64} {r : Bool} (h : ref1_Sound f = some r) :
 CSpec Tryz.prog gl0 131 [.agg (List.map C47 f.toList)] (.bool r) := by
 unfold ref1_Sound at h
 replace h := bnd0 h
 refine So Tryz.func131 Y fun w0 A=>Tr<|Rq Y (v_boxD (cva<|ov Y) arL tZ_49<|arD fun _ => Y)<|Ra Y<|R_nil<|K2 1 2 Y<|Tr<|Rq Y (v_loadA_r (ov Y) tA49 (at_sub<|at_all arL) arL)<|bE h fun y h_y h=>Rq Y (v_call (ok_ref1_Flaws h_y)<|.cons (ov Y) (.aggB<|arD fun _ => Y) .nil)<|Rl tZ_247 tL219 Y<|R2 v_eql Y<|Ra Y<|R_nil<|?_
 obtain rfl := rt h
 exact T_ret (retq Y (.one<|rb Y))
theorem ok_ref4_scan {h_ : List Int} {r : (List api_Found)} (h : ref4_scan h_ = some r) :
 CSpec Tryz.prog gl0 114 [.sl 5 (List.map R5 h_)] (.sl 158 (List.map R158 r)) := by
 unfold ref4_scan at h
 replace h := bnd0 h
 refine So Tryz.func114 Y fun w0 A=>Tr<|Ra Y<|R_nil<|K1 0 Y<|Tr<|Ra Y<|R_nil<|I1 (fun out=>⟨[(3, .own 0 out.length)], [some ⟨158, List.map R158 out⟩]⟩) h (fun h=>?_) fun out h=>?_
 ·
  refine Tr<|Ra Y<|R_nil<|T_block<|?_
  obtain ⟨r1, hl1, ho1⟩ := bndL h
  refine L2 (fun out2 at_=>⟨[(0, .sl 5 (List.map R5 h_)), (3, .own 0 out2.length), (4, .int .i64 at_)], [some ⟨158, List.map R158 out2⟩]⟩) hl1 (ES [none]) fun n1 out2 at_ h=>?_
  unfold ref4_scan_L1 at h
  refine T_seq<|Tr<|Rm Y<|R2 vadd Y<|Rm Y<|Rl tZ_5 tL66 Y<|R2 v_leq Y<|R_nil<|K4 0 3 4 12 Y<|If h Y (fun h=>?_) fun h=>?_
  ·
   refine T_skip<|I1 (fun out3=>⟨[(0, .sl 5 (List.map R5 h_)), (3, .own 0 out3.length), (4, .int .i64 at_)], [some ⟨158, List.map R158 out3⟩]⟩) h (fun h=>?_) fun out3 h=>?_
   ·
    refine T_block<|K3 0 3 4 Y<|Td md0<|D1 0 v_move Y<|D1 1 v_move Y<|bE h fun x h_x h=>Dq 2 Y (v_ixSG (ov Y) (ov Y) tL66 h_x)<|Dq 3 Y (v_loadS_r (ov Y) tS5 Y)<|Dq 4 Y (v_conv (ov Y) tI5 tI3 Y)<|D2 5 vmul Y<|D1 6 v_move Y<|D1 7 v_move Y<|D2 8 vadd Y<|bE h fun x2 h_x2 h=>Dq 9 Y (v_ixSG (ov Y) (ov Y) tL66 h_x2)<|Dq 10 Y (v_loadS_r (ov Y) tS5 Y)<|Dq 11 Y (v_conv (ov Y) tI5 tI3 Y)<|D2 12 vmul Y<|D2 13 vadd Y<|D1 14 v_move Y<|D1 15 v_move Y<|D2 16 vadd Y<|bE h fun x3 h_x3 h=>Dq 17 Y (v_ixSG (ov Y) (ov Y) tL66 h_x3)<|Dq 18 Y (v_loadS_r (ov Y) tS5 Y)<|Dq 19 Y (v_conv (ov Y) tI5 tI3 Y)<|D2 20 vadd Y<|D1 21 v_assign Y<|Dd<|T_seq<|K4 0 3 4 5 Y<|Tr<|Rm Y<|R2 v_neq Y<|Rm Y<|Rq Y (.guarded ((!decide ((i64 ((i64 ((i64 ((i64 x) * 256)) + (i64 ((i64 x2) * 16)))) + (i64 x3))) = 583)) == true) Y Y Y Y fun h => v_move<|ov Y)<|Rq Y (.guarded ((!decide ((i64 ((i64 ((i64 ((i64 x) * 256)) + (i64 ((i64 x2) * 16)))) + (i64 x3))) = 583)) == true) Y Y Y Y fun h => v_neq (ow Y h)<|ov Y)<|Rq Y (v_and (ov Y) fun hp=>ow Y<|gT hp)<|Rm Y<|Rq Y (.guarded (((!decide ((i64 ((i64 ((i64 ((i64 x) * 256)) + (i64 ((i64 x2) * 16)))) + (i64 x3))) = 583)) && (!decide ((i64 ((i64 ((i64 ((i64 x) * 256)) + (i64 ((i64 x2) * 16)))) + (i64 x3))) = 1464))) == true) Y Y Y Y fun h => v_move<|ov Y)<|Rq Y (.guarded (((!decide ((i64 ((i64 ((i64 ((i64 x) * 256)) + (i64 ((i64 x2) * 16)))) + (i64 x3))) = 583)) && (!decide ((i64 ((i64 ((i64 ((i64 x) * 256)) + (i64 ((i64 x2) * 16)))) + (i64 x3))) = 1464))) == true) Y Y Y Y fun h => v_neq (ow Y h)<|ov Y)<|Rq Y (v_and (ov Y) fun hp=>ow Y<|gT hp)<|Rm Y<|Rq Y (.guarded ((((!decide ((i64 ((i64 ((i64 ((i64 x) * 256)) + (i64 ((i64 x2) * 16)))) + (i64 x3))) = 583)) && (!decide ((i64 ((i64 ((i64 ((i64 x) * 256)) + (i64 ((i64 x2) * 16)))) + (i64 x3))) = 1464))) && (!decide ((i64 ((i64 ((i64 ((i64 x) * 256)) + (i64 ((i64 x2) * 16)))) + (i64 x3))) = 2631))) == true) Y Y Y Y fun h => v_move<|ov Y)<|Rq Y (.guarded ((((!decide ((i64 ((i64 ((i64 ((i64 x) * 256)) + (i64 ((i64 x2) * 16)))) + (i64 x3))) = 583)) && (!decide ((i64 ((i64 ((i64 ((i64 x) * 256)) + (i64 ((i64 x2) * 16)))) + (i64 x3))) = 1464))) && (!decide ((i64 ((i64 ((i64 ((i64 x) * 256)) + (i64 ((i64 x2) * 16)))) + (i64 x3))) = 2631))) == true) Y Y Y Y fun h => v_neq (ow Y h)<|ov Y)<|Rq Y (v_and (ov Y) fun hp=>ow Y<|gT hp)<|R_nil<|K4 0 3 4 49 Y<|If h Y (fun h=>?_) fun h=>?_
    ·
     exact T_exit<|⟨_, h, ES [some 0]⟩
    ·
     refine T_skip<|K3 0 3 4 Y<|Tr<|Rm Y<|Rm Y<|bE h fun y h_y h=>Rq Y (v_call (ok_ref4_frameAt h_y)<|.cons (ov Y) (.b Y)<|.cons (ov Y) (.b Y) .nil)<|Rm Y<|Rq Y (v_extract (ov Y) Y)<|Rq Y (v_extract (ov Y) Y)<|Rx Y (w_alloc (row := (List.map C47 (Vector.replicate 64 0).toList)) 1 Y tZ49 Y tZ_49)<|Rx Y (w_alloc (row := (List.map C4 (Vector.replicate 64 false).toList)) 2 Y tZ171 Y tZ_171)<|Rx Y (w_store (ov Y) (ov Y) (cells_agg tA49 arL) Y Y Y (put_le (at_all arL) arL) (cell1_all<|arC fun _ => Y)<|put_all<|Eq.trans arL<|Eq.symm arL)<|Rx Y (w_store (ov Y) (ov Y) (cells_agg tA171 arL) Y Y Y (put_le (at_all arL) arL) (cell1_all<|arC fun _ => Y)<|put_all<|Eq.trans arL<|Eq.symm arL)<|R_nil<|K4 0 3 4 6 Y<|Tr<|Rq Y (v_loadA (ov Y) Y Y Y tA49 (at_sub<|at_all arL) arL (hns := (nsM fun _ => Y)))<|bE h fun y2 h_y2 h=>Rq Y (v_call (ok_ref1_Sound h_y2)<|.cons (ov Y) (.aggB<|arD fun _ => Y) .nil)<|R_nil<|K5 0 3 4 6 57 Y<|If h Y (fun h=>?_) fun h=>?_
     ·
      exact K4 0 3 4 6 Y<|T_reg<|Rm Y<|Rm Y<|Rq Y (v_loadA (ov Y) Y Y Y tA49 (at_sub<|at_all arL) arL (hns := (nsM fun _ => Y)))<|Rq Y (v_buildX (zr := (.int .i64 0) :: ((List.map C47 (Vector.replicate 64 0).toList) ++ ([]))) tPL158 tHA158 tZ158 (by kernel_rfl) (.cons (cvs (ov Y)<|cell1_b Y)<|.cons (cva<|ov Y) .nil)<|fa_cons Y Y at2 pt3<|fa_cons Y arL at4 pt5 fa_nil)<|R_q (.sl 158<|List.map R158 ([(api_Found.mk at_ y.1)] : List api_Found)) Y (v_lit tL153 (.cons (cva<|ov Y) ln0 (pwD al1) .nil) Y Y)<|bE h fun l h_l h=>Rx Y (w_appendG (ov Y) (slv_sl (ov Y) tZ_158) tL153 Y Y Y (fun x=>cell1_all<|E158 x) Y h_l)<|Ra Y<|R_nil<|⟨_, h, ES [some 0]⟩
     ·
      exact T_skip<|⟨_, h, ES [some 0]⟩
   ·
    exact T_reg<|Rm Y<|R2 vadd Y<|Ra Y<|R_nil<|⟨_, h, ES [some 0]⟩
  ·
   refine T_exit<|?_
   replace h := lx h ▸ ho1
   exact ⟨_, h, ES [some 0]⟩
 ·
  refine Tr<|Rm Y<|Ra Y<|R_nil<|?_
  obtain rfl := rt h
  exact T_ret (retq Y (.one<|.tmp Y<|View.ownM Y Y D158))
theorem ok_ref4_apart {a : Int} {b : Int} {r : Int} (h : ref4_apart a b = some r) :
 CSpec Tryz.prog gl0 117 [.int .i64 a, .int .i64 b] (.int .i64 r) := by
 unfold ref4_apart at h
 replace h := bnd0 h
 refine So Tryz.func117 Y fun w0 A=>Tr<|Ra Y<|R_nil<|T_seq<|K2 0 1 Y<|Tr<|Rm Y<|Rm Y<|R2 v_lss Y<|R_nil<|K3 0 1 7 Y<|If h Y (fun h=>?_) fun h=>?_
 ·
  refine K2 0 1 Y<|Tr<|Rm Y<|Rm Y<|R2 vsub Y<|Ra Y<|R_nil<|?_
  obtain rfl := rt h
  exact T_ret (retq Y (.one<|rb Y))
 ·
  refine T_skip<|K2 0 1 Y<|Tr<|Rm Y<|Rm Y<|R2 vsub Y<|Ra Y<|R_nil<|?_
  obtain rfl := rt h
  exact T_ret (retq Y (.one<|rb Y))
theorem ok_ref4_certain {l : List api_Found} {r : (List api_Found)} (h : ref4_certain l = some r) :
 CSpec Tryz.prog gl0 113 [.sl 158 (List.map R158 l)] (.sl 158 (List.map R158 r)) := by
 unfold ref4_certain at h
 replace h := bnd0 h
 refine So Tryz.func113 Y fun w0 A=>Tr<|Ra Y<|R_nil<|K1 0 Y<|Tr<|Ra Y<|R_nil<|I1 (fun out=>⟨[(3, .own 0 out.length)], [some ⟨158, List.map R158 out⟩]⟩) h (fun h=>?_) fun out h=>?_
 ·
  refine Tr<|Rm Y<|Rl tZ_158 tL153 Y<|Rm Y<|R_nil<|T_block<|?_
  obtain ⟨r1, hl1, ho1⟩ := bndL h
  refine L2 (fun out2 i=>⟨[(0, .sl 158 (List.map R158 l)), (3, .own 0 out2.length), (7, .sl 158 (List.map R158 l)), (8, .int .i64 (l.length : Int)), (9, .int .i64 i)], [some ⟨158, List.map R158 out2⟩]⟩) hl1 (ES [none]) fun n1 out2 i h=>?_
  unfold ref4_certain_L1 at h
  refine Tr<|R2 v_lss Y<|R_nil<|T_seq<|If h Y (fun h=>?_) fun h=>?_
  ·
   refine T_skip<|T_seq<|T_block<|K5 0 3 7 8 9 Y<|Tr<|Rm Y<|bE h fun x h_x h=>Rq Y (v_ixSG (ov Y) (ov Y) tL153 h_x)<|Rq Y (v_loadA_r (ov Y) tA158 (at_sub<|at_all ln0) ln0)<|Rx Y (w_alloc (row := (.int .i64 0) :: ((List.map C47 (Vector.replicate 64 0).toList) ++ ([]))) 1 Y tZ158 (by kernel_rfl)<|by exact Eq.symm (Eq.trans (b := 65) ln0 tZ_158.symm))<|Ra Y<|Rx Y (w_store (ov Y) (ov Y) (cells_agg tA158 ln0) Y Y Y (put_le (at_all ln0) ln0) (cell1_all al6)<|put_all<|Eq.trans ln0<|Eq.symm ln0)<|R_nil<|K7 0 3 4 5 7 8 9 Y<|Td md0<|D1 0 v_move Y<|D2 1 v_eql Y<|D1 2 v_move Y<|Dq 3 Y (.guarded ((decide (i = 0)) == false) Y Y Y Y fun h => v_move<|ov Y)<|Dq 4 Y (.guarded ((decide (i = 0)) == false) Y Y Y Y fun h => v_move<|ov Y)<|Dq 5 Y (.guarded ((decide (i = 0)) == false) Y Y Y Y fun h => v_sub (ow Y h) (ov Y) Y)<|bE h fun x2 h_x2 h=>Dq 6 Y (.guarded ((decide (i = 0)) == false) Y Y Y Y fun h => v_ixSG (ow Y h) (ow Y h) tL153<|gdT h_x2 h)<|Dq 7 Y (.guarded ((decide (i = 0)) == false) Y Y Y Y fun h => v_fieldR (ow Y h) tF158_0)<|Dq 8 Y (.guarded ((decide (i = 0)) == false) Y Y Y Y fun h => v_loadS_r (ow Y h) tS3<|at_get at2)<|Dq 9 Y (.guarded ((decide (i = 0)) == false) Y Y Y Y fun h => v_fieldP (ov Y) Y Y tF158_0)<|Dq 10 Y (.guarded ((decide (i = 0)) == false) Y Y Y Y fun h => v_loadS (ow Y h) Y Y Y tS3<|at_get at2)<|bE h fun y h_y h=>Dq 11 Y (.guarded ((decide (i = 0)) == false) Y Y Y Y fun h => v_call (ok_ref4_apart<|gdT h_y h)<|.cons (ow Y h) (.b Y)<|.cons (ow Y h) (.b Y) .nil)<|Dq 12 Y (.guarded ((decide (i = 0)) == false) Y Y Y Y fun h => v_geq (ow Y h)<|ov Y)<|Dq 13 Y (v_or (ov Y) fun hp=>ow Y<|gF hp)<|D1 14 v_move Y<|Dq 15 Y (.guarded (((decide (i = 0)) || (decide (192 ≤ y))) == true) Y Y Y Y fun h => v_move<|ov Y)<|Dq 16 Y (.guarded (((decide (i = 0)) || (decide (192 ≤ y))) == true) Y Y Y Y fun h => v_add (ow Y h) (ov Y) Y)<|Dq 17 Y (.guarded (((decide (i = 0)) || (decide (192 ≤ y))) == true) Y Y Y Y fun h => v_move<|ov Y)<|Dq 18 Y (.guarded (((decide (i = 0)) || (decide (192 ≤ y))) == true) Y Y Y Y fun h => v_len (slv_sl (ow Y h) tZ_158) tL153<|len_map _ _)<|Dq 19 Y (.guarded (((decide (i = 0)) || (decide (192 ≤ y))) == true) Y Y Y Y fun h => v_eql (ow Y h)<|ow Y h)<|Dq 20 Y (.guarded (((decide (i = 0)) || (decide (192 ≤ y))) == true) Y Y Y Y fun h => v_move<|ow Y h)<|Dq 21 Y (.guarded2 ((((decide (i = 0)) || (decide (192 ≤ y))) == true) && ((decide ((i64 (i + 1)) = (l.length : Int))) == false)) Y Y Y Y fun h => v_move<|ov Y)<|Dq 22 Y (.guarded2 ((((decide (i = 0)) || (decide (192 ≤ y))) == true) && ((decide ((i64 (i + 1)) = (l.length : Int))) == false)) Y Y Y Y fun h => v_move<|ov Y)<|Dq 23 Y (.guarded2 ((((decide (i = 0)) || (decide (192 ≤ y))) == true) && ((decide ((i64 (i + 1)) = (l.length : Int))) == false)) Y Y Y Y fun h => v_add (ow Y h) (ov Y) Y)<|bE h fun x3 h_x3 h=>Dq 24 Y (.guarded2 ((((decide (i = 0)) || (decide (192 ≤ y))) == true) && ((decide ((i64 (i + 1)) = (l.length : Int))) == false)) Y Y Y Y fun h => v_ixSG (ow Y h) (ow Y h) tL153<|gdT h_x3 h)<|Dq 25 Y (.guarded2 ((((decide (i = 0)) || (decide (192 ≤ y))) == true) && ((decide ((i64 (i + 1)) = (l.length : Int))) == false)) Y Y Y Y fun h => v_fieldR (ow Y h) tF158_0)<|Dq 26 Y (.guarded2 ((((decide (i = 0)) || (decide (192 ≤ y))) == true) && ((decide ((i64 (i + 1)) = (l.length : Int))) == false)) Y Y Y Y fun h => v_loadS_r (ow Y h) tS3<|at_get at2)<|Dq 27 Y (.guarded2 ((((decide (i = 0)) || (decide (192 ≤ y))) == true) && ((decide ((i64 (i + 1)) = (l.length : Int))) == false)) Y Y Y Y fun h => v_fieldP (ov Y) Y Y tF158_0)<|Dq 28 Y (.guarded2 ((((decide (i = 0)) || (decide (192 ≤ y))) == true) && ((decide ((i64 (i + 1)) = (l.length : Int))) == false)) Y Y Y Y fun h => v_loadS (ow Y h) Y Y Y tS3<|at_get at2)<|bE h fun y2 h_y2 h=>Dq 29 Y (.guarded2 ((((decide (i = 0)) || (decide (192 ≤ y))) == true) && ((decide ((i64 (i + 1)) = (l.length : Int))) == false)) Y Y Y Y fun h => v_call (ok_ref4_apart<|gdT h_y2 h)<|.cons (ow Y h) (.b Y)<|.cons (ow Y h) (.b Y) .nil)<|Dq 30 Y (.guarded2 ((((decide (i = 0)) || (decide (192 ≤ y))) == true) && ((decide ((i64 (i + 1)) = (l.length : Int))) == false)) Y Y Y Y fun h => v_geq (ow Y h)<|ov Y)<|Dq 31 Y (.guarded (((decide (i = 0)) || (decide (192 ≤ y))) == true) Y Y Y Y fun h => v_or (ow Y h) fun hp=>ow Y<|gA h<|gF hp)<|Dq 32 Y (v_and (ov Y) fun hp=>ow Y<|gT hp)<|D1 33 v_assign Y<|Dd<|K7 0 3 5 6 7 8 9 Y<|Tr<|Rm Y<|R_nil<|K7 0 3 5 7 8 9 47 Y<|If h Y (fun h=>?_) fun h=>?_
   ·
    exact K6 0 3 5 7 8 9 Y<|T_reg<|Rm Y<|Rq Y (v_loadA (ov Y) Y Y Y tA158 (at_sub<|at_all ln0) ln0 (hns := ns7))<|R_q (.sl 158<|List.map R158 ([x] : List api_Found)) Y (v_lit tL153 (.cons (cva<|ov Y) ln0 (pwD al1) .nil) Y Y)<|bE h fun l2 h_l2 h=>Rx Y (w_appendG (ov Y) (slv_sl (ov Y) tZ_158) tL153 Y Y Y (fun x=>cell1_all<|E158 x) Y h_l2)<|Ra Y<|R_nil<|K5 0 3 7 8 9 Y<|T_reg<|R2 vadd Y<|Rm Y<|R_nil<|⟨_, h, ES [some 0]⟩
   ·
    exact T_skip<|K5 0 3 7 8 9 Y<|T_reg<|R2 vadd Y<|Rm Y<|R_nil<|⟨_, h, ES [some 0]⟩
  ·
   refine T_exit<|?_
   replace h := lx h ▸ ho1
   exact ⟨_, h, ES [some 0]⟩
 ·
  refine Tr<|Rm Y<|Ra Y<|R_nil<|?_
  obtain rfl := rt h
  exact T_ret (retq Y (.one<|.tmp Y<|View.ownM Y Y D158))
theorem ok_ref1_Right {w : Int} {r : Bool} (h : ref1_Right w = some r) :
 CSpec Tryz.prog gl0 164 [.int .u16 w] (.bool r) := by
 unfold ref1_Right at h
 replace h := bnd0 h
 refine So Tryz.func164 Y fun w0 A=>Tr<|Ra Y<|R_nil<|Tr<|Rm Y<|R2 v_leq Y<|Rm Y<|Rq Y (.guarded ((decide (w ≤ 4095)) == true) Y Y Y Y fun h => v_move<|ov Y)<|Rq Y (.guarded ((decide (w ≤ 4095)) == true) Y Y Y Y fun h => v_conv (ow Y h) tI47 tI3 Y)<|bE h fun y h_y h=>Rq Y (.guarded ((decide (w ≤ 4095)) == true) Y Y Y Y fun h => v_call (ok_ref1_odd<|gdT h_y h)<|.cons (ow Y h) (.b Y) .nil)<|Rq Y (v_and (ov Y) fun hp=>ow Y<|gT hp)<|Ra Y<|R_nil<|?_
 obtain rfl := rt h
 exact T_ret (retq Y (.one<|rb Y))
theorem ok_ref1_Number {f : Vector Int 64} {r : Int × Bool} (h : ref1_Number f = some r) :
 CSpec Tryz.prog gl0 162 [.agg (List.map C47 f.toList)] (.tuple [.int .i64 r.1, .bool r.2]) := by
 unfold ref1_Number at h
 replace h := bnd0 h
 refine So Tryz.func162 Y fun w0 A=>Tr<|Rq Y (v_boxD (cva<|ov Y) arL tZ_49<|arD fun _ => Y)<|Ra Y<|Ra Y<|R_nil<|T_seq<|K1 1 Y<|Tr<|bE h fun x h_x h=>Rq Y (v_ixRG (ov Y) (ov Y) tR49 h_x)<|Rq Y (v_loadS_r (ov Y) tS47<|at_get<|at_at (o := 0) (o' := ((Int.toNat 1) * 1)) (at_all arL)<|at_v1 h_x)<|bE h fun y h_y h=>Rq Y (v_call (ok_ref1_Right h_y)<|.cons (ov Y) (.b Y) .nil)<|R1 v_not Y<|Rm Y<|bE h fun x2 h_x2 h=>Rq Y (.guarded ((!y) == false) Y Y Y Y fun h => v_ixRG (ov Y) (ov Y) tR49<|gdT h_x2 h)<|Rq Y (.guarded ((!y) == false) Y Y Y Y fun h => v_loadS_r (ow Y h) tS47<|at_get<|at_at (o := 0) (o' := ((Int.toNat 2) * 1)) (at_all arL)<|at_v1<|gdT h_x2 h)<|bE h fun y2 h_y2 h=>Rq Y (.guarded ((!y) == false) Y Y Y Y fun h => v_call (ok_ref1_Right<|gdT h_y2 h)<|.cons (ow Y h) (.b Y) .nil)<|Rq Y (.guarded ((!y) == false) Y Y Y Y fun h => v_not<|ow Y h)<|Rq Y (v_or (ov Y) fun hp=>ow Y<|gF hp)<|R_nil<|K2 1 13 Y<|If h Y (fun h=>?_) fun h=>?_
 ·
  refine K0<|Tr<|Ra Y<|Ra Y<|R_nil<|?_
  obtain rfl := rt h
  exact T_ret (retq Y (.two (rb Y)<|rb Y))
 ·
  refine T_skip<|K1 1 Y<|Tr<|Rq Y (v_loadA_r (ov Y) tA49 (at_sub<|at_all arL) arL)<|bE h fun y3 h_y3 h=>Rq Y (v_call (ok_ref1_numberOf h_y3)<|.cons (ov Y) (.aggB<|arD fun _ => Y) .nil)<|Ra Y<|Ra Y<|R_nil<|?_
  obtain rfl := rt h
  exact T_ret (retq Y (.two (rb Y)<|rb Y))
theorem ok_ref4_number {f : Vector Int 64} {r : Int} (h : ref4_number f = some r) :
 CSpec Tryz.prog gl0 115 [.agg (List.map C47 f.toList)] (.int .i64 r) := by
 unfold ref4_number at h
 replace h := bnd0 h
 refine So Tryz.func115 Y fun w0 A=>Tr<|Rq Y (v_boxD (cva<|ov Y) arL tZ_49<|arD fun _ => Y)<|Ra Y<|R_nil<|K1 1 Y<|Tr<|Rq Y (v_loadA_r (ov Y) tA49 (at_sub<|at_all arL) arL)<|bE h fun y h_y h=>Rq Y (v_call (ok_ref1_Number h_y)<|.cons (ov Y) (.aggB<|arD fun _ => Y) .nil)<|Rm Y<|Rq Y (v_extract (ov Y) Y)<|Rq Y (v_extract (ov Y) Y)<|Ra Y<|Ra Y<|R_nil<|K1 3 Y<|Tr<|Rm Y<|Ra Y<|R_nil<|?_
 obtain rfl := rt h
 exact T_ret (retq Y (.one<|rb Y))
theorem ok_ref4_nearest {l : List api_Found} {at_ : Int} {r : Int} (h : ref4_nearest l at_ = some r) :
 CSpec Tryz.prog gl0 116 [.sl 158 (List.map R158 l), .int .i64 at_] (.int .i64 r) := by
 unfold ref4_nearest at h
 replace h := bnd0 h
 refine So Tryz.func116 Y fun w0 A=>Tr<|Ra Y<|R_nil<|K2 0 1 Y<|Tr<|Ra Y<|R_nil<|I1 (fun best=>⟨[(5, .int .i64 best)], []⟩) h (fun h=>?_) fun best h=>?_
 ·
  refine Tr<|Rm Y<|Rl tZ_158 tL153 Y<|Rm Y<|R_nil<|T_block<|?_
  obtain ⟨r1, hl1, ho1⟩ := bndL h
  refine L2 (fun best2 i=>⟨[(0, .sl 158 (List.map R158 l)), (1, .int .i64 at_), (5, .int .i64 best2), (8, .sl 158 (List.map R158 l)), (9, .int .i64 (l.length : Int)), (10, .int .i64 i)], []⟩) hl1 (ES []) fun n1 best2 i h=>?_
  unfold ref4_nearest_L1 at h
  refine Tr<|R2 v_lss Y<|R_nil<|T_seq<|If h Y (fun h=>?_) fun h=>?_
  ·
   refine T_skip<|T_seq<|T_block<|K6 0 1 5 8 9 10 Y<|Tr<|Rm Y<|bE h fun x h_x h=>Rq Y (v_ixSG (ov Y) (ov Y) tL153 h_x)<|Rq Y (v_loadA_r (ov Y) tA158 (at_sub<|at_all ln0) ln0)<|Rx Y (w_alloc (row := (.int .i64 0) :: ((List.map C47 (Vector.replicate 64 0).toList) ++ ([]))) 0 Y tZ158 (by kernel_rfl)<|by exact Eq.symm (Eq.trans (b := 65) ln0 tZ_158.symm))<|Ra Y<|Rx Y (w_store (ov Y) (ov Y) (cells_agg tA158 ln0) Y Y Y (put_le (at_all ln0) ln0) (cell1_all al6)<|put_all<|Eq.trans ln0<|Eq.symm ln0)<|R_nil<|K8 0 1 5 6 7 8 9 10 Y<|Td md0<|D1 0 v_move Y<|D2 1 v_lss Y<|D1 2 v_move Y<|Dq 3 Y (.guarded ((decide (best2 < 0)) == false) Y Y Y Y fun h => v_fieldP (ov Y) Y Y tF158_0)<|Dq 4 Y (.guarded ((decide (best2 < 0)) == false) Y Y Y Y fun h => v_loadS (ow Y h) Y Y Y tS3<|at_get at2)<|Dq 5 Y (.guarded ((decide (best2 < 0)) == false) Y Y Y Y fun h => v_move<|ov Y)<|bE h fun y h_y h=>Dq 6 Y (.guarded ((decide (best2 < 0)) == false) Y Y Y Y fun h => v_call (ok_ref4_apart<|gdT h_y h)<|.cons (ow Y h) (.b Y)<|.cons (ow Y h) (.b Y) .nil)<|Dq 7 Y (.guarded ((decide (best2 < 0)) == false) Y Y Y Y fun h => v_move<|ov Y)<|Dq 8 Y (.guarded ((decide (best2 < 0)) == false) Y Y Y Y fun h => v_move<|ov Y)<|bE h fun x2 h_x2 h=>Dq 9 Y (.guarded ((decide (best2 < 0)) == false) Y Y Y Y fun h => v_ixSG (ow Y h) (ow Y h) tL153<|gdT h_x2 h)<|Dq 10 Y (.guarded ((decide (best2 < 0)) == false) Y Y Y Y fun h => v_fieldR (ow Y h) tF158_0)<|Dq 11 Y (.guarded ((decide (best2 < 0)) == false) Y Y Y Y fun h => v_loadS_r (ow Y h) tS3<|at_get at2)<|Dq 12 Y (.guarded ((decide (best2 < 0)) == false) Y Y Y Y fun h => v_move<|ov Y)<|bE h fun y2 h_y2 h=>Dq 13 Y (.guarded ((decide (best2 < 0)) == false) Y Y Y Y fun h => v_call (ok_ref4_apart<|gdT h_y2 h)<|.cons (ow Y h) (.b Y)<|.cons (ow Y h) (.b Y) .nil)<|Dq 14 Y (.guarded ((decide (best2 < 0)) == false) Y Y Y Y fun h => v_lss (ow Y h)<|ow Y h)<|Dq 15 Y (v_or (ov Y) fun hp=>ow Y<|gF hp)<|Dd<|K8 0 1 5 6 8 9 10 30 Y<|If h Y (fun h=>?_) fun h=>?_
   ·
    exact K7 0 1 5 6 8 9 10 Y<|T_reg<|Rm Y<|Ra Y<|R_nil<|K6 0 1 5 8 9 10 Y<|T_reg<|R2 vadd Y<|Rm Y<|R_nil<|⟨_, h, ES []⟩
   ·
    exact T_skip<|K6 0 1 5 8 9 10 Y<|T_reg<|R2 vadd Y<|Rm Y<|R_nil<|⟨_, h, ES []⟩
  ·
   refine T_exit<|?_
   replace h := lx h ▸ ho1
   exact ⟨_, h, ES []⟩
 ·
  refine Tr<|Rm Y<|Ra Y<|R_nil<|?_
  obtain rfl := rt h
  exact T_ret (retq Y (.one<|rb Y))
theorem ok_ref1_Sync {number : Int} {r : Int × Int} (h : ref1_Sync number = some r) :
 CSpec Tryz.prog gl0 163 [.int .i64 number] (.tuple [.int .i64 r.1, .int .i64 r.2]) := by
 unfold ref1_Sync at h
 replace h := bnd0 h
 refine So Tryz.func163 Y fun w0 A=>Tr<|Ra Y<|Ra Y<|R_nil<|T_seq<|K1 0 Y<|Tr<|Rm Y<|R2 v_lss Y<|Rm Y<|Rq Y (.guarded ((decide (number < 0)) == false) Y Y Y Y fun h => v_move<|ov Y)<|Rq Y (.guarded ((decide (number < 0)) == false) Y Y Y Y fun h => v_geq (ow Y h)<|ov Y)<|Rq Y (v_or (ov Y) fun hp=>ow Y<|gF hp)<|R_nil<|K2 0 9 Y<|If h Y (fun h=>?_) fun h=>?_
 ·
  refine K0<|Tr<|Ra Y<|Ra Y<|R_nil<|?_
  obtain rfl := rt h
  exact T_ret (retq Y (.two (rb Y)<|rb Y))
 ·
  refine T_skip<|K1 0 Y<|Tr<|Rm Y<|bE h fun y h_y h=>Rq Y (v_call (ok_ref1_syncOf h_y)<|.cons (ov Y) (.b Y) .nil)<|Ra Y<|Ra Y<|R_nil<|?_
  obtain rfl := rt h
  exact T_ret (retq Y (.two (rb Y)<|rb Y))
theorem ok_ref4_ownNumber {f : Vector Int 64} {whole : Vector Bool 64} {r : Int × Bool} (h : ref4_ownNumber f whole = some r) :
 CSpec Tryz.prog gl0 119 [.agg (List.map C47 f.toList), .agg (List.map C4 whole.toList)] (.tuple [.int .i64 r.1, .bool r.2]) := by
 unfold ref4_ownNumber at h
 replace h := bnd0 h
 refine So Tryz.func119 Y fun w0 A=>Tr<|Rq Y (v_boxD (cva<|ov Y) arL tZ_49<|arD fun _ => Y)<|Rq Y (v_boxD (cva<|ov Y) arL tZ_171<|arD fun _ => Y)<|Ra Y<|Ra Y<|R_nil<|T_seq<|K2 2 3 Y<|Tr<|bE h fun x h_x h=>Rq Y (v_ixRG (ov Y) (ov Y) tR171 h_x)<|Rq Y (v_loadS_r (ov Y) tS4<|at_get<|at_at (o := 0) (o' := ((Int.toNat 0) * 1)) (at_all arL)<|at_v1 h_x)<|R1 v_not Y<|Rm Y<|bE h fun x2 h_x2 h=>Rq Y (.guarded ((!x) == false) Y Y Y Y fun h => v_ixRG (ov Y) (ov Y) tR171<|gdT h_x2 h)<|Rq Y (.guarded ((!x) == false) Y Y Y Y fun h => v_loadS_r (ow Y h) tS4<|at_get<|at_at (o := 0) (o' := ((Int.toNat 1) * 1)) (at_all arL)<|at_v1<|gdT h_x2 h)<|Rq Y (.guarded ((!x) == false) Y Y Y Y fun h => v_not<|ow Y h)<|Rq Y (v_or (ov Y) fun hp=>ow Y<|gF hp)<|Rm Y<|bE h fun x3 h_x3 h=>Rq Y (.guarded (((!x) || (!x2)) == false) Y Y Y Y fun h => v_ixRG (ov Y) (ov Y) tR171<|gdT h_x3 h)<|Rq Y (.guarded (((!x) || (!x2)) == false) Y Y Y Y fun h => v_loadS_r (ow Y h) tS4<|at_get<|at_at (o := 0) (o' := ((Int.toNat 2) * 1)) (at_all arL)<|at_v1<|gdT h_x3 h)<|Rq Y (.guarded (((!x) || (!x2)) == false) Y Y Y Y fun h => v_not<|ow Y h)<|Rq Y (v_or (ov Y) fun hp=>ow Y<|gF hp)<|R_nil<|K2 2 22 Y<|If h Y (fun h=>?_) fun h=>?_
 ·
  refine K0<|Tr<|Ra Y<|Ra Y<|R_nil<|?_
  obtain rfl := rt h
  exact T_ret (retq Y (.two (rb Y)<|rb Y))
 ·
  refine T_skip<|K1 2 Y<|Tr<|Rq Y (v_loadA_r (ov Y) tA49 (at_sub<|at_all arL) arL)<|bE h fun y h_y h=>Rq Y (v_call (ok_ref1_Number h_y)<|.cons (ov Y) (.aggB<|arD fun _ => Y) .nil)<|Rm Y<|Rq Y (v_extract (ov Y) Y)<|Rq Y (v_extract (ov Y) Y)<|Ra Y<|Ra Y<|R_nil<|T_seq<|K3 2 6 7 Y<|Tr<|Rm Y<|R1 v_not Y<|R_nil<|K3 2 6 29 Y<|If h Y (fun h=>?_) fun h=>?_
  ·
   refine K0<|Tr<|Ra Y<|Ra Y<|R_nil<|?_
   obtain rfl := rt h
   exact T_ret (retq Y (.two (rb Y)<|rb Y))
  ·
   refine T_skip<|K2 2 6 Y<|Tr<|Rm Y<|bE h fun y2 h_y2 h=>Rq Y (v_call (ok_ref1_Sync h_y2)<|.cons (ov Y) (.b Y) .nil)<|Rm Y<|Rq Y (v_extract (ov Y) Y)<|Rq Y (v_extract (ov Y) Y)<|Ra Y<|Ra Y<|R_nil<|K3 2 6 8 Y<|Td md0<|D1 0 v_move Y<|bE h fun x4 h_x4 h=>Dq 1 Y (v_ixRG (ov Y) (ov Y) tR49 h_x4)<|Dq 2 Y (v_loadS_r (ov Y) tS47<|at_get<|at_at (o := 0) (o' := ((Int.toNat 0) * 1)) (at_all arL)<|at_v1 h_x4)<|Dq 3 Y (v_conv (ov Y) tI47 tI3 Y)<|D1 4 v_move Y<|D2 5 v_eql Y<|D1 6 v_assign Y<|D1 7 v_assign Y<|Dd<|?_
   obtain rfl := rt h
   exact T_ret (retq Y (.two (rb Y)<|rb Y))
theorem ok_ref4_otherNumber {l : List api_Found} {c_ : Int} {at_ : Int} {r : Int × Bool} (h : ref4_otherNumber l c_ at_ = some r) :
 CSpec Tryz.prog gl0 120 [.sl 158 (List.map R158 l), .int .i64 c_, .int .i64 at_] (.tuple [.int .i64 r.1, .bool r.2]) := by
 unfold ref4_otherNumber at h
 replace h := bnd0 h
 refine So Tryz.func120 Y fun w0 A=>Tr<|Ra Y<|Ra Y<|R_nil<|K3 0 1 2 Y<|Tr<|Ra Y<|R_nil<|I1 (fun best=>⟨[(0, .sl 158 (List.map R158 l)), (1, .int .i64 c_), (2, .int .i64 at_), (8, .int .i64 best)], []⟩) h (fun h=>?_) fun best h=>?_
 ·
  refine Tr<|Rm Y<|Rl tZ_158 tL153 Y<|Rm Y<|R_nil<|T_block<|?_
  obtain ⟨r1, hl1, ho1⟩ := bndL h
  refine L2 (fun best2 i=>⟨[(0, .sl 158 (List.map R158 l)), (1, .int .i64 c_), (2, .int .i64 at_), (8, .int .i64 best2), (15, .sl 158 (List.map R158 l)), (16, .int .i64 (l.length : Int)), (17, .int .i64 i)], []⟩) hl1 (ES []) fun n1 best2 i h=>?_
  unfold ref4_otherNumber_L1 at h
  refine Tr<|R2 v_lss Y<|R_nil<|T_seq<|If h Y (fun h=>?_) fun h=>?_
  ·
   refine T_skip<|T_seq<|T_block<|K7 0 1 2 8 15 16 17 Y<|Tr<|Rm Y<|bE h fun x h_x h=>Rq Y (v_ixSG (ov Y) (ov Y) tL153 h_x)<|Rq Y (v_loadA_r (ov Y) tA158 (at_sub<|at_all ln0) ln0)<|Rx Y (w_alloc (row := (.int .i64 0) :: ((List.map C47 (Vector.replicate 64 0).toList) ++ ([]))) 0 Y tZ158 (by kernel_rfl)<|by exact Eq.symm (Eq.trans (b := 65) ln0 tZ_158.symm))<|Ra Y<|Rx Y (w_store (ov Y) (ov Y) (cells_agg tA158 ln0) Y Y Y (put_le (at_all ln0) ln0) (cell1_all al6)<|put_all<|Eq.trans ln0<|Eq.symm ln0)<|R_nil<|T_seq<|K9 0 1 2 8 9 10 15 16 17 Y<|Td md0<|D1 0 v_move Y<|D1 1 v_move Y<|D2 2 v_eql Y<|D1 3 v_move Y<|Dq 4 Y (.guarded ((decide (i = c_)) == false) Y Y Y Y fun h => v_fieldP (ov Y) Y Y tF158_0)<|Dq 5 Y (.guarded ((decide (i = c_)) == false) Y Y Y Y fun h => v_loadS (ow Y h) Y Y Y tS3<|at_get at2)<|Dq 6 Y (.guarded ((decide (i = c_)) == false) Y Y Y Y fun h => v_move<|ov Y)<|Dq 7 Y (.guarded ((decide (i = c_)) == false) Y Y Y Y fun h => v_move<|ov Y)<|bE h fun x2 h_x2 h=>Dq 8 Y (.guarded ((decide (i = c_)) == false) Y Y Y Y fun h => v_ixSG (ow Y h) (ow Y h) tL153<|gdT h_x2 h)<|Dq 9 Y (.guarded ((decide (i = c_)) == false) Y Y Y Y fun h => v_fieldR (ow Y h) tF158_0)<|Dq 10 Y (.guarded ((decide (i = c_)) == false) Y Y Y Y fun h => v_loadS_r (ow Y h) tS3<|at_get at2)<|Dq 11 Y (.guarded ((decide (i = c_)) == false) Y Y Y Y fun h => v_sub (ow Y h) (ow Y h) Y)<|bE h fun q h_q h=>Dq 12 Y (.guarded ((decide (i = c_)) == false) Y Y Y Y fun h => v_remG (ow Y h) (ov Y)<|gdT h_q h)<|Dq 13 Y (.guarded ((decide (i = c_)) == false) Y Y Y Y fun h => v_neq (ow Y h)<|ov Y)<|Dq 14 Y (v_or (ov Y) fun hp=>ow Y<|gF hp)<|Dd<|K10 0 1 2 8 9 10 15 16 17 36 Y<|If h Y (fun h=>?_) fun h=>?_
   ·
    exact T_exit<|K7 0 1 2 8 15 16 17 Y<|T_reg<|R2 vadd Y<|Rm Y<|R_nil<|⟨_, h, ES []⟩
   ·
    refine T_skip<|K9 0 1 2 8 9 10 15 16 17 Y<|Td md0<|D1 0 v_move Y<|D2 1 v_lss Y<|D1 2 v_move Y<|Dq 3 Y (.guarded ((decide (best2 < 0)) == false) Y Y Y Y fun h => v_fieldP (ov Y) Y Y tF158_0)<|Dq 4 Y (.guarded ((decide (best2 < 0)) == false) Y Y Y Y fun h => v_loadS (ow Y h) Y Y Y tS3<|at_get at2)<|Dq 5 Y (.guarded ((decide (best2 < 0)) == false) Y Y Y Y fun h => v_move<|ov Y)<|bE h fun y h_y h=>Dq 6 Y (.guarded ((decide (best2 < 0)) == false) Y Y Y Y fun h => v_call (ok_ref4_apart<|gdT h_y h)<|.cons (ow Y h) (.b Y)<|.cons (ow Y h) (.b Y) .nil)<|Dq 7 Y (.guarded ((decide (best2 < 0)) == false) Y Y Y Y fun h => v_move<|ov Y)<|Dq 8 Y (.guarded ((decide (best2 < 0)) == false) Y Y Y Y fun h => v_move<|ov Y)<|bE h fun x3 h_x3 h=>Dq 9 Y (.guarded ((decide (best2 < 0)) == false) Y Y Y Y fun h => v_ixSG (ow Y h) (ow Y h) tL153<|gdT h_x3 h)<|Dq 10 Y (.guarded ((decide (best2 < 0)) == false) Y Y Y Y fun h => v_fieldR (ow Y h) tF158_0)<|Dq 11 Y (.guarded ((decide (best2 < 0)) == false) Y Y Y Y fun h => v_loadS_r (ow Y h) tS3<|at_get at2)<|Dq 12 Y (.guarded ((decide (best2 < 0)) == false) Y Y Y Y fun h => v_move<|ov Y)<|bE h fun y2 h_y2 h=>Dq 13 Y (.guarded ((decide (best2 < 0)) == false) Y Y Y Y fun h => v_call (ok_ref4_apart<|gdT h_y2 h)<|.cons (ow Y h) (.b Y)<|.cons (ow Y h) (.b Y) .nil)<|Dq 14 Y (.guarded ((decide (best2 < 0)) == false) Y Y Y Y fun h => v_lss (ow Y h)<|ow Y h)<|Dq 15 Y (v_or (ov Y) fun hp=>ow Y<|gF hp)<|Dd<|K9 0 1 2 8 9 15 16 17 52 Y<|If h Y (fun h=>?_) fun h=>?_
    ·
     exact K8 0 1 2 8 9 15 16 17 Y<|T_reg<|Rm Y<|Ra Y<|R_nil<|K7 0 1 2 8 15 16 17 Y<|T_reg<|R2 vadd Y<|Rm Y<|R_nil<|⟨_, h, ES []⟩
    ·
     exact T_skip<|K7 0 1 2 8 15 16 17 Y<|T_reg<|R2 vadd Y<|Rm Y<|R_nil<|⟨_, h, ES []⟩
  ·
   refine T_exit<|?_
   replace h := lx h ▸ ho1
   exact ⟨_, h, ES []⟩
 ·
  refine T_seq<|Tr<|Rm Y<|R2 v_lss Y<|R_nil<|K5 0 1 2 8 56 Y<|If h Y (fun h=>?_) fun h=>?_
  ·
   refine K0<|Tr<|Ra Y<|Ra Y<|R_nil<|?_
   obtain rfl := rt h
   exact T_ret (retq Y (.two (rb Y)<|rb Y))
  ·
   refine T_skip<|K4 0 1 2 8 Y<|Td md0<|D1 0 v_move Y<|D1 1 v_move Y<|D1 2 v_move Y<|bE h fun x4 h_x4 h=>Dq 3 Y (v_ixSG (ov Y) (ov Y) tL153 h_x4)<|Dq 4 Y (v_fieldR (ov Y) tF158_0)<|Dq 5 Y (v_loadS_r (ov Y) tS3<|at_get at2)<|D2 6 vsub Y<|bE h fun q2 h_q2 h=>Dq 7 Y (v_quoG (ov Y) (ov Y) h_q2)<|D1 8 v_move Y<|D1 9 v_move Y<|bE h fun x5 h_x5 h=>Dq 10 Y (v_ixSG (ov Y) (ov Y) tL153 h_x5)<|Dq 11 Y (v_fieldR (ov Y) tF158_0)<|Dq 12 Y (v_loadS_r (ov Y) tS3<|at_get at2)<|D1 13 v_move Y<|D1 14 v_move Y<|bE h fun x6 h_x6 h=>Dq 15 Y (v_ixSG (ov Y) (ov Y) tL153 h_x6)<|Dq 16 Y (v_fieldR (ov Y) tF158_0)<|Dq 17 Y (v_loadS_r (ov Y) tS3<|at_get at2)<|D2 18 vsub Y<|bE h fun q3 h_q3 h=>Dq 19 Y (v_quoG (ov Y) (ov Y) h_q3)<|D1 20 v_assign Y<|D1 21 v_assign Y<|Dd<|K5 0 1 8 11 12 Y<|Td md0<|D1 0 v_move Y<|D1 1 v_move Y<|bE h fun x7 h_x7 h=>Dq 2 Y (v_ixSG (ov Y) (ov Y) tL153 h_x7)<|Dq 3 Y (v_fieldR (ov Y) tF158_1)<|Dq 4 Y (v_loadA_r (ov Y) tA49 (at_sub at4) arL)<|bE h fun y3 h_y3 h=>Dq 5 Y (v_call (ok_ref4_number h_y3)<|.cons (ov Y) (.aggB<|arD fun _ => Y) .nil)<|D1 6 v_move Y<|D1 7 v_move Y<|bE h fun x8 h_x8 h=>Dq 8 Y (v_ixSG (ov Y) (ov Y) tL153 h_x8)<|Dq 9 Y (v_fieldR (ov Y) tF158_1)<|Dq 10 Y (v_loadA_r (ov Y) tA49 (at_sub at4) arL)<|bE h fun y4 h_y4 h=>Dq 11 Y (v_call (ok_ref4_number h_y4)<|.cons (ov Y) (.aggB<|arD fun _ => Y) .nil)<|D1 12 v_move Y<|D1 13 v_move Y<|bE h fun x9 h_x9 h=>Dq 14 Y (v_ixSG (ov Y) (ov Y) tL153 h_x9)<|Dq 15 Y (v_fieldR (ov Y) tF158_1)<|Dq 16 Y (v_loadA_r (ov Y) tA49 (at_sub at4) arL)<|bE h fun y5 h_y5 h=>Dq 17 Y (v_call (ok_ref4_number h_y5)<|.cons (ov Y) (.aggB<|arD fun _ => Y) .nil)<|D2 18 vsub Y<|D1 19 v_assign Y<|D1 20 v_assign Y<|Dd<|T_seq<|K4 11 12 13 14 Y<|Tr<|Rm Y<|R2 v_eql Y<|Rm Y<|Rq Y (.guarded ((decide ((i64 (y4 - y5)) = 0)) == false) Y Y Y Y fun h => v_move<|ov Y)<|Rq Y (.guarded ((decide ((i64 (y4 - y5)) = 0)) == false) Y Y Y Y fun h => v_gtr (ow Y h)<|ov Y)<|Rq Y (.guarded ((decide ((i64 (y4 - y5)) = 0)) == false) Y Y Y Y fun h => v_move<|ov Y)<|Rq Y (.guarded ((decide ((i64 (y4 - y5)) = 0)) == false) Y Y Y Y fun h => v_gtr (ow Y h)<|ov Y)<|Rq Y (.guarded ((decide ((i64 (y4 - y5)) = 0)) == false) Y Y Y Y fun h => tBool_eq .neq (by simp) (ow Y h) (ow Y h) tB4)<|Rq Y (v_or (ov Y) fun hp=>ow Y<|gF hp)<|Rm Y<|Rq Y (.guarded (((decide ((i64 (y4 - y5)) = 0)) || (!((decide (0 < (i64 (y4 - y5)))) == (decide (0 < q3))))) == false) Y Y Y Y fun h => v_move<|ov Y)<|Rq Y (.guarded (((decide ((i64 (y4 - y5)) = 0)) || (!((decide (0 < (i64 (y4 - y5)))) == (decide (0 < q3))))) == false) Y Y Y Y fun h => v_move<|ov Y)<|bE h fun q4 h_q4 h=>Rq Y (.guarded (((decide ((i64 (y4 - y5)) = 0)) || (!((decide (0 < (i64 (y4 - y5)))) == (decide (0 < q3))))) == false) Y Y Y Y fun h => v_remG (ow Y h) (ow Y h)<|gdT h_q4 h)<|Rq Y (.guarded (((decide ((i64 (y4 - y5)) = 0)) || (!((decide (0 < (i64 (y4 - y5)))) == (decide (0 < q3))))) == false) Y Y Y Y fun h => v_neq (ow Y h)<|ov Y)<|Rq Y (v_or (ov Y) fun hp=>ow Y<|gF hp)<|R_nil<|K5 11 12 13 14 110 Y<|If h Y (fun h=>?_) fun h=>?_
   ·
    refine K0<|Tr<|Ra Y<|Ra Y<|R_nil<|?_
    obtain rfl := rt h
    exact T_ret (retq Y (.two (rb Y)<|rb Y))
   ·
    refine T_skip<|K4 11 12 13 14 Y<|Tr<|Rm Y<|Rm Y<|Rm Y<|Rm Y<|bE h fun q5 h_q5 h=>Rq Y (v_quoG (ov Y) (ov Y) h_q5)<|R2 vmul Y<|R2 vadd Y<|Ra Y<|R_nil<|K1 13 Y<|Tr<|Rm Y<|Rm Y<|R2 v_geq Y<|Rm Y<|Rq Y (.guarded ((decide (0 ≤ (i64 (y3 + (i64 (q2 * q5)))))) == true) Y Y Y Y fun h => v_move<|ov Y)<|Rq Y (.guarded ((decide (0 ≤ (i64 (y3 + (i64 (q2 * q5)))))) == true) Y Y Y Y fun h => v_lss (ow Y h)<|ov Y)<|Rq Y (v_and (ov Y) fun hp=>ow Y<|gT hp)<|Ra Y<|Ra Y<|R_nil<|?_
    obtain rfl := rt h
    exact T_ret (retq Y (.two (rb Y)<|rb Y))
theorem ok_ref4_restAt {f : Vector Int 64} {whole : Vector Bool 64} {n : Int} {r : api_Rest} (h : ref4_restAt f whole n = some r) :
 CSpec Tryz.prog gl0 121 [.agg (List.map C47 f.toList), .agg (List.map C4 whole.toList), .int .i64 n] (.agg ((.int .i64 r.Number) :: ((List.map C47 r.Frame.toList) ++ (((List.map C3 r.States.toList) ++ ((.bool r.Sound) :: (.int .i64 r.Copies) :: (.bool r.Conflict) :: [])))))) := by
 unfold ref4_restAt at h
 replace h := bnd0 h
 refine So Tryz.func121 Y fun w0 A=>Tr<|Rq Y (v_boxD (cva<|ov Y) arL tZ_49<|arD fun _ => Y)<|Rq Y (v_boxD (cva<|ov Y) arL tZ_171<|arD fun _ => Y)<|Rx Y (w_alloc (row := (.int .i64 0) :: ((List.map C47 (Vector.replicate 64 0).toList) ++ (((List.map C3 (Vector.replicate 64 0).toList) ++ ((.bool false) :: (.int .i64 0) :: (.bool false) :: []))))) 0 Y tZ74 (by kernel_rfl)<|by exact Eq.symm (Eq.trans (b := 132) ln18 tZ_74.symm))<|R_nil<|K4 2 3 4 6 Y<|Tr<|Rm Y<|Rq Y (v_buildX (zr := (.int .i64 0) :: ((List.map C47 (Vector.replicate 64 0).toList) ++ (((List.map C3 (Vector.replicate 64 0).toList) ++ ((.bool false) :: (.int .i64 0) :: (.bool false) :: []))))) tPL74 tHA74 tZ74 (by kernel_rfl) (.cons (cvs (ov Y)<|cell1_b Y) .nil)<|fa_cons Y Y at8 pt9 fa_nil)<|Rx Y (w_alloc (row := (.int .i64 0) :: ((List.map C47 (Vector.replicate 64 0).toList) ++ (((List.map C3 (Vector.replicate 64 0).toList) ++ ((.bool false) :: (.int .i64 0) :: (.bool false) :: []))))) 1 Y tZ74 (by kernel_rfl)<|by exact Eq.symm (Eq.trans (b := 132) ln18 tZ_74.symm))<|Rx Y (w_store (ov Y) (ov Y) (cells_agg tA74 ln18) Y Y Y (put_le (at_all ln18) ln18) (cell1_all al20)<|put_all<|Eq.trans ln18<|Eq.symm ln18)<|R_nil<|K5 2 3 4 6 7 Y<|Tr<|Rm Y<|bE h fun y h_y h=>Rq Y (v_call (ok_ref1_Sync h_y)<|.cons (ov Y) (.b Y) .nil)<|Rm Y<|Rq Y (v_extract (ov Y) Y)<|Rq Y (v_extract (ov Y) Y)<|Ra Y<|Ra Y<|R_nil<|I1 (fun r_=>⟨[(6, .ptr 0 1 0 0), (7, .ptr 1 1 0 0)], [some ⟨74, [(.int .i64 0) :: ((List.map C47 (Vector.replicate 64 0).toList) ++ (((List.map C3 (Vector.replicate 64 0).toList) ++ ((.bool false) :: (.int .i64 0) :: (.bool false) :: []))))]⟩, some ⟨74, [(.int .i64 r_.Number) :: ((List.map C47 r_.Frame.toList) ++ (((List.map C3 r_.States.toList) ++ ((.bool r_.Sound) :: (.int .i64 r_.Copies) :: (.bool r_.Conflict) :: []))))]⟩]⟩) h (fun h=>?_) fun r_ h=>?_
 ·
  refine K6 2 3 4 6 7 8 Y<|Tr<|Rm Y<|R_nil<|T_block<|?_
  obtain ⟨r1, hl1, ho1⟩ := bndL h
  refine L2 (fun r_2 i=>⟨[(2, .int .i64 n), (3, .rp (List.map C47 f.toList) 0), (4, .rp (List.map C4 whole.toList) 0), (6, .ptr 0 1 0 0), (7, .ptr 1 1 0 0), (8, .int .i64 y.1), (19, .int .i64 i)], [some ⟨74, [(.int .i64 0) :: ((List.map C47 (Vector.replicate 64 0).toList) ++ (((List.map C3 (Vector.replicate 64 0).toList) ++ ((.bool false) :: (.int .i64 0) :: (.bool false) :: []))))]⟩, some ⟨74, [(.int .i64 r_2.Number) :: ((List.map C47 r_2.Frame.toList) ++ (((List.map C3 r_2.States.toList) ++ ((.bool r_2.Sound) :: (.int .i64 r_2.Copies) :: (.bool r_2.Conflict) :: []))))]⟩]⟩) hl1 (ES [some 0, some 1]) fun n1 r_2 i h=>?_
  unfold ref4_restAt_L1 at h
  refine Tr<|R2 v_lss Y<|R_nil<|T_seq<|If h Y (fun h=>?_) fun h=>?_
  ·
   refine T_skip<|T_seq<|T_block<|K7 2 3 4 6 7 8 19 Y<|Tr<|Rm Y<|Ra Y<|R_nil<|K8 2 3 4 6 7 8 10 19 Y<|Tr<|Rm Y<|bE h fun x h_x h=>Rq Y (v_ixRG (ov Y) (ov Y) tR171 h_x)<|Rq Y (v_loadS_r (ov Y) tS4<|at_get<|at_at (o := 0) (o' := (i.toNat * 1)) (at_all arL)<|at_v1 h_x)<|Rm Y<|Rq Y (.guarded (x == true) Y Y Y Y fun h => v_move<|ov Y)<|bE h fun x2 h_x2 h=>Rq Y (.guarded (x == true) Y Y Y Y fun h => v_ixRG (ov Y) (ow Y h) tR49<|gdT h_x2 h)<|Rq Y (.guarded (x == true) Y Y Y Y fun h => v_loadS_r (ow Y h) tS47<|at_get<|at_at (o := 0) (o' := (i.toNat * 1)) (at_all arL)<|at_v1<|gdT h_x2 h)<|bE h fun y2 h_y2 h=>Rq Y (.guarded (x == true) Y Y Y Y fun h => v_call (ok_ref1_Right<|gdT h_y2 h)<|.cons (ow Y h) (.b Y) .nil)<|Rq Y (v_and (ov Y) fun hp=>ow Y<|gT hp)<|Ra Y<|R_nil<|I1 (fun right=>⟨[(2, .int .i64 n), (3, .rp (List.map C47 f.toList) 0), (4, .rp (List.map C4 whole.toList) 0), (6, .ptr 0 1 0 0), (7, .ptr 1 1 0 0), (8, .int .i64 y.1), (10, .int .i64 i), (11, .bool right), (19, .int .i64 i)], [some ⟨74, [(.int .i64 0) :: ((List.map C47 (Vector.replicate 64 0).toList) ++ (((List.map C3 (Vector.replicate 64 0).toList) ++ ((.bool false) :: (.int .i64 0) :: (.bool false) :: []))))]⟩, some ⟨74, [(.int .i64 r_2.Number) :: ((List.map C47 r_2.Frame.toList) ++ (((List.map C3 r_2.States.toList) ++ ((.bool r_2.Sound) :: (.int .i64 r_2.Copies) :: (.bool r_2.Conflict) :: []))))]⟩]⟩) h (fun h=>?_) fun right h=>?_
   ·
    refine K9 2 3 4 6 7 8 10 11 19 Y<|Tr<|Rm Y<|R_nil<|T_block<|Tr<|R2 v_eql Y<|Ra Y<|R_nil<|K11 2 3 4 6 7 8 10 11 19 31 32 Y<|If h Y (fun h=>?_) fun h=>?_
    ·
     exact K9 2 3 4 6 7 8 10 11 19 Y<|T_reg<|Rm Y<|bE h fun x3 h_x3 h=>Rq Y (v_ixRG (ov Y) (ov Y) tR171 h_x3)<|Rq Y (v_loadS_r (ov Y) tS4<|at_get<|at_at (o := 0) (o' := (i.toNat * 1)) (at_all arL)<|at_v1 h_x3)<|Rm Y<|Rq Y (.guarded (x3 == true) Y Y Y Y fun h => v_move<|ov Y)<|bE h fun x4 h_x4 h=>Rq Y (.guarded (x3 == true) Y Y Y Y fun h => v_ixRG (ov Y) (ow Y h) tR49<|gdT h_x4 h)<|Rq Y (.guarded (x3 == true) Y Y Y Y fun h => v_loadS_r (ow Y h) tS47<|at_get<|at_at (o := 0) (o' := (i.toNat * 1)) (at_all arL)<|at_v1<|gdT h_x4 h)<|Rq Y (.guarded (x3 == true) Y Y Y Y fun h => v_conv (ow Y h) tI47 tI3 Y)<|Rq Y (.guarded (x3 == true) Y Y Y Y fun h => v_move<|ov Y)<|Rq Y (.guarded (x3 == true) Y Y Y Y fun h => v_eql (ow Y h)<|ow Y h)<|Rq Y (v_and (ov Y) fun hp=>ow Y<|gT hp)<|Ra Y<|R_nil<|⟨_, h, ES [some 0, some 1]⟩
    ·
     refine K10 2 3 4 6 7 8 10 11 19 31 Y<|Tr<|R2 v_eql Y<|Ra Y<|R_nil<|K11 2 3 4 6 7 8 10 11 19 31 45 Y<|If h Y (fun h=>?_) fun h=>?_
     ·
      exact K9 2 3 4 6 7 8 10 11 19 Y<|T_reg<|Rm Y<|Rm Y<|Rq Y (.guarded ((x && y2) == true) Y Y Y Y fun h => v_move<|ov Y)<|bE h fun x5 h_x5 h=>Rq Y (.guarded ((x && y2) == true) Y Y Y Y fun h => v_ixRG (ov Y) (ow Y h) tR49<|gdT h_x5 h)<|Rq Y (.guarded ((x && y2) == true) Y Y Y Y fun h => v_loadS_r (ow Y h) tS47<|at_get<|at_at (o := 0) (o' := (i.toNat * 1)) (at_all arL)<|at_v1<|gdT h_x5 h)<|Rq Y (.guarded ((x && y2) == true) Y Y Y Y fun h => v_conv (ow Y h) tI47 tI3 Y)<|bE h fun q h_q h=>Rq Y (.guarded ((x && y2) == true) Y Y Y Y fun h => v_remG (ow Y h) (ov Y)<|gdT h_q h)<|Rq Y (.guarded ((x && y2) == true) Y Y Y Y fun h => v_move<|ov Y)<|bE h fun q2 h_q2 h=>Rq Y (.guarded ((x && y2) == true) Y Y Y Y fun h => v_remG (ow Y h) (ov Y)<|gdT h_q2 h)<|Rq Y (.guarded ((x && y2) == true) Y Y Y Y fun h => v_eql (ow Y h)<|ow Y h)<|Rq Y (v_and (ov Y) fun hp=>ow Y<|gT hp)<|Ra Y<|R_nil<|⟨_, h, ES [some 0, some 1]⟩
     ·
      refine K10 2 3 4 6 7 8 10 11 19 31 Y<|Tr<|R2 v_eql Y<|Ra Y<|R_nil<|K10 2 3 4 6 7 8 10 11 19 58 Y<|If h Y (fun h=>?_) fun h=>?_
      ·
       exact K9 2 3 4 6 7 8 10 11 19 Y<|T_reg<|Rm Y<|Rm Y<|Rq Y (.guarded ((x && y2) == true) Y Y Y Y fun h => v_move<|ov Y)<|bE h fun x6 h_x6 h=>Rq Y (.guarded ((x && y2) == true) Y Y Y Y fun h => v_ixRG (ov Y) (ow Y h) tR49<|gdT h_x6 h)<|Rq Y (.guarded ((x && y2) == true) Y Y Y Y fun h => v_loadS_r (ow Y h) tS47<|at_get<|at_at (o := 0) (o' := (i.toNat * 1)) (at_all arL)<|at_v1<|gdT h_x6 h)<|Rq Y (.guarded ((x && y2) == true) Y Y Y Y fun h => v_conv (ow Y h) tI47 tI3 Y)<|bE h fun q3 h_q3 h=>Rq Y (.guarded ((x && y2) == true) Y Y Y Y fun h => v_remG (ow Y h) (ov Y)<|gdT h_q3 h)<|Rq Y (.guarded ((x && y2) == true) Y Y Y Y fun h => v_move<|ov Y)<|bE h fun q4 h_q4 h=>Rq Y (.guarded ((x && y2) == true) Y Y Y Y fun h => v_quoG (ow Y h) (ov Y)<|gdT h_q4 h)<|Rq Y (.guarded ((x && y2) == true) Y Y Y Y fun h => v_eql (ow Y h)<|ow Y h)<|Rq Y (v_and (ov Y) fun hp=>ow Y<|gT hp)<|Ra Y<|R_nil<|⟨_, h, ES [some 0, some 1]⟩
      ·
       exact T_skip<|⟨_, h, ES [some 0, some 1]⟩
   ·
    refine Tr<|Rm Y<|R_nil<|K9 2 3 4 6 7 8 10 19 71 Y<|If h Y (fun h=>?_) fun h=>?_
    ·
     exact K8 2 3 4 6 7 8 10 19 Y<|T_reg<|Rm Y<|Rm Y<|Rm Y<|bE h fun x7 h_x7 h=>Rq Y (v_ixRG (ov Y) (ov Y) tR49 h_x7)<|Rq Y (v_loadS_r (ov Y) tS47<|at_get<|at_at (o := 0) (o' := (i.toNat * 1)) (at_all arL)<|at_v1 h_x7)<|Rq Y (v_fieldP (ov Y) Y Y tF74_1)<|bE h fun x8 h_x8 h=>Rq Y (v_ixAG (ov Y) (ov Y) tR49 Y Y h_x8)<|Rx Y (w_store (ov Y) (ov Y) (cells_scal tS47) Y Y Y (put_le (at_at (o := 1) (o' := (i.toNat * 1)) at10<|at_v1 h_x8) Y) (cell1_all Y)<|put_put (o := 1) (o' := (i.toNat * 1)) at10 (at_v1 h_x8) Y (put_v1 h_x8 (x := x7)) pt11)<|Rq Y (v_fieldP (ov Y) Y Y tF74_2)<|bE h fun x9 h_x9 h=>Rq Y (v_ixAG (ov Y) (ov Y) tR72 Y Y h_x9)<|Rx Y (w_store (ov Y) (ov Y) (cells_scal tS3) Y Y Y (put_le (at_at (o := 65) (o' := (i.toNat * 1)) at12<|at_v1 h_x9) Y) (cell1_all Y)<|put_put (o := 65) (o' := (i.toNat * 1)) at12 (at_v1 h_x9) Y (put_v1 h_x9 (x := 1)) pt13)<|R_nil<|K7 2 3 4 6 7 8 19 Y<|T_reg<|R2 vadd Y<|Rm Y<|R_nil<|⟨_, h, ES [some 0, some 1]⟩
    ·
     exact T_skip<|K7 2 3 4 6 7 8 19 Y<|T_reg<|R2 vadd Y<|Rm Y<|R_nil<|⟨_, h, ES [some 0, some 1]⟩
  ·
   refine T_exit<|?_
   replace h := lx h ▸ ho1
   exact ⟨_, h, ES [some 0, some 1]⟩
 ·
  refine Tr<|Rq Y (v_loadA (ov Y) Y Y Y tA74 (at_sub<|at_all ln18) ln18 (hns := ns21))<|Rx Y (w_store (ov Y) (ov Y) (cells_agg tA74 ln18) Y Y Y (put_le (at_all ln18) ln18) (cell1_all al20)<|put_all<|Eq.trans ln18<|Eq.symm ln18)<|R_nil<|?_
  obtain rfl := rt h
  exact T_ret (retq Y (.one<|.agg Y Y Y Y tA74 (at_sub<|at_all ln18) ln18 (pwB al19) (hns := ns21)))
theorem ok_ref4_lostWhole {r_ : api_Rest} {r : Bool} (h : ref4_lostWhole r_ = some r) :
 CSpec Tryz.prog gl0 122 [.agg ((.int .i64 r_.Number) :: ((List.map C47 r_.Frame.toList) ++ (((List.map C3 r_.States.toList) ++ ((.bool r_.Sound) :: (.int .i64 r_.Copies) :: (.bool r_.Conflict) :: [])))))] (.bool r) := by
 unfold ref4_lostWhole at h
 replace h := bnd0 h
 refine So Tryz.func122 Y fun w0 A=>Tr<|Rq Y (v_boxD (cva<|ov Y) ln18 tZ_74 al19)<|Ra Y<|R_nil<|K2 1 2 Y<|Tr<|Rq Y (v_fieldR (ov Y) tF74_2)<|Rq Y (v_loadA_r (ov Y) tA72 (at_sub at12) arL)<|R_q (.agg<|List.map C3 (#v[0, 0, 0, 0, 0, 0, 0, 0, 0, 0, 0, 0, 0, 0, 0, 0, 0, 0, 0, 0, 0, 0, 0, 0, 0, 0, 0, 0, 0, 0, 0, 0, 0, 0, 0, 0, 0, 0, 0, 0, 0, 0, 0, 0, 0, 0, 0, 0, 0, 0, 0, 0, 0, 0, 0, 0, 0, 0, 0, 0, 0, 0, 0, 0] : Vector Int 64).toList) Y (v_buildA (ys := [_, _, _, _, _, _, _, _, _, _, _, _, _, _, _, _, _, _, _, _, _, _, _, _, _, _, _, _, _, _, _, _, _, _, _, _, _, _, _, _, _, _, _, _, _, _, _, _, _, _, _, _, _, _, _, _, _, _, _, _, _, _, _, _]) tR72 tZ72 .nil Y)<|Rq Y (v_eqlX tEq72 (ov Y) (ov Y) (.aggB<|arD fun _ => Y) (.aggB<|arD fun _ => Y) (fkV fun _ => Y) (fkV fun _ => Y)<|eqV fun _ _ => Y)<|Ra Y<|R_nil<|?_
 obtain rfl := rt h
 exact T_ret (retq Y (.one<|rb Y))
theorem ok_ref4_rests {h_ : List Int} {r : (List api_Rest)} (h : ref4_rests h_ = some r) :
 CSpec Tryz.prog gl0 61 [.sl 5 (List.map R5 h_)] (.sl 74 (List.map R74 r)) := by
 unfold ref4_rests at h
 replace h := bnd0 h
 refine So Tryz.func61 Y fun w0 A=>Tr<|Ra Y<|R_nil<|K1 0 Y<|Tr<|Rm Y<|bE h fun y h_y h=>Rq Y (v_call (ok_ref4_scan h_y)<|.cons (ov Y) (.b Y) .nil)<|bE h fun y2 h_y2 h=>Rq Y (v_call (ok_ref4_certain h_y2)<|.cons (ov Y) (.b Y) .nil)<|Ra Y<|R_nil<|K2 0 3 Y<|Tr<|Ra Y<|R_nil<|I1 (fun out=>⟨[(0, .sl 5 (List.map R5 h_)), (3, .sl 158 (List.map R158 y2)), (4, .own 0 out.length)], [some ⟨74, List.map R74 out⟩]⟩) h (fun h=>?_) fun out h=>?_
 ·
  refine Tr<|Rm Y<|Rl tZ_158 tL153 Y<|Rm Y<|R_nil<|T_block<|?_
  obtain ⟨r1, hl1, ho1⟩ := bndL h
  refine L2 (fun out2 i=>⟨[(0, .sl 5 (List.map R5 h_)), (3, .sl 158 (List.map R158 y2)), (4, .own 0 out2.length), (20, .sl 158 (List.map R158 y2)), (21, .int .i64 (y2.length : Int)), (22, .int .i64 i)], [some ⟨74, List.map R74 out2⟩]⟩) hl1 (ES [none]) fun n1 out2 i h=>?_
  unfold ref4_rests_L1 at h
  refine Tr<|R2 v_lss Y<|R_nil<|T_seq<|If h Y (fun h=>?_) fun h=>?_
  ·
   refine T_skip<|T_seq<|T_block<|K6 0 3 4 20 21 22 Y<|Tr<|bE h fun x h_x h=>Rq Y (v_ixSG (ov Y) (ov Y) tL153 h_x)<|Rq Y (v_loadA_r (ov Y) tA158 (at_sub<|at_all ln0) ln0)<|Rx Y (w_alloc (row := (.int .i64 0) :: ((List.map C47 (Vector.replicate 64 0).toList) ++ ([]))) 1 Y tZ158 (by kernel_rfl)<|by exact Eq.symm (Eq.trans (b := 65) ln0 tZ_158.symm))<|Rx Y (w_store (ov Y) (ov Y) (cells_agg tA158 ln0) Y Y Y (put_le (at_all ln0) ln0) (cell1_all al6)<|put_all<|Eq.trans ln0<|Eq.symm ln0)<|R_nil<|K7 0 3 4 6 20 21 22 Y<|Td md0<|D_read 0 _ Y (by kernel_rfl) Y Y Y ExtW.refl (fun hp' hx=>v_fieldP (ov Y) (hx.get Y Y) Y tF158_1)<|D_read 1 _ Y (by kernel_rfl) Y Y Y ExtW.refl (fun hp' hx=>v_loadA (ov Y) (hx.get Y Y) Y Y tA49 (at_sub at4) arL (hns := (nsM fun _ => Y)))<|bE h fun y3 h_y3 h=>D_read 2 _ Y (by kernel_rfl) Y Y Y ExtW.refl (fun hp' hx=>v_call (ok_ref4_number h_y3)<|.cons (ov Y) (.aggB<|arD fun _ => Y) .nil)<|D_read 3 _ Y (by kernel_rfl) Y Y Y ExtW.refl (fun hp' hx=>v_fieldP (ov Y) (hx.get Y Y) Y tF158_1)<|D_read 4 _ Y (by kernel_rfl) Y Y Y ExtW.refl (fun hp' hx=>v_loadA (ov Y) (hx.get Y Y) Y Y tA49 (at_sub at4) arL (hns := (nsM fun _ => Y)))<|D_free 5 _ Y (by kernel_rfl) Y Y (fun hp'=>v_buildX (zr := (.int .i64 0) :: ((List.map C47 (Vector.replicate 64 0).toList) ++ (((List.map C3 (Vector.replicate 64 0).toList) ++ ((.bool false) :: (.int .i64 0) :: (.bool false) :: []))))) tPL74 tHA74 tZ74 (by kernel_rfl) (.cons (cvs (ov Y)<|cell1_b Y)<|.cons (cva<|ov Y)<|.cons (cvs (ov Y)<|cell1_b Y)<|.cons (cvs (ov Y)<|cell1_b Y) .nil)<|fa_cons Y Y at8 pt9<|fa_cons Y arL at10 pt11<|fa_cons Y Y at14 pt15<|fa_cons Y Y at16 pt17 fa_nil)<|D_one 6 _ _ Y (by kernel_rfl) Y Y (fun _=>Ext.app) (fun h=>by cases h) (w_alloc (row := (.int .i64 0) :: ((List.map C47 (Vector.replicate 64 0).toList) ++ (((List.map C3 (Vector.replicate 64 0).toList) ++ ((.bool false) :: (.int .i64 0) :: (.bool false) :: []))))) 2 Y tZ74 (by kernel_rfl)<|by exact Eq.symm (Eq.trans (b := 132) ln18 tZ_74.symm))<|Do 7 Y (w_store (ov Y) (ov Y) (cells_agg tA74 ln18) Y Y Y (put_le (at_all ln18) ln18) (cell1_all al20)<|put_all<|Eq.trans ln18<|Eq.symm ln18)<|Dd<|I1 (fun States=>⟨[(0, .sl 5 (List.map R5 h_)), (3, .sl 158 (List.map R158 y2)), (4, .own 0 out2.length), (7, .ptr 1 1 0 0), (20, .sl 158 (List.map R158 y2)), (21, .int .i64 (y2.length : Int)), (22, .int .i64 i)], [some ⟨74, List.map R74 out2⟩, some ⟨74, [(.int .i64 y3) :: ((List.map C47 x.Frame.toList) ++ (((List.map C3 States.toList) ++ ((.bool true) :: (.int .i64 1) :: (.bool false) :: []))))]⟩]⟩) h (fun h=>?_) fun States h=>?_
   ·
    refine K7 0 3 4 7 20 21 22 Y<|Tr<|Rm Y<|R_nil<|T_block<|?_
    obtain ⟨r2, hl2, ho2⟩ := bndL h
    refine L2 (fun States2 i2=>⟨[(0, .sl 5 (List.map R5 h_)), (3, .sl 158 (List.map R158 y2)), (4, .own 0 out2.length), (7, .ptr 1 1 0 0), (20, .sl 158 (List.map R158 y2)), (21, .int .i64 (y2.length : Int)), (22, .int .i64 i), (32, .int .i64 i2)], [some ⟨74, List.map R74 out2⟩, some ⟨74, [(.int .i64 y3) :: ((List.map C47 x.Frame.toList) ++ (((List.map C3 States2.toList) ++ ((.bool true) :: (.int .i64 1) :: (.bool false) :: []))))]⟩]⟩) hl2 (ES [some 0, some 2]) fun n2 States2 i2 h=>?_
    unfold ref4_rests_L2 at h
    refine Tr<|R2 v_lss Y<|R_nil<|T_seq<|If h Y (fun h=>?_) fun h=>?_
    ·
     exact T_skip<|T_seq<|T_block<|K8 0 3 4 7 20 21 22 32 Y<|Tr<|Rm Y<|Ra Y<|R_nil<|K9 0 3 4 7 8 20 21 22 32 Y<|T_reg<|Rm Y<|Rq Y (v_fieldP (ov Y) Y Y tF74_2)<|bE h fun x2 h_x2 h=>Rq Y (v_ixAG (ov Y) (ov Y) tR72 Y Y h_x2)<|Rx Y (w_store (ov Y) (ov Y) (cells_scal tS3) Y Y Y (put_le (at_at (o := 65) (o' := (i2.toNat * 1)) at12<|at_v1 h_x2) Y) (cell1_all Y)<|put_put (o := 65) (o' := (i2.toNat * 1)) at12 (at_v1 h_x2) Y (put_v1 h_x2 (x := 3)) pt13)<|R_nil<|K8 0 3 4 7 20 21 22 32 Y<|T_reg<|R2 vadd Y<|Rm Y<|R_nil<|⟨_, h, ES [some 0, some 1]⟩
    ·
     refine T_exit<|?_
     replace h := lx h ▸ ho2
     exact ⟨_, h, ES [some 0, some 1]⟩
   ·
    exact T_reg<|Rm Y<|Rq Y (v_loadA (ov Y) Y Y Y tA74 (at_sub<|at_all ln18) ln18 (hns := ns21))<|R_q (.sl 74<|List.map R74 ([(api_Rest.mk y3 x.Frame States true 1 false)] : List api_Rest)) Y (v_lit tL58 (.cons (cva<|ov Y) ln18 (pwD al19) .nil) Y Y)<|bE h fun l h_l h=>Rx Y (w_appendG (ov Y) (slv_sl (ov Y) tZ_74) tL58 Y Y Y (fun x=>cell1_all<|E74 x) Y h_l)<|Ra Y<|R_nil<|K6 0 3 4 20 21 22 Y<|T_reg<|R2 vadd Y<|Rm Y<|R_nil<|⟨_, h, ES [some 0]⟩
  ·
   refine T_exit<|?_
   replace h := lx h ▸ ho1
   exact ⟨_, h, ES [some 0]⟩
 ·
  refine I1 (fun out3=>⟨[(4, .own 0 out3.length)], [some ⟨74, List.map R74 out3⟩]⟩) h (fun h=>?_) fun out3 h=>?_
  ·
   refine Tr<|Rm Y<|Rl tZ_158 tL153 Y<|Rm Y<|R_nil<|T_block<|?_
   obtain ⟨r3, hl3, ho3⟩ := bndL h
   refine L2 (fun out4 i3=>⟨[(0, .sl 5 (List.map R5 h_)), (3, .sl 158 (List.map R158 y2)), (4, .own 0 out4.length), (44, .sl 158 (List.map R158 y2)), (45, .int .i64 (y2.length : Int)), (46, .int .i64 i3)], [some ⟨74, List.map R74 out4⟩]⟩) hl3 (ES [some 0]) fun n3 out4 i3 h=>?_
   unfold ref4_rests_L3 at h
   refine Tr<|R2 v_lss Y<|R_nil<|T_seq<|If h Y (fun h=>?_) fun h=>?_
   ·
    refine T_skip<|I1 (fun out5=>⟨[(0, .sl 5 (List.map R5 h_)), (3, .sl 158 (List.map R158 y2)), (4, .own 0 out5.length), (44, .sl 158 (List.map R158 y2)), (45, .int .i64 (y2.length : Int)), (46, .int .i64 i3)], [some ⟨74, List.map R74 out5⟩]⟩) h (fun h=>?_) fun out5 h=>?_
    ·
     refine T_block<|K6 0 3 4 44 45 46 Y<|Tr<|Rm Y<|bE h fun x3 h_x3 h=>Rq Y (v_ixSG (ov Y) (ov Y) tL153 h_x3)<|Rq Y (v_loadA_r (ov Y) tA158 (at_sub<|at_all ln0) ln0)<|Rx Y (w_alloc (row := (.int .i64 0) :: ((List.map C47 (Vector.replicate 64 0).toList) ++ ([]))) 1 Y tZ158 (by kernel_rfl)<|by exact Eq.symm (Eq.trans (b := 65) ln0 tZ_158.symm))<|Ra Y<|Rx Y (w_store (ov Y) (ov Y) (cells_agg tA158 ln0) Y Y Y (put_le (at_all ln0) ln0) (cell1_all al6)<|put_all<|Eq.trans ln0<|Eq.symm ln0)<|R_nil<|K8 0 3 4 9 10 44 45 46 Y<|Tr<|Rq Y (v_fieldP (ov Y) Y Y tF158_0)<|Rq Y (v_loadS (ov Y) Y Y Y tS3<|at_get at2)<|Rq Y (v_fieldP (ov Y) Y Y tF158_0)<|Rq Y (v_loadS (ov Y) Y Y Y tS3<|at_get at2)<|bE h fun q h_q h=>Rq Y (v_quoG (ov Y) (ov Y) h_q)<|R2 vmul Y<|R2 vsub Y<|R2 vsub Y<|Ra Y<|R_nil<|T_block<|?_
     obtain ⟨r4, hl4, ho4⟩ := bndL h
     refine L2 (fun out6 at_=>⟨[(0, .sl 5 (List.map R5 h_)), (3, .sl 158 (List.map R158 y2)), (4, .own 0 out6.length), (9, .int .i64 i3), (11, .int .i64 at_), (44, .sl 158 (List.map R158 y2)), (45, .int .i64 (y2.length : Int)), (46, .int .i64 i3)], [some ⟨74, List.map R74 out6⟩]⟩) hl4 (ES [some 0]) fun n4 out6 at_ h=>?_
     unfold ref4_rests_L4 at h
     refine T_seq<|Tr<|Rm Y<|Rm Y<|Rl tZ_5 tL66 Y<|R2 v_lss Y<|R_nil<|K9 0 3 4 9 11 44 45 46 62 Y<|If h Y (fun h=>?_) fun h=>?_
     ·
      refine T_skip<|I1 (fun out7=>⟨[(0, .sl 5 (List.map R5 h_)), (3, .sl 158 (List.map R158 y2)), (4, .own 0 out7.length), (9, .int .i64 i3), (11, .int .i64 at_), (44, .sl 158 (List.map R158 y2)), (45, .int .i64 (y2.length : Int)), (46, .int .i64 i3)], [some ⟨74, List.map R74 out7⟩]⟩) h (fun h=>?_) fun out7 h=>?_
      ·
       refine T_block<|T_seq<|K8 0 3 4 9 11 44 45 46 Y<|Tr<|Rm Y<|R2 v_lss Y<|Rm Y<|Rq Y (.guarded ((decide (at_ < (-191))) == false) Y Y Y Y fun h => v_move<|ov Y)<|Rq Y (.guarded ((decide (at_ < (-191))) == false) Y Y Y Y fun h => v_move<|ov Y)<|bE h fun y4 h_y4 h=>Rq Y (.guarded ((decide (at_ < (-191))) == false) Y Y Y Y fun h => v_call (ok_ref4_nearest<|gdT h_y4 h)<|.cons (ow Y h) (.b Y)<|.cons (ow Y h) (.b Y) .nil)<|Rq Y (.guarded ((decide (at_ < (-191))) == false) Y Y Y Y fun h => v_move<|ov Y)<|Rq Y (.guarded ((decide (at_ < (-191))) == false) Y Y Y Y fun h => v_neq (ow Y h)<|ow Y h)<|Rq Y (v_or (ov Y) fun hp=>ow Y<|gF hp)<|Rm Y<|Rq Y (.guarded (((decide (at_ < (-191))) || (!decide (y4 = i3))) == false) Y Y Y Y fun h => v_move<|ov Y)<|Rq Y (.guarded (((decide (at_ < (-191))) || (!decide (y4 = i3))) == false) Y Y Y Y fun h => v_move<|ov Y)<|Rq Y (.guarded (((decide (at_ < (-191))) || (!decide (y4 = i3))) == false) Y Y Y Y fun h => v_move<|ov Y)<|bE h fun y5 h_y5 h=>Rq Y (.guarded (((decide (at_ < (-191))) || (!decide (y4 = i3))) == false) Y Y Y Y fun h => v_call (ok_ref4_nearest<|gdT h_y5 h)<|.cons (ow Y h) (.b Y)<|.cons (ow Y h) (.b Y) .nil)<|bE h fun x4 h_x4 h=>Rq Y (.guarded (((decide (at_ < (-191))) || (!decide (y4 = i3))) == false) Y Y Y Y fun h => v_ixSG (ow Y h) (ow Y h) tL153<|gdT h_x4 h)<|Rq Y (.guarded (((decide (at_ < (-191))) || (!decide (y4 = i3))) == false) Y Y Y Y fun h => v_fieldR (ow Y h) tF158_0)<|Rq Y (.guarded (((decide (at_ < (-191))) || (!decide (y4 = i3))) == false) Y Y Y Y fun h => v_loadS_r (ow Y h) tS3<|at_get at2)<|Rq Y (.guarded (((decide (at_ < (-191))) || (!decide (y4 = i3))) == false) Y Y Y Y fun h => v_move<|ov Y)<|bE h fun y6 h_y6 h=>Rq Y (.guarded (((decide (at_ < (-191))) || (!decide (y4 = i3))) == false) Y Y Y Y fun h => v_call (ok_ref4_apart<|gdT h_y6 h)<|.cons (ow Y h) (.b Y)<|.cons (ow Y h) (.b Y) .nil)<|Rq Y (.guarded (((decide (at_ < (-191))) || (!decide (y4 = i3))) == false) Y Y Y Y fun h => v_lss (ow Y h)<|ov Y)<|Rq Y (v_or (ov Y) fun hp=>ow Y<|gF hp)<|R_nil<|K9 0 3 4 9 11 44 45 46 85 Y<|If h Y (fun h=>?_) fun h=>?_
       ·
        exact T_exit<|⟨_, h, ES [some 0]⟩
       ·
        refine T_skip<|K8 0 3 4 9 11 44 45 46 Y<|Tr<|Rm Y<|Rm Y<|bE h fun y7 h_y7 h=>Rq Y (v_call (ok_ref4_frameAt h_y7)<|.cons (ov Y) (.b Y)<|.cons (ov Y) (.b Y) .nil)<|Rm Y<|Rq Y (v_extract (ov Y) Y)<|Rq Y (v_extract (ov Y) Y)<|Rx Y (w_alloc (row := (List.map C47 (Vector.replicate 64 0).toList)) 1 Y tZ49 Y tZ_49)<|Rx Y (w_alloc (row := (List.map C4 (Vector.replicate 64 false).toList)) 2 Y tZ171 Y tZ_171)<|Rx Y (w_store (ov Y) (ov Y) (cells_agg tA49 arL) Y Y Y (put_le (at_all arL) arL) (cell1_all<|arC fun _ => Y)<|put_all<|Eq.trans arL<|Eq.symm arL)<|Rx Y (w_store (ov Y) (ov Y) (cells_agg tA171 arL) Y Y Y (put_le (at_all arL) arL) (cell1_all<|arC fun _ => Y)<|put_all<|Eq.trans arL<|Eq.symm arL)<|R_nil<|K10 0 3 4 9 11 12 13 44 45 46 Y<|Tr<|Rq Y (v_loadA (ov Y) Y Y Y tA49 (at_sub<|at_all arL) arL (hns := (nsM fun _ => Y)))<|Rq Y (v_loadA (ov Y) Y Y Y tA171 (at_sub<|at_all arL) arL (hns := (nsM fun _ => Y)))<|bE h fun y8 h_y8 h=>Rq Y (v_call (ok_ref4_ownNumber h_y8)<|.cons (ov Y) (.aggB<|arD fun _ => Y)<|.cons (ov Y) (.aggB<|arD fun _ => Y) .nil)<|Rm Y<|Rq Y (v_extract (ov Y) Y)<|Rq Y (v_extract (ov Y) Y)<|Ra Y<|Ra Y<|R_nil<|I2 (fun n ok=>⟨[(0, .sl 5 (List.map R5 h_)), (3, .sl 158 (List.map R158 y2)), (4, .own 0 out6.length), (9, .int .i64 i3), (11, .int .i64 at_), (12, .ptr 1 1 0 0), (13, .ptr 2 1 0 0), (14, .int .i64 n), (15, .bool ok), (44, .sl 158 (List.map R158 y2)), (45, .int .i64 (y2.length : Int)), (46, .int .i64 i3)], [some ⟨74, List.map R74 out6⟩, some ⟨49, [(List.map C47 y7.1.toList)]⟩, some ⟨171, [(List.map C4 y7.2.toList)]⟩]⟩) h (fun h=>?_) fun n ok h=>?_
        ·
         refine K12 0 3 4 9 11 12 13 14 15 44 45 46 Y<|Tr<|Rm Y<|R1 v_not Y<|R_nil<|T_keep (kc 0 Y<|kc 3 Y<|kc 4 Y<|kc 9 Y<|kc 11 Y<|kc 12 Y<|kc 13 Y<|kc 14 Y<|kc 15 Y<|kc 44 Y<|kc 45 Y<|kc 46 Y<|kc 99 Y kn) Y<|If h Y (fun h=>?_) fun h=>?_
         ·
          exact K12 0 3 4 9 11 12 13 14 15 44 45 46 Y<|T_reg<|Rm Y<|Rm Y<|Rm Y<|bE h fun y9 h_y9 h=>Rq Y (v_call (ok_ref4_otherNumber h_y9)<|.cons (ov Y) (.b Y)<|.cons (ov Y) (.b Y)<|.cons (ov Y) (.b Y) .nil)<|Rm Y<|Rq Y (v_extract (ov Y) Y)<|Rq Y (v_extract (ov Y) Y)<|Ra Y<|Ra Y<|R_nil<|⟨_, h, ES [some 0, some 1, some 2]⟩
         ·
          exact T_skip<|⟨_, h, ES [some 0, some 1, some 2]⟩
        ·
         refine Tr<|Rq Y (v_loadA (ov Y) Y Y Y tA49 (at_sub<|at_all arL) arL (hns := (nsM fun _ => Y)))<|Rq Y (v_loadA (ov Y) Y Y Y tA171 (at_sub<|at_all arL) arL (hns := (nsM fun _ => Y)))<|Rm Y<|bE h fun y10 h_y10 h=>Rq Y (v_call (ok_ref4_restAt h_y10)<|.cons (ov Y) (.aggB<|arD fun _ => Y)<|.cons (ov Y) (.aggB<|arD fun _ => Y)<|.cons (ov Y) (.b Y) .nil)<|Rx Y (w_alloc (row := (.int .i64 0) :: ((List.map C47 (Vector.replicate 64 0).toList) ++ (((List.map C3 (Vector.replicate 64 0).toList) ++ ((.bool false) :: (.int .i64 0) :: (.bool false) :: []))))) 3 Y tZ74 (by kernel_rfl)<|by exact Eq.symm (Eq.trans (b := 132) ln18 tZ_74.symm))<|Rx Y (w_store (ov Y) (ov Y) (cells_agg tA74 ln18) Y Y Y (put_le (at_all ln18) ln18) (cell1_all al20)<|put_all<|Eq.trans ln18<|Eq.symm ln18)<|R_nil<|K10 0 3 4 9 11 15 16 44 45 46 Y<|Tr<|Rm Y<|Rm Y<|Rq Y (.guarded (ok == true) Y Y Y Y fun h => v_loadA (ov Y) Y Y Y tA74 (at_sub<|at_all ln18) ln18 (hns := ns21))<|bE h fun y11 h_y11 h=>Rq Y (.guarded (ok == true) Y Y Y Y fun h => v_call (ok_ref4_lostWhole<|gdT h_y11 h)<|.cons (ow Y h) (.aggB al19) .nil)<|Rq Y (.guarded (ok == true) Y Y Y Y fun h => v_not<|ow Y h)<|Rq Y (v_and (ov Y) fun hp=>ow Y<|gT hp)<|R_nil<|K10 0 3 4 9 11 16 44 45 46 116 Y<|If h Y (fun h=>?_) fun h=>?_
         ·
          exact K9 0 3 4 9 11 16 44 45 46 Y<|T_reg<|Rm Y<|Rq Y (v_loadA (ov Y) Y Y Y tA74 (at_sub<|at_all ln18) ln18 (hns := ns21))<|R_q (.sl 74<|List.map R74 ([y10] : List api_Rest)) Y (v_lit tL58 (.cons (cva<|ov Y) ln18 (pwD al19) .nil) Y Y)<|bE h fun l2 h_l2 h=>Rx Y (w_appendG (ov Y) (slv_sl (ov Y) tZ_74) tL58 Y Y Y (fun x=>cell1_all<|E74 x) Y h_l2)<|Ra Y<|R_nil<|⟨_, h, ES [some 0]⟩
         ·
          exact T_skip<|⟨_, h, ES [some 0]⟩
      ·
       exact T_reg<|Rm Y<|R2 vadd Y<|Ra Y<|R_nil<|⟨_, h, ES [some 0]⟩
     ·
      refine T_exit<|?_
      replace h := lx h ▸ ho4
      exact ⟨_, h, ES [some 0]⟩
    ·
     exact T_reg<|R2 vadd Y<|Rm Y<|R_nil<|⟨_, h, ES [some 0]⟩
   ·
    refine T_exit<|?_
    replace h := lx h ▸ ho3
    exact ⟨_, h, ES [some 0]⟩
  ·
   refine Tr<|Rm Y<|Ra Y<|R_nil<|?_
   obtain rfl := rt h
   exact T_ret (retq Y (.one<|.tmp Y<|View.ownM Y Y D74))
theorem ok_ref4_allGood {r_ : api_Rest} {r : Bool} (h : ref4_allGood r_ = some r) :
 CSpec Tryz.prog gl0 160 [.agg ((.int .i64 r_.Number) :: ((List.map C47 r_.Frame.toList) ++ (((List.map C3 r_.States.toList) ++ ((.bool r_.Sound) :: (.int .i64 r_.Copies) :: (.bool r_.Conflict) :: [])))))] (.bool r) := by
 unfold ref4_allGood at h
 replace h := bnd0 h
 refine So Tryz.func160 Y fun w0 A=>Tr<|Rq Y (v_boxD (cva<|ov Y) ln18 tZ_74 al19)<|Ra Y<|R_nil<|J0 (fun j => (.inr j)) ⟨[], []⟩ h (fun h=>?_) fun h=>?_
 ·
  refine K1 1 Y<|Tr<|Rq Y (v_fieldR (ov Y) tF74_2)<|Rq Y (v_loadA_r (ov Y) tA72 (at_sub at12) arL)<|Rm Y<|R_nil<|T_block<|?_
  obtain ⟨r1, hl1, ho1⟩ := bndL h
  refine L1 (fun i=>⟨[(6, .agg (List.map C3 r_.States.toList)), (7, .int .i64 i)], []⟩) hl1 (ES []) fun n1 i h=>?_
  unfold ref4_allGood_L1 at h
  refine Tr<|R2 v_lss Y<|R_nil<|T_seq<|If h Y (fun h=>?_) fun h=>?_
  ·
   refine T_skip<|T_seq<|T_block<|K2 6 7 Y<|Tr<|bE h fun x h_x h=>Rq Y (v_indexVG (ov Y) (ov Y) tR72 tS3 h_x)<|Ra Y<|R_nil<|K3 4 6 7 Y<|Tr<|Rm Y<|R2 v_neq Y<|R_nil<|K3 6 7 11 Y<|If h Y (fun h=>?_) fun h=>?_
   ·
    refine K0<|Tr<|Ra Y<|R_nil<|?_
    replace h := lx h ▸ ho1
    obtain rfl := rt h
    exact T_ret (retq Y (.one<|rb Y))
   ·
    exact T_skip<|K2 6 7 Y<|T_reg<|R2 vadd Y<|Rm Y<|R_nil<|⟨_, h, ES []⟩
  ·
   refine T_exit<|?_
   replace h := lx h ▸ ho1
   exact ⟨_, h, ES []⟩
 ·
  replace h := elr h
  replace h := t0i h
  refine Tr<|Ra Y<|R_nil<|?_
  obtain rfl := rt h
  exact T_ret (retq Y (.one<|rb Y))
theorem ok_ref4_agreed {l : List api_Rest} {i : Int} {r : Int × Bool} (h : ref4_agreed l i = some r) :
 CSpec Tryz.prog gl0 161 [.sl 74 (List.map R74 l), .int .i64 i] (.tuple [.int .u16 r.1, .bool r.2]) := by
 unfold ref4_agreed at h
 replace h := bnd0 h
 refine So Tryz.func161 Y fun w0 A=>Tr<|Ra Y<|Ra Y<|R_nil<|K2 0 1 Y<|Tr<|Ra Y<|Ra Y<|R_nil<|J2 (fun j => (.inr j)) (fun w some_=>⟨[(6, .int .u16 w), (7, .bool some_)], []⟩) h (fun h=>?_) fun w some_ h=>?_
 ·
  refine Tr<|Rm Y<|Rl tZ_74 tL58 Y<|Rm Y<|R_nil<|T_block<|?_
  obtain ⟨r1, hl1, ho1⟩ := bndL h
  refine L3 (fun w2 some_2 i2=>⟨[(1, .int .i64 i), (6, .int .u16 w2), (7, .bool some_2), (10, .sl 74 (List.map R74 l)), (11, .int .i64 (l.length : Int)), (12, .int .i64 i2)], []⟩) hl1 (ES []) fun n1 w2 some_2 i2 h=>?_
  unfold ref4_agreed_L1 at h
  refine Tr<|R2 v_lss Y<|R_nil<|T_seq<|If h Y (fun h=>?_) fun h=>?_
  ·
   refine T_skip<|T_seq<|T_block<|K6 1 6 7 10 11 12 Y<|Tr<|bE h fun x h_x h=>Rq Y (v_ixSG (ov Y) (ov Y) tL58 h_x)<|Rq Y (v_loadA_r (ov Y) tA74 (at_sub<|at_all ln18) ln18)<|Rx Y (w_alloc (row := (.int .i64 0) :: ((List.map C47 (Vector.replicate 64 0).toList) ++ (((List.map C3 (Vector.replicate 64 0).toList) ++ ((.bool false) :: (.int .i64 0) :: (.bool false) :: []))))) 0 Y tZ74 (by kernel_rfl)<|by exact Eq.symm (Eq.trans (b := 132) ln18 tZ_74.symm))<|Rx Y (w_store (ov Y) (ov Y) (cells_agg tA74 ln18) Y Y Y (put_le (at_all ln18) ln18) (cell1_all al20)<|put_all<|Eq.trans ln18<|Eq.symm ln18)<|R_nil<|T_seq<|K7 1 6 7 9 10 11 12 Y<|Tr<|Rm Y<|Rq Y (v_fieldP (ov Y) Y Y tF74_2)<|bE h fun x2 h_x2 h=>Rq Y (v_ixAG (ov Y) (ov Y) tR72 Y Y h_x2)<|Rq Y (v_loadS (ov Y) Y Y Y tS3<|at_get<|at_at (o := 65) (o' := (i.toNat * 1)) at12<|at_v1 h_x2)<|R2 v_eql Y<|R_nil<|K8 1 6 7 9 10 11 12 20 Y<|If h Y (fun h=>?_) fun h=>?_
   ·
    exact T_exit<|K6 1 6 7 10 11 12 Y<|T_reg<|R2 vadd Y<|Rm Y<|R_nil<|⟨_, h, ES []⟩
   ·
    refine T_skip<|T_seq<|K7 1 6 7 9 10 11 12 Y<|Tr<|Rm Y<|Rm Y<|Rq Y (.guarded (some_2 == true) Y Y Y Y fun h => v_move<|ov Y)<|Rq Y (.guarded (some_2 == true) Y Y Y Y fun h => v_move<|ov Y)<|Rq Y (.guarded (some_2 == true) Y Y Y Y fun h => v_fieldP (ov Y) Y Y tF74_1)<|bE h fun x3 h_x3 h=>Rq Y (.guarded (some_2 == true) Y Y Y Y fun h => v_ixAG (ow Y h) (ow Y h) tR49 Y Y<|gdT h_x3 h)<|Rq Y (.guarded (some_2 == true) Y Y Y Y fun h => v_loadS (ow Y h) Y Y Y tS47<|at_get<|at_at (o := 1) (o' := (i.toNat * 1)) at10<|at_v1<|gdT h_x3 h)<|Rq Y (.guarded (some_2 == true) Y Y Y Y fun h => v_neq (ow Y h)<|ow Y h)<|Rq Y (v_and (ov Y) fun hp=>ow Y<|gT hp)<|R_nil<|K6 1 9 10 11 12 29 Y<|If h Y (fun h=>?_) fun h=>?_
    ·
     refine K0<|Tr<|Ra Y<|Ra Y<|R_nil<|?_
     replace h := lx h ▸ ho1
     obtain rfl := rt h
     exact T_ret (retq Y (.two (rb Y)<|rb Y))
    ·
     exact T_skip<|K5 1 9 10 11 12 Y<|T_reg<|Rm Y<|Rq Y (v_fieldP (ov Y) Y Y tF74_1)<|bE h fun x4 h_x4 h=>Rq Y (v_ixAG (ov Y) (ov Y) tR49 Y Y h_x4)<|Rq Y (v_loadS (ov Y) Y Y Y tS47<|at_get<|at_at (o := 1) (o' := (i.toNat * 1)) at10<|at_v1 h_x4)<|Ra Y<|Ra Y<|R_nil<|K6 1 6 7 10 11 12 Y<|T_reg<|R2 vadd Y<|Rm Y<|R_nil<|⟨_, h, ES []⟩
  ·
   refine T_exit<|?_
   replace h := lx h ▸ ho1
   exact ⟨_, h, ES []⟩
 ·
  replace h := elr h
  replace h := t2i h
  refine Tr<|Rm Y<|Rm Y<|Ra Y<|Ra Y<|R_nil<|?_
  obtain rfl := rt h
  exact T_ret (retq Y (.two (rb Y)<|rb Y))
theorem ok_ref4_merge {l : List api_Rest} {r : api_Rest} (h : ref4_merge l = some r) :
 CSpec Tryz.prog gl0 112 [.sl 74 (List.map R74 l)] (.agg ((.int .i64 r.Number) :: ((List.map C47 r.Frame.toList) ++ (((List.map C3 r.States.toList) ++ ((.bool r.Sound) :: (.int .i64 r.Copies) :: (.bool r.Conflict) :: [])))))) := by
 unfold ref4_merge at h
 replace h := bnd0 h
 refine So Tryz.func112 Y fun w0 A=>Tr<|Rx Y (w_alloc (row := (.int .i64 0) :: ((List.map C47 (Vector.replicate 64 0).toList) ++ (((List.map C3 (Vector.replicate 64 0).toList) ++ ((.bool false) :: (.int .i64 0) :: (.bool false) :: []))))) 0 Y tZ74 (by kernel_rfl)<|by exact Eq.symm (Eq.trans (b := 132) ln18 tZ_74.symm))<|R_nil<|Tr<|Rm Y<|bE h fun x h_x h=>Rq Y (v_ixSG (ov Y) (ov Y) tL58 h_x)<|Rq Y (v_fieldR (ov Y) tF74_0)<|Rq Y (v_loadS_r (ov Y) tS3<|at_get at8)<|Rq Y (v_buildX (zr := (.int .i64 0) :: ((List.map C47 (Vector.replicate 64 0).toList) ++ (((List.map C3 (Vector.replicate 64 0).toList) ++ ((.bool false) :: (.int .i64 0) :: (.bool false) :: []))))) tPL74 tHA74 tZ74 (by kernel_rfl) (.cons (cvs (ov Y)<|cell1_b Y) .nil)<|fa_cons Y Y at8 pt9 fa_nil)<|Rx Y (w_alloc (row := (.int .i64 0) :: ((List.map C47 (Vector.replicate 64 0).toList) ++ (((List.map C3 (Vector.replicate 64 0).toList) ++ ((.bool false) :: (.int .i64 0) :: (.bool false) :: []))))) 1 Y tZ74 (by kernel_rfl)<|by exact Eq.symm (Eq.trans (b := 132) ln18 tZ_74.symm))<|Rx Y (w_store (ov Y) (ov Y) (cells_agg tA74 ln18) Y Y Y (put_le (at_all ln18) ln18) (cell1_all al20)<|put_all<|Eq.trans ln18<|Eq.symm ln18)<|R_nil<|I1 (fun out=>⟨[(0, .sl 74 (List.map R74 l)), (2, .ptr 0 1 0 0), (3, .ptr 1 1 0 0)], [some ⟨74, [(.int .i64 0) :: ((List.map C47 (Vector.replicate 64 0).toList) ++ (((List.map C3 (Vector.replicate 64 0).toList) ++ ((.bool false) :: (.int .i64 0) :: (.bool false) :: []))))]⟩, some ⟨74, [(.int .i64 out.Number) :: ((List.map C47 out.Frame.toList) ++ (((List.map C3 out.States.toList) ++ ((.bool out.Sound) :: (.int .i64 out.Copies) :: (.bool out.Conflict) :: []))))]⟩]⟩) h (fun h=>?_) fun out h=>?_
 ·
  refine K3 0 2 3 Y<|Tr<|Rm Y<|Rl tZ_74 tL58 Y<|Rm Y<|R_nil<|T_block<|?_
  obtain ⟨r1, hl1, ho1⟩ := bndL h
  refine L2 (fun out2 i=>⟨[(0, .sl 74 (List.map R74 l)), (2, .ptr 0 1 0 0), (3, .ptr 1 1 0 0), (18, .sl 74 (List.map R74 l)), (19, .int .i64 (l.length : Int)), (20, .int .i64 i)], [some ⟨74, [(.int .i64 0) :: ((List.map C47 (Vector.replicate 64 0).toList) ++ (((List.map C3 (Vector.replicate 64 0).toList) ++ ((.bool false) :: (.int .i64 0) :: (.bool false) :: []))))]⟩, some ⟨74, [(.int .i64 out2.Number) :: ((List.map C47 out2.Frame.toList) ++ (((List.map C3 out2.States.toList) ++ ((.bool out2.Sound) :: (.int .i64 out2.Copies) :: (.bool out2.Conflict) :: []))))]⟩]⟩) hl1 (ES [some 0, some 1]) fun n1 out2 i h=>?_
  unfold ref4_merge_L1 at h
  refine Tr<|R2 v_lss Y<|R_nil<|T_seq<|If h Y (fun h=>?_) fun h=>?_
  ·
   refine T_skip<|I1 (fun out3=>⟨[(0, .sl 74 (List.map R74 l)), (2, .ptr 0 1 0 0), (3, .ptr 1 1 0 0), (18, .sl 74 (List.map R74 l)), (19, .int .i64 (l.length : Int)), (20, .int .i64 i)], [some ⟨74, [(.int .i64 0) :: ((List.map C47 (Vector.replicate 64 0).toList) ++ (((List.map C3 (Vector.replicate 64 0).toList) ++ ((.bool false) :: (.int .i64 0) :: (.bool false) :: []))))]⟩, some ⟨74, [(.int .i64 out3.Number) :: ((List.map C47 out3.Frame.toList) ++ (((List.map C3 out3.States.toList) ++ ((.bool out3.Sound) :: (.int .i64 out3.Copies) :: (.bool out3.Conflict) :: []))))]⟩]⟩) h (fun h=>?_) fun out3 h=>?_
   ·
    refine T_block<|K6 0 2 3 18 19 20 Y<|Tr<|bE h fun x2 h_x2 h=>Rq Y (v_ixSG (ov Y) (ov Y) tL58 h_x2)<|Rq Y (v_loadA_r (ov Y) tA74 (at_sub<|at_all ln18) ln18)<|Rx Y (w_alloc (row := (.int .i64 0) :: ((List.map C47 (Vector.replicate 64 0).toList) ++ (((List.map C3 (Vector.replicate 64 0).toList) ++ ((.bool false) :: (.int .i64 0) :: (.bool false) :: []))))) 2 Y tZ74 (by kernel_rfl)<|by exact Eq.symm (Eq.trans (b := 132) ln18 tZ_74.symm))<|Rx Y (w_store (ov Y) (ov Y) (cells_agg tA74 ln18) Y Y Y (put_le (at_all ln18) ln18) (cell1_all al20)<|put_all<|Eq.trans ln18<|Eq.symm ln18)<|R_nil<|K7 0 2 3 5 18 19 20 Y<|Tr<|Rq Y (v_fieldP (ov Y) Y Y tF74_4)<|Rq Y (v_loadS (ov Y) Y Y Y tS3<|at_get at16)<|Rq Y (v_fieldP (ov Y) Y Y tF74_4)<|Rq Y (v_loadS (ov Y) Y Y Y tS3<|at_get at16)<|R2 vadd Y<|Rq Y (v_fieldP (ov Y) Y Y tF74_4)<|Rx Y (w_store (ov Y) (ov Y) (cells_scal tS3) Y Y Y (put_le at16 Y) (cell1_all Y) pt17)<|R_nil<|K7 0 2 3 5 18 19 20 Y<|Tr<|Rq Y (v_fieldP (ov Y) Y Y tF74_5)<|Rq Y (v_loadS (ov Y) Y Y Y tS4<|at_get at22)<|Rm Y<|Rq Y (.guarded (out2.Conflict == false) Y Y Y Y fun h => v_fieldP (ov Y) Y Y tF74_5)<|Rq Y (.guarded (out2.Conflict == false) Y Y Y Y fun h => v_loadS (ow Y h) Y Y Y tS4<|at_get at22)<|Rq Y (v_or (ov Y) fun hp=>ow Y<|gF hp)<|Rq Y (v_fieldP (ov Y) Y Y tF74_5)<|Rx Y (w_store (ov Y) (ov Y) (cells_scal tS4) Y Y Y (put_le at22 Y) (cell1_all Y) pt23)<|R_nil<|T_seq<|K7 0 2 3 5 18 19 20 Y<|Tr<|Rq Y (v_fieldP (ov Y) Y Y tF74_3)<|Rq Y (v_loadS (ov Y) Y Y Y tS4<|at_get at14)<|R1 v_not Y<|R_nil<|K8 0 2 3 5 18 19 20 39 Y<|If h Y (fun h=>?_) fun h=>?_
    ·
     exact T_exit<|⟨_, h, ES [some 0, some 1]⟩
    ·
     refine T_skip<|I1 (fun Conflict=>⟨[(0, .sl 74 (List.map R74 l)), (2, .ptr 0 1 0 0), (3, .ptr 1 1 0 0), (5, .ptr 2 1 0 0), (18, .sl 74 (List.map R74 l)), (19, .int .i64 (l.length : Int)), (20, .int .i64 i)], [some ⟨74, [(.int .i64 0) :: ((List.map C47 (Vector.replicate 64 0).toList) ++ (((List.map C3 (Vector.replicate 64 0).toList) ++ ((.bool false) :: (.int .i64 0) :: (.bool false) :: []))))]⟩, some ⟨74, [(.int .i64 out2.Number) :: ((List.map C47 out2.Frame.toList) ++ (((List.map C3 out2.States.toList) ++ ((.bool out2.Sound) :: (.int .i64 (i64 (out2.Copies + x2.Copies))) :: (.bool Conflict) :: []))))]⟩, some ⟨74, [(.int .i64 x2.Number) :: ((List.map C47 x2.Frame.toList) ++ (((List.map C3 x2.States.toList) ++ ((.bool x2.Sound) :: (.int .i64 x2.Copies) :: (.bool x2.Conflict) :: []))))]⟩]⟩) h (fun h=>?_) fun Conflict h=>?_
     ·
      refine K7 0 2 3 5 18 19 20 Y<|Tr<|Rq Y (v_fieldP (ov Y) Y Y tF74_3)<|Rq Y (v_loadS (ov Y) Y Y Y tS4<|at_get at14)<|Rm Y<|Rq Y (.guarded (out2.Sound == true) Y Y Y Y fun h => v_fieldP (ov Y) Y Y tF74_1)<|Rq Y (.guarded (out2.Sound == true) Y Y Y Y fun h => v_loadA (ow Y h) Y Y Y tA49 (at_sub at10) arL (hns := (nsM fun _ => Y)))<|Rq Y (.guarded (out2.Sound == true) Y Y Y Y fun h => v_fieldP (ov Y) Y Y tF74_1)<|Rq Y (.guarded (out2.Sound == true) Y Y Y Y fun h => v_loadA (ow Y h) Y Y Y tA49 (at_sub at10) arL (hns := (nsM fun _ => Y)))<|Rq Y (.guarded (out2.Sound == true) Y Y Y Y fun h => v_neqX tEq49 (ow Y h) (ow Y h) (.aggB<|arD fun _ => Y) (.aggB<|arD fun _ => Y) (fkV fun _ => Y) (fkV fun _ => Y)<|eqV fun _ _ => Y)<|Rq Y (v_and (ov Y) fun hp=>ow Y<|gT hp)<|R_nil<|K8 0 2 3 5 18 19 20 48 Y<|If h Y (fun h=>?_) fun h=>?_
      ·
       exact K7 0 2 3 5 18 19 20 Y<|T_reg<|Rq Y (v_fieldP (ov Y) Y Y tF74_5)<|Rx Y (w_store (ov Y) (ov Y) (cells_scal tS4) Y Y Y (put_le at22 Y) (cell1_all Y) pt23)<|R_nil<|⟨_, h, ES [some 0, some 1, some 2]⟩
      ·
       exact T_skip<|⟨_, h, ES [some 0, some 1, some 2]⟩
     ·
      refine Td md0<|Dq 2 Y (v_fieldP (ov Y) Y Y tF74_3)<|Dw 0 3 Y (v_fieldP (ov Y) Y Y tF74_1) (w_store (ov Y) (ov Y) (cells_scal tS4) Y Y Y (put_le at14 Y) (cell1_all Y) pt15) ?_ ?_
      ·
       refine Dw 1 3 Y (v_loadA (ov Y) Y Y Y tA49 (at_sub at10) arL (hns := (nsM fun _ => Y))) (w_store (ov Y) (ov Y) (cells_scal tS4) Y Y Y (put_le at14 Y) (cell1_all Y) pt15) ?_ ?_
       ·
        refine Do 3 Y (w_store (ov Y) (ov Y) (cells_scal tS4) Y Y Y (put_le at14 Y) (cell1_all Y) pt15)<|Dq 4 Y (v_fieldP (ov Y) Y Y tF74_1)<|Do 5 Y (w_store (ov Y) (ov Y) (cells_agg tA49 arL) Y Y Y (put_le at10 arL) (cell1_all<|arC fun _ => Y) pt11)<|Dd<|K7 0 2 3 5 18 19 20 Y<|Tr<|Rq Y (v_fieldP (ov Y) Y Y tF74_2)<|Rq Y (v_loadA (ov Y) Y Y Y tA72 (at_sub at12) arL (hns := (nsM fun _ => Y)))<|Rm Y<|R_nil<|T_block<|?_
        obtain ⟨r2, hl2, ho2⟩ := bndL h
        refine L2 (fun States i2=>⟨[(0, .sl 74 (List.map R74 l)), (2, .ptr 0 1 0 0), (3, .ptr 1 1 0 0), (18, .sl 74 (List.map R74 l)), (19, .int .i64 (l.length : Int)), (20, .int .i64 i), (55, .agg (List.map C3 x2.States.toList)), (56, .int .i64 i2)], [some ⟨74, [(.int .i64 0) :: ((List.map C47 (Vector.replicate 64 0).toList) ++ (((List.map C3 (Vector.replicate 64 0).toList) ++ ((.bool false) :: (.int .i64 0) :: (.bool false) :: []))))]⟩, some ⟨74, [(.int .i64 out2.Number) :: ((List.map C47 x2.Frame.toList) ++ (((List.map C3 States.toList) ++ ((.bool true) :: (.int .i64 (i64 (out2.Copies + x2.Copies))) :: (.bool Conflict) :: []))))]⟩]⟩) hl2 (ES [some 0, some 1]) fun n2 States i2 h=>?_
        unfold ref4_merge_L2 at h
        refine Tr<|R2 v_lss Y<|R_nil<|T_seq<|If h Y (fun h=>?_) fun h=>?_
        ·
         exact T_skip<|T_seq<|T_block<|K8 0 2 3 18 19 20 55 56 Y<|Tr<|Rm Y<|bE h fun x3 h_x3 h=>Rq Y (v_indexVG (ov Y) (ov Y) tR72 tS3 h_x3)<|Ra Y<|Ra Y<|R_nil<|K10 0 2 3 6 7 18 19 20 55 56 Y<|T_reg<|Rm Y<|Rm Y<|Rq Y (v_fieldP (ov Y) Y Y tF74_2)<|bE h fun x4 h_x4 h=>Rq Y (v_ixAG (ov Y) (ov Y) tR72 Y Y h_x4)<|Rq Y (v_loadS (ov Y) Y Y Y tS3<|at_get<|at_at (o := 65) (o' := (i2.toNat * 1)) at12<|at_v1 h_x4)<|Rm Y<|Rq Y (v_max (ov Y) (ov Y) Y)<|Rq Y (v_fieldP (ov Y) Y Y tF74_2)<|bE h fun x5 h_x5 h=>Rq Y (v_ixAG (ov Y) (ov Y) tR72 Y Y h_x5)<|Rx Y (w_store (ov Y) (ov Y) (cells_scal tS3) Y Y Y (put_le (at_at (o := 65) (o' := (i2.toNat * 1)) at12<|at_v1 h_x5) Y) (cell1_all Y)<|put_put (o := 65) (o' := (i2.toNat * 1)) at12 (at_v1 h_x5) Y (put_v1 h_x5 (x := (max x4 x3))) pt13)<|R_nil<|K8 0 2 3 18 19 20 55 56 Y<|T_reg<|R2 vadd Y<|Rm Y<|R_nil<|⟨_, h, ES [some 0, some 1]⟩
        ·
         refine T_exit<|?_
         replace h := lx h ▸ ho2
         exact ⟨_, h, ES [some 0, some 1]⟩
       ·
        refine Dq 1 Y (v_loadA (ov Y) Y Y Y tA49 (at_sub at10) arL (hns := (nsM fun _ => Y)))<|Dq 4 Y (v_fieldP (ov Y) Y Y tF74_1)<|Do 5 Y (w_store (ov Y) (ov Y) (cells_agg tA49 arL) Y Y Y (put_le at10 arL) (cell1_all<|arC fun _ => Y) pt11)<|Dd<|K7 0 2 3 5 18 19 20 Y<|Tr<|Rq Y (v_fieldP (ov Y) Y Y tF74_2)<|Rq Y (v_loadA (ov Y) Y Y Y tA72 (at_sub at12) arL (hns := (nsM fun _ => Y)))<|Rm Y<|R_nil<|T_block<|?_
        obtain ⟨r2, hl2, ho2⟩ := bndL h
        refine L2 (fun States i2=>⟨[(0, .sl 74 (List.map R74 l)), (2, .ptr 0 1 0 0), (3, .ptr 1 1 0 0), (18, .sl 74 (List.map R74 l)), (19, .int .i64 (l.length : Int)), (20, .int .i64 i), (55, .agg (List.map C3 x2.States.toList)), (56, .int .i64 i2)], [some ⟨74, [(.int .i64 0) :: ((List.map C47 (Vector.replicate 64 0).toList) ++ (((List.map C3 (Vector.replicate 64 0).toList) ++ ((.bool false) :: (.int .i64 0) :: (.bool false) :: []))))]⟩, some ⟨74, [(.int .i64 out2.Number) :: ((List.map C47 x2.Frame.toList) ++ (((List.map C3 States.toList) ++ ((.bool true) :: (.int .i64 (i64 (out2.Copies + x2.Copies))) :: (.bool Conflict) :: []))))]⟩]⟩) hl2 (ES [some 0, some 1]) fun n2 States i2 h=>?_
        unfold ref4_merge_L2 at h
        refine Tr<|R2 v_lss Y<|R_nil<|T_seq<|If h Y (fun h=>?_) fun h=>?_
        ·
         exact T_skip<|T_seq<|T_block<|K8 0 2 3 18 19 20 55 56 Y<|Tr<|Rm Y<|bE h fun x3 h_x3 h=>Rq Y (v_indexVG (ov Y) (ov Y) tR72 tS3 h_x3)<|Ra Y<|Ra Y<|R_nil<|K10 0 2 3 6 7 18 19 20 55 56 Y<|T_reg<|Rm Y<|Rm Y<|Rq Y (v_fieldP (ov Y) Y Y tF74_2)<|bE h fun x4 h_x4 h=>Rq Y (v_ixAG (ov Y) (ov Y) tR72 Y Y h_x4)<|Rq Y (v_loadS (ov Y) Y Y Y tS3<|at_get<|at_at (o := 65) (o' := (i2.toNat * 1)) at12<|at_v1 h_x4)<|Rm Y<|Rq Y (v_max (ov Y) (ov Y) Y)<|Rq Y (v_fieldP (ov Y) Y Y tF74_2)<|bE h fun x5 h_x5 h=>Rq Y (v_ixAG (ov Y) (ov Y) tR72 Y Y h_x5)<|Rx Y (w_store (ov Y) (ov Y) (cells_scal tS3) Y Y Y (put_le (at_at (o := 65) (o' := (i2.toNat * 1)) at12<|at_v1 h_x5) Y) (cell1_all Y)<|put_put (o := 65) (o' := (i2.toNat * 1)) at12 (at_v1 h_x5) Y (put_v1 h_x5 (x := (max x4 x3))) pt13)<|R_nil<|K8 0 2 3 18 19 20 55 56 Y<|T_reg<|R2 vadd Y<|Rm Y<|R_nil<|⟨_, h, ES [some 0, some 1]⟩
        ·
         refine T_exit<|?_
         replace h := lx h ▸ ho2
         exact ⟨_, h, ES [some 0, some 1]⟩
      ·
       refine Dq 0 Y (v_fieldP (ov Y) Y Y tF74_1)<|Dq 1 Y (v_loadA (ov Y) Y Y Y tA49 (at_sub at10) arL (hns := (nsM fun _ => Y)))<|Dq 4 Y (v_fieldP (ov Y) Y Y tF74_1)<|Do 5 Y (w_store (ov Y) (ov Y) (cells_agg tA49 arL) Y Y Y (put_le at10 arL) (cell1_all<|arC fun _ => Y) pt11)<|Dd<|K7 0 2 3 5 18 19 20 Y<|Tr<|Rq Y (v_fieldP (ov Y) Y Y tF74_2)<|Rq Y (v_loadA (ov Y) Y Y Y tA72 (at_sub at12) arL (hns := (nsM fun _ => Y)))<|Rm Y<|R_nil<|T_block<|?_
       obtain ⟨r2, hl2, ho2⟩ := bndL h
       refine L2 (fun States i2=>⟨[(0, .sl 74 (List.map R74 l)), (2, .ptr 0 1 0 0), (3, .ptr 1 1 0 0), (18, .sl 74 (List.map R74 l)), (19, .int .i64 (l.length : Int)), (20, .int .i64 i), (55, .agg (List.map C3 x2.States.toList)), (56, .int .i64 i2)], [some ⟨74, [(.int .i64 0) :: ((List.map C47 (Vector.replicate 64 0).toList) ++ (((List.map C3 (Vector.replicate 64 0).toList) ++ ((.bool false) :: (.int .i64 0) :: (.bool false) :: []))))]⟩, some ⟨74, [(.int .i64 out2.Number) :: ((List.map C47 x2.Frame.toList) ++ (((List.map C3 States.toList) ++ ((.bool true) :: (.int .i64 (i64 (out2.Copies + x2.Copies))) :: (.bool Conflict) :: []))))]⟩]⟩) hl2 (ES [some 0, some 1]) fun n2 States i2 h=>?_
       unfold ref4_merge_L2 at h
       refine Tr<|R2 v_lss Y<|R_nil<|T_seq<|If h Y (fun h=>?_) fun h=>?_
       ·
        exact T_skip<|T_seq<|T_block<|K8 0 2 3 18 19 20 55 56 Y<|Tr<|Rm Y<|bE h fun x3 h_x3 h=>Rq Y (v_indexVG (ov Y) (ov Y) tR72 tS3 h_x3)<|Ra Y<|Ra Y<|R_nil<|K10 0 2 3 6 7 18 19 20 55 56 Y<|T_reg<|Rm Y<|Rm Y<|Rq Y (v_fieldP (ov Y) Y Y tF74_2)<|bE h fun x4 h_x4 h=>Rq Y (v_ixAG (ov Y) (ov Y) tR72 Y Y h_x4)<|Rq Y (v_loadS (ov Y) Y Y Y tS3<|at_get<|at_at (o := 65) (o' := (i2.toNat * 1)) at12<|at_v1 h_x4)<|Rm Y<|Rq Y (v_max (ov Y) (ov Y) Y)<|Rq Y (v_fieldP (ov Y) Y Y tF74_2)<|bE h fun x5 h_x5 h=>Rq Y (v_ixAG (ov Y) (ov Y) tR72 Y Y h_x5)<|Rx Y (w_store (ov Y) (ov Y) (cells_scal tS3) Y Y Y (put_le (at_at (o := 65) (o' := (i2.toNat * 1)) at12<|at_v1 h_x5) Y) (cell1_all Y)<|put_put (o := 65) (o' := (i2.toNat * 1)) at12 (at_v1 h_x5) Y (put_v1 h_x5 (x := (max x4 x3))) pt13)<|R_nil<|K8 0 2 3 18 19 20 55 56 Y<|T_reg<|R2 vadd Y<|Rm Y<|R_nil<|⟨_, h, ES [some 0, some 1]⟩
       ·
        refine T_exit<|?_
        replace h := lx h ▸ ho2
        exact ⟨_, h, ES [some 0, some 1]⟩
   ·
    exact T_reg<|R2 vadd Y<|Rm Y<|R_nil<|⟨_, h, ES [some 0, some 1]⟩
  ·
   refine T_exit<|?_
   replace h := lx h ▸ ho1
   exact ⟨_, h, ES [some 0, some 1]⟩
 ·
  refine T_seq<|Tr<|Rq Y (v_fieldP (ov Y) Y Y tF74_5)<|Rq Y (v_loadS (ov Y) Y Y Y tS4<|at_get at22)<|R_nil<|K4 0 2 3 72 Y<|If h Y (fun h=>?_) fun h=>?_
  ·
   refine K2 2 3 Y<|Tr<|Rq Y (v_fieldP (ov Y) Y Y tF74_0)<|Rq Y (v_loadS (ov Y) Y Y Y tS3<|at_get at8)<|Rq Y (v_fieldP (ov Y) Y Y tF74_4)<|Rq Y (v_loadS (ov Y) Y Y Y tS3<|at_get at16)<|Rq Y (v_buildX (zr := (.int .i64 0) :: ((List.map C47 (Vector.replicate 64 0).toList) ++ (((List.map C3 (Vector.replicate 64 0).toList) ++ ((.bool false) :: (.int .i64 0) :: (.bool false) :: []))))) tPL74 tHA74 tZ74 (by kernel_rfl) (.cons (cvs (ov Y)<|cell1_b Y)<|.cons (cvs (ov Y)<|cell1_b Y)<|.cons (cvs (ov Y)<|cell1_b Y) .nil)<|fa_cons Y Y at8 pt9<|fa_cons Y Y at16 pt17<|fa_cons Y Y at22 pt23 fa_nil)<|Rx Y (w_store (ov Y) (ov Y) (cells_agg tA74 ln18) Y Y Y (put_le (at_all ln18) ln18) (cell1_all al20)<|put_all<|Eq.trans ln18<|Eq.symm ln18)<|R_nil<|?_
   obtain rfl := rt h
   exact T_ret (retq Y (.one<|.agg Y Y Y Y tA74 (at_sub<|at_all ln18) ln18 (pwB al19) (hns := ns21)))
  ·
   refine T_skip<|T_seq<|K3 0 2 3 Y<|Tr<|Rq Y (v_fieldP (ov Y) Y Y tF74_3)<|Rq Y (v_loadS (ov Y) Y Y Y tS4<|at_get at14)<|R_nil<|K4 0 2 3 79 Y<|If h Y (fun h=>?_) fun h=>?_
   ·
    refine T_seq<|K2 2 3 Y<|Tr<|Rq Y (v_fieldP (ov Y) Y Y tF74_4)<|Rq Y (v_loadS (ov Y) Y Y Y tS3<|at_get at16)<|R2 v_eql Y<|Rm Y<|Rq Y (.guarded ((decide (out.Copies = 0)) == true) Y Y Y Y fun h => v_loadA (ov Y) Y Y Y tA74 (at_sub<|at_all ln18) ln18 (hns := ns21))<|bE h fun y h_y h=>Rq Y (.guarded ((decide (out.Copies = 0)) == true) Y Y Y Y fun h => v_call (ok_ref4_allGood<|gdT h_y h)<|.cons (ow Y h) (.aggB al19) .nil)<|Rq Y (v_and (ov Y) fun hp=>ow Y<|gT hp)<|R_nil<|K3 2 3 86 Y<|If h Y (fun h=>?_) fun h=>?_
    ·
     refine K2 2 3 Y<|T_reg<|Rq Y (v_fieldP (ov Y) Y Y tF74_4)<|Rx Y (w_store (ov Y) (ov Y) (cells_scal tS3) Y Y Y (put_le at16 Y) (cell1_all Y) pt17)<|R_nil<|K2 2 3 Y<|Tr<|Rq Y (v_loadA (ov Y) Y Y Y tA74 (at_sub<|at_all ln18) ln18 (hns := ns21))<|Rx Y (w_store (ov Y) (ov Y) (cells_agg tA74 ln18) Y Y Y (put_le (at_all ln18) ln18) (cell1_all al20)<|put_all<|Eq.trans ln18<|Eq.symm ln18)<|R_nil<|?_
     obtain rfl := rt h
     exact T_ret (retq Y (.one<|.agg Y Y Y Y tA74 (at_sub<|at_all ln18) ln18 (pwB al19) (hns := ns21)))
    ·
     refine T_skip<|K2 2 3 Y<|Tr<|Rq Y (v_loadA (ov Y) Y Y Y tA74 (at_sub<|at_all ln18) ln18 (hns := ns21))<|Rx Y (w_store (ov Y) (ov Y) (cells_agg tA74 ln18) Y Y Y (put_le (at_all ln18) ln18) (cell1_all al20)<|put_all<|Eq.trans ln18<|Eq.symm ln18)<|R_nil<|?_
     obtain rfl := rt h
     exact T_ret (retq Y (.one<|.agg Y Y Y Y tA74 (at_sub<|at_all ln18) ln18 (pwB al19) (hns := ns21)))
   ·
    refine T_skip<|K3 0 2 3 Y<|Tr<|Ra Y<|R_nil<|I2 (fun out4 whole=>⟨[(2, .ptr 0 1 0 0), (3, .ptr 1 1 0 0), (8, .bool whole)], [some ⟨74, [(.int .i64 0) :: ((List.map C47 (Vector.replicate 64 0).toList) ++ (((List.map C3 (Vector.replicate 64 0).toList) ++ ((.bool false) :: (.int .i64 0) :: (.bool false) :: []))))]⟩, some ⟨74, [(.int .i64 out4.Number) :: ((List.map C47 out4.Frame.toList) ++ (((List.map C3 out4.States.toList) ++ ((.bool out4.Sound) :: (.int .i64 out4.Copies) :: (.bool out4.Conflict) :: []))))]⟩]⟩) h (fun h=>?_) fun out4 whole h=>?_
    ·
     refine Tr<|Rm Y<|R_nil<|T_block<|?_
     obtain ⟨r3, hl3, ho3⟩ := bndL h
     refine L3 (fun out5 whole2 i3=>⟨[(0, .sl 74 (List.map R74 l)), (2, .ptr 0 1 0 0), (3, .ptr 1 1 0 0), (8, .bool whole2), (89, .int .i64 i3)], [some ⟨74, [(.int .i64 0) :: ((List.map C47 (Vector.replicate 64 0).toList) ++ (((List.map C3 (Vector.replicate 64 0).toList) ++ ((.bool false) :: (.int .i64 0) :: (.bool false) :: []))))]⟩, some ⟨74, [(.int .i64 out5.Number) :: ((List.map C47 out5.Frame.toList) ++ (((List.map C3 out5.States.toList) ++ ((.bool out5.Sound) :: (.int .i64 out5.Copies) :: (.bool out5.Conflict) :: []))))]⟩]⟩) hl3 (ES [some 0, some 1]) fun n3 out5 whole2 i3 h=>?_
     unfold ref4_merge_L3 at h
     refine Tr<|R2 v_lss Y<|R_nil<|T_seq<|If h Y (fun h=>?_) fun h=>?_
     ·
      refine T_skip<|T_seq<|T_block<|K5 0 2 3 8 89 Y<|Tr<|Rm Y<|Ra Y<|R_nil<|K6 0 2 3 8 9 89 Y<|Tr<|Rm Y<|Rm Y<|bE h fun y2 h_y2 h=>Rq Y (v_call (ok_ref4_agreed h_y2)<|.cons (ov Y) (.b Y)<|.cons (ov Y) (.b Y) .nil)<|Rm Y<|Rq Y (v_extract (ov Y) Y)<|Rq Y (v_extract (ov Y) Y)<|Ra Y<|Ra Y<|R_nil<|K8 0 2 3 8 9 10 11 89 Y<|Tr<|Rm Y<|Rm Y<|Rq Y (.guarded (whole2 == true) Y Y Y Y fun h => v_move<|ov Y)<|Rq Y (v_and (ov Y) fun hp=>ow Y<|gT hp)<|Ra Y<|R_nil<|K8 0 2 3 8 9 10 11 89 Y<|Tr<|Rm Y<|R_nil<|K8 0 2 3 8 9 10 89 102 Y<|If h Y (fun h=>?_) fun h=>?_
      ·
       exact K7 0 2 3 8 9 10 89 Y<|T_reg<|Rm Y<|Rm Y<|Rm Y<|Rq Y (v_fieldP (ov Y) Y Y tF74_1)<|bE h fun x6 h_x6 h=>Rq Y (v_ixAG (ov Y) (ov Y) tR49 Y Y h_x6)<|Rx Y (w_store (ov Y) (ov Y) (cells_scal tS47) Y Y Y (put_le (at_at (o := 1) (o' := (i3.toNat * 1)) at10<|at_v1 h_x6) Y) (cell1_all Y)<|put_put (o := 1) (o' := (i3.toNat * 1)) at10 (at_v1 h_x6) Y (put_v1 h_x6 (x := y2.1)) pt11)<|Rq Y (v_fieldP (ov Y) Y Y tF74_2)<|bE h fun x7 h_x7 h=>Rq Y (v_ixAG (ov Y) (ov Y) tR72 Y Y h_x7)<|Rx Y (w_store (ov Y) (ov Y) (cells_scal tS3) Y Y Y (put_le (at_at (o := 65) (o' := (i3.toNat * 1)) at12<|at_v1 h_x7) Y) (cell1_all Y)<|put_put (o := 65) (o' := (i3.toNat * 1)) at12 (at_v1 h_x7) Y (put_v1 h_x7 (x := 1)) pt13)<|R_nil<|K5 0 2 3 8 89 Y<|T_reg<|R2 vadd Y<|Rm Y<|R_nil<|⟨_, h, ES [some 0, some 1]⟩
      ·
       exact T_skip<|K5 0 2 3 8 89 Y<|T_reg<|R2 vadd Y<|Rm Y<|R_nil<|⟨_, h, ES [some 0, some 1]⟩
     ·
      refine T_exit<|?_
      replace h := lx h ▸ ho3
      exact ⟨_, h, ES [some 0, some 1]⟩
    ·
     refine T_seq<|Td md0<|D1 0 v_move Y<|D1 1 v_move Y<|Dq 2 Y (.guarded (whole == true) Y Y Y Y fun h => v_fieldP (ov Y) Y Y tF74_1)<|Dq 3 Y (.guarded (whole == true) Y Y Y Y fun h => v_loadA (ow Y h) Y Y Y tA49 (at_sub at10) arL (hns := (nsM fun _ => Y)))<|bE h fun y3 h_y3 h=>Dq 4 Y (.guarded (whole == true) Y Y Y Y fun h => v_call (ok_ref1_Sound<|gdT h_y3 h)<|.cons (ow Y h) (.aggB<|arD fun _ => Y) .nil)<|Dq 5 Y (v_and (ov Y) fun hp=>ow Y<|gT hp)<|D1 6 v_move Y<|Dq 7 Y (.guarded ((whole && y3) == true) Y Y Y Y fun h => v_fieldP (ov Y) Y Y tF74_1)<|Dq 8 Y (.guarded ((whole && y3) == true) Y Y Y Y fun h => v_loadA (ow Y h) Y Y Y tA49 (at_sub at10) arL (hns := (nsM fun _ => Y)))<|bE h fun y4 h_y4 h=>Dq 9 Y (.guarded ((whole && y3) == true) Y Y Y Y fun h => v_call (ok_ref4_number<|gdT h_y4 h)<|.cons (ow Y h) (.aggB<|arD fun _ => Y) .nil)<|Dq 10 Y (.guarded ((whole && y3) == true) Y Y Y Y fun h => v_fieldP (ov Y) Y Y tF74_0)<|Dq 11 Y (.guarded ((whole && y3) == true) Y Y Y Y fun h => v_loadS (ow Y h) Y Y Y tS3<|at_get at8)<|Dq 12 Y (.guarded ((whole && y3) == true) Y Y Y Y fun h => v_eql (ow Y h)<|ow Y h)<|Dq 13 Y (v_and (ov Y) fun hp=>ow Y<|gT hp)<|Dd<|K3 2 3 124 Y<|If h Y (fun h=>?_) fun h=>?_
     ·
      refine I1 (fun States2=>⟨[(2, .ptr 0 1 0 0), (3, .ptr 1 1 0 0)], [some ⟨74, [(.int .i64 0) :: ((List.map C47 (Vector.replicate 64 0).toList) ++ (((List.map C3 (Vector.replicate 64 0).toList) ++ ((.bool false) :: (.int .i64 0) :: (.bool false) :: []))))]⟩, some ⟨74, [(.int .i64 out4.Number) :: ((List.map C47 out4.Frame.toList) ++ (((List.map C3 States2.toList) ++ ((.bool out4.Sound) :: (.int .i64 out4.Copies) :: (.bool out4.Conflict) :: []))))]⟩]⟩) h (fun h=>?_) fun States2 h=>?_
      ·
       refine K2 2 3 Y<|Tr<|Rm Y<|R_nil<|T_block<|?_
       obtain ⟨r4, hl4, ho4⟩ := bndL h
       refine L2 (fun States3 i4=>⟨[(2, .ptr 0 1 0 0), (3, .ptr 1 1 0 0), (125, .int .i64 i4)], [some ⟨74, [(.int .i64 0) :: ((List.map C47 (Vector.replicate 64 0).toList) ++ (((List.map C3 (Vector.replicate 64 0).toList) ++ ((.bool false) :: (.int .i64 0) :: (.bool false) :: []))))]⟩, some ⟨74, [(.int .i64 out4.Number) :: ((List.map C47 out4.Frame.toList) ++ (((List.map C3 States3.toList) ++ ((.bool out4.Sound) :: (.int .i64 out4.Copies) :: (.bool out4.Conflict) :: []))))]⟩]⟩) hl4 (ES [some 0, some 1]) fun n4 States3 i4 h=>?_
       unfold ref4_merge_L4 at h
       refine Tr<|R2 v_lss Y<|R_nil<|T_seq<|If h Y (fun h=>?_) fun h=>?_
       ·
        exact T_skip<|T_seq<|T_block<|K3 2 3 125 Y<|Tr<|Rm Y<|Ra Y<|R_nil<|K4 2 3 12 125 Y<|T_reg<|Rm Y<|Rq Y (v_fieldP (ov Y) Y Y tF74_2)<|bE h fun x8 h_x8 h=>Rq Y (v_ixAG (ov Y) (ov Y) tR72 Y Y h_x8)<|Rx Y (w_store (ov Y) (ov Y) (cells_scal tS3) Y Y Y (put_le (at_at (o := 65) (o' := (i4.toNat * 1)) at12<|at_v1 h_x8) Y) (cell1_all Y)<|put_put (o := 65) (o' := (i4.toNat * 1)) at12 (at_v1 h_x8) Y (put_v1 h_x8 (x := 3)) pt13)<|R_nil<|K3 2 3 125 Y<|T_reg<|R2 vadd Y<|Rm Y<|R_nil<|⟨_, h, ES [some 0, some 1]⟩
       ·
        refine T_exit<|?_
        replace h := lx h ▸ ho4
        exact ⟨_, h, ES [some 0, some 1]⟩
      ·
       refine T_reg<|Rq Y (v_fieldP (ov Y) Y Y tF74_3)<|Rx Y (w_store (ov Y) (ov Y) (cells_scal tS4) Y Y Y (put_le at14 Y) (cell1_all Y) pt15)<|Rq Y (v_fieldP (ov Y) Y Y tF74_4)<|Rx Y (w_store (ov Y) (ov Y) (cells_scal tS3) Y Y Y (put_le at16 Y) (cell1_all Y) pt17)<|R_nil<|K2 2 3 Y<|Tr<|Rq Y (v_loadA (ov Y) Y Y Y tA74 (at_sub<|at_all ln18) ln18 (hns := ns21))<|Rx Y (w_store (ov Y) (ov Y) (cells_agg tA74 ln18) Y Y Y (put_le (at_all ln18) ln18) (cell1_all al20)<|put_all<|Eq.trans ln18<|Eq.symm ln18)<|R_nil<|?_
       obtain rfl := rt h
       exact T_ret (retq Y (.one<|.agg Y Y Y Y tA74 (at_sub<|at_all ln18) ln18 (pwB al19) (hns := ns21)))
     ·
      refine T_skip<|K2 2 3 Y<|Tr<|Rq Y (v_loadA (ov Y) Y Y Y tA74 (at_sub<|at_all ln18) ln18 (hns := ns21))<|Rx Y (w_store (ov Y) (ov Y) (cells_agg tA74 ln18) Y Y Y (put_le (at_all ln18) ln18) (cell1_all al20)<|put_all<|Eq.trans ln18<|Eq.symm ln18)<|R_nil<|?_
      obtain rfl := rt h
      exact T_ret (retq Y (.one<|.agg Y Y Y Y tA74 (at_sub<|at_all ln18) ln18 (pwB al19) (hns := ns21)))
end Go.Proofs.YthdiljjohpamnaaGreatDoorRR
