/- A text of the proof: a verified executor of the program form, or the contracts of the functions that the law reaches. -/
import Derived.Test.YthdiljjohpamnaaGreatDoorRROkZb
set_option linter.all false
namespace Go.Proofs.YthdiljjohpamnaaGreatDoorRR
open Go Go.Vx
set_option maxRecDepth 10000
set_option maxHeartbeats 1000000
set_option linter.unusedVariables false
theorem ok_salvage_rests {h_ : List Int} {r : (List api_Rest)} (h : salvage_rests h_ = some r) :
 CSpec Tryz.prog gl0 57 [.sl 5 (List.map R5 h_)] (.sl 74 (List.map R74 r)) := by
 unfold salvage_rests at h
 replace h := bnd0 h
 refine So Tryz.func57 Y fun w0 A=>Tr<|Ra Y<|R_nil<|K1 0 Y<|Tr<|Rm Y<|bE h fun y h_y h=>Rq Y (v_call (ok_salvage_newFinder h_y)<|.cons (ov Y) (.b Y) .nil)<|Ra Y<|R_nil<|K1 3 Y<|Tr<|Ra Y<|R_nil<|I1 (fun l=>⟨[(4, .own 0 l.length)], [some ⟨74, List.map R74 l⟩]⟩) h (fun h=>?_) fun l h=>?_
 ·
  refine Tr<|Rm Y<|R1 v_nilCheckR Y<|Rq Y (v_fieldR (ov Y) tF156_1)<|Rq Y (v_loadS_r (ov Y) tS153 Y)<|Rl tZ_158 tL153 Y<|Rm Y<|R_nil<|T_block<|?_
  obtain ⟨r1, hl1, ho1⟩ := bndL h
  refine L2 (fun l2 i=>⟨[(3, .rp [.sl 5 (List.map R5 y.h_), .sl 158 (List.map R158 y.certain), .sl 3 (List.map R3 y.numbers), .any] 0), (4, .own 0 l2.length), (16, .sl 158 (List.map R158 y.certain)), (17, .int .i64 (y.certain.length : Int)), (18, .int .i64 i)], [some ⟨74, List.map R74 l2⟩]⟩) hl1 (ES [none]) fun n1 l2 i h=>?_
  unfold salvage_rests_L1 at h
  refine Tr<|R2 v_lss Y<|R_nil<|T_seq<|If h Y (fun h=>?_) fun h=>?_
  ·
   refine T_skip<|I1 (fun l3=>⟨[(3, .rp [.sl 5 (List.map R5 y.h_), .sl 158 (List.map R158 y.certain), .sl 3 (List.map R3 y.numbers), .any] 0), (4, .own 0 l3.length), (16, .sl 158 (List.map R158 y.certain)), (17, .int .i64 (y.certain.length : Int)), (18, .int .i64 i)], [some ⟨74, List.map R74 l3⟩]⟩) h (fun h=>?_) fun l3 h=>?_
   ·
    refine T_block<|K5 3 4 16 17 18 Y<|Tr<|Rm Y<|bE h fun x h_x h=>Rq Y (v_ixSG (ov Y) (ov Y) tL153 h_x)<|Rq Y (v_loadA_r (ov Y) tA158 (at_sub<|at_all ln0) ln0)<|Rx Y (w_alloc (row := (.int .i64 0) :: ((List.map C47 (Vector.replicate 64 0).toList) ++ ([]))) 1 Y tZ158 (by kernel_rfl)<|by exact Eq.symm (Eq.trans (b := 65) ln0 tZ_158.symm))<|Ra Y<|Rx Y (w_store (ov Y) (ov Y) (cells_agg tA158 ln0) Y Y Y (put_le (at_all ln0) ln0) (cell1_all al6)<|put_all<|Eq.trans ln0<|Eq.symm ln0)<|R_nil<|K7 3 4 5 6 16 17 18 Y<|Td md0<|D1 0 v_move Y<|D1 1 v_move Y<|D1 2 v_nilCheckR Y<|Dq 3 Y (v_fieldR (ov Y) tF156_2)<|Dq 4 Y (v_loadS_r (ov Y) tS28 Y)<|D1 5 v_move Y<|bE h fun x2 h_x2 h=>Dq 6 Y (v_ixSG (ov Y) (ov Y) tL28 h_x2)<|Dq 7 Y (v_loadS_r (ov Y) tS3 Y)<|Dq 8 Y (v_fieldP (ov Y) Y Y tF158_1)<|Dq 9 Y (v_loadA (ov Y) Y Y Y tA49 (at_sub at4) arL (hns := (nsM fun _ => Y)))<|bE h fun y2 h_y2 h=>Dq 10 Y (v_call (ok_salvage_filled h_y2)<|.cons (ov Y) (.b Y) .nil)<|Dq 11 Y (v_buildX (zr := (.int .i64 0) :: ((List.map C47 (Vector.replicate 64 0).toList) ++ (((List.map C3 (Vector.replicate 64 0).toList) ++ ((.bool false) :: (.int .i64 0) :: (.bool false) :: []))))) tPL74 tHA74 tZ74 (by kernel_rfl) (.cons (cvs (ov Y)<|cell1_b Y)<|.cons (cva<|ov Y)<|.cons (cva<|ov Y)<|.cons (cvs (ov Y)<|cell1_b Y)<|.cons (cvs (ov Y)<|cell1_b Y) .nil)<|fa_cons Y Y at8 pt9<|fa_cons Y arL at10 pt11<|fa_cons Y arL at12 pt13<|fa_cons Y Y at14 pt15<|fa_cons Y Y at16 pt17 fa_nil)<|D_q0 12 (.sl 74<|List.map R74 ([(api_Rest.mk x2 x.Frame y2 true 1 false)] : List api_Rest)) Y (by kernel_rfl) Y Y (v_lit tL58 (.cons (cva<|ov Y) ln18 (pwD al19) .nil) Y Y)<|bE h fun l4 h_l4 h=>Do 13 Y (w_appendG (ov Y) (slv_sl (ov Y) tZ_74) tL58 Y Y Y (fun x=>cell1_all<|E74 x) Y h_l4)<|D1 14 v_assign Y<|Dd<|K6 3 4 5 16 17 18 Y<|Tr<|Rm Y<|Rm Y<|bE h fun y3 h_y3 h=>Rq Y (v_call (ok_salvage_finder_places h_y3)<|.cons (ov Y) (.b Y)<|.cons (ov Y) (.b Y) .nil)<|Rl tZ_3 tL28 Y<|Rm Y<|R_nil<|T_block<|?_
    obtain ⟨r2, hl2, ho2⟩ := bndL h
    refine L2 (fun l5 i2=>⟨[(3, .rp [.sl 5 (List.map R5 y.h_), .sl 158 (List.map R158 y.certain), .sl 3 (List.map R3 y.numbers), .any] 0), (4, .own 0 l5.length), (5, .int .i64 i), (16, .sl 158 (List.map R158 y.certain)), (17, .int .i64 (y.certain.length : Int)), (18, .int .i64 i), (39, .sl 3 (List.map R3 y3)), (40, .int .i64 (y3.length : Int)), (41, .int .i64 i2)], [some ⟨74, List.map R74 l5⟩]⟩) hl2 (ES [some 0]) fun n2 l5 i2 h=>?_
    unfold salvage_rests_L2 at h
    refine Tr<|R2 v_lss Y<|R_nil<|T_seq<|If h Y (fun h=>?_) fun h=>?_
    ·
     refine T_skip<|T_seq<|T_block<|K9 3 4 5 16 17 18 39 40 41 Y<|Tr<|bE h fun x3 h_x3 h=>Rq Y (v_ixSG (ov Y) (ov Y) tL28 h_x3)<|Rq Y (v_loadS_r (ov Y) tS3 Y)<|Ra Y<|R_nil<|K10 3 4 5 8 16 17 18 39 40 41 Y<|Tr<|Rm Y<|Rm Y<|Rm Y<|bE h fun y4 h_y4 h=>Rq Y (v_call (ok_salvage_finder_beside h_y4)<|.cons (ov Y) (.b Y)<|.cons (ov Y) (.b Y)<|.cons (ov Y) (.b Y) .nil)<|Rm Y<|Rq Y (v_extract (ov Y) Y)<|Rq Y (v_extract (ov Y) Y)<|Rx Y (w_alloc (row := (.int .i64 0) :: ((List.map C47 (Vector.replicate 64 0).toList) ++ (((List.map C3 (Vector.replicate 64 0).toList) ++ ((.bool false) :: (.int .i64 0) :: (.bool false) :: []))))) 1 Y tZ74 (by kernel_rfl)<|by exact Eq.symm (Eq.trans (b := 132) ln18 tZ_74.symm))<|Rx Y (w_store (ov Y) (ov Y) (cells_agg tA74 ln18) Y Y Y (put_le (at_all ln18) ln18) (cell1_all al20)<|put_all<|Eq.trans ln18<|Eq.symm ln18)<|Ra Y<|R_nil<|K11 3 4 5 9 10 16 17 18 39 40 41 Y<|Tr<|Rm Y<|R_nil<|K11 3 4 5 9 16 17 18 39 40 41 52 Y<|If h Y (fun h=>?_) fun h=>?_
     ·
      exact K10 3 4 5 9 16 17 18 39 40 41 Y<|T_reg<|Rm Y<|Rq Y (v_loadA (ov Y) Y Y Y tA74 (at_sub<|at_all ln18) ln18 (hns := ns21))<|R_q (.sl 74<|List.map R74 ([y4.1] : List api_Rest)) Y (v_lit tL58 (.cons (cva<|ov Y) ln18 (pwD al19) .nil) Y Y)<|bE h fun l6 h_l6 h=>Rx Y (w_appendG (ov Y) (slv_sl (ov Y) tZ_74) tL58 Y Y Y (fun x=>cell1_all<|E74 x) Y h_l6)<|Ra Y<|R_nil<|K9 3 4 5 16 17 18 39 40 41 Y<|T_reg<|R2 vadd Y<|Rm Y<|R_nil<|⟨_, h, ES [some 0]⟩
     ·
      exact T_skip<|K9 3 4 5 16 17 18 39 40 41 Y<|T_reg<|R2 vadd Y<|Rm Y<|R_nil<|⟨_, h, ES [some 0]⟩
    ·
     refine T_exit<|?_
     replace h := lx h ▸ ho2
     exact ⟨_, h, ES [some 0]⟩
   ·
    exact T_reg<|R2 vadd Y<|Rm Y<|R_nil<|⟨_, h, ES [some 0]⟩
  ·
   refine T_exit<|?_
   replace h := lx h ▸ ho1
   exact ⟨_, h, ES [some 0]⟩
 ·
  refine Tr<|Rm Y<|bE h fun y5 h_y5 h=>R_ent (Ent.sel [none] (sr 4 Y (frzM Y Y Y D74)<|sr 59 Y (frzM Y Y Y D74) sn) (.row 74 .nil) Y Y)<|Rq Y (v_call (ok_salvage_grouped h_y5)<|.cons (ov Y) (.b Y) .nil)<|Ra Y<|R_nil<|?_
  obtain rfl := rt h
  exact T_ret (retq Y (.one<|rb Y))
theorem ok_ref4_CheckPiece {p : api_Piece} {r : Int} (h : ref4_CheckPiece p = some r) :
 CSpec Tryz.prog gl0 59 [.agg [.sl 5 (List.map R5 p.Bytes), .bool p.Half]] (.int .i64 r) := by
 unfold ref4_CheckPiece at h
 replace h := bnd0 h
 refine So Tryz.func59 Y fun w0 A=>Tr<|Rq Y (v_boxD (cva<|ov Y) Y tZ_68 Y)<|Ra Y<|R_nil<|T_seq<|K1 1 Y<|Tr<|Rq Y (v_fieldR (ov Y) tF68_0)<|Rq Y (v_loadS_r (ov Y) tS66 Y)<|Rl tZ_5 tL66 Y<|R2 v_gtr Y<|R_nil<|K2 1 6 Y<|If h Y (fun h=>?_) fun h=>?_
 ·
  refine K0<|Tr<|Ra Y<|R_nil<|?_
  obtain rfl := rt h
  exact T_ret (retq Y (.one<|rb Y))
 ·
  refine T_skip<|T_seq<|K1 1 Y<|Tr<|Rq Y (v_fieldR (ov Y) tF68_1)<|Rq Y (v_loadS_r (ov Y) tS4 Y)<|Rm Y<|Rq Y (.guarded (p.Half == true) Y Y Y Y fun h => v_fieldR (ov Y) tF68_0)<|Rq Y (.guarded (p.Half == true) Y Y Y Y fun h => v_loadS_r (ow Y h) tS66 Y)<|Rq Y (.guarded (p.Half == true) Y Y Y Y fun h => v_len (slv_sl (ow Y h) tZ_5) tL66<|len_map _ _)<|Rq Y (.guarded (p.Half == true) Y Y Y Y fun h => v_eql (ow Y h)<|ov Y)<|Rq Y (.guarded (p.Half == true) Y Y Y Y fun h => v_move<|ow Y h)<|Rq Y (.guarded2 ((p.Half == true) && ((decide ((p.Bytes.length : Int) = 0)) == false)) Y Y Y Y fun h => v_fieldR (ov Y) tF68_0)<|Rq Y (.guarded2 ((p.Half == true) && ((decide ((p.Bytes.length : Int) = 0)) == false)) Y Y Y Y fun h => v_loadS_r (ow Y h) tS66 Y)<|bE h fun x h_x h=>Rq Y (.guarded2 ((p.Half == true) && ((decide ((p.Bytes.length : Int) = 0)) == false)) Y Y Y Y fun h => v_ixSG (ow Y h) (ov Y) tL66<|gdT h_x h)<|Rq Y (.guarded2 ((p.Half == true) && ((decide ((p.Bytes.length : Int) = 0)) == false)) Y Y Y Y fun h => v_loadS_r (ow Y h) tS5 Y)<|Rq Y (.guarded2 ((p.Half == true) && ((decide ((p.Bytes.length : Int) = 0)) == false)) Y Y Y Y fun h => v_gtr (ow Y h)<|ov Y)<|Rq Y (.guarded (p.Half == true) Y Y Y Y fun h => v_or (ow Y h) fun hp=>ow Y<|gA h<|gF hp)<|Rq Y (v_and (ov Y) fun hp=>ow Y<|gT hp)<|R_nil<|K1 21 Y<|If h Y (fun h=>?_) fun h=>?_
  ·
   refine K0<|Tr<|Ra Y<|R_nil<|?_
   obtain rfl := rt h
   exact T_ret (retq Y (.one<|rb Y))
  ·
   refine T_skip<|K0<|Tr<|Ra Y<|R_nil<|?_
   obtain rfl := rt h
   exact T_ret (retq Y (.one<|rb Y))
theorem ok_ref4_Halves {p : api_Piece} {r : (List Int)} (h : ref4_Halves p = some r) :
 CSpec Tryz.prog gl0 62 [.agg [.sl 5 (List.map R5 p.Bytes), .bool p.Half]] (.sl 5 (List.map R5 r)) := by
 unfold ref4_Halves at h
 replace h := bnd0 h
 refine So Tryz.func62 Y fun w0 A=>Tr<|Rq Y (v_boxD (cva<|ov Y) Y tZ_68 Y)<|Ra Y<|R_nil<|K1 1 Y<|Tr<|Ra Y<|R_nil<|I1 (fun out=>⟨[(3, .own 0 out.length)], [some ⟨5, List.map R5 out⟩]⟩) h (fun h=>?_) fun out h=>?_
 ·
  refine Tr<|Rq Y (v_fieldR (ov Y) tF68_0)<|Rq Y (v_loadS_r (ov Y) tS66 Y)<|Rl tZ_5 tL66 Y<|Rm Y<|R_nil<|T_block<|?_
  obtain ⟨r1, hl1, ho1⟩ := bndL h
  refine L2 (fun out2 i=>⟨[(1, .rp [.sl 5 (List.map R5 p.Bytes), .bool p.Half] 0), (3, .own 0 out2.length), (7, .sl 5 (List.map R5 p.Bytes)), (8, .int .i64 (p.Bytes.length : Int)), (9, .int .i64 i)], [some ⟨5, List.map R5 out2⟩]⟩) hl1 (ES [none]) fun n1 out2 i h=>?_
  unfold ref4_Halves_L1 at h
  refine Tr<|R2 v_lss Y<|R_nil<|T_seq<|If h Y (fun h=>?_) fun h=>?_
  ·
   refine T_skip<|T_seq<|T_block<|K5 1 3 7 8 9 Y<|Tr<|Rm Y<|bE h fun x h_x h=>Rq Y (v_ixSG (ov Y) (ov Y) tL66 h_x)<|Rq Y (v_loadS_r (ov Y) tS5 Y)<|Ra Y<|Ra Y<|R_nil<|I1 (fun out3=>⟨[(1, .rp [.sl 5 (List.map R5 p.Bytes), .bool p.Half] 0), (3, .own 0 out3.length), (5, .int .u8 x), (7, .sl 5 (List.map R5 p.Bytes)), (8, .int .i64 (p.Bytes.length : Int)), (9, .int .i64 i)], [some ⟨5, List.map R5 out3⟩]⟩) h (fun h=>?_) fun out3 h=>?_
   ·
    refine K7 1 3 4 5 7 8 9 Y<|Tr<|Rm Y<|R2 v_gtr Y<|Rm Y<|Rq Y (.guarded ((decide (0 < i)) == false) Y Y Y Y fun h => v_fieldR (ov Y) tF68_1)<|Rq Y (.guarded ((decide (0 < i)) == false) Y Y Y Y fun h => v_loadS_r (ow Y h) tS4 Y)<|Rq Y (.guarded ((decide (0 < i)) == false) Y Y Y Y fun h => v_not<|ow Y h)<|Rq Y (v_or (ov Y) fun hp=>ow Y<|gF hp)<|R_nil<|K7 1 3 5 7 8 9 20 Y<|If h Y (fun h=>?_) fun h=>?_
    ·
     exact K6 1 3 5 7 8 9 Y<|T_reg<|Rm Y<|Rm Y<|bE h fun q h_q h=>Rq Y (v_quoG (ov Y) (ov Y) h_q)<|R_q (.sl 5<|List.map R5 ([q] : List Int)) Y (v_lit tL66 (.cons (cvs (ov Y)<|cell1_b Y) Y (.cons (.b Y) .nil) .nil) Y Y)<|bE h fun l h_l h=>Rx Y (w_appendG (ov Y) (slv_sl (ov Y) tZ_5) tL66 Y Y Y (fun _=>cell1_all Y) Y h_l)<|Ra Y<|R_nil<|⟨_, h, ES [some 0]⟩
    ·
     exact T_skip<|⟨_, h, ES [some 0]⟩
   ·
    exact T_reg<|Rm Y<|Rm Y<|bE h fun q2 h_q2 h=>Rq Y (v_remG (ov Y) (ov Y) h_q2)<|R_q (.sl 5<|List.map R5 ([q2] : List Int)) Y (v_lit tL66 (.cons (cvs (ov Y)<|cell1_b Y) Y (.cons (.b Y) .nil) .nil) Y Y)<|bE h fun l2 h_l2 h=>Rx Y (w_appendG (ov Y) (slv_sl (ov Y) tZ_5) tL66 Y Y Y (fun _=>cell1_all Y) Y h_l2)<|Ra Y<|R_nil<|K5 1 3 7 8 9 Y<|T_reg<|R2 vadd Y<|Rm Y<|R_nil<|⟨_, h, ES [some 0]⟩
  ·
   refine T_exit<|?_
   replace h := lx h ▸ ho1
   exact ⟨_, h, ES [some 0]⟩
 ·
  refine Tr<|Rm Y<|Ra Y<|R_nil<|?_
  obtain rfl := rt h
  exact T_ret (retq Y (.one<|.tmp Y<|View.ownM Y Y D5))
theorem ok_ref1_numberOf {f : Vector Int 64} {r : Int} (h : ref1_numberOf f = some r) :
 CSpec Tryz.prog gl0 167 [.agg (List.map C47 f.toList)] (.int .i64 r) := by
 unfold ref1_numberOf at h
 replace h := bnd0 h
 refine So Tryz.func167 Y fun w0 A=>Tr<|Rq Y (v_boxD (cva<|ov Y) arL tZ_49<|arD fun _ => Y)<|Ra Y<|R_nil<|K2 1 2 Y<|Tr<|bE h fun x h_x h=>Rq Y (v_ixRG (ov Y) (ov Y) tR49 h_x)<|Rq Y (v_loadS_r (ov Y) tS47<|at_get<|at_at (o := 0) (o' := ((Int.toNat 1) * 1)) (at_all arL)<|at_v1 h_x)<|Rq Y (v_conv (ov Y) tI47 tI3 Y)<|bE h fun q h_q h=>Rq Y (v_remG (ov Y) (ov Y) h_q)<|bE h fun x2 h_x2 h=>Rq Y (v_ixRG (ov Y) (ov Y) tR49 h_x2)<|Rq Y (v_loadS_r (ov Y) tS47<|at_get<|at_at (o := 0) (o' := ((Int.toNat 2) * 1)) (at_all arL)<|at_v1 h_x2)<|Rq Y (v_conv (ov Y) tI47 tI3 Y)<|bE h fun q2 h_q2 h=>Rq Y (v_remG (ov Y) (ov Y) h_q2)<|R2 vmul Y<|R2 vadd Y<|Ra Y<|R_nil<|?_
 obtain rfl := rt h
 exact T_ret (retq Y (.one<|rb Y))
theorem ok_ref1_syncOf {number : Int} {r : Int} (h : ref1_syncOf number = some r) :
 CSpec Tryz.prog gl0 166 [.int .i64 number] (.int .i64 r) := by
 unfold ref1_syncOf at h
 replace h := bnd0 h
 refine So Tryz.func166 Y fun w0 A=>Tr<|Ra Y<|R_nil<|Tr<|R_q (.agg<|List.map C3 (#v[583, 1464, 2631, 3512] : Vector Int 4).toList) Y (v_buildA (ys := [_, _, _, _]) tR232 tZ232 (.cons (cvs (ov Y)<|cell1_b Y)<|.cons (cvs (ov Y)<|cell1_b Y)<|.cons (cvs (ov Y)<|cell1_b Y)<|.cons (cvs (ov Y)<|cell1_b Y) .nil) Y)<|Rm Y<|bE h fun q h_q h=>Rq Y (v_remG (ov Y) (ov Y) h_q)<|bE h fun x h_x h=>Rq Y (v_indexVG (ov Y) (ov Y) tR232 tS3 h_x)<|Ra Y<|R_nil<|?_
 obtain rfl := rt h
 exact T_ret (retq Y (.one<|rb Y))
theorem ok_ref1_odd {n : Int} {r : Bool} (h : ref1_odd n = some r) :
 CSpec Tryz.prog gl0 202 [.int .i64 n] (.bool r) := by
 unfold ref1_odd at h
 replace h := bnd0 h
 refine So Tryz.func202 Y fun w0 A=>Tr<|Ra Y<|R_nil<|K1 0 Y<|Tr<|Ra Y<|R_nil<|I1 (fun ones=>⟨[(3, .int .i64 ones)], []⟩) h (fun h=>?_) fun ones h=>?_
 ·
  refine T_block<|?_
  obtain ⟨r1, hl1, ho1⟩ := bndL h
  refine L2 (fun n2 ones2=>⟨[(0, .int .i64 n2), (3, .int .i64 ones2)], []⟩) hl1 (ES []) fun n1 n2 ones2 h=>?_
  unfold ref1_odd_L1 at h
  refine T_seq<|Tr<|Rm Y<|R2 v_gtr Y<|R_nil<|K3 0 3 5 Y<|If h Y (fun h=>?_) fun h=>?_
  ·
   exact T_skip<|T_seq<|T_block<|K2 0 3 Y<|T_reg<|Rm Y<|Rm Y<|bE h fun q h_q h=>Rq Y (v_remG (ov Y) (ov Y) h_q)<|R2 vadd Y<|Ra Y<|R_nil<|K2 0 3 Y<|T_reg<|Rm Y<|bE h fun q2 h_q2 h=>Rq Y (v_quoG (ov Y) (ov Y) h_q2)<|Ra Y<|R_nil<|⟨_, h, ES []⟩
  ·
   refine T_exit<|?_
   replace h := lx h ▸ ho1
   exact ⟨_, h, ES []⟩
 ·
  refine Tr<|Rm Y<|bE h fun q3 h_q3 h=>Rq Y (v_remG (ov Y) (ov Y) h_q3)<|R2 v_eql Y<|Ra Y<|R_nil<|?_
  obtain rfl := rt h
  exact T_ret (retq Y (.one<|rb Y))
theorem ok_ref1_sum {f : Vector Int 64} {r : Int} (h : ref1_sum f = some r) :
 CSpec Tryz.prog gl0 168 [.agg (List.map C47 f.toList)] (.int .i64 r) := by
 unfold ref1_sum at h
 replace h := bnd0 h
 refine So Tryz.func168 Y fun w0 A=>Tr<|Rq Y (v_boxD (cva<|ov Y) arL tZ_49<|arD fun _ => Y)<|Ra Y<|R_nil<|K1 1 Y<|Tr<|Ra Y<|R_nil<|I1 (fun x=>⟨[(3, .int .i64 x)], []⟩) h (fun h=>?_) fun x h=>?_
 ·
  refine Tr<|Ra Y<|R_nil<|T_block<|?_
  obtain ⟨r1, hl1, ho1⟩ := bndL h
  refine L2 (fun x2 i=>⟨[(1, .rp (List.map C47 f.toList) 0), (3, .int .i64 x2), (4, .int .i64 i)], []⟩) hl1 (ES []) fun n1 x2 i h=>?_
  unfold ref1_sum_L1 at h
  refine T_seq<|Tr<|Rm Y<|R2 v_leq Y<|R_nil<|K4 1 3 4 6 Y<|If h Y (fun h=>?_) fun h=>?_
  ·
   exact T_skip<|T_seq<|T_block<|K3 1 3 4 Y<|T_reg<|Rm Y<|Rm Y<|bE h fun x3 h_x3 h=>Rq Y (v_ixRG (ov Y) (ov Y) tR49 h_x3)<|Rq Y (v_loadS_r (ov Y) tS47<|at_get<|at_at (o := 0) (o' := (i.toNat * 1)) (at_all arL)<|at_v1 h_x3)<|Rq Y (v_conv (ov Y) tI47 tI3 Y)<|bE h fun q h_q h=>Rq Y (v_remG (ov Y) (ov Y) h_q)<|R2 v_xor_ Y<|Ra Y<|R_nil<|K3 1 3 4 Y<|T_reg<|Rm Y<|R2 vadd Y<|Ra Y<|R_nil<|⟨_, h, ES []⟩
  ·
   refine T_exit<|?_
   replace h := lx h ▸ ho1
   exact ⟨_, h, ES []⟩
 ·
  refine Tr<|Rm Y<|Ra Y<|R_nil<|?_
  obtain rfl := rt h
  exact T_ret (retq Y (.one<|rb Y))
theorem ok_ref1_check {f : Vector Int 64} {r : Int} (h : ref1_check f = some r) :
 CSpec Tryz.prog gl0 181 [.agg (List.map C47 f.toList)] (.int .i64 r) := by
 unfold ref1_check at h
 replace h := bnd0 h
 refine So Tryz.func181 Y fun w0 A=>Tr<|Rq Y (v_boxD (cva<|ov Y) arL tZ_49<|arD fun _ => Y)<|Ra Y<|R_nil<|K1 1 Y<|Tr<|Ra Y<|R_nil<|I1 (fun rest=>⟨[(3, .int .i64 rest)], []⟩) h (fun h=>?_) fun rest h=>?_
 ·
  refine Tr<|Ra Y<|R_nil<|T_block<|?_
  obtain ⟨r1, hl1, ho1⟩ := bndL h
  refine L2 (fun rest2 i=>⟨[(1, .rp (List.map C47 f.toList) 0), (3, .int .i64 rest2), (4, .int .i64 i)], []⟩) hl1 (ES []) fun n1 rest2 i h=>?_
  unfold ref1_check_L1 at h
  refine T_seq<|Tr<|Rm Y<|R2 v_lss Y<|R_nil<|K4 1 3 4 7 Y<|If h Y (fun h=>?_) fun h=>?_
  ·
   refine T_skip<|T_seq<|T_block<|K3 1 3 4 Y<|Tr<|Ra Y<|R_nil<|I1 (fun bit=>⟨[(1, .rp (List.map C47 f.toList) 0), (3, .int .i64 rest2), (4, .int .i64 i), (5, .int .i64 bit)], []⟩) h (fun h=>?_) fun bit h=>?_
   ·
    refine Tr<|Rm Y<|R2 v_lss Y<|R_nil<|K5 1 3 4 5 11 Y<|If h Y (fun h=>?_) fun h=>?_
    ·
     exact K4 1 3 4 5 Y<|T_reg<|Rm Y<|bE h fun q h_q h=>Rq Y (v_quoG (ov Y) (ov Y) h_q)<|bE h fun x h_x h=>Rq Y (v_ixRG (ov Y) (ov Y) tR49 h_x)<|Rq Y (v_loadS_r (ov Y) tS47<|at_get<|at_at (o := 0) (o' := (q.toNat * 1)) (at_all arL)<|at_v1 h_x)<|Rq Y (v_conv (ov Y) tI47 tI3 Y)<|Rm Y<|bE h fun q2 h_q2 h=>Rq Y (v_remG (ov Y) (ov Y) h_q2)<|R2 vsub Y<|bE h fun q3 h_q3 h=>Rq Y (v_shrG (ov Y) (ov Y) h_q3)<|R2 v_and_ Y<|Ra Y<|R_nil<|⟨_, h, ES []⟩
    ·
     exact T_skip<|⟨_, h, ES []⟩
   ·
    refine Tr<|Rm Y<|R2 vmul Y<|Rm Y<|R2 vadd Y<|Ra Y<|R_nil<|K3 1 3 4 Y<|Tr<|Rm Y<|R2 v_geq Y<|R_nil<|K4 1 3 4 27 Y<|If h Y (fun h=>?_) fun h=>?_
    ·
     exact K3 1 3 4 Y<|T_reg<|Rm Y<|R2 v_xor_ Y<|Ra Y<|R_nil<|K3 1 3 4 Y<|T_reg<|Rm Y<|R2 vadd Y<|Ra Y<|R_nil<|⟨_, h, ES []⟩
    ·
     exact T_skip<|K3 1 3 4 Y<|T_reg<|Rm Y<|R2 vadd Y<|Ra Y<|R_nil<|⟨_, h, ES []⟩
  ·
   refine T_exit<|?_
   replace h := lx h ▸ ho1
   exact ⟨_, h, ES []⟩
 ·
  refine Tr<|Rm Y<|Ra Y<|R_nil<|?_
  obtain rfl := rt h
  exact T_ret (retq Y (.one<|rb Y))
end Go.Proofs.YthdiljjohpamnaaGreatDoorRR
