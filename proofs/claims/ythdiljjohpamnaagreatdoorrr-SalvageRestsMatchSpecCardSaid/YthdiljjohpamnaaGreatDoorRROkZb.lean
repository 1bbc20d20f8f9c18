/- A text of the proof: a verified executor of the program form, or the contracts of the functions that the law reaches. -/
import Derived.Test.YthdiljjohpamnaaGreatDoorRROkZa
set_option linter.all false
namespace Go.Proofs.YthdiljjohpamnaaGreatDoorRR
open Go Go.Vx
set_option maxRecDepth 10000
set_option maxHeartbeats 1000000
set_option linter.unusedVariables false
theorem ok_salvage_filled {state : Int} {r : (Vector Int 64)} (h : salvage_filled state = some r) :
 CSpec Tryz.prog gl0 106 [.int .i64 state] (.agg (List.map C3 r.toList)) := by
 unfold salvage_filled at h
 replace h := bnd0 h
 refine So Tryz.func106 Y fun w0 A=>Tr<|Rx Y (w_alloc (row := (List.map C3 (Vector.replicate 64 0).toList)) 0 Y tZ72 Y tZ_72)<|R_nil<|Tr<|Rx Y (w_alloc (row := (List.map C3 (Vector.replicate 64 0).toList)) 1 Y tZ72 Y tZ_72)<|R_nil<|I1 (fun out=>⟨[(2, .ptr 0 1 0 0), (3, .ptr 1 1 0 0)], [some ⟨72, [(List.map C3 (Vector.replicate 64 0).toList)]⟩, some ⟨72, [(List.map C3 out.toList)]⟩]⟩) h (fun h=>?_) fun out h=>?_
 ·
  refine Tr<|Rm Y<|R_nil<|T_block<|?_
  obtain ⟨r1, hl1, ho1⟩ := bndL h
  refine L2 (fun out2 i=>⟨[(0, .int .i64 state), (2, .ptr 0 1 0 0), (3, .ptr 1 1 0 0), (5, .int .i64 i)], [some ⟨72, [(List.map C3 (Vector.replicate 64 0).toList)]⟩, some ⟨72, [(List.map C3 out2.toList)]⟩]⟩) hl1 (ES [some 0, some 1]) fun n1 out2 i h=>?_
  unfold salvage_filled_L1 at h
  refine Tr<|R2 v_lss Y<|R_nil<|T_seq<|If h Y (fun h=>?_) fun h=>?_
  ·
   exact T_skip<|T_seq<|T_block<|K4 0 2 3 5 Y<|Tr<|Rm Y<|Ra Y<|R_nil<|K5 0 2 3 4 5 Y<|T_reg<|Rm Y<|Rm Y<|bE h fun x h_x h=>Rq Y (v_ixAG (ov Y) (ov Y) tR72 Y Y h_x)<|Rx Y (w_store (ov Y) (ov Y) (cells_scal tS3) Y Y Y (arB h_x) (cell1_all Y)<|arS h_x)<|R_nil<|K4 0 2 3 5 Y<|T_reg<|R2 vadd Y<|Rm Y<|R_nil<|⟨_, h, ES [some 0, some 1]⟩
  ·
   refine T_exit<|?_
   replace h := lx h ▸ ho1
   exact ⟨_, h, ES [some 0, some 1]⟩
 ·
  refine Tr<|Rq Y (v_loadA (ov Y) Y Y Y tA72 (at_sub<|at_all arL) arL (hns := (nsM fun _ => Y)))<|Rx Y (w_store (ov Y) (ov Y) (cells_agg tA72 arL) Y Y Y (put_le (at_all arL) arL) (cell1_all<|arC fun _ => Y)<|put_all<|Eq.trans arL<|Eq.symm arL)<|R_nil<|?_
  obtain rfl := rt h
  exact T_ret (retq Y (.one<|.agg Y Y Y Y tA72 (at_sub<|at_all arL) arL (pwB<|arD fun _ => Y) (hns := (nsM fun _ => Y))))
theorem ok_slices_BinarySearchFunc_api_Found_api_Found_int {x : List api_Found} {target : Int} {cmp : api_Found → Int → Option Int} {r : Int × Bool} {cmp_f : FuncId} {cmp_c : List AV} (cmp_d : cmp_c.all datB = true) (cmp_h : ∀ (z0 : api_Found) (z1 : Int) z, cmp z0 z1 = some z → CSpec Tryz.prog gl0 cmp_f ([.agg ((.int .i64 z0.At) :: ((List.map C47 z0.Frame.toList) ++ ([]))), .int .i64 z1] ++ cmp_c) (.int .i64 z)) (h : slices_BinarySearchFunc_api_Found_api_Found_int x target cmp = some r) :
 CSpec Tryz.prog gl0 195 [.sl 158 (List.map R158 x), .int .i64 target, .fn cmp_f cmp_c] (.tuple [.int .i64 r.1, .bool r.2]) := by
 unfold slices_BinarySearchFunc_api_Found_api_Found_int at h
 replace h := bnd0 h
 refine So Tryz.func195 Y fun w0 A=>Tr<|Ra Y<|Ra Y<|R_nil<|K3 0 1 2 Y<|Tr<|Rm Y<|Rl tZ_158 tL153 Y<|Ra Y<|R_nil<|K4 0 1 2 8 Y<|Tr<|Rm Y<|Ra Y<|Ra Y<|R_nil<|I1 (fun i=>⟨[(0, .sl 158 (List.map R158 x)), (1, .int .i64 target), (2, .fn cmp_f cmp_c), (8, .int .i64 (x.length : Int)), (9, .int .i64 i)], []⟩) h (fun h=>?_) fun i h=>?_
 ·
  refine T_block<|?_
  obtain ⟨r1, hl1, ho1⟩ := bndL h
  refine L2 (fun i2 j=>⟨[(0, .sl 158 (List.map R158 x)), (1, .int .i64 target), (2, .fn cmp_f cmp_c), (8, .int .i64 (x.length : Int)), (9, .int .i64 i2), (10, .int .i64 j)], []⟩) hl1 (ES []<|sd 0 Y Y<|sd 1 Y Y<|sr 2 Y (rFn<|rld cmp_d)<|sd 8 Y Y<|sd 9 Y Y<|sd 10 Y Y sn) fun n1 i2 j h=>?_
  unfold slices_BinarySearchFunc_api_Found_api_Found_int_L1 at h
  refine T_seq<|Tr<|Rm Y<|Rm Y<|R2 v_lss Y<|R_nil<|K7 0 1 2 8 9 10 17 Y<|If h Y (fun h=>?_) fun h=>?_
  ·
   refine T_skip<|T_block<|K6 0 1 2 8 9 10 Y<|Tr<|Rm Y<|Rm Y<|R2 vadd Y<|Rq Y (v_conv (ov Y) tI3 tI126 Y)<|bE h fun q h_q h=>Rq Y (v_shrG (ov Y) (ov Y) h_q)<|Rq Y (v_conv (ov Y) tI126 tI3 Y)<|Ra Y<|R_nil<|K7 0 1 2 8 9 10 11 Y<|Tr<|Rm Y<|Rm Y<|Rm Y<|bE h fun x2 h_x2 h=>Rq Y (v_ixSG (ov Y) (ov Y) tL153 h_x2)<|Rq Y (v_loadA_r (ov Y) tA158 (at_sub<|at_all ln0) ln0)<|Rm Y<|bE h fun y h_y h=>Rq Y (v_callC (ov Y) cmp_d (cmp_h _ _ _ h_y)<|.cons (ov Y) (.aggB al1)<|.cons (ov Y) (.b Y) .nil)<|R2 v_lss Y<|R_nil<|K8 0 1 2 8 9 10 11 31 Y<|If h Y (fun h=>?_) fun h=>?_
   ·
    exact K7 0 1 2 8 9 10 11 Y<|T_reg<|Rm Y<|R2 vadd Y<|Ra Y<|R_nil<|⟨_, h, ES []<|sd 0 Y Y<|sd 1 Y Y<|sr 2 Y (rFn<|rld cmp_d)<|sd 8 Y Y<|sd 9 Y Y<|sd 10 Y Y sn⟩
   ·
    exact K7 0 1 2 8 9 10 11 Y<|T_reg<|Rm Y<|Ra Y<|R_nil<|⟨_, h, ES []<|sd 0 Y Y<|sd 1 Y Y<|sr 2 Y (rFn<|rld cmp_d)<|sd 8 Y Y<|sd 9 Y Y<|sd 10 Y Y sn⟩
  ·
   refine T_exit<|?_
   replace h := lx h ▸ ho1
   exact ⟨_, h, ES []<|sd 0 Y Y<|sd 1 Y Y<|sr 2 Y (rFn<|rld cmp_d)<|sd 8 Y Y<|sd 9 Y Y sn⟩
 ·
  refine Tr<|Rm Y<|Rm Y<|Rm Y<|R2 v_lss Y<|Rm Y<|Rq Y (.guarded ((decide (i < (x.length : Int))) == true) Y Y Y Y fun h => v_move<|ov Y)<|Rq Y (.guarded ((decide (i < (x.length : Int))) == true) Y Y Y Y fun h => v_move<|ov Y)<|Rq Y (.guarded ((decide (i < (x.length : Int))) == true) Y Y Y Y fun h => v_move<|ov Y)<|bE h fun x3 h_x3 h=>Rq Y (.guarded ((decide (i < (x.length : Int))) == true) Y Y Y Y fun h => v_ixSG (ow Y h) (ow Y h) tL153<|gdT h_x3 h)<|Rq Y (.guarded ((decide (i < (x.length : Int))) == true) Y Y Y Y fun h => v_loadA_r (ow Y h) tA158 (at_sub<|at_all ln0) ln0)<|Rq Y (.guarded ((decide (i < (x.length : Int))) == true) Y Y Y Y fun h => v_move<|ov Y)<|bE h fun y2 h_y2 h=>Rq Y (.guarded ((decide (i < (x.length : Int))) == true) Y Y Y Y fun h => v_callC (ow Y h) cmp_d (cmp_h _ _ _<|gdT h_y2 h)<|.cons (ow Y h) (.aggB al1)<|.cons (ow Y h) (.b Y) .nil)<|Rq Y (.guarded ((decide (i < (x.length : Int))) == true) Y Y Y Y fun h => v_eql (ow Y h)<|ov Y)<|Rq Y (v_and (ov Y) fun hp=>ow Y<|gT hp)<|Ra Y<|Ra Y<|R_nil<|?_
  obtain rfl := rt h
  exact T_ret (retq Y (.two (rb Y)<|rb Y))
theorem ok_salvage_finder_nearest_1 {c_ : api_Found} {at_ : Int} {r : Int} (h : salvage_finder_nearest_1 c_ at_ = some r) :
 CSpec Tryz.prog gl0 196 [.agg ((.int .i64 c_.At) :: ((List.map C47 c_.Frame.toList) ++ ([]))), .int .i64 at_] (.int .i64 r) := by
 unfold salvage_finder_nearest_1 at h
 replace h := bnd0 h
 refine So Tryz.func196 Y fun w0 A=>Tr<|Rq Y (v_boxD (cva<|ov Y) ln0 tZ_158 al1)<|Ra Y<|R_nil<|K3 1 2 4 Y<|Tr<|Rq Y (v_fieldR (ov Y) tF158_0)<|Rq Y (v_loadS_r (ov Y) tS3<|at_get at2)<|Rm Y<|R2 vsub Y<|Ra Y<|R_nil<|?_
 obtain rfl := rt h
 exact T_ret (retq Y (.one<|rb Y))
theorem ok_salvage_finder_nearest {x : salvage_finder} {place : Int} {r : Int} (h : salvage_finder_nearest x place = some r) :
 CSpec Tryz.prog gl0 155 [.rp [.sl 5 (List.map R5 x.h_), .sl 158 (List.map R158 x.certain), .sl 3 (List.map R3 x.numbers), .any] 0, .int .i64 place] (.int .i64 r) := by
 unfold salvage_finder_nearest at h
 replace h := bnd0 h
 refine So Tryz.func155 Y fun w0 A=>Tr<|Ra Y<|R_nil<|K2 0 1 Y<|Tr<|Rm Y<|R1 v_nilCheckR Y<|Rq Y (v_fieldR (ov Y) tF156_1)<|Rq Y (v_loadS_r (ov Y) tS153 Y)<|Rm Y<|bE h fun y h_y h=>Rq Y (v_call (ok_slices_BinarySearchFunc_api_Found_api_Found_int Y (fun z0 z1 _ hz=>ok_salvage_finder_nearest_1 hz) h_y)<|.cons (ov Y) (.b Y)<|.cons (ov Y) (.b Y)<|.cons (ov Y) .fn .nil)<|Rm Y<|Rq Y (v_extract (ov Y) Y)<|Rq Y (v_extract (ov Y) Y)<|Ra Y<|Ra Y<|R_nil<|T_seq<|K3 0 1 5 Y<|Td md0<|D1 0 v_move Y<|D1 1 v_move Y<|D1 2 v_nilCheckR Y<|Dq 3 Y (v_fieldR (ov Y) tF156_1)<|Dq 4 Y (v_loadS_r (ov Y) tS153 Y)<|Dq 5 Y (v_len (slv_sl (ov Y) tZ_158) tL153<|len_map _ _)<|D2 6 v_eql Y<|D1 7 v_move Y<|Dq 8 Y (.guarded ((decide (y.1 = (x.certain.length : Int))) == false) Y Y Y Y fun h => v_move<|ov Y)<|Dq 9 Y (.guarded ((decide (y.1 = (x.certain.length : Int))) == false) Y Y Y Y fun h => v_gtr (ow Y h)<|ov Y)<|Dq 10 Y (.guarded ((decide (y.1 = (x.certain.length : Int))) == false) Y Y Y Y fun h => v_move<|ow Y h)<|Dq 11 Y (.guarded2 (((decide (y.1 = (x.certain.length : Int))) == false) && ((decide (0 < y.1)) == true)) Y Y Y Y fun h => v_move<|ov Y)<|Dq 12 Y (.guarded2 (((decide (y.1 = (x.certain.length : Int))) == false) && ((decide (0 < y.1)) == true)) Y Y Y Y fun h => v_move<|ov Y)<|Dq 13 Y (.guarded2 (((decide (y.1 = (x.certain.length : Int))) == false) && ((decide (0 < y.1)) == true)) Y Y Y Y fun h => v_nilCheckR<|ow Y h)<|Dq 14 Y (.guarded2 (((decide (y.1 = (x.certain.length : Int))) == false) && ((decide (0 < y.1)) == true)) Y Y Y Y fun h => v_fieldR (ow Y h) tF156_1)<|Dq 15 Y (.guarded2 (((decide (y.1 = (x.certain.length : Int))) == false) && ((decide (0 < y.1)) == true)) Y Y Y Y fun h => v_loadS_r (ow Y h) tS153 Y)<|Dq 16 Y (.guarded2 (((decide (y.1 = (x.certain.length : Int))) == false) && ((decide (0 < y.1)) == true)) Y Y Y Y fun h => v_move<|ov Y)<|Dq 17 Y (.guarded2 (((decide (y.1 = (x.certain.length : Int))) == false) && ((decide (0 < y.1)) == true)) Y Y Y Y fun h => v_sub (ow Y h) (ov Y) Y)<|bE h fun x2 h_x2 h=>Dq 18 Y (.guarded2 (((decide (y.1 = (x.certain.length : Int))) == false) && ((decide (0 < y.1)) == true)) Y Y Y Y fun h => v_ixSG (ow Y h) (ow Y h) tL153<|gdT h_x2 h)<|Dq 19 Y (.guarded2 (((decide (y.1 = (x.certain.length : Int))) == false) && ((decide (0 < y.1)) == true)) Y Y Y Y fun h => v_fieldR (ow Y h) tF158_0)<|Dq 20 Y (.guarded2 (((decide (y.1 = (x.certain.length : Int))) == false) && ((decide (0 < y.1)) == true)) Y Y Y Y fun h => v_loadS_r (ow Y h) tS3<|at_get at2)<|Dq 21 Y (.guarded2 (((decide (y.1 = (x.certain.length : Int))) == false) && ((decide (0 < y.1)) == true)) Y Y Y Y fun h => v_sub (ow Y h) (ow Y h) Y)<|Dq 22 Y (.guarded2 (((decide (y.1 = (x.certain.length : Int))) == false) && ((decide (0 < y.1)) == true)) Y Y Y Y fun h => v_move<|ov Y)<|Dq 23 Y (.guarded2 (((decide (y.1 = (x.certain.length : Int))) == false) && ((decide (0 < y.1)) == true)) Y Y Y Y fun h => v_nilCheckR<|ow Y h)<|Dq 24 Y (.guarded2 (((decide (y.1 = (x.certain.length : Int))) == false) && ((decide (0 < y.1)) == true)) Y Y Y Y fun h => v_fieldR (ow Y h) tF156_1)<|Dq 25 Y (.guarded2 (((decide (y.1 = (x.certain.length : Int))) == false) && ((decide (0 < y.1)) == true)) Y Y Y Y fun h => v_loadS_r (ow Y h) tS153 Y)<|Dq 26 Y (.guarded2 (((decide (y.1 = (x.certain.length : Int))) == false) && ((decide (0 < y.1)) == true)) Y Y Y Y fun h => v_move<|ov Y)<|bE h fun x3 h_x3 h=>Dq 27 Y (.guarded2 (((decide (y.1 = (x.certain.length : Int))) == false) && ((decide (0 < y.1)) == true)) Y Y Y Y fun h => v_ixSG (ow Y h) (ow Y h) tL153<|gdT h_x3 h)<|Dq 28 Y (.guarded2 (((decide (y.1 = (x.certain.length : Int))) == false) && ((decide (0 < y.1)) == true)) Y Y Y Y fun h => v_fieldR (ow Y h) tF158_0)<|Dq 29 Y (.guarded2 (((decide (y.1 = (x.certain.length : Int))) == false) && ((decide (0 < y.1)) == true)) Y Y Y Y fun h => v_loadS_r (ow Y h) tS3<|at_get at2)<|Dq 30 Y (.guarded2 (((decide (y.1 = (x.certain.length : Int))) == false) && ((decide (0 < y.1)) == true)) Y Y Y Y fun h => v_move<|ov Y)<|Dq 31 Y (.guarded2 (((decide (y.1 = (x.certain.length : Int))) == false) && ((decide (0 < y.1)) == true)) Y Y Y Y fun h => v_sub (ow Y h) (ow Y h) Y)<|Dq 32 Y (.guarded2 (((decide (y.1 = (x.certain.length : Int))) == false) && ((decide (0 < y.1)) == true)) Y Y Y Y fun h => v_leq (ow Y h)<|ow Y h)<|Dq 33 Y (.guarded ((decide (y.1 = (x.certain.length : Int))) == false) Y Y Y Y fun h => v_and (ow Y h) fun hp=>ow Y<|gA h<|gT hp)<|Dq 34 Y (v_or (ov Y) fun hp=>ow Y<|gF hp)<|Dd<|K2 5 50 Y<|If h Y (fun h=>?_) fun h=>?_
 ·
  refine K1 5 Y<|Tr<|Rm Y<|R2 vsub Y<|Ra Y<|R_nil<|?_
  obtain rfl := rt h
  exact T_ret (retq Y (.one<|rb Y))
 ·
  refine T_skip<|K1 5 Y<|Tr<|Rm Y<|Ra Y<|R_nil<|?_
  obtain rfl := rt h
  exact T_ret (retq Y (.one<|rb Y))
theorem ok_salvage_size {n : Int} {r : Int} (h : salvage_size n = some r) :
 CSpec Tryz.prog gl0 156 [.int .i64 n] (.int .i64 r) := by
 unfold salvage_size at h
 replace h := bnd0 h
 refine So Tryz.func156 Y fun w0 A=>Tr<|Ra Y<|R_nil<|Tr<|Rm Y<|Rm Y<|Rq Y (v_neg (ov Y) Y)<|Rq Y (v_max (ov Y) (ov Y) Y)<|Ra Y<|R_nil<|?_
 obtain rfl := rt h
 exact T_ret (retq Y (.one<|rb Y))
theorem ok_salvage_finder_places {x : salvage_finder} {i : Int} {r : (List Int)} (h : salvage_finder_places x i = some r) :
 CSpec Tryz.prog gl0 107 [.rp [.sl 5 (List.map R5 x.h_), .sl 158 (List.map R158 x.certain), .sl 3 (List.map R3 x.numbers), .any] 0, .int .i64 i] (.sl 3 (List.map R3 r)) := by
 unfold salvage_finder_places at h
 replace h := bnd0 h
 refine So Tryz.func107 Y fun w0 A=>Tr<|Ra Y<|R_nil<|K2 0 1 Y<|Tr<|Ra Y<|R_nil<|Tr<|Rm Y<|R1 v_nilCheckR Y<|Rq Y (v_fieldR (ov Y) tF156_1)<|Rq Y (v_loadS_r (ov Y) tS153 Y)<|Rm Y<|bE h fun x2 h_x2 h=>Rq Y (v_ixSG (ov Y) (ov Y) tL153 h_x2)<|Rq Y (v_fieldR (ov Y) tF158_0)<|Rq Y (v_loadS_r (ov Y) tS3<|at_get at2)<|Ra Y<|R_nil<|I1 (fun out=>⟨[(5, .own 0 out.length)], [some ⟨3, List.map R3 out⟩]⟩) h (fun h=>?_) fun out h=>?_
 ·
  refine K4 0 1 5 6 Y<|Tr<|R_q (.sl 3<|List.map R3 ([(-194), 194] : List Int)) Y (v_lit tL28 (.cons (cvs (ov Y)<|cell1_b Y) Y (.cons (.b Y) .nil)<|.cons (cvs (ov Y)<|cell1_b Y) Y (.cons (.b Y) .nil) .nil) Y Y)<|Rl tZ_3 tL28 Y<|Rm Y<|R_nil<|T_block<|?_
  obtain ⟨r1, hl1, ho1⟩ := bndL h
  refine L2 (fun out2 i2=>⟨[(0, .rp [.sl 5 (List.map R5 x.h_), .sl 158 (List.map R158 x.certain), .sl 3 (List.map R3 x.numbers), .any] 0), (1, .int .i64 i), (5, .own 0 out2.length), (6, .int .i64 x2.At), (19, .sl 3 (List.map R3 ([(-194), 194] : List Int))), (20, .int .i64 (([(-194), 194] : List Int).length : Int)), (21, .int .i64 i2)], [some ⟨3, List.map R3 out2⟩]⟩) hl1 (ES [none]) fun n1 out2 i2 h=>?_
  unfold salvage_finder_places_L1 at h
  refine Tr<|R2 v_lss Y<|R_nil<|T_seq<|If h Y (fun h=>?_) fun h=>?_
  ·
   refine T_skip<|I1 (fun out3=>⟨[(0, .rp [.sl 5 (List.map R5 x.h_), .sl 158 (List.map R158 x.certain), .sl 3 (List.map R3 x.numbers), .any] 0), (1, .int .i64 i), (5, .own 0 out3.length), (6, .int .i64 x2.At), (19, .sl 3 (List.map R3 ([(-194), 194] : List Int))), (20, .int .i64 (([(-194), 194] : List Int).length : Int)), (21, .int .i64 i2)], [some ⟨3, List.map R3 out3⟩]⟩) h (fun h=>?_) fun out3 h=>?_
   ·
    refine T_block<|K7 0 1 5 6 19 20 21 Y<|Tr<|bE h fun x3 h_x3 h=>Rq Y (v_ixSG (ov Y) (ov Y) tL28 h_x3)<|Rq Y (v_loadS_r (ov Y) tS3 Y)<|Ra Y<|R_nil<|K8 0 1 5 6 8 19 20 21 Y<|Tr<|Rm Y<|Rm Y<|R2 vadd Y<|Ra Y<|R_nil<|T_block<|?_
    obtain ⟨r2, hl2, ho2⟩ := bndL h
    refine L2 (fun out4 p=>⟨[(0, .rp [.sl 5 (List.map R5 x.h_), .sl 158 (List.map R158 x.certain), .sl 3 (List.map R3 x.numbers), .any] 0), (1, .int .i64 i), (5, .own 0 out4.length), (6, .int .i64 x2.At), (8, .int .i64 x3), (9, .int .i64 p), (19, .sl 3 (List.map R3 ([(-194), 194] : List Int))), (20, .int .i64 (([(-194), 194] : List Int).length : Int)), (21, .int .i64 i2)], [some ⟨3, List.map R3 out4⟩]⟩) hl2 (ES [some 0]) fun n2 out4 p h=>?_
    unfold salvage_finder_places_L2 at h
    refine T_seq<|Tr<|Rm Y<|R2 v_gtr Y<|Rm Y<|Rq Y (.guarded ((decide ((-192) < p)) == true) Y Y Y Y fun h => v_move<|ov Y)<|Rq Y (.guarded ((decide ((-192) < p)) == true) Y Y Y Y fun h => v_move<|ov Y)<|Rq Y (.guarded ((decide ((-192) < p)) == true) Y Y Y Y fun h => v_nilCheckR<|ow Y h)<|Rq Y (.guarded ((decide ((-192) < p)) == true) Y Y Y Y fun h => v_fieldR (ow Y h) tF156_0)<|Rq Y (.guarded ((decide ((-192) < p)) == true) Y Y Y Y fun h => v_loadS_r (ow Y h) tS66 Y)<|Rq Y (.guarded ((decide ((-192) < p)) == true) Y Y Y Y fun h => v_len (slv_sl (ow Y h) tZ_5) tL66<|len_map _ _)<|Rq Y (.guarded ((decide ((-192) < p)) == true) Y Y Y Y fun h => v_lss (ow Y h)<|ow Y h)<|Rq Y (v_and (ov Y) fun hp=>ow Y<|gT hp)<|R_nil<|K10 0 1 5 6 8 9 19 20 21 38 Y<|If h Y (fun h=>?_) fun h=>?_
    ·
     refine T_skip<|J1 (fun j => (.inr j)) (fun out5=>⟨[(0, .rp [.sl 5 (List.map R5 x.h_), .sl 158 (List.map R158 x.certain), .sl 3 (List.map R3 x.numbers), .any] 0), (1, .int .i64 i), (5, .own 0 out5.length), (6, .int .i64 x2.At), (8, .int .i64 x3), (9, .int .i64 p), (19, .sl 3 (List.map R3 ([(-194), 194] : List Int))), (20, .int .i64 (([(-194), 194] : List Int).length : Int)), (21, .int .i64 i2)], [some ⟨3, List.map R3 out5⟩]⟩) h (fun h=>?_) fun out5 h=>?_
     ·
      refine T_block<|K9 0 1 5 6 8 9 19 20 21 Y<|Tr<|Rm Y<|Rm Y<|bE h fun y h_y h=>Rq Y (v_call (ok_salvage_finder_nearest h_y)<|.cons (ov Y) (.b Y)<|.cons (ov Y) (.b Y) .nil)<|Ra Y<|R_nil<|T_seq<|K10 0 1 5 6 8 9 10 19 20 21 Y<|Tr<|Rm Y<|Rm Y<|R2 v_neq Y<|R_nil<|K11 0 1 5 6 8 9 10 19 20 21 47 Y<|If h Y (fun h=>?_) fun h=>?_
      ·
       refine T_exit<|?_
       replace h := lx h ▸ ho2
       exact ⟨_, h, ES [some 0]⟩
      ·
       refine T_skip<|K10 0 1 5 6 8 9 10 19 20 21 Y<|Tr<|Rm Y<|R1 v_nilCheckR Y<|Rq Y (v_fieldR (ov Y) tF156_1)<|Rq Y (v_loadS_r (ov Y) tS153 Y)<|Rm Y<|bE h fun x4 h_x4 h=>Rq Y (v_ixSG (ov Y) (ov Y) tL153 h_x4)<|Rq Y (v_fieldR (ov Y) tF158_0)<|Rq Y (v_loadS_r (ov Y) tS3<|at_get at2)<|Rm Y<|R2 vsub Y<|bE h fun y2 h_y2 h=>Rq Y (v_call (ok_salvage_size h_y2)<|.cons (ov Y) (.b Y) .nil)<|R2 v_geq Y<|R_nil<|K10 0 1 5 6 8 9 19 20 21 59 Y<|If h Y (fun h=>?_) fun h=>?_
       ·
        exact K9 0 1 5 6 8 9 19 20 21 Y<|T_reg<|Rm Y<|Rm Y<|R_q (.sl 3<|List.map R3 ([p] : List Int)) Y (v_lit tL28 (.cons (cvs (ov Y)<|cell1_b Y) Y (.cons (.b Y) .nil) .nil) Y Y)<|bE h fun l h_l h=>Rx Y (w_appendG (ov Y) (slv_sl (ov Y) tZ_3) tL28 Y Y Y (fun _=>cell1_all Y) Y h_l)<|Ra Y<|R_nil<|⟨_, h, ES [some 0]⟩
       ·
        exact T_skip<|⟨_, h, ES [some 0]⟩
     ·
      replace h := elr h
      replace h := t1i h
      exact T_reg<|Rm Y<|Rm Y<|R2 vadd Y<|Ra Y<|R_nil<|⟨_, h, ES [some 0]⟩
    ·
     refine T_exit<|?_
     replace h := lx h ▸ ho2
     exact ⟨_, h, ES [some 0]⟩
   ·
    exact T_reg<|R2 vadd Y<|Rm Y<|R_nil<|⟨_, h, ES [some 0]⟩
  ·
   refine T_exit<|?_
   replace h := lx h ▸ ho1
   exact ⟨_, h, ES [some 0]⟩
 ·
  refine Tr<|Rm Y<|Ra Y<|R_nil<|?_
  obtain rfl := rt h
  exact T_ret (retq Y (.one<|.tmp Y<|View.ownM Y Y D3))
theorem ok_salvage_partly {h_ : List Int} {at_ : Int} {r : (Vector Int 64) × (Vector Bool 64)} (h : salvage_partly h_ at_ = some r) :
 CSpec Tryz.prog gl0 157 [.sl 5 (List.map R5 h_), .int .i64 at_] (.tuple [.agg (List.map C47 r.1.toList), .agg (List.map C4 r.2.toList)]) := by
 unfold salvage_partly at h
 replace h := bnd0 h
 refine So Tryz.func157 Y fun w0 A=>Tr<|Rx Y (w_alloc (row := (List.map C47 (Vector.replicate 64 0).toList)) 0 Y tZ49 Y tZ_49)<|Rx Y (w_alloc (row := (List.map C4 (Vector.replicate 64 false).toList)) 1 Y tZ171 Y tZ_171)<|R_nil<|I2 (fun f whole=>⟨[(4, .ptr 0 1 0 0), (5, .ptr 1 1 0 0)], [some ⟨49, [(List.map C47 f.toList)]⟩, some ⟨171, [(List.map C4 whole.toList)]⟩]⟩) h (fun h=>?_) fun f whole h=>?_
 ·
  refine Tr<|Rm Y<|R_nil<|T_block<|?_
  obtain ⟨r1, hl1, ho1⟩ := bndL h
  refine L3 (fun f2 whole2 i=>⟨[(0, .sl 5 (List.map R5 h_)), (1, .int .i64 at_), (4, .ptr 0 1 0 0), (5, .ptr 1 1 0 0), (8, .int .i64 i)], [some ⟨49, [(List.map C47 f2.toList)]⟩, some ⟨171, [(List.map C4 whole2.toList)]⟩]⟩) hl1 (ES [some 0, some 1]) fun n1 f2 whole2 i h=>?_
  unfold salvage_partly_L1 at h
  refine Tr<|R2 v_lss Y<|R_nil<|T_seq<|If h Y (fun h=>?_) fun h=>?_
  ·
   refine T_skip<|T_seq<|T_block<|K5 0 1 4 5 8 Y<|Tr<|Rm Y<|Ra Y<|R_nil<|K6 0 1 4 5 6 8 Y<|Tr<|Rm Y<|Rm Y<|R2 vmul Y<|R2 vadd Y<|Ra Y<|R_nil<|K7 0 1 4 5 6 7 8 Y<|Tr<|Rm Y<|R2 v_geq Y<|Rm Y<|Rq Y (.guarded ((decide (0 ≤ (i64 (at_ + (i64 (3 * i)))))) == true) Y Y Y Y fun h => v_move<|ov Y)<|Rq Y (.guarded ((decide (0 ≤ (i64 (at_ + (i64 (3 * i)))))) == true) Y Y Y Y fun h => v_add (ow Y h) (ov Y) Y)<|Rq Y (.guarded ((decide (0 ≤ (i64 (at_ + (i64 (3 * i)))))) == true) Y Y Y Y fun h => v_move<|ov Y)<|Rq Y (.guarded ((decide (0 ≤ (i64 (at_ + (i64 (3 * i)))))) == true) Y Y Y Y fun h => v_len (slv_sl (ow Y h) tZ_5) tL66<|len_map _ _)<|Rq Y (.guarded ((decide (0 ≤ (i64 (at_ + (i64 (3 * i)))))) == true) Y Y Y Y fun h => v_leq (ow Y h)<|ow Y h)<|Rq Y (v_and (ov Y) fun hp=>ow Y<|gT hp)<|R_nil<|K8 0 1 4 5 6 7 8 23 Y<|If h Y (fun h=>?_) fun h=>?_
   ·
    exact K7 0 1 4 5 6 7 8 Y<|T_reg<|Rm Y<|Rm Y<|Rm Y<|Rm Y<|Rm Y<|R2 vadd Y<|bE h fun l h_l h=>Rq Y (v_sliceG (ov Y) tL66 (oi<|ov Y) (oi<|ov Y) h_l)<|bE h fun y h_y h=>Rq Y (v_call (ok_salvage_wordAt h_y)<|.cons (ov Y) (.b Y) .nil)<|bE h fun x h_x h=>Rq Y (v_ixAG (ov Y) (ov Y) tR49 Y Y h_x)<|Rx Y (w_store (ov Y) (ov Y) (cells_scal tS47) Y Y Y (arB h_x) (cell1_all Y)<|arS h_x)<|bE h fun x2 h_x2 h=>Rq Y (v_ixAG (ov Y) (ov Y) tR171 Y Y h_x2)<|Rx Y (w_store (ov Y) (ov Y) (cells_scal tS4) Y Y Y (arB h_x2) (cell1_all Y)<|arS h_x2)<|R_nil<|K5 0 1 4 5 8 Y<|T_reg<|R2 vadd Y<|Rm Y<|R_nil<|⟨_, h, ES [some 0, some 1]⟩
   ·
    exact T_skip<|K5 0 1 4 5 8 Y<|T_reg<|R2 vadd Y<|Rm Y<|R_nil<|⟨_, h, ES [some 0, some 1]⟩
  ·
   refine T_exit<|?_
   replace h := lx h ▸ ho1
   exact ⟨_, h, ES [some 0, some 1]⟩
 ·
  refine Td md0<|Dq 0 Y (v_loadA (ov Y) Y Y Y tA49 (at_sub<|at_all arL) arL (hns := (nsM fun _ => Y)))<|Dw 1 2 Y (v_loadA (ov Y) Y Y Y tA171 (at_sub<|at_all arL) arL (hns := (nsM fun _ => Y))) (w_store (ov Y) (ov Y) (cells_agg tA49 arL) Y Y Y (put_le (at_all arL) arL) (cell1_all<|arC fun _ => Y)<|put_all<|Eq.trans arL<|Eq.symm arL) ?_ ?_
  ·
   refine Do 2 Y (w_store (ov Y) (ov Y) (cells_agg tA49 arL) Y Y Y (put_le (at_all arL) arL) (cell1_all<|arC fun _ => Y)<|put_all<|Eq.trans arL<|Eq.symm arL)<|Do 3 Y (w_store (ov Y) (ov Y) (cells_agg tA171 arL) Y Y Y (put_le (at_all arL) arL) (cell1_all<|arC fun _ => Y)<|put_all<|Eq.trans arL<|Eq.symm arL)<|Dd<|?_
   obtain rfl := rt h
   exact T_ret (retq Y (.two (.agg Y Y Y Y tA49 (at_sub<|at_all arL) arL (pwB<|arD fun _ => Y) (hns := (nsM fun _ => Y)))<|.agg Y Y Y Y tA171 (at_sub<|at_all arL) arL (pwB<|arD fun _ => Y) (hns := (nsM fun _ => Y))))
  ·
   refine Dq 1 Y (v_loadA (ov Y) Y Y Y tA171 (at_sub<|at_all arL) arL (hns := (nsM fun _ => Y)))<|Do 3 Y (w_store (ov Y) (ov Y) (cells_agg tA171 arL) Y Y Y (put_le (at_all arL) arL) (cell1_all<|arC fun _ => Y)<|put_all<|Eq.trans arL<|Eq.symm arL)<|Dd<|?_
   obtain rfl := rt h
   exact T_ret (retq Y (.two (.agg Y Y Y Y tA49 (at_sub<|at_all arL) arL (pwB<|arD fun _ => Y) (hns := (nsM fun _ => Y)))<|.agg Y Y Y Y tA171 (at_sub<|at_all arL) arL (pwB<|arD fun _ => Y) (hns := (nsM fun _ => Y))))
theorem ok_salvage_own {f : Vector Int 64} {whole : Vector Bool 64} {r : Int × Bool} (h : salvage_own f whole = some r) :
 CSpec Tryz.prog gl0 198 [.agg (List.map C47 f.toList), .agg (List.map C4 whole.toList)] (.tuple [.int .i64 r.1, .bool r.2]) := by
 unfold salvage_own at h
 replace h := bnd0 h
 refine So Tryz.func198 Y fun w0 A=>Tr<|Rq Y (v_boxD (cva<|ov Y) arL tZ_49<|arD fun _ => Y)<|Rq Y (v_boxD (cva<|ov Y) arL tZ_171<|arD fun _ => Y)<|Ra Y<|Ra Y<|R_nil<|T_seq<|K2 2 3 Y<|Tr<|bE h fun x h_x h=>Rq Y (v_ixRG (ov Y) (ov Y) tR171 h_x)<|Rq Y (v_loadS_r (ov Y) tS4<|at_get<|at_at (o := 0) (o' := ((Int.toNat 0) * 1)) (at_all arL)<|at_v1 h_x)<|R1 v_not Y<|Rm Y<|bE h fun x2 h_x2 h=>Rq Y (.guarded ((!x) == false) Y Y Y Y fun h => v_ixRG (ov Y) (ov Y) tR171<|gdT h_x2 h)<|Rq Y (.guarded ((!x) == false) Y Y Y Y fun h => v_loadS_r (ow Y h) tS4<|at_get<|at_at (o := 0) (o' := ((Int.toNat 1) * 1)) (at_all arL)<|at_v1<|gdT h_x2 h)<|Rq Y (.guarded ((!x) == false) Y Y Y Y fun h => v_not<|ow Y h)<|Rq Y (v_or (ov Y) fun hp=>ow Y<|gF hp)<|Rm Y<|bE h fun x3 h_x3 h=>Rq Y (.guarded (((!x) || (!x2)) == false) Y Y Y Y fun h => v_ixRG (ov Y) (ov Y) tR171<|gdT h_x3 h)<|Rq Y (.guarded (((!x) || (!x2)) == false) Y Y Y Y fun h => v_loadS_r (ow Y h) tS4<|at_get<|at_at (o := 0) (o' := ((Int.toNat 2) * 1)) (at_all arL)<|at_v1<|gdT h_x3 h)<|Rq Y (.guarded (((!x) || (!x2)) == false) Y Y Y Y fun h => v_not<|ow Y h)<|Rq Y (v_or (ov Y) fun hp=>ow Y<|gF hp)<|R_nil<|K2 2 22 Y<|If h Y (fun h=>?_) fun h=>?_
 ·
  refine K0<|Tr<|Ra Y<|Ra Y<|R_nil<|?_
  obtain rfl := rt h
  exact T_ret (retq Y (.two (rb Y)<|rb Y))
 ·
  refine T_skip<|K1 2 Y<|Tr<|Rq Y (v_loadA_r (ov Y) tA49 (at_sub<|at_all arL) arL)<|bE h fun y h_y h=>Rq Y (v_call (ok_frame_Number h_y)<|.cons (ov Y) (.aggB<|arD fun _ => Y) .nil)<|Rm Y<|Rq Y (v_extract (ov Y) Y)<|Rq Y (v_extract (ov Y) Y)<|Ra Y<|Ra Y<|R_nil<|K3 2 6 7 Y<|Tr<|Rm Y<|bE h fun y2 h_y2 h=>Rq Y (v_call (ok_frame_Sync h_y2)<|.cons (ov Y) (.b Y) .nil)<|Rm Y<|Rq Y (v_extract (ov Y) Y)<|Rq Y (v_extract (ov Y) Y)<|Ra Y<|Ra Y<|R_nil<|K4 2 6 7 8 Y<|Td md0<|D1 0 v_move Y<|D1 1 v_move Y<|D1 2 v_move Y<|bE h fun x4 h_x4 h=>Dq 3 Y (.guarded (y.2 == true) Y Y Y Y fun h => v_ixRG (ov Y) (ov Y) tR49<|gdT h_x4 h)<|Dq 4 Y (.guarded (y.2 == true) Y Y Y Y fun h => v_loadS_r (ow Y h) tS47<|at_get<|at_at (o := 0) (o' := ((Int.toNat 0) * 1)) (at_all arL)<|at_v1<|gdT h_x4 h)<|Dq 5 Y (.guarded (y.2 == true) Y Y Y Y fun h => v_move<|ov Y)<|Dq 6 Y (.guarded (y.2 == true) Y Y Y Y fun h => v_conv (ow Y h) tI3 tI47 Y)<|Dq 7 Y (.guarded (y.2 == true) Y Y Y Y fun h => v_eql (ow Y h)<|ow Y h)<|Dq 8 Y (v_and (ov Y) fun hp=>ow Y<|gT hp)<|D1 9 v_assign Y<|D1 10 v_assign Y<|Dd<|?_
  obtain rfl := rt h
  exact T_ret (retq Y (.two (rb Y)<|rb Y))
theorem ok_salvage_finder_other {x : salvage_finder} {i : Int} {place : Int} {r : Int} (h : salvage_finder_other x i place = some r) :
 CSpec Tryz.prog gl0 199 [.rp [.sl 5 (List.map R5 x.h_), .sl 158 (List.map R158 x.certain), .sl 3 (List.map R3 x.numbers), .any] 0, .int .i64 i, .int .i64 place] (.int .i64 r) := by
 unfold salvage_finder_other at h
 replace h := bnd0 h
 refine So Tryz.func199 Y fun w0 A=>Tr<|Ra Y<|R_nil<|K3 0 1 2 Y<|Tr<|Ra Y<|Ra Y<|R_nil<|I1 (fun best=>⟨[(7, .int .i64 best)], []⟩) h (fun h=>?_) fun best h=>?_
 ·
  refine Tr<|Rm Y<|R1 v_nilCheckR Y<|Rq Y (v_fieldR (ov Y) tF156_1)<|Rq Y (v_loadS_r (ov Y) tS153 Y)<|Rl tZ_158 tL153 Y<|Rm Y<|R_nil<|T_block<|?_
  obtain ⟨r1, hl1, ho1⟩ := bndL h
  refine L3 (fun best2 least i2=>⟨[(0, .rp [.sl 5 (List.map R5 x.h_), .sl 158 (List.map R158 x.certain), .sl 3 (List.map R3 x.numbers), .any] 0), (1, .int .i64 i), (2, .int .i64 place), (7, .int .i64 best2), (8, .int .i64 least), (15, .sl 158 (List.map R158 x.certain)), (16, .int .i64 (x.certain.length : Int)), (17, .int .i64 i2)], []⟩) hl1 (ES []) fun n1 best2 least i2 h=>?_
  unfold salvage_finder_other_L1 at h
  refine Tr<|R2 v_lss Y<|R_nil<|T_seq<|If h Y (fun h=>?_) fun h=>?_
  ·
   refine T_skip<|T_seq<|T_block<|K8 0 1 2 7 8 15 16 17 Y<|Tr<|Rm Y<|bE h fun x2 h_x2 h=>Rq Y (v_ixSG (ov Y) (ov Y) tL153 h_x2)<|Rq Y (v_loadA_r (ov Y) tA158 (at_sub<|at_all ln0) ln0)<|Rx Y (w_alloc (row := (.int .i64 0) :: ((List.map C47 (Vector.replicate 64 0).toList) ++ ([]))) 0 Y tZ158 (by kernel_rfl)<|by exact Eq.symm (Eq.trans (b := 65) ln0 tZ_158.symm))<|Ra Y<|Rx Y (w_store (ov Y) (ov Y) (cells_agg tA158 ln0) Y Y Y (put_le (at_all ln0) ln0) (cell1_all al6)<|put_all<|Eq.trans ln0<|Eq.symm ln0)<|R_nil<|T_seq<|K10 0 1 2 7 8 9 10 15 16 17 Y<|Td md0<|D1 0 v_move Y<|D1 1 v_move Y<|D2 2 v_eql Y<|D1 3 v_move Y<|Dq 4 Y (.guarded ((decide (i2 = i)) == false) Y Y Y Y fun h => v_fieldP (ov Y) Y Y tF158_0)<|Dq 5 Y (.guarded ((decide (i2 = i)) == false) Y Y Y Y fun h => v_loadS (ow Y h) Y Y Y tS3<|at_get at2)<|Dq 6 Y (.guarded ((decide (i2 = i)) == false) Y Y Y Y fun h => v_move<|ov Y)<|Dq 7 Y (.guarded ((decide (i2 = i)) == false) Y Y Y Y fun h => v_nilCheckR<|ow Y h)<|Dq 8 Y (.guarded ((decide (i2 = i)) == false) Y Y Y Y fun h => v_fieldR (ow Y h) tF156_1)<|Dq 9 Y (.guarded ((decide (i2 = i)) == false) Y Y Y Y fun h => v_loadS_r (ow Y h) tS153 Y)<|Dq 10 Y (.guarded ((decide (i2 = i)) == false) Y Y Y Y fun h => v_move<|ov Y)<|bE h fun x3 h_x3 h=>Dq 11 Y (.guarded ((decide (i2 = i)) == false) Y Y Y Y fun h => v_ixSG (ow Y h) (ow Y h) tL153<|gdT h_x3 h)<|Dq 12 Y (.guarded ((decide (i2 = i)) == false) Y Y Y Y fun h => v_fieldR (ow Y h) tF158_0)<|Dq 13 Y (.guarded ((decide (i2 = i)) == false) Y Y Y Y fun h => v_loadS_r (ow Y h) tS3<|at_get at2)<|Dq 14 Y (.guarded ((decide (i2 = i)) == false) Y Y Y Y fun h => v_sub (ow Y h) (ow Y h) Y)<|bE h fun q h_q h=>Dq 15 Y (.guarded ((decide (i2 = i)) == false) Y Y Y Y fun h => v_remG (ow Y h) (ov Y)<|gdT h_q h)<|Dq 16 Y (.guarded ((decide (i2 = i)) == false) Y Y Y Y fun h => v_neq (ow Y h)<|ov Y)<|Dq 17 Y (v_or (ov Y) fun hp=>ow Y<|gF hp)<|Dd<|K11 0 1 2 7 8 9 10 15 16 17 39 Y<|If h Y (fun h=>?_) fun h=>?_
   ·
    exact T_exit<|K8 0 1 2 7 8 15 16 17 Y<|T_reg<|R2 vadd Y<|Rm Y<|R_nil<|⟨_, h, ES []⟩
   ·
    refine T_skip<|K10 0 1 2 7 8 9 10 15 16 17 Y<|Tr<|Rq Y (v_fieldP (ov Y) Y Y tF158_0)<|Rq Y (v_loadS (ov Y) Y Y Y tS3<|at_get at2)<|Rm Y<|R2 vsub Y<|bE h fun y h_y h=>Rq Y (v_call (ok_salvage_size h_y)<|.cons (ov Y) (.b Y) .nil)<|Ra Y<|R_nil<|K10 0 1 2 7 8 9 11 15 16 17 Y<|Tr<|Rm Y<|R2 v_lss Y<|Rm Y<|Rq Y (.guarded ((decide (best2 < 0)) == false) Y Y Y Y fun h => v_move<|ov Y)<|Rq Y (.guarded ((decide (best2 < 0)) == false) Y Y Y Y fun h => v_move<|ov Y)<|Rq Y (.guarded ((decide (best2 < 0)) == false) Y Y Y Y fun h => v_lss (ow Y h)<|ow Y h)<|Rq Y (v_or (ov Y) fun hp=>ow Y<|gF hp)<|R_nil<|K11 0 1 2 7 8 9 11 15 16 17 51 Y<|If h Y (fun h=>?_) fun h=>?_
    ·
     exact K10 0 1 2 7 8 9 11 15 16 17 Y<|T_reg<|Rm Y<|Rm Y<|Ra Y<|Ra Y<|R_nil<|K8 0 1 2 7 8 15 16 17 Y<|T_reg<|R2 vadd Y<|Rm Y<|R_nil<|⟨_, h, ES []⟩
    ·
     exact T_skip<|K8 0 1 2 7 8 15 16 17 Y<|T_reg<|R2 vadd Y<|Rm Y<|R_nil<|⟨_, h, ES []⟩
  ·
   refine T_exit<|?_
   replace h := lx h ▸ ho1
   exact ⟨_, h, ES []⟩
 ·
  refine Tr<|Rm Y<|Ra Y<|R_nil<|?_
  obtain rfl := rt h
  exact T_ret (retq Y (.one<|rb Y))
theorem ok_salvage_within {n : Int} {low : Int} {high : Int} {r : Bool} (h : salvage_within n low high = some r) :
 CSpec Tryz.prog gl0 149 [.int .i64 n, .int .i64 low, .int .i64 high] (.bool r) := by
 unfold salvage_within at h
 replace h := bnd0 h
 refine So Tryz.func149 Y fun w0 A=>Tr<|Ra Y<|R_nil<|Tr<|Rm Y<|Rm Y<|R2 v_geq Y<|Rm Y<|Rq Y (.guarded ((decide (low ≤ n)) == true) Y Y Y Y fun h => v_move<|ov Y)<|Rq Y (.guarded ((decide (low ≤ n)) == true) Y Y Y Y fun h => v_move<|ov Y)<|Rq Y (.guarded ((decide (low ≤ n)) == true) Y Y Y Y fun h => v_leq (ow Y h)<|ow Y h)<|Rq Y (v_and (ov Y) fun hp=>ow Y<|gT hp)<|Ra Y<|R_nil<|?_
 obtain rfl := rt h
 exact T_ret (retq Y (.one<|rb Y))
theorem ok_salvage_finder_number {x : salvage_finder} {i : Int} {place : Int} {f : Vector Int 64} {whole : Vector Bool 64} {r : Int × Bool} (h : salvage_finder_number x i place f whole = some r) :
 CSpec Tryz.prog gl0 158 [.rp [.sl 5 (List.map R5 x.h_), .sl 158 (List.map R158 x.certain), .sl 3 (List.map R3 x.numbers), .any] 0, .int .i64 i, .int .i64 place, .agg (List.map C47 f.toList), .agg (List.map C4 whole.toList)] (.tuple [.int .i64 r.1, .bool r.2]) := by
 unfold salvage_finder_number at h
 replace h := bnd0 h
 refine So Tryz.func158 Y fun w0 A=>Tr<|Rq Y (v_boxD (cva<|ov Y) arL tZ_49<|arD fun _ => Y)<|Rq Y (v_boxD (cva<|ov Y) arL tZ_171<|arD fun _ => Y)<|Ra Y<|Ra Y<|R_nil<|T_seq<|K5 0 1 2 8 9 Y<|Tr<|Rq Y (v_loadA_r (ov Y) tA49 (at_sub<|at_all arL) arL)<|Rq Y (v_loadA_r (ov Y) tA171 (at_sub<|at_all arL) arL)<|bE h fun y h_y h=>Rq Y (v_call (ok_salvage_own h_y)<|.cons (ov Y) (.aggB<|arD fun _ => Y)<|.cons (ov Y) (.aggB<|arD fun _ => Y) .nil)<|Rm Y<|Rq Y (v_extract (ov Y) Y)<|Rq Y (v_extract (ov Y) Y)<|Ra Y<|Ra Y<|R_nil<|K5 0 1 2 12 13 Y<|Tr<|Rm Y<|R_nil<|K5 0 1 2 12 25 Y<|If h Y (fun h=>?_) fun h=>?_
 ·
  refine K1 12 Y<|Tr<|Rm Y<|Ra Y<|Ra Y<|R_nil<|?_
  obtain rfl := rt h
  exact T_ret (retq Y (.two (rb Y)<|rb Y))
 ·
  refine T_skip<|K3 0 1 2 Y<|Tr<|Rm Y<|Rm Y<|Rm Y<|bE h fun y2 h_y2 h=>Rq Y (v_call (ok_salvage_finder_other h_y2)<|.cons (ov Y) (.b Y)<|.cons (ov Y) (.b Y)<|.cons (ov Y) (.b Y) .nil)<|Ra Y<|R_nil<|T_seq<|K4 0 1 2 14 Y<|Tr<|Rm Y<|R2 v_lss Y<|R_nil<|K5 0 1 2 14 32 Y<|If h Y (fun h=>?_) fun h=>?_
  ·
   refine K0<|Tr<|Ra Y<|Ra Y<|R_nil<|?_
   obtain rfl := rt h
   exact T_ret (retq Y (.two (rb Y)<|rb Y))
  ·
   refine T_skip<|K4 0 1 2 14 Y<|Td md0<|D1 0 v_move Y<|D1 1 v_move Y<|D1 2 v_nilCheckR Y<|Dq 3 Y (v_fieldR (ov Y) tF156_1)<|Dq 4 Y (v_loadS_r (ov Y) tS153 Y)<|D1 5 v_move Y<|bE h fun x2 h_x2 h=>Dq 6 Y (v_ixSG (ov Y) (ov Y) tL153 h_x2)<|Dq 7 Y (v_fieldR (ov Y) tF158_0)<|Dq 8 Y (v_loadS_r (ov Y) tS3<|at_get at2)<|D2 9 vsub Y<|bE h fun q h_q h=>Dq 10 Y (v_quoG (ov Y) (ov Y) h_q)<|D1 11 v_move Y<|D1 12 v_nilCheckR Y<|Dq 13 Y (v_fieldR (ov Y) tF156_1)<|Dq 14 Y (v_loadS_r (ov Y) tS153 Y)<|D1 15 v_move Y<|bE h fun x3 h_x3 h=>Dq 16 Y (v_ixSG (ov Y) (ov Y) tL153 h_x3)<|Dq 17 Y (v_fieldR (ov Y) tF158_0)<|Dq 18 Y (v_loadS_r (ov Y) tS3<|at_get at2)<|D1 19 v_move Y<|D1 20 v_nilCheckR Y<|Dq 21 Y (v_fieldR (ov Y) tF156_1)<|Dq 22 Y (v_loadS_r (ov Y) tS153 Y)<|D1 23 v_move Y<|bE h fun x4 h_x4 h=>Dq 24 Y (v_ixSG (ov Y) (ov Y) tL153 h_x4)<|Dq 25 Y (v_fieldR (ov Y) tF158_0)<|Dq 26 Y (v_loadS_r (ov Y) tS3<|at_get at2)<|D2 27 vsub Y<|bE h fun q2 h_q2 h=>Dq 28 Y (v_quoG (ov Y) (ov Y) h_q2)<|D1 29 v_assign Y<|D1 30 v_assign Y<|Dd<|K5 0 1 14 15 16 Y<|Td md0<|D1 0 v_move Y<|D1 1 v_nilCheckR Y<|Dq 2 Y (v_fieldR (ov Y) tF156_2)<|Dq 3 Y (v_loadS_r (ov Y) tS28 Y)<|D1 4 v_move Y<|bE h fun x5 h_x5 h=>Dq 5 Y (v_ixSG (ov Y) (ov Y) tL28 h_x5)<|Dq 6 Y (v_loadS_r (ov Y) tS3 Y)<|D1 7 v_move Y<|D1 8 v_nilCheckR Y<|Dq 9 Y (v_fieldR (ov Y) tF156_2)<|Dq 10 Y (v_loadS_r (ov Y) tS28 Y)<|D1 11 v_move Y<|bE h fun x6 h_x6 h=>Dq 12 Y (v_ixSG (ov Y) (ov Y) tL28 h_x6)<|Dq 13 Y (v_loadS_r (ov Y) tS3 Y)<|D2 14 vsub Y<|D1 15 v_assign Y<|Dd<|T_seq<|K5 0 1 15 16 17 Y<|Tr<|Rm Y<|Rm Y<|bE h fun q3 h_q3 h=>Rq Y (v_remG (ov Y) (ov Y) h_q3)<|R2 v_neq Y<|Rm Y<|Rq Y (.guarded ((!decide (q3 = 0)) == false) Y Y Y Y fun h => v_move<|ov Y)<|Rq Y (.guarded ((!decide (q3 = 0)) == false) Y Y Y Y fun h => v_move<|ov Y)<|bE h fun q4 h_q4 h=>Rq Y (.guarded ((!decide (q3 = 0)) == false) Y Y Y Y fun h => v_quoG (ow Y h) (ow Y h)<|gdT h_q4 h)<|Rq Y (.guarded ((!decide (q3 = 0)) == false) Y Y Y Y fun h => v_leq (ow Y h)<|ov Y)<|Rq Y (v_or (ov Y) fun hp=>ow Y<|gF hp)<|R_nil<|K6 0 1 15 16 17 86 Y<|If h Y (fun h=>?_) fun h=>?_
   ·
    refine K0<|Tr<|Ra Y<|Ra Y<|R_nil<|?_
    obtain rfl := rt h
    exact T_ret (retq Y (.two (rb Y)<|rb Y))
   ·
    refine T_skip<|K5 0 1 15 16 17 Y<|Td md0<|D1 0 v_move Y<|D1 1 v_nilCheckR Y<|Dq 2 Y (v_fieldR (ov Y) tF156_2)<|Dq 3 Y (v_loadS_r (ov Y) tS28 Y)<|D1 4 v_move Y<|bE h fun x7 h_x7 h=>Dq 5 Y (v_ixSG (ov Y) (ov Y) tL28 h_x7)<|Dq 6 Y (v_loadS_r (ov Y) tS3 Y)<|D1 7 v_move Y<|D1 8 v_move Y<|D1 9 v_move Y<|bE h fun q5 h_q5 h=>Dq 10 Y (v_quoG (ov Y) (ov Y) h_q5)<|D2 11 vmul Y<|D2 12 vadd Y<|D1 13 v_assign Y<|Dd<|K1 18 Y<|Tr<|Rm Y<|Rm Y<|bE h fun y3 h_y3 h=>Rq Y (v_call (ok_salvage_within h_y3)<|.cons (ov Y) (.b Y)<|.cons (ov Y) (.b Y)<|.cons (ov Y) (.b Y) .nil)<|Ra Y<|Ra Y<|R_nil<|?_
    obtain rfl := rt h
    exact T_ret (retq Y (.two (rb Y)<|rb Y))
theorem ok_frame_Odd {w : Int} {r : Bool} (h : frame_Odd w = some r) :
 CSpec Tryz.prog gl0 201 [.int .u16 w] (.bool r) := by
 unfold frame_Odd at h
 replace h := bnd0 h
 refine So Tryz.func201 Y fun w0 A=>Tr<|Ra Y<|R_nil<|Tr<|Rm Y<|bE h fun y h_y h=>Rq Y (v_call (ok_frame_odd h_y)<|.cons (ov Y) (.b Y) .nil)<|Ra Y<|R_nil<|?_
 obtain rfl := rt h
 exact T_ret (retq Y (.one<|rb Y))
theorem ok_salvage_rightAlone {w : Int} {i : Int} {number : Int} {r : Bool} (h : salvage_rightAlone w i number = some r) :
 CSpec Tryz.prog gl0 159 [.int .u16 w, .int .i64 i, .int .i64 number] (.bool r) := by
 unfold salvage_rightAlone at h
 replace h := bnd0 h
 refine So Tryz.func159 Y fun w0 A=>Tr<|Ra Y<|R_nil<|K3 0 1 2 Y<|Tr<|Rm Y<|R2 v_and_ Y<|Rq Y (v_conv (ov Y) tI47 tI3 Y)<|Ra Y<|R_nil<|T_seq<|K4 0 1 2 7 Y<|Tr<|Rm Y<|R_nil<|T_block<|K4 0 2 7 13 Y<|Tr<|R2 v_eql Y<|Ra Y<|R_nil<|K5 0 2 7 13 14 Y<|If h Y (fun h=>?_) fun h=>?_
 ·
  refine K2 0 2 Y<|Tr<|Rm Y<|bE h fun y h_y h=>Rq Y (v_call (ok_frame_Sync h_y)<|.cons (ov Y) (.b Y) .nil)<|Rm Y<|Rq Y (v_extract (ov Y) Y)<|Rq Y (v_extract (ov Y) Y)<|Ra Y<|Ra Y<|R_nil<|K2 0 8 Y<|Tr<|Rm Y<|Rm Y<|Rq Y (v_conv (ov Y) tI3 tI47 Y)<|R2 v_eql Y<|Ra Y<|R_nil<|?_
  obtain rfl := rt h
  exact T_ret (retq Y (.one<|rb Y))
 ·
  refine K4 0 2 7 13 Y<|Tr<|R2 v_eql Y<|Ra Y<|R_nil<|K5 0 2 7 13 25 Y<|If h Y (fun h=>?_) fun h=>?_
  ·
   refine K3 0 2 7 Y<|Tr<|Rm Y<|bE h fun y2 h_y2 h=>Rq Y (v_call (ok_frame_Odd h_y2)<|.cons (ov Y) (.b Y) .nil)<|Rm Y<|Rq Y (.guarded (y2 == true) Y Y Y Y fun h => v_move<|ov Y)<|Rq Y (.guarded (y2 == true) Y Y Y Y fun h => v_move<|ov Y)<|Rq Y (.guarded (y2 == true) Y Y Y Y fun h => v_and_ (ow Y h)<|ov Y)<|Rq Y (.guarded (y2 == true) Y Y Y Y fun h => v_eql (ow Y h)<|ow Y h)<|Rq Y (v_and (ov Y) fun hp=>ow Y<|gT hp)<|Ra Y<|R_nil<|?_
   obtain rfl := rt h
   exact T_ret (retq Y (.one<|rb Y))
  ·
   refine K4 0 2 7 13 Y<|Tr<|R2 v_eql Y<|Ra Y<|R_nil<|K4 0 2 7 35 Y<|If h Y (fun h=>?_) fun h=>?_
   ·
    refine K3 0 2 7 Y<|Tr<|Rm Y<|bE h fun y3 h_y3 h=>Rq Y (v_call (ok_frame_Odd h_y3)<|.cons (ov Y) (.b Y) .nil)<|Rm Y<|Rq Y (.guarded (y3 == true) Y Y Y Y fun h => v_move<|ov Y)<|Rq Y (.guarded (y3 == true) Y Y Y Y fun h => v_move<|ov Y)<|bE h fun q h_q h=>Rq Y (.guarded (y3 == true) Y Y Y Y fun h => v_shrG (ow Y h) (ov Y)<|gdT h_q h)<|Rq Y (.guarded (y3 == true) Y Y Y Y fun h => v_eql (ow Y h)<|ow Y h)<|Rq Y (v_and (ov Y) fun hp=>ow Y<|gT hp)<|Ra Y<|R_nil<|?_
    obtain rfl := rt h
    exact T_ret (retq Y (.one<|rb Y))
   ·
    refine T_skip<|K1 0 Y<|Tr<|Rm Y<|bE h fun y4 h_y4 h=>Rq Y (v_call (ok_frame_Odd h_y4)<|.cons (ov Y) (.b Y) .nil)<|Ra Y<|R_nil<|?_
    obtain rfl := rt h
    exact T_ret (retq Y (.one<|rb Y))
theorem ok_slices_IndexFunc_int_int {s : List Int} {f : Int → Option Bool} {r : Int} {f_f : FuncId} {f_c : List AV} (f_d : f_c.all datB = true) (f_h : ∀ (z0 : Int) z, f z0 = some z → CSpec Tryz.prog gl0 f_f ([.int .i64 z0] ++ f_c) (.bool z)) (h : slices_IndexFunc_int_int s f = some r) :
 CSpec Tryz.prog gl0 216 [.sl 3 (List.map R3 s), .fn f_f f_c] (.int .i64 r) := by
 unfold slices_IndexFunc_int_int at h
 replace h := bnd0 h
 refine So Tryz.func216 Y fun w0 A=>Tr<|Ra Y<|R_nil<|J0 (fun j => (.inr j)) ⟨[], []⟩ h (fun h=>?_) fun h=>?_
 ·
  refine K2 0 1 Y<|Tr<|Rm Y<|Rl tZ_3 tL28 Y<|Rm Y<|R_nil<|T_block<|?_
  obtain ⟨r1, hl1, ho1⟩ := bndL h
  refine L1 (fun i=>⟨[(0, .sl 3 (List.map R3 s)), (1, .fn f_f f_c), (7, .int .i64 (s.length : Int)), (8, .int .i64 i)], []⟩) hl1 (ES []<|sd 0 Y Y<|sr 1 Y (rFn<|rld f_d)<|sd 7 Y Y<|sd 8 Y Y sn) fun n1 i h=>?_
  unfold slices_IndexFunc_int_int_L1 at h
  refine Tr<|R2 v_lss Y<|R_nil<|T_seq<|If h Y (fun h=>?_) fun h=>?_
  ·
   refine T_skip<|T_seq<|T_block<|K4 0 1 7 8 Y<|Tr<|Rm Y<|Ra Y<|R_nil<|K5 0 1 5 7 8 Y<|Tr<|Rm Y<|Rm Y<|Rm Y<|bE h fun x h_x h=>Rq Y (v_ixSG (ov Y) (ov Y) tL28 h_x)<|Rq Y (v_loadS_r (ov Y) tS3 Y)<|bE h fun y h_y h=>Rq Y (v_callC (ov Y) f_d (f_h _ _ h_y)<|.cons (ov Y) (.b Y) .nil)<|R_nil<|K6 0 1 5 7 8 16 Y<|If h Y (fun h=>?_) fun h=>?_
   ·
    refine K1 5 Y<|Tr<|Rm Y<|Ra Y<|R_nil<|?_
    replace h := lx h ▸ ho1
    obtain rfl := rt h
    exact T_ret (retq Y (.one<|rb Y))
   ·
    exact T_skip<|K4 0 1 7 8 Y<|T_reg<|R2 vadd Y<|Rm Y<|R_nil<|⟨_, h, ES []<|sd 0 Y Y<|sr 1 Y (rFn<|rld f_d)<|sd 7 Y Y<|sd 8 Y Y sn⟩
  ·
   refine T_exit<|?_
   replace h := lx h ▸ ho1
   exact ⟨_, h, ES []⟩
 ·
  replace h := elr h
  replace h := t0i h
  refine Tr<|Ra Y<|R_nil<|?_
  obtain rfl := rt h
  exact T_ret (retq Y (.one<|rb Y))
theorem ok_slices_ContainsFunc_int_int {s : List Int} {f : Int → Option Bool} {r : Bool} {f_f : FuncId} {f_c : List AV} (f_d : f_c.all datB = true) (f_h : ∀ (z0 : Int) z, f z0 = some z → CSpec Tryz.prog gl0 f_f ([.int .i64 z0] ++ f_c) (.bool z)) (h : slices_ContainsFunc_int_int s f = some r) :
 CSpec Tryz.prog gl0 190 [.sl 3 (List.map R3 s), .fn f_f f_c] (.bool r) := by
 unfold slices_ContainsFunc_int_int at h
 replace h := bnd0 h
 refine So Tryz.func190 Y fun w0 A=>Tr<|Ra Y<|R_nil<|Tr<|Rm Y<|Rm Y<|bE h fun y h_y h=>Rq Y (v_call (ok_slices_IndexFunc_int_int f_d f_h h_y)<|.cons (ov Y) (.b Y)<|.cons (ov Y) (Dat.fnC<|.refl fun x hx => .b<|List.all_eq_true.1 f_d x hx) .nil)<|R2 v_geq Y<|Ra Y<|R_nil<|?_
 obtain rfl := rt h
 exact T_ret (retq Y (.one<|rb Y))
theorem ok_salvage_all_1 {s : Int} {c0 : Int} {r : Bool} (h : salvage_all_1 s c0 = some r) :
 CSpec Tryz.prog gl0 192 [.int .i64 s, .rp [.int .i64 c0] 0] (.bool r) := by
 unfold salvage_all_1 at h
 replace h := bnd0 h
 refine So Tryz.func192 Y fun w0 A=>Tr<|Ra Y<|R_nil<|Tr<|Rm Y<|Rq Y (v_loadS_r (ov Y) tS3 Y)<|R2 v_neq Y<|Ra Y<|R_nil<|?_
 obtain rfl := rt h
 exact T_ret (retq Y (.one<|rb Y))
theorem ok_salvage_all {r_ : api_Rest} {state : Int} {r : Bool} (h : salvage_all r_ state = some r) :
 CSpec Tryz.prog gl0 151 [.agg ((.int .i64 r_.Number) :: ((List.map C47 r_.Frame.toList) ++ (((List.map C3 r_.States.toList) ++ ((.bool r_.Sound) :: (.int .i64 r_.Copies) :: (.bool r_.Conflict) :: []))))), .int .i64 state] (.bool r) := by
 unfold salvage_all at h
 replace h := bnd0 h
 refine So Tryz.func151 Y fun w0 A=>Tr<|Rq Y (v_boxD (cva<|ov Y) ln18 tZ_74 al19)<|Rq Y (v_boxD (cvs (ov Y)<|cell1_b Y) Y tZ_3 Y)<|Ra Y<|R_nil<|K3 2 3 4 Y<|Tr<|Rq Y (v_fieldR (ov Y) tF74_2)<|bE h fun l h_l h=>Rq Y (v_slR (f := C3) (ov Y) tR72 tZ_3 at12 Y on on h_l)<|Rq Y (v_makeFunc<|.cons (ov Y) .nil)<|bE h fun y h_y h=>Rq Y (v_call (ok_slices_ContainsFunc_int_int Y (fun z0 _ hz=>ok_salvage_all_1 hz) h_y)<|.cons (ov Y) (.b Y)<|.cons (ov Y) (.fnC<|.cons (.b Y) .nil) .nil)<|R1 v_not Y<|Ra Y<|R_nil<|?_
 obtain rfl := rt h
 exact T_ret (retq Y (.one<|rb Y))
theorem ok_salvage_finder_beside {x : salvage_finder} {i : Int} {place : Int} {r : api_Rest × Bool} (h : salvage_finder_beside x i place = some r) :
 CSpec Tryz.prog gl0 108 [.rp [.sl 5 (List.map R5 x.h_), .sl 158 (List.map R158 x.certain), .sl 3 (List.map R3 x.numbers), .any] 0, .int .i64 i, .int .i64 place] (.tuple [.agg ((.int .i64 r.1.Number) :: ((List.map C47 r.1.Frame.toList) ++ (((List.map C3 r.1.States.toList) ++ ((.bool r.1.Sound) :: (.int .i64 r.1.Copies) :: (.bool r.1.Conflict) :: []))))), .bool r.2]) := by
 unfold salvage_finder_beside at h
 replace h := bnd0 h
 refine So Tryz.func108 Y fun w0 A=>Tr<|Rx Y (w_alloc (row := (.int .i64 0) :: ((List.map C47 (Vector.replicate 64 0).toList) ++ (((List.map C3 (Vector.replicate 64 0).toList) ++ ((.bool false) :: (.int .i64 0) :: (.bool false) :: []))))) 0 Y tZ74 (by kernel_rfl)<|by exact Eq.symm (Eq.trans (b := 132) ln18 tZ_74.symm))<|Ra Y<|R_nil<|K4 0 1 2 6 Y<|Tr<|Rm Y<|R1 v_nilCheckR Y<|Rq Y (v_fieldR (ov Y) tF156_0)<|Rq Y (v_loadS_r (ov Y) tS66 Y)<|Rm Y<|bE h fun y h_y h=>Rq Y (v_call (ok_salvage_partly h_y)<|.cons (ov Y) (.b Y)<|.cons (ov Y) (.b Y) .nil)<|Rm Y<|Rq Y (v_extract (ov Y) Y)<|Rq Y (v_extract (ov Y) Y)<|Rx Y (w_alloc (row := (List.map C47 (Vector.replicate 64 0).toList)) 1 Y tZ49 Y tZ_49)<|Rx Y (w_alloc (row := (List.map C4 (Vector.replicate 64 false).toList)) 2 Y tZ171 Y tZ_171)<|Rx Y (w_store (ov Y) (ov Y) (cells_agg tA49 arL) Y Y Y (put_le (at_all arL) arL) (cell1_all<|arC fun _ => Y)<|put_all<|Eq.trans arL<|Eq.symm arL)<|Rx Y (w_store (ov Y) (ov Y) (cells_agg tA171 arL) Y Y Y (put_le (at_all arL) arL) (cell1_all<|arC fun _ => Y)<|put_all<|Eq.trans arL<|Eq.symm arL)<|R_nil<|K6 0 1 2 6 8 9 Y<|Tr<|Rm Y<|Rm Y<|Rm Y<|Rq Y (v_loadA (ov Y) Y Y Y tA49 (at_sub<|at_all arL) arL (hns := (nsM fun _ => Y)))<|Rq Y (v_loadA (ov Y) Y Y Y tA171 (at_sub<|at_all arL) arL (hns := (nsM fun _ => Y)))<|bE h fun y2 h_y2 h=>Rq Y (v_call (ok_salvage_finder_number h_y2)<|.cons (ov Y) (.b Y)<|.cons (ov Y) (.b Y)<|.cons (ov Y) (.b Y)<|.cons (ov Y) (.aggB<|arD fun _ => Y)<|.cons (ov Y) (.aggB<|arD fun _ => Y) .nil)<|Rm Y<|Rq Y (v_extract (ov Y) Y)<|Rq Y (v_extract (ov Y) Y)<|Ra Y<|Ra Y<|R_nil<|T_seq<|K5 6 8 9 10 11 Y<|Tr<|Rm Y<|R1 v_not Y<|R_nil<|K5 6 8 9 10 34 Y<|If h Y (fun h=>?_) fun h=>?_
 ·
  refine K1 6 Y<|Tr<|Rq Y (v_buildX (zr := (.int .i64 0) :: ((List.map C47 (Vector.replicate 64 0).toList) ++ (((List.map C3 (Vector.replicate 64 0).toList) ++ ((.bool false) :: (.int .i64 0) :: (.bool false) :: []))))) tPL74 tHA74 tZ74 (by kernel_rfl) .nil fa_nil)<|Rx Y (w_store (ov Y) (ov Y) (cells_agg tA74 ln18) Y Y Y (put_le (at_all ln18) ln18) (cell1_all al20)<|put_all<|Eq.trans ln18<|Eq.symm ln18)<|Ra Y<|R_nil<|?_
  obtain rfl := rt h
  exact T_ret (retq Y (.two (.agg Y Y Y Y tA74 (at_sub<|at_all ln18) ln18 (pwB al19) (hns := ns21))<|rb Y))
 ·
  refine T_skip<|K4 6 8 9 10 Y<|Tr<|Rm Y<|Rq Y (v_buildX (zr := (.int .i64 0) :: ((List.map C47 (Vector.replicate 64 0).toList) ++ (((List.map C3 (Vector.replicate 64 0).toList) ++ ((.bool false) :: (.int .i64 0) :: (.bool false) :: []))))) tPL74 tHA74 tZ74 (by kernel_rfl) (.cons (cvs (ov Y)<|cell1_b Y) .nil)<|fa_cons Y Y at8 pt9 fa_nil)<|Rx Y (w_alloc (row := (.int .i64 0) :: ((List.map C47 (Vector.replicate 64 0).toList) ++ (((List.map C3 (Vector.replicate 64 0).toList) ++ ((.bool false) :: (.int .i64 0) :: (.bool false) :: []))))) 3 Y tZ74 (by kernel_rfl)<|by exact Eq.symm (Eq.trans (b := 132) ln18 tZ_74.symm))<|Rx Y (w_store (ov Y) (ov Y) (cells_agg tA74 ln18) Y Y Y (put_le (at_all ln18) ln18) (cell1_all al20)<|put_all<|Eq.trans ln18<|Eq.symm ln18)<|R_nil<|I1 (fun r_=>⟨[(6, .ptr 0 1 0 0), (12, .ptr 1 1 0 0)], [some ⟨74, [(.int .i64 0) :: ((List.map C47 (Vector.replicate 64 0).toList) ++ (((List.map C3 (Vector.replicate 64 0).toList) ++ ((.bool false) :: (.int .i64 0) :: (.bool false) :: []))))]⟩, some ⟨74, [(.int .i64 r_.Number) :: ((List.map C47 r_.Frame.toList) ++ (((List.map C3 r_.States.toList) ++ ((.bool r_.Sound) :: (.int .i64 r_.Copies) :: (.bool r_.Conflict) :: []))))]⟩]⟩) h (fun h=>?_) fun r_ h=>?_
  ·
   refine K5 6 8 9 10 12 Y<|Tr<|Rq Y (v_loadA (ov Y) Y Y Y tA49 (at_sub<|at_all arL) arL (hns := (nsM fun _ => Y)))<|Rm Y<|R_nil<|T_block<|?_
   obtain ⟨r1, hl1, ho1⟩ := bndL h
   refine L2 (fun r_2 i2=>⟨[(6, .ptr 0 1 0 0), (9, .ptr 1 1 0 0), (10, .int .i64 y2.1), (12, .ptr 2 1 0 0), (38, .agg (List.map C47 y.1.toList)), (39, .int .i64 i2)], [some ⟨74, [(.int .i64 0) :: ((List.map C47 (Vector.replicate 64 0).toList) ++ (((List.map C3 (Vector.replicate 64 0).toList) ++ ((.bool false) :: (.int .i64 0) :: (.bool false) :: []))))]⟩, some ⟨171, [(List.map C4 y.2.toList)]⟩, some ⟨74, [(.int .i64 r_2.Number) :: ((List.map C47 r_2.Frame.toList) ++ (((List.map C3 r_2.States.toList) ++ ((.bool r_2.Sound) :: (.int .i64 r_2.Copies) :: (.bool r_2.Conflict) :: []))))]⟩]⟩) hl1 (ES [some 0, some 2, some 3]) fun n1 r_2 i2 h=>?_
   unfold salvage_finder_beside_L1 at h
   refine Tr<|R2 v_lss Y<|R_nil<|T_seq<|If h Y (fun h=>?_) fun h=>?_
   ·
    refine T_skip<|T_seq<|T_block<|K6 6 9 10 12 38 39 Y<|Tr<|Rm Y<|bE h fun x2 h_x2 h=>Rq Y (v_indexVG (ov Y) (ov Y) tR49 tS47 h_x2)<|Ra Y<|Ra Y<|R_nil<|K8 6 9 10 12 13 14 38 39 Y<|Tr<|Rm Y<|bE h fun x3 h_x3 h=>Rq Y (v_ixAG (ov Y) (ov Y) tR171 Y Y h_x3)<|Rq Y (v_loadS (ov Y) Y Y Y tS4<|at_get<|at_at (o := 0) (o' := (i2.toNat * 1)) (at_all arL)<|at_v1 h_x3)<|Rm Y<|Rq Y (.guarded (x3 == true) Y Y Y Y fun h => v_move<|ov Y)<|Rq Y (.guarded (x3 == true) Y Y Y Y fun h => v_move<|ov Y)<|Rq Y (.guarded (x3 == true) Y Y Y Y fun h => v_move<|ov Y)<|bE h fun y3 h_y3 h=>Rq Y (.guarded (x3 == true) Y Y Y Y fun h => v_call (ok_salvage_rightAlone<|gdT h_y3 h)<|.cons (ow Y h) (.b Y)<|.cons (ow Y h) (.b Y)<|.cons (ow Y h) (.b Y) .nil)<|Rq Y (v_and (ov Y) fun hp=>ow Y<|gT hp)<|R_nil<|K9 6 9 10 12 13 14 38 39 51 Y<|If h Y (fun h=>?_) fun h=>?_
    ·
     exact K8 6 9 10 12 13 14 38 39 Y<|T_reg<|Rm Y<|Rm Y<|Rm Y<|Rq Y (v_fieldP (ov Y) Y Y tF74_1)<|bE h fun x4 h_x4 h=>Rq Y (v_ixAG (ov Y) (ov Y) tR49 Y Y h_x4)<|Rx Y (w_store (ov Y) (ov Y) (cells_scal tS47) Y Y Y (put_le (at_at (o := 1) (o' := (i2.toNat * 1)) at10<|at_v1 h_x4) Y) (cell1_all Y)<|put_put (o := 1) (o' := (i2.toNat * 1)) at10 (at_v1 h_x4) Y (put_v1 h_x4 (x := x2)) pt11)<|Rq Y (v_fieldP (ov Y) Y Y tF74_2)<|bE h fun x5 h_x5 h=>Rq Y (v_ixAG (ov Y) (ov Y) tR72 Y Y h_x5)<|Rx Y (w_store (ov Y) (ov Y) (cells_scal tS3) Y Y Y (put_le (at_at (o := 65) (o' := (i2.toNat * 1)) at12<|at_v1 h_x5) Y) (cell1_all Y)<|put_put (o := 65) (o' := (i2.toNat * 1)) at12 (at_v1 h_x5) Y (put_v1 h_x5 (x := 1)) pt13)<|R_nil<|K6 6 9 10 12 38 39 Y<|T_reg<|R2 vadd Y<|Rm Y<|R_nil<|⟨_, h, ES [some 0, some 1, some 2]⟩
    ·
     exact T_skip<|K6 6 9 10 12 38 39 Y<|T_reg<|R2 vadd Y<|Rm Y<|R_nil<|⟨_, h, ES [some 0, some 1, some 2]⟩
   ·
    refine T_exit<|?_
    replace h := lx h ▸ ho1
    exact ⟨_, h, ES [some 0, some 2]⟩
  ·
   refine Td md0<|Dq 0 Y (v_loadA (ov Y) Y Y Y tA74 (at_sub<|at_all ln18) ln18 (hns := ns21))<|Dq 1 Y (v_loadA (ov Y) Y Y Y tA74 (at_sub<|at_all ln18) ln18 (hns := ns21))<|bE h fun y4 h_y4 h=>Dq 2 Y (v_call (ok_salvage_all h_y4)<|.cons (ov Y) (.aggB al19)<|.cons (ov Y) (.b Y) .nil)<|D_free 3 _ Y (by kernel_rfl) Y Y (fun hp'=>v_not<|ov Y)<|Do 4 Y (w_store (ov Y) (ov Y) (cells_agg tA74 ln18) Y Y Y (put_le (at_all ln18) ln18) (cell1_all al20)<|put_all<|Eq.trans ln18<|Eq.symm ln18)<|D1 5 v_assign Y<|Dd<|?_
   obtain rfl := rt h
   exact T_ret (retq Y (.two (.agg Y Y Y Y tA74 (at_sub<|at_all ln18) ln18 (pwB al19) (hns := ns21))<|rb Y))
theorem ok_sortJL {xs r : List Int} (h : sortJ xs = some r) :
    GSpec Tryz.prog gl0 126 [.own 0 xs.length] [some ⟨3, List.map R3 xs⟩] (.tuple []) [some ⟨3, List.map R3 r⟩] :=
  ok_sortJ (g := R3) (fun _ => rfl) (by kernel_rfl) tZ_3 (fun _ _ _ _ _ h1 h2 h3 => Any.slices_Sort_int Tryz.lays189 _ _ _ _ _ h1 h2 h3) (fun p c w => Any.slices_Sort_int_none Tryz.lays189 p c w) h
theorem ok_slices_IndexFunc_api_Rest_api_Rest {s : List api_Rest} {f : api_Rest → Option Bool} {r : Int} {f_f : FuncId} {f_c : List AV} (f_d : f_c.all datB = true) (f_h : ∀ (z0 : api_Rest) z, f z0 = some z → CSpec Tryz.prog gl0 f_f ([.agg ((.int .i64 z0.Number) :: ((List.map C47 z0.Frame.toList) ++ (((List.map C3 z0.States.toList) ++ ((.bool z0.Sound) :: (.int .i64 z0.Copies) :: (.bool z0.Conflict) :: [])))))] ++ f_c) (.bool z)) (h : slices_IndexFunc_api_Rest_api_Rest s f = some r) :
 CSpec Tryz.prog gl0 214 [.sl 74 (List.map R74 s), .fn f_f f_c] (.int .i64 r) := by
 unfold slices_IndexFunc_api_Rest_api_Rest at h
 replace h := bnd0 h
 refine So Tryz.func214 Y fun w0 A=>Tr<|Ra Y<|R_nil<|J0 (fun j => (.inr j)) ⟨[], []⟩ h (fun h=>?_) fun h=>?_
 ·
  refine K2 0 1 Y<|Tr<|Rm Y<|Rl tZ_74 tL58 Y<|Rm Y<|R_nil<|T_block<|?_
  obtain ⟨r1, hl1, ho1⟩ := bndL h
  refine L1 (fun i=>⟨[(0, .sl 74 (List.map R74 s)), (1, .fn f_f f_c), (7, .int .i64 (s.length : Int)), (8, .int .i64 i)], []⟩) hl1 (ES []<|sd 0 Y Y<|sr 1 Y (rFn<|rld f_d)<|sd 7 Y Y<|sd 8 Y Y sn) fun n1 i h=>?_
  unfold slices_IndexFunc_api_Rest_api_Rest_L1 at h
  refine Tr<|R2 v_lss Y<|R_nil<|T_seq<|If h Y (fun h=>?_) fun h=>?_
  ·
   refine T_skip<|T_seq<|T_block<|K4 0 1 7 8 Y<|Tr<|Rm Y<|Ra Y<|R_nil<|K5 0 1 5 7 8 Y<|Tr<|Rm Y<|Rm Y<|Rm Y<|bE h fun x h_x h=>Rq Y (v_ixSG (ov Y) (ov Y) tL58 h_x)<|Rq Y (v_loadA_r (ov Y) tA74 (at_sub<|at_all ln18) ln18)<|bE h fun y h_y h=>Rq Y (v_callC (ov Y) f_d (f_h _ _ h_y)<|.cons (ov Y) (.aggB al19) .nil)<|R_nil<|K6 0 1 5 7 8 16 Y<|If h Y (fun h=>?_) fun h=>?_
   ·
    refine K1 5 Y<|Tr<|Rm Y<|Ra Y<|R_nil<|?_
    replace h := lx h ▸ ho1
    obtain rfl := rt h
    exact T_ret (retq Y (.one<|rb Y))
   ·
    exact T_skip<|K4 0 1 7 8 Y<|T_reg<|R2 vadd Y<|Rm Y<|R_nil<|⟨_, h, ES []<|sd 0 Y Y<|sr 1 Y (rFn<|rld f_d)<|sd 7 Y Y<|sd 8 Y Y sn⟩
  ·
   refine T_exit<|?_
   replace h := lx h ▸ ho1
   exact ⟨_, h, ES []⟩
 ·
  replace h := elr h
  replace h := t0i h
  refine Tr<|Ra Y<|R_nil<|?_
  obtain rfl := rt h
  exact T_ret (retq Y (.one<|rb Y))
theorem ok_slices_ContainsFunc_api_Rest_api_Rest {s : List api_Rest} {f : api_Rest → Option Bool} {r : Bool} {f_f : FuncId} {f_c : List AV} (f_d : f_c.all datB = true) (f_h : ∀ (z0 : api_Rest) z, f z0 = some z → CSpec Tryz.prog gl0 f_f ([.agg ((.int .i64 z0.Number) :: ((List.map C47 z0.Frame.toList) ++ (((List.map C3 z0.States.toList) ++ ((.bool z0.Sound) :: (.int .i64 z0.Copies) :: (.bool z0.Conflict) :: [])))))] ++ f_c) (.bool z)) (h : slices_ContainsFunc_api_Rest_api_Rest s f = some r) :
 CSpec Tryz.prog gl0 173 [.sl 74 (List.map R74 s), .fn f_f f_c] (.bool r) := by
 unfold slices_ContainsFunc_api_Rest_api_Rest at h
 replace h := bnd0 h
 refine So Tryz.func173 Y fun w0 A=>Tr<|Ra Y<|R_nil<|Tr<|Rm Y<|Rm Y<|bE h fun y h_y h=>Rq Y (v_call (ok_slices_IndexFunc_api_Rest_api_Rest f_d f_h h_y)<|.cons (ov Y) (.b Y)<|.cons (ov Y) (Dat.fnC<|.refl fun x hx => .b<|List.all_eq_true.1 f_d x hx) .nil)<|R2 v_geq Y<|Ra Y<|R_nil<|?_
 obtain rfl := rt h
 exact T_ret (retq Y (.one<|rb Y))
theorem ok_salvage_merge_1 {r_ : api_Rest} {r : Bool} (h : salvage_merge_1 r_ = some r) :
 CSpec Tryz.prog gl0 174 [.agg ((.int .i64 r_.Number) :: ((List.map C47 r_.Frame.toList) ++ (((List.map C3 r_.States.toList) ++ ((.bool r_.Sound) :: (.int .i64 r_.Copies) :: (.bool r_.Conflict) :: [])))))] (.bool r) := by
 unfold salvage_merge_1 at h
 replace h := bnd0 h
 refine So Tryz.func174 Y fun w0 A=>Tr<|Rq Y (v_boxD (cva<|ov Y) ln18 tZ_74 al19)<|Ra Y<|R_nil<|K2 1 2 Y<|Tr<|Rq Y (v_fieldR (ov Y) tF74_5)<|Rq Y (v_loadS_r (ov Y) tS4<|at_get at22)<|Ra Y<|R_nil<|?_
 obtain rfl := rt h
 exact T_ret (retq Y (.one<|rb Y))
theorem ok_salvage_ofSound_w {out : api_Rest} {l : List api_Rest} {r : Bool × api_Rest} (h : salvage_ofSound out l = some r) :
 GSpec Tryz.prog gl0 175 [.ptr 0 1 0 0, .sl 74 (List.map R74 l)] [some ⟨74, [(.int .i64 out.Number) :: ((List.map C47 out.Frame.toList) ++ (((List.map C3 out.States.toList) ++ ((.bool out.Sound) :: (.int .i64 out.Copies) :: (.bool out.Conflict) :: []))))]⟩] (.bool r.1) [some ⟨74, [(.int .i64 r.2.Number) :: ((List.map C47 r.2.Frame.toList) ++ (((List.map C3 r.2.States.toList) ++ ((.bool r.2.Sound) :: (.int .i64 r.2.Copies) :: (.bool r.2.Conflict) :: []))))]⟩] := by
 unfold salvage_ofSound at h
 replace h := bnd0 h
 refine gspec_of (by kernel_rfl) Tryz.func175 Y Y<|?_
 intro w0 A W φ0
 refine Tr<|Ra Y<|R_nil<|J1 (fun j => (.inr j)) (fun o=>⟨[], [some ⟨74, [(.int .i64 o.Number) :: ((List.map C47 o.Frame.toList) ++ (((List.map C3 o.States.toList) ++ ((.bool o.Sound) :: (.int .i64 o.Copies) :: (.bool o.Conflict) :: []))))]⟩]⟩) h (fun h=>?_) fun o h=>?_
 ·
  refine K2 0 1 Y<|Tr<|Rm Y<|Rl tZ_74 tL58 Y<|Rm Y<|R_nil<|T_block<|?_
  obtain ⟨r1, hl1, ho1⟩ := bndL h
  refine L2 (fun o2 i=>⟨[(0, .ptr 0 1 0 0), (9, .sl 74 (List.map R74 l)), (10, .int .i64 (l.length : Int)), (11, .int .i64 i)], [some ⟨74, [(.int .i64 o2.Number) :: ((List.map C47 o2.Frame.toList) ++ (((List.map C3 o2.States.toList) ++ ((.bool o2.Sound) :: (.int .i64 o2.Copies) :: (.bool o2.Conflict) :: []))))]⟩]⟩) hl1 (ES [some 0]) fun n1 o2 i h=>?_
  unfold salvage_ofSound_L1 at h
  refine Tr<|R2 v_lss Y<|R_nil<|T_seq<|If h Y (fun h=>?_) fun h=>?_
  ·
   refine T_skip<|J1 (fun j => (.inr j)) (fun o3=>⟨[(0, .ptr 0 1 0 0), (9, .sl 74 (List.map R74 l)), (10, .int .i64 (l.length : Int)), (11, .int .i64 i)], [some ⟨74, [(.int .i64 o3.Number) :: ((List.map C47 o3.Frame.toList) ++ (((List.map C3 o3.States.toList) ++ ((.bool o3.Sound) :: (.int .i64 o3.Copies) :: (.bool o3.Conflict) :: []))))]⟩]⟩) h (fun h=>?_) fun o3 h=>?_
   ·
    refine T_block<|K4 0 9 10 11 Y<|Tr<|bE h fun x h_x h=>Rq Y (v_ixSG (ov Y) (ov Y) tL58 h_x)<|Rq Y (v_loadA_r (ov Y) tA74 (at_sub<|at_all ln18) ln18)<|Rx Y (w_alloc (row := (.int .i64 0) :: ((List.map C47 (Vector.replicate 64 0).toList) ++ (((List.map C3 (Vector.replicate 64 0).toList) ++ ((.bool false) :: (.int .i64 0) :: (.bool false) :: []))))) 1 Y tZ74 (by kernel_rfl)<|by exact Eq.symm (Eq.trans (b := 132) ln18 tZ_74.symm))<|Rx Y (w_store (ov Y) (ov Y) (cells_agg tA74 ln18) Y Y Y (put_le (at_all ln18) ln18) (cell1_all al20)<|put_all<|Eq.trans ln18<|Eq.symm ln18)<|R_nil<|T_seq<|K5 0 6 9 10 11 Y<|Tr<|Rq Y (v_fieldP (ov Y) Y Y tF74_3)<|Rq Y (v_loadS (ov Y) Y Y Y tS4<|at_get at14)<|R1 v_not Y<|R_nil<|K6 0 6 9 10 11 17 Y<|If h Y (fun h=>?_) fun h=>?_
    ·
     exact T_exit<|⟨_, h, ES [some 0]⟩
    ·
     refine T_skip<|T_seq<|K5 0 6 9 10 11 Y<|Td md0<|D1 0 v_move Y<|Dq 1 Y (v_nilCheckP (ov Y) Y Y)<|Dq 2 Y (v_fieldP (ov Y) Y Y tF74_3)<|Dq 3 Y (v_loadS (ov Y) Y Y Y tS4<|at_get at14)<|D1 4 v_move Y<|Dq 5 Y (.guarded (o2.Sound == true) Y Y Y Y fun h => v_move<|ov Y)<|Dq 6 Y (.guarded (o2.Sound == true) Y Y Y Y fun h => v_nilCheckP (ow Y h) Y Y)<|Dq 7 Y (.guarded (o2.Sound == true) Y Y Y Y fun h => v_fieldP (ow Y h) Y Y tF74_1)<|Dq 8 Y (.guarded (o2.Sound == true) Y Y Y Y fun h => v_loadA (ow Y h) Y Y Y tA49 (at_sub at10) arL (hns := (nsM fun _ => Y)))<|Dq 9 Y (.guarded (o2.Sound == true) Y Y Y Y fun h => v_fieldP (ov Y) Y Y tF74_1)<|Dq 10 Y (.guarded (o2.Sound == true) Y Y Y Y fun h => v_loadA (ow Y h) Y Y Y tA49 (at_sub at10) arL (hns := (nsM fun _ => Y)))<|Dq 11 Y (.guarded (o2.Sound == true) Y Y Y Y fun h => v_neqX tEq49 (ow Y h) (ow Y h) (.aggB<|arD fun _ => Y) (.aggB<|arD fun _ => Y) (fkV fun _ => Y) (fkV fun _ => Y)<|eqV fun _ _ => Y)<|Dq 12 Y (v_and (ov Y) fun hp=>ow Y<|gT hp)<|Dd<|K6 0 6 9 10 11 30 Y<|If h Y (fun h=>?_) fun h=>?_
     ·
      refine K0<|Tr<|Ra Y<|R_nil<|?_
      replace h := lx h ▸ ho1
      obtain rfl := rt h
      exact T_ret<|retg [some 0] Y (.cons (.tmp Y) .nil) (.cons Y (ro1 (by exact Eq.trans (b := 132) ln18 tZ_74.symm)<|rld al19) .nil) Y Y<|.dat Y
     ·
      refine T_skip<|K5 0 6 9 10 11 Y<|Td md0<|D1 0 v_move Y<|Dq 4 Y (v_nilCheckP (ov Y) Y Y)<|Dq 5 Y (v_fieldP (ov Y) Y Y tF74_3)<|D_free 1 _ Y (by kernel_rfl) Y Y (fun hp'=>v_move<|ov Y)<|Dw 2 6 Y (v_fieldP (ov Y) Y Y tF74_1) (w_store (ov Y) (ov Y) (cells_scal tS4) Y Y Y (put_le at14 Y) (cell1_all Y) pt15) ?_ ?_
      ·
       refine Dw 3 6 Y (v_loadA (ov Y) Y Y Y tA49 (at_sub at10) arL (hns := (nsM fun _ => Y))) (w_store (ov Y) (ov Y) (cells_scal tS4) Y Y Y (put_le at14 Y) (cell1_all Y) pt15) ?_ ?_
       ·
        refine Do 6 Y (w_store (ov Y) (ov Y) (cells_scal tS4) Y Y Y (put_le at14 Y) (cell1_all Y) pt15)<|Dq 7 Y (v_nilCheckP (ov Y) Y Y)<|Dq 8 Y (v_fieldP (ov Y) Y Y tF74_1)<|Do 9 Y (w_store (ov Y) (ov Y) (cells_agg tA49 arL) Y Y Y (put_le at10 arL) (cell1_all<|arC fun _ => Y) pt11)<|Dd<|K5 0 6 9 10 11 Y<|Tr<|Rq Y (v_fieldP (ov Y) Y Y tF74_2)<|Rq Y (v_loadA (ov Y) Y Y Y tA72 (at_sub at12) arL (hns := (nsM fun _ => Y)))<|Rm Y<|R_nil<|T_block<|?_
        obtain ⟨r2, hl2, ho2⟩ := bnd h
        refine L2 (fun States i2=>⟨[(0, .ptr 0 1 0 0), (9, .sl 74 (List.map R74 l)), (10, .int .i64 (l.length : Int)), (11, .int .i64 i), (40, .agg (List.map C3 x.States.toList)), (41, .int .i64 i2)], [some ⟨74, [(.int .i64 o2.Number) :: ((List.map C47 x.Frame.toList) ++ (((List.map C3 States.toList) ++ ((.bool true) :: (.int .i64 o2.Copies) :: (.bool o2.Conflict) :: []))))]⟩]⟩) hl2 (ES [some 0]) fun n2 States i2 h=>?_
        unfold salvage_ofSound_L2 at h
        refine Tr<|R2 v_lss Y<|R_nil<|T_seq<|If h Y (fun h=>?_) fun h=>?_
        ·
         exact T_skip<|T_seq<|T_block<|K6 0 9 10 11 40 41 Y<|Tr<|Rm Y<|bE h fun x2 h_x2 h=>Rq Y (v_indexVG (ov Y) (ov Y) tR72 tS3 h_x2)<|Ra Y<|Ra Y<|R_nil<|K8 0 7 8 9 10 11 40 41 Y<|T_draw (cw := md0) (by kernel_rfl)<|D1 0 v_move Y<|D1 1 v_move Y<|D1 2 v_move Y<|D1 3 v_move Y<|Dq 4 Y (v_nilCheckP (ov Y) Y Y)<|Dq 5 Y (v_fieldP (ov Y) Y Y tF74_2)<|bE h fun x3 h_x3 h=>Dq 6 Y (v_ixAG (ov Y) (ov Y) tR72 Y Y h_x3)<|Dq 7 Y (v_loadS (ov Y) Y Y Y tS3<|at_get<|at_at (o := 65) (o' := (i2.toNat * 1)) at12<|at_v1 h_x3)<|D1 8 v_move Y<|Dq 9 Y (v_max (ov Y) (ov Y) Y)<|Dq 10 Y (v_nilCheckP (ov Y) Y Y)<|Dq 11 Y (v_fieldP (ov Y) Y Y tF74_2)<|bE h fun x4 h_x4 h=>Dq 12 Y (v_ixAG (ov Y) (ov Y) tR72 Y Y h_x4)<|Do 13 Y (w_store (ov Y) (ov Y) (cells_scal tS3) Y Y Y (put_le (at_at (o := 65) (o' := (i2.toNat * 1)) at12<|at_v1 h_x4) Y) (cell1_all Y)<|put_put (o := 65) (o' := (i2.toNat * 1)) at12 (at_v1 h_x4) Y (put_v1 h_x4 (x := (max x3 x2))) pt13)<|Dd<|K6 0 9 10 11 40 41 Y<|T_reg<|R2 vadd Y<|Rm Y<|R_nil<|⟨_, h, ES [some 0]⟩
        ·
         refine T_exit<|?_
         replace h := lx h ▸ ho2
         exact ⟨_, h, ES [some 0]⟩
       ·
        refine Dq 3 Y (v_loadA (ov Y) Y Y Y tA49 (at_sub at10) arL (hns := (nsM fun _ => Y)))<|Dq 7 Y (v_nilCheckP (ov Y) Y Y)<|Dq 8 Y (v_fieldP (ov Y) Y Y tF74_1)<|Do 9 Y (w_store (ov Y) (ov Y) (cells_agg tA49 arL) Y Y Y (put_le at10 arL) (cell1_all<|arC fun _ => Y) pt11)<|Dd<|K5 0 6 9 10 11 Y<|Tr<|Rq Y (v_fieldP (ov Y) Y Y tF74_2)<|Rq Y (v_loadA (ov Y) Y Y Y tA72 (at_sub at12) arL (hns := (nsM fun _ => Y)))<|Rm Y<|R_nil<|T_block<|?_
        obtain ⟨r2, hl2, ho2⟩ := bnd h
        refine L2 (fun States i2=>⟨[(0, .ptr 0 1 0 0), (9, .sl 74 (List.map R74 l)), (10, .int .i64 (l.length : Int)), (11, .int .i64 i), (40, .agg (List.map C3 x.States.toList)), (41, .int .i64 i2)], [some ⟨74, [(.int .i64 o2.Number) :: ((List.map C47 x.Frame.toList) ++ (((List.map C3 States.toList) ++ ((.bool true) :: (.int .i64 o2.Copies) :: (.bool o2.Conflict) :: []))))]⟩]⟩) hl2 (ES [some 0]) fun n2 States i2 h=>?_
        unfold salvage_ofSound_L2 at h
        refine Tr<|R2 v_lss Y<|R_nil<|T_seq<|If h Y (fun h=>?_) fun h=>?_
        ·
         exact T_skip<|T_seq<|T_block<|K6 0 9 10 11 40 41 Y<|Tr<|Rm Y<|bE h fun x2 h_x2 h=>Rq Y (v_indexVG (ov Y) (ov Y) tR72 tS3 h_x2)<|Ra Y<|Ra Y<|R_nil<|K8 0 7 8 9 10 11 40 41 Y<|T_draw (cw := md0) (by kernel_rfl)<|D1 0 v_move Y<|D1 1 v_move Y<|D1 2 v_move Y<|D1 3 v_move Y<|Dq 4 Y (v_nilCheckP (ov Y) Y Y)<|Dq 5 Y (v_fieldP (ov Y) Y Y tF74_2)<|bE h fun x3 h_x3 h=>Dq 6 Y (v_ixAG (ov Y) (ov Y) tR72 Y Y h_x3)<|Dq 7 Y (v_loadS (ov Y) Y Y Y tS3<|at_get<|at_at (o := 65) (o' := (i2.toNat * 1)) at12<|at_v1 h_x3)<|D1 8 v_move Y<|Dq 9 Y (v_max (ov Y) (ov Y) Y)<|Dq 10 Y (v_nilCheckP (ov Y) Y Y)<|Dq 11 Y (v_fieldP (ov Y) Y Y tF74_2)<|bE h fun x4 h_x4 h=>Dq 12 Y (v_ixAG (ov Y) (ov Y) tR72 Y Y h_x4)<|Do 13 Y (w_store (ov Y) (ov Y) (cells_scal tS3) Y Y Y (put_le (at_at (o := 65) (o' := (i2.toNat * 1)) at12<|at_v1 h_x4) Y) (cell1_all Y)<|put_put (o := 65) (o' := (i2.toNat * 1)) at12 (at_v1 h_x4) Y (put_v1 h_x4 (x := (max x3 x2))) pt13)<|Dd<|K6 0 9 10 11 40 41 Y<|T_reg<|R2 vadd Y<|Rm Y<|R_nil<|⟨_, h, ES [some 0]⟩
        ·
         refine T_exit<|?_
         replace h := lx h ▸ ho2
         exact ⟨_, h, ES [some 0]⟩
      ·
       refine Dq 2 Y (v_fieldP (ov Y) Y Y tF74_1)<|Dq 3 Y (v_loadA (ov Y) Y Y Y tA49 (at_sub at10) arL (hns := (nsM fun _ => Y)))<|Dq 7 Y (v_nilCheckP (ov Y) Y Y)<|Dq 8 Y (v_fieldP (ov Y) Y Y tF74_1)<|Do 9 Y (w_store (ov Y) (ov Y) (cells_agg tA49 arL) Y Y Y (put_le at10 arL) (cell1_all<|arC fun _ => Y) pt11)<|Dd<|K5 0 6 9 10 11 Y<|Tr<|Rq Y (v_fieldP (ov Y) Y Y tF74_2)<|Rq Y (v_loadA (ov Y) Y Y Y tA72 (at_sub at12) arL (hns := (nsM fun _ => Y)))<|Rm Y<|R_nil<|T_block<|?_
       obtain ⟨r2, hl2, ho2⟩ := bnd h
       refine L2 (fun States i2=>⟨[(0, .ptr 0 1 0 0), (9, .sl 74 (List.map R74 l)), (10, .int .i64 (l.length : Int)), (11, .int .i64 i), (40, .agg (List.map C3 x.States.toList)), (41, .int .i64 i2)], [some ⟨74, [(.int .i64 o2.Number) :: ((List.map C47 x.Frame.toList) ++ (((List.map C3 States.toList) ++ ((.bool true) :: (.int .i64 o2.Copies) :: (.bool o2.Conflict) :: []))))]⟩]⟩) hl2 (ES [some 0]) fun n2 States i2 h=>?_
       unfold salvage_ofSound_L2 at h
       refine Tr<|R2 v_lss Y<|R_nil<|T_seq<|If h Y (fun h=>?_) fun h=>?_
       ·
        exact T_skip<|T_seq<|T_block<|K6 0 9 10 11 40 41 Y<|Tr<|Rm Y<|bE h fun x2 h_x2 h=>Rq Y (v_indexVG (ov Y) (ov Y) tR72 tS3 h_x2)<|Ra Y<|Ra Y<|R_nil<|K8 0 7 8 9 10 11 40 41 Y<|T_draw (cw := md0) (by kernel_rfl)<|D1 0 v_move Y<|D1 1 v_move Y<|D1 2 v_move Y<|D1 3 v_move Y<|Dq 4 Y (v_nilCheckP (ov Y) Y Y)<|Dq 5 Y (v_fieldP (ov Y) Y Y tF74_2)<|bE h fun x3 h_x3 h=>Dq 6 Y (v_ixAG (ov Y) (ov Y) tR72 Y Y h_x3)<|Dq 7 Y (v_loadS (ov Y) Y Y Y tS3<|at_get<|at_at (o := 65) (o' := (i2.toNat * 1)) at12<|at_v1 h_x3)<|D1 8 v_move Y<|Dq 9 Y (v_max (ov Y) (ov Y) Y)<|Dq 10 Y (v_nilCheckP (ov Y) Y Y)<|Dq 11 Y (v_fieldP (ov Y) Y Y tF74_2)<|bE h fun x4 h_x4 h=>Dq 12 Y (v_ixAG (ov Y) (ov Y) tR72 Y Y h_x4)<|Do 13 Y (w_store (ov Y) (ov Y) (cells_scal tS3) Y Y Y (put_le (at_at (o := 65) (o' := (i2.toNat * 1)) at12<|at_v1 h_x4) Y) (cell1_all Y)<|put_put (o := 65) (o' := (i2.toNat * 1)) at12 (at_v1 h_x4) Y (put_v1 h_x4 (x := (max x3 x2))) pt13)<|Dd<|K6 0 9 10 11 40 41 Y<|T_reg<|R2 vadd Y<|Rm Y<|R_nil<|⟨_, h, ES [some 0]⟩
       ·
        refine T_exit<|?_
        replace h := lx h ▸ ho2
        exact ⟨_, h, ES [some 0]⟩
   ·
    replace h := elr h
    replace h := t1i h
    exact T_reg<|R2 vadd Y<|Rm Y<|R_nil<|⟨_, h, ES [some 0]⟩
  ·
   refine T_exit<|?_
   replace h := lx h ▸ ho1
   exact ⟨_, h, ES [some 0]⟩
 ·
  replace h := elr h
  replace h := t1i h
  refine Tr<|Ra Y<|R_nil<|?_
  obtain rfl := rt h
  exact T_ret<|retg [some 0] Y (.cons (.tmp Y) .nil) (.cons Y (ro1 (by exact Eq.trans (b := 132) ln18 tZ_74.symm)<|rld al19) .nil) Y Y<|.dat Y
theorem ok_salvage_ofParts_w {out : api_Rest} {l : List api_Rest} {r : api_Rest} (h : salvage_ofParts out l = some r) :
 GSpec Tryz.prog gl0 176 [.ptr 0 1 0 0, .sl 74 (List.map R74 l)] [some ⟨74, [(.int .i64 out.Number) :: ((List.map C47 out.Frame.toList) ++ (((List.map C3 out.States.toList) ++ ((.bool out.Sound) :: (.int .i64 out.Copies) :: (.bool out.Conflict) :: []))))]⟩] (.tuple []) [some ⟨74, [(.int .i64 r.Number) :: ((List.map C47 r.Frame.toList) ++ (((List.map C3 r.States.toList) ++ ((.bool r.Sound) :: (.int .i64 r.Copies) :: (.bool r.Conflict) :: []))))]⟩] := by
 unfold salvage_ofParts at h
 replace h := bnd0 h
 refine gspec_of (by kernel_rfl) Tryz.func176 Y Y<|?_
 intro w0 A W φ0
 refine Tr<|Rm Y<|R_nil<|T_block<|?_
 obtain ⟨r1, hl1, ho1⟩ := bndL h
 refine L2 (fun o i=>⟨[(0, .ptr 0 1 0 0), (1, .sl 74 (List.map R74 l)), (8, .int .i64 i)], [some ⟨74, [(.int .i64 o.Number) :: ((List.map C47 o.Frame.toList) ++ (((List.map C3 o.States.toList) ++ ((.bool o.Sound) :: (.int .i64 o.Copies) :: (.bool o.Conflict) :: []))))]⟩]⟩) hl1 (ES [some 0]) fun n1 o i h=>?_
 unfold salvage_ofParts_L1 at h
 refine Tr<|R2 v_lss Y<|R_nil<|T_seq<|If h Y (fun h=>?_) fun h=>?_
 ·
  refine T_skip<|I1 (fun o2=>⟨[(0, .ptr 0 1 0 0), (1, .sl 74 (List.map R74 l)), (8, .int .i64 i)], [some ⟨74, [(.int .i64 o2.Number) :: ((List.map C47 o2.Frame.toList) ++ (((List.map C3 o2.States.toList) ++ ((.bool o2.Sound) :: (.int .i64 o2.Copies) :: (.bool o2.Conflict) :: []))))]⟩]⟩) h (fun h=>?_) fun o2 h=>?_
  ·
   refine T_block<|K3 0 1 8 Y<|Tr<|Rm Y<|Ra Y<|R_nil<|K4 0 1 4 8 Y<|Tr<|Ra Y<|R_nil<|I2 (fun o3 differ=>⟨[(0, .ptr 0 1 0 0), (1, .sl 74 (List.map R74 l)), (4, .int .i64 i), (5, .bool differ), (8, .int .i64 i)], [some ⟨74, [(.int .i64 o3.Number) :: ((List.map C47 o3.Frame.toList) ++ (((List.map C3 o3.States.toList) ++ ((.bool o3.Sound) :: (.int .i64 o3.Copies) :: (.bool o3.Conflict) :: []))))]⟩]⟩) h (fun h=>?_) fun o3 differ h=>?_
   ·
    refine Tr<|Rm Y<|Rl tZ_74 tL58 Y<|Rm Y<|R_nil<|T_block<|?_
    obtain ⟨r2, hl2, ho2⟩ := bndL h
    refine L3 (fun o4 differ2 i2=>⟨[(0, .ptr 0 1 0 0), (1, .sl 74 (List.map R74 l)), (4, .int .i64 i), (5, .bool differ2), (8, .int .i64 i), (11, .sl 74 (List.map R74 l)), (12, .int .i64 (l.length : Int)), (13, .int .i64 i2)], [some ⟨74, [(.int .i64 o4.Number) :: ((List.map C47 o4.Frame.toList) ++ (((List.map C3 o4.States.toList) ++ ((.bool o4.Sound) :: (.int .i64 o4.Copies) :: (.bool o4.Conflict) :: []))))]⟩]⟩) hl2 (ES [some 0]) fun n2 o4 differ2 i2 h=>?_
    unfold salvage_ofParts_L2 at h
    refine Tr<|R2 v_lss Y<|R_nil<|T_seq<|If h Y (fun h=>?_) fun h=>?_
    ·
     refine T_skip<|T_seq<|T_block<|K8 0 1 4 5 8 11 12 13 Y<|Tr<|bE h fun x h_x h=>Rq Y (v_ixSG (ov Y) (ov Y) tL58 h_x)<|Rq Y (v_loadA_r (ov Y) tA74 (at_sub<|at_all ln18) ln18)<|Rx Y (w_alloc (row := (.int .i64 0) :: ((List.map C47 (Vector.replicate 64 0).toList) ++ (((List.map C3 (Vector.replicate 64 0).toList) ++ ((.bool false) :: (.int .i64 0) :: (.bool false) :: []))))) 1 Y tZ74 (by kernel_rfl)<|by exact Eq.symm (Eq.trans (b := 132) ln18 tZ_74.symm))<|Rx Y (w_store (ov Y) (ov Y) (cells_agg tA74 ln18) Y Y Y (put_le (at_all ln18) ln18) (cell1_all al20)<|put_all<|Eq.trans ln18<|Eq.symm ln18)<|R_nil<|T_seq<|K9 0 1 4 5 7 8 11 12 13 Y<|Tr<|Rm Y<|Rq Y (v_fieldP (ov Y) Y Y tF74_2)<|bE h fun x2 h_x2 h=>Rq Y (v_ixAG (ov Y) (ov Y) tR72 Y Y h_x2)<|Rq Y (v_loadS (ov Y) Y Y Y tS3<|at_get<|at_at (o := 65) (o' := (i.toNat * 1)) at12<|at_v1 h_x2)<|R2 v_eql Y<|R_nil<|K10 0 1 4 5 7 8 11 12 13 21 Y<|If h Y (fun h=>?_) fun h=>?_
     ·
      exact T_exit<|K8 0 1 4 5 8 11 12 13 Y<|T_reg<|R2 vadd Y<|Rm Y<|R_nil<|⟨_, h, ES [some 0]⟩
     ·
      exact T_skip<|K9 0 1 4 5 7 8 11 12 13 Y<|Td md0<|D1 0 v_move Y<|D1 1 v_move Y<|Dq 2 Y (.guarded (differ2 == false) Y Y Y Y fun h => v_move<|ov Y)<|Dq 3 Y (.guarded (differ2 == false) Y Y Y Y fun h => v_move<|ov Y)<|Dq 4 Y (.guarded (differ2 == false) Y Y Y Y fun h => v_nilCheckP (ow Y h) Y Y)<|Dq 5 Y (.guarded (differ2 == false) Y Y Y Y fun h => v_fieldP (ow Y h) Y Y tF74_2)<|bE h fun x3 h_x3 h=>Dq 6 Y (.guarded (differ2 == false) Y Y Y Y fun h => v_ixAG (ow Y h) (ow Y h) tR72 Y Y<|gdT h_x3 h)<|Dq 7 Y (.guarded (differ2 == false) Y Y Y Y fun h => v_loadS (ow Y h) Y Y Y tS3<|at_get<|at_at (o := 65) (o' := (i.toNat * 1)) at12<|at_v1<|gdT h_x3 h)<|Dq 8 Y (.guarded (differ2 == false) Y Y Y Y fun h => v_neq (ow Y h)<|ov Y)<|Dq 9 Y (.guarded (differ2 == false) Y Y Y Y fun h => v_move<|ow Y h)<|Dq 10 Y (.guarded2 ((differ2 == false) && ((!decide (x3 = 0)) == true)) Y Y Y Y fun h => v_move<|ov Y)<|Dq 11 Y (.guarded2 ((differ2 == false) && ((!decide (x3 = 0)) == true)) Y Y Y Y fun h => v_move<|ov Y)<|Dq 12 Y (.guarded2 ((differ2 == false) && ((!decide (x3 = 0)) == true)) Y Y Y Y fun h => v_nilCheckP (ow Y h) Y Y)<|Dq 13 Y (.guarded2 ((differ2 == false) && ((!decide (x3 = 0)) == true)) Y Y Y Y fun h => v_fieldP (ow Y h) Y Y tF74_1)<|bE h fun x4 h_x4 h=>Dq 14 Y (.guarded2 ((differ2 == false) && ((!decide (x3 = 0)) == true)) Y Y Y Y fun h => v_ixAG (ow Y h) (ow Y h) tR49 Y Y<|gdT h_x4 h)<|Dq 15 Y (.guarded2 ((differ2 == false) && ((!decide (x3 = 0)) == true)) Y Y Y Y fun h => v_loadS (ow Y h) Y Y Y tS47<|at_get<|at_at (o := 1) (o' := (i.toNat * 1)) at10<|at_v1<|gdT h_x4 h)<|Dq 16 Y (.guarded2 ((differ2 == false) && ((!decide (x3 = 0)) == true)) Y Y Y Y fun h => v_move<|ov Y)<|Dq 17 Y (.guarded2 ((differ2 == false) && ((!decide (x3 = 0)) == true)) Y Y Y Y fun h => v_fieldP (ov Y) Y Y tF74_1)<|bE h fun x5 h_x5 h=>Dq 18 Y (.guarded2 ((differ2 == false) && ((!decide (x3 = 0)) == true)) Y Y Y Y fun h => v_ixAG (ow Y h) (ow Y h) tR49 Y Y<|gdT h_x5 h)<|Dq 19 Y (.guarded2 ((differ2 == false) && ((!decide (x3 = 0)) == true)) Y Y Y Y fun h => v_loadS (ow Y h) Y Y Y tS47<|at_get<|at_at (o := 1) (o' := (i.toNat * 1)) at10<|at_v1<|gdT h_x5 h)<|Dq 20 Y (.guarded2 ((differ2 == false) && ((!decide (x3 = 0)) == true)) Y Y Y Y fun h => v_neq (ow Y h)<|ow Y h)<|Dq 21 Y (.guarded (differ2 == false) Y Y Y Y fun h => v_and (ow Y h) fun hp=>ow Y<|gA h<|gT hp)<|Dq 22 Y (v_or (ov Y) fun hp=>ow Y<|gF hp)<|D1 23 v_assign Y<|Dd<|K9 0 1 4 5 7 8 11 12 13 Y<|T_draw (cw := ⟨false, true, [some ⟨74, [(.int .i64 o4.Number) :: ((List.map C47 o4.Frame.toList) ++ (((List.map C3 o4.States.toList) ++ ((.bool o4.Sound) :: (.int .i64 o4.Copies) :: (.bool o4.Conflict) :: []))))]⟩, some ⟨74, [(.int .i64 x.Number) :: ((List.map C47 x.Frame.toList) ++ (((List.map C3 x.States.toList) ++ ((.bool x.Sound) :: (.int .i64 x.Copies) :: (.bool x.Conflict) :: []))))]⟩], [], [0]⟩) (by kernel_rfl)<|D1 0 v_move Y<|D1 1 v_move Y<|Dq 8 Y (v_nilCheckP (ov Y) Y Y)<|Dq 9 Y (v_fieldP (ov Y) Y Y tF74_2)<|bE h fun x6 h_x6 h=>Dq 10 Y (v_ixAG (ov Y) (ov Y) tR72 Y Y h_x6)<|D_free 2 _ Y (by kernel_rfl) Y Y (fun hp'=>v_move<|ov Y)<|D_free 3 _ Y (by kernel_rfl) Y Y (fun hp'=>v_move<|ov Y)<|D_free 4 _ Y (by kernel_rfl) Y Y (fun hp'=>v_move<|ov Y)<|D_read 5 _ Y (by kernel_rfl) Y Y Y (EL.ext<|.wr Y Y Y<|.keep .nil) (fun hp' hx=>v_fieldP (ov Y) (hx.get Y Y) Y tF74_1)<|bE h fun x7 h_x7 h=>D_read 6 _ Y (by kernel_rfl) Y Y Y (EL.ext<|.wr Y Y Y<|.keep .nil) (fun hp' hx=>v_ixAG (ov Y) (ov Y) tR49 (hx.get Y Y) Y h_x7)<|D_read 7 _ Y (by kernel_rfl) Y Y Y (EL.ext<|.wr Y Y Y<|.keep .nil) (fun hp' hx=>v_loadS (ov Y) (hx.get Y Y) Y Y tS47<|at_get<|at_at (o := 1) (o' := (i.toNat * 1)) at10<|at_v1 h_x7)<|D_read 12 _ Y (by kernel_rfl) Y Y Y (EL.ext<|.wr Y Y Y<|.keep .nil) (fun hp' hx=>exW (r := 0) hx Y fun _ ho hn => v_nilCheckP (ov Y) ho hn)<|D_read 13 _ Y (by kernel_rfl) Y Y Y (EL.ext<|.wr Y Y Y<|.keep .nil) (fun hp' hx=>exW (r := 0) hx Y fun _ ho hn => v_fieldP (ov Y) ho hn tF74_1)<|D_one 11 _ _ Y (by kernel_rfl) Y Y (fun h=>by cases h) (fun _=>by exact EL.ext (.wr rfl rfl rfl <| .keep <| .nil)) (w_store (ov Y) (ov Y) (cells_scal tS3) Y Y Y (put_le (at_at (o := 65) (o' := (i.toNat * 1)) at12<|at_v1 h_x6) Y) (cell1_all Y)<|put_put (o := 65) (o' := (i.toNat * 1)) at12 (at_v1 h_x6) Y (put_v1 h_x6 (x := 1)) pt13)<|bE h fun x8 h_x8 h=>Dq 14 Y (v_ixAG (ov Y) (ov Y) tR49 Y Y h_x8)<|D_one 15 _ _ Y (by kernel_rfl) Y Y (fun h=>by cases h) (fun _=>by exact EL.ext (.wr rfl rfl rfl <| .keep <| .nil)) (w_store (ov Y) (ov Y) (cells_scal tS47) Y Y Y (put_le (at_at (o := 1) (o' := (i.toNat * 1)) at10<|at_v1 h_x8) Y) (cell1_all Y)<|put_put (o := 1) (o' := (i.toNat * 1)) at10 (at_v1 h_x8) Y (put_v1 h_x8 (x := x7)) pt11)<|Dd<|K8 0 1 4 5 8 11 12 13 Y<|T_reg<|R2 vadd Y<|Rm Y<|R_nil<|⟨_, h, ES [some 0]⟩
    ·
     refine T_exit<|?_
     replace h := lx h ▸ ho2
     exact ⟨_, h, ES [some 0]⟩
   ·
    refine Tr<|Rm Y<|R_nil<|K5 0 1 4 8 60 Y<|If h Y (fun h=>?_) fun h=>?_
    ·
     refine K4 0 1 4 8 Y<|T_draw (cw := md0) (by kernel_rfl)<|D1 0 v_move Y<|D1 1 v_move Y<|Dq 4 Y (v_nilCheckP (ov Y) Y Y)<|Dq 5 Y (v_fieldP (ov Y) Y Y tF74_2)<|bE h fun x9 h_x9 h=>Dq 6 Y (v_ixAG (ov Y) (ov Y) tR72 Y Y h_x9)<|D_free 2 _ Y (by kernel_rfl) Y Y (fun hp'=>v_move<|ov Y)<|D_free 3 _ Y (by kernel_rfl) Y Y (fun hp'=>v_move<|ov Y)<|Dw 8 7 Y (v_nilCheckP (ov Y) Y Y) (w_store (ov Y) (ov Y) (cells_scal tS3) Y Y Y (put_le (at_at (o := 65) (o' := (i.toNat * 1)) at12<|at_v1 h_x9) Y) (cell1_all Y)<|put_put (o := 65) (o' := (i.toNat * 1)) at12 (at_v1 h_x9) Y (put_v1 h_x9 (x := 0)) pt13) ?_ ?_
     ·
      refine Dw 9 7 Y (v_fieldP (ov Y) Y Y tF74_1) (w_store (ov Y) (ov Y) (cells_scal tS3) Y Y Y (put_le (at_at (o := 65) (o' := (i.toNat * 1)) at12<|at_v1 h_x9) Y) (cell1_all Y)<|put_put (o := 65) (o' := (i.toNat * 1)) at12 (at_v1 h_x9) Y (put_v1 h_x9 (x := 0)) pt13) ?_ ?_
      ·
       exact Do 7 Y (w_store (ov Y) (ov Y) (cells_scal tS3) Y Y Y (put_le (at_at (o := 65) (o' := (i.toNat * 1)) at12<|at_v1 h_x9) Y) (cell1_all Y)<|put_put (o := 65) (o' := (i.toNat * 1)) at12 (at_v1 h_x9) Y (put_v1 h_x9 (x := 0)) pt13)<|bE h fun x10 h_x10 h=>Dq 10 Y (v_ixAG (ov Y) (ov Y) tR49 Y Y h_x10)<|Do 11 Y (w_store (ov Y) (ov Y) (cells_scal tS47) Y Y Y (put_le (at_at (o := 1) (o' := (i.toNat * 1)) at10<|at_v1 h_x10) Y) (cell1_all Y)<|put_put (o := 1) (o' := (i.toNat * 1)) at10 (at_v1 h_x10) Y (put_v1 h_x10 (x := 0)) pt11)<|Dd<|⟨_, h, ES [some 0]⟩
      ·
       exact Dq 9 Y (v_fieldP (ov Y) Y Y tF74_1)<|bE h fun x10 h_x10 h=>Dq 10 Y (v_ixAG (ov Y) (ov Y) tR49 Y Y h_x10)<|Do 11 Y (w_store (ov Y) (ov Y) (cells_scal tS47) Y Y Y (put_le (at_at (o := 1) (o' := (i.toNat * 1)) at10<|at_v1 h_x10) Y) (cell1_all Y)<|put_put (o := 1) (o' := (i.toNat * 1)) at10 (at_v1 h_x10) Y (put_v1 h_x10 (x := 0)) pt11)<|Dd<|⟨_, h, ES [some 0]⟩
     ·
      exact Dq 8 Y (v_nilCheckP (ov Y) Y Y)<|Dq 9 Y (v_fieldP (ov Y) Y Y tF74_1)<|bE h fun x10 h_x10 h=>Dq 10 Y (v_ixAG (ov Y) (ov Y) tR49 Y Y h_x10)<|Do 11 Y (w_store (ov Y) (ov Y) (cells_scal tS47) Y Y Y (put_le (at_at (o := 1) (o' := (i.toNat * 1)) at10<|at_v1 h_x10) Y) (cell1_all Y)<|put_put (o := 1) (o' := (i.toNat * 1)) at10 (at_v1 h_x10) Y (put_v1 h_x10 (x := 0)) pt11)<|Dd<|⟨_, h, ES [some 0]⟩
    ·
     exact T_skip<|⟨_, h, ES [some 0]⟩
  ·
   exact T_reg<|R2 vadd Y<|Rm Y<|R_nil<|⟨_, h, ES [some 0]⟩
 ·
  refine T_exit<|?_
  replace h := lx h ▸ ho1
  obtain rfl := rt h
  exact retgn [some 0] Y .nil (.cons Y (ro1 (by exact Eq.trans (b := 132) ln18 tZ_74.symm)<|rld al19) .nil) Y Y<|rTup rln
theorem ok_salvage_some_1 {s : Int} {c0 : Int} {c1 : Int} {r : Bool} (h : salvage_some_1 s c0 c1 = some r) :
 CSpec Tryz.prog gl0 191 [.int .i64 s, .rp [.int .i64 c0] 0, .rp [.int .i64 c1] 0] (.bool r) := by
 unfold salvage_some_1 at h
 replace h := bnd0 h
 refine So Tryz.func191 Y fun w0 A=>Tr<|Ra Y<|R_nil<|Tr<|Rm Y<|Rq Y (v_loadS_r (ov Y) tS3 Y)<|R2 v_eql Y<|Rm Y<|Rq Y (.guarded ((decide (s = c0)) == false) Y Y Y Y fun h => v_move<|ov Y)<|Rq Y (.guarded ((decide (s = c0)) == false) Y Y Y Y fun h => v_loadS_r (ov Y) tS3 Y)<|Rq Y (.guarded ((decide (s = c0)) == false) Y Y Y Y fun h => v_eql (ow Y h)<|ow Y h)<|Rq Y (v_or (ov Y) fun hp=>ow Y<|gF hp)<|Ra Y<|R_nil<|?_
 obtain rfl := rt h
 exact T_ret (retq Y (.one<|rb Y))
theorem ok_salvage_some {r_ : api_Rest} {a : Int} {b : Int} {r : Bool} (h : salvage_some r_ a b = some r) :
 CSpec Tryz.prog gl0 150 [.agg ((.int .i64 r_.Number) :: ((List.map C47 r_.Frame.toList) ++ (((List.map C3 r_.States.toList) ++ ((.bool r_.Sound) :: (.int .i64 r_.Copies) :: (.bool r_.Conflict) :: []))))), .int .i64 a, .int .i64 b] (.bool r) := by
 unfold salvage_some at h
 replace h := bnd0 h
 refine So Tryz.func150 Y fun w0 A=>Tr<|Rq Y (v_boxD (cva<|ov Y) ln18 tZ_74 al19)<|Rq Y (v_boxD (cvs (ov Y)<|cell1_b Y) Y tZ_3 Y)<|Rq Y (v_boxD (cvs (ov Y)<|cell1_b Y) Y tZ_3 Y)<|Ra Y<|R_nil<|K4 3 4 5 6 Y<|Tr<|Rq Y (v_fieldR (ov Y) tF74_2)<|bE h fun l h_l h=>Rq Y (v_slR (f := C3) (ov Y) tR72 tZ_3 at12 Y on on h_l)<|Rq Y (v_makeFunc<|.cons (ov Y)<|.cons (ov Y) .nil)<|bE h fun y h_y h=>Rq Y (v_call (ok_slices_ContainsFunc_int_int Y (fun z0 _ hz=>ok_salvage_some_1 hz) h_y)<|.cons (ov Y) (.b Y)<|.cons (ov Y) (.fnC<|.cons (.b Y)<|.cons (.b Y) .nil) .nil)<|Ra Y<|R_nil<|?_
 obtain rfl := rt h
 exact T_ret (retq Y (.one<|rb Y))
theorem ok_salvage_soundAs {f : Vector Int 64} {number : Int} {r : Bool} (h : salvage_soundAs f number = some r) :
 CSpec Tryz.prog gl0 129 [.agg (List.map C47 f.toList), .int .i64 number] (.bool r) := by
 unfold salvage_soundAs at h
 replace h := bnd0 h
 refine So Tryz.func129 Y fun w0 A=>Tr<|Rq Y (v_boxD (cva<|ov Y) arL tZ_49<|arD fun _ => Y)<|Ra Y<|R_nil<|K2 1 2 Y<|Tr<|Rq Y (v_loadA_r (ov Y) tA49 (at_sub<|at_all arL) arL)<|bE h fun y h_y h=>Rq Y (v_call (ok_frame_Number h_y)<|.cons (ov Y) (.aggB<|arD fun _ => Y) .nil)<|Rm Y<|Rq Y (v_extract (ov Y) Y)<|Rq Y (v_extract (ov Y) Y)<|Ra Y<|Ra Y<|R_nil<|K3 1 2 5 Y<|Tr<|Rq Y (v_loadA_r (ov Y) tA49 (at_sub<|at_all arL) arL)<|bE h fun y2 h_y2 h=>Rq Y (v_call (ok_frame_Sound h_y2)<|.cons (ov Y) (.aggB<|arD fun _ => Y) .nil)<|Rm Y<|Rq Y (.guarded (y2 == true) Y Y Y Y fun h => v_move<|ov Y)<|Rq Y (.guarded (y2 == true) Y Y Y Y fun h => v_move<|ov Y)<|Rq Y (.guarded (y2 == true) Y Y Y Y fun h => v_eql (ow Y h)<|ow Y h)<|Rq Y (v_and (ov Y) fun hp=>ow Y<|gT hp)<|Ra Y<|R_nil<|?_
 obtain rfl := rt h
 exact T_ret (retq Y (.one<|rb Y))
theorem ok_salvage_merge {l : List api_Rest} {r : api_Rest} (h : salvage_merge l = some r) :
 CSpec Tryz.prog gl0 127 [.sl 74 (List.map R74 l)] (.agg ((.int .i64 r.Number) :: ((List.map C47 r.Frame.toList) ++ (((List.map C3 r.States.toList) ++ ((.bool r.Sound) :: (.int .i64 r.Copies) :: (.bool r.Conflict) :: [])))))) := by
 unfold salvage_merge at h
 replace h := bnd0 h
 refine So Tryz.func127 Y fun w0 A=>Tr<|Rx Y (w_alloc (row := (.int .i64 0) :: ((List.map C47 (Vector.replicate 64 0).toList) ++ (((List.map C3 (Vector.replicate 64 0).toList) ++ ((.bool false) :: (.int .i64 0) :: (.bool false) :: []))))) 0 Y tZ74 (by kernel_rfl)<|by exact Eq.symm (Eq.trans (b := 132) ln18 tZ_74.symm))<|R_nil<|Tr<|Rm Y<|bE h fun x h_x h=>Rq Y (v_ixSG (ov Y) (ov Y) tL58 h_x)<|Rq Y (v_fieldR (ov Y) tF74_0)<|Rq Y (v_loadS_r (ov Y) tS3<|at_get at8)<|Rq Y (v_buildX (zr := (.int .i64 0) :: ((List.map C47 (Vector.replicate 64 0).toList) ++ (((List.map C3 (Vector.replicate 64 0).toList) ++ ((.bool false) :: (.int .i64 0) :: (.bool false) :: []))))) tPL74 tHA74 tZ74 (by kernel_rfl) (.cons (cvs (ov Y)<|cell1_b Y) .nil)<|fa_cons Y Y at8 pt9 fa_nil)<|Rx Y (w_alloc (row := (.int .i64 0) :: ((List.map C47 (Vector.replicate 64 0).toList) ++ (((List.map C3 (Vector.replicate 64 0).toList) ++ ((.bool false) :: (.int .i64 0) :: (.bool false) :: []))))) 1 Y tZ74 (by kernel_rfl)<|by exact Eq.symm (Eq.trans (b := 132) ln18 tZ_74.symm))<|Rx Y (w_store (ov Y) (ov Y) (cells_agg tA74 ln18) Y Y Y (put_le (at_all ln18) ln18) (cell1_all al20)<|put_all<|Eq.trans ln18<|Eq.symm ln18)<|R_nil<|I1 (fun Copies=>⟨[(0, .sl 74 (List.map R74 l)), (2, .ptr 0 1 0 0), (3, .ptr 1 1 0 0)], [some ⟨74, [(.int .i64 0) :: ((List.map C47 (Vector.replicate 64 0).toList) ++ (((List.map C3 (Vector.replicate 64 0).toList) ++ ((.bool false) :: (.int .i64 0) :: (.bool false) :: []))))]⟩, some ⟨74, [(.int .i64 x.Number) :: ((List.map C47 (Vector.replicate 64 0).toList) ++ (((List.map C3 (Vector.replicate 64 0).toList) ++ ((.bool false) :: (.int .i64 Copies) :: (.bool false) :: []))))]⟩]⟩) h (fun h=>?_) fun Copies h=>?_
 ·
  refine K3 0 2 3 Y<|Tr<|Rm Y<|Rl tZ_74 tL58 Y<|Rm Y<|R_nil<|T_block<|?_
  obtain ⟨r1, hl1, ho1⟩ := bndL h
  refine L2 (fun Copies2 i=>⟨[(0, .sl 74 (List.map R74 l)), (2, .ptr 0 1 0 0), (3, .ptr 1 1 0 0), (13, .sl 74 (List.map R74 l)), (14, .int .i64 (l.length : Int)), (15, .int .i64 i)], [some ⟨74, [(.int .i64 0) :: ((List.map C47 (Vector.replicate 64 0).toList) ++ (((List.map C3 (Vector.replicate 64 0).toList) ++ ((.bool false) :: (.int .i64 0) :: (.bool false) :: []))))]⟩, some ⟨74, [(.int .i64 x.Number) :: ((List.map C47 (Vector.replicate 64 0).toList) ++ (((List.map C3 (Vector.replicate 64 0).toList) ++ ((.bool false) :: (.int .i64 Copies2) :: (.bool false) :: []))))]⟩]⟩) hl1 (ES [some 0, some 1]) fun n1 Copies2 i h=>?_
  unfold salvage_merge_L1 at h
  refine Tr<|R2 v_lss Y<|R_nil<|T_seq<|If h Y (fun h=>?_) fun h=>?_
  ·
   exact T_skip<|T_seq<|T_block<|K6 0 2 3 13 14 15 Y<|Tr<|bE h fun x2 h_x2 h=>Rq Y (v_ixSG (ov Y) (ov Y) tL58 h_x2)<|Rq Y (v_loadA_r (ov Y) tA74 (at_sub<|at_all ln18) ln18)<|Rx Y (w_alloc (row := (.int .i64 0) :: ((List.map C47 (Vector.replicate 64 0).toList) ++ (((List.map C3 (Vector.replicate 64 0).toList) ++ ((.bool false) :: (.int .i64 0) :: (.bool false) :: []))))) 2 Y tZ74 (by kernel_rfl)<|by exact Eq.symm (Eq.trans (b := 132) ln18 tZ_74.symm))<|Rx Y (w_store (ov Y) (ov Y) (cells_agg tA74 ln18) Y Y Y (put_le (at_all ln18) ln18) (cell1_all al20)<|put_all<|Eq.trans ln18<|Eq.symm ln18)<|R_nil<|K7 0 2 3 5 13 14 15 Y<|T_reg<|Rq Y (v_fieldP (ov Y) Y Y tF74_4)<|Rq Y (v_loadS (ov Y) Y Y Y tS3<|at_get at16)<|Rq Y (v_fieldP (ov Y) Y Y tF74_4)<|Rq Y (v_loadS (ov Y) Y Y Y tS3<|at_get at16)<|R2 vadd Y<|Rq Y (v_fieldP (ov Y) Y Y tF74_4)<|Rx Y (w_store (ov Y) (ov Y) (cells_scal tS3) Y Y Y (put_le at16 Y) (cell1_all Y) pt17)<|R_nil<|K6 0 2 3 13 14 15 Y<|T_reg<|R2 vadd Y<|Rm Y<|R_nil<|⟨_, h, ES [some 0, some 1]⟩
  ·
   refine T_exit<|?_
   replace h := lx h ▸ ho1
   exact ⟨_, h, ES [some 0, some 1]⟩
 ·
  refine Tr<|Rm Y<|bE h fun y h_y h=>Rq Y (v_call (ok_slices_ContainsFunc_api_Rest_api_Rest Y (fun z0 _ hz=>ok_salvage_merge_1 hz) h_y)<|.cons (ov Y) (.b Y)<|.cons (ov Y) .fn .nil)<|Ra Y<|R_nil<|T_seq<|K4 0 2 3 6 Y<|Tr<|Rm Y<|bE h fun y2 h_y2 h=>Rx Y (w_callG [1] (ok_salvage_ofSound_w h_y2) (.cons (ov Y) (.ptr _ _ _ Y)<|.cons (ov Y) (.dat Y) .nil) (.cons Y (ro1 (by exact Eq.trans (b := 132) ln18 tZ_74.symm)<|rld al19) .nil) Y (.keep Y Y<|.lent 0 (.inl Y) Y (ro1 (by exact Eq.trans (b := 132) ln18 tZ_74.symm)<|rld al19) .nil) Y Y<|.dat Y)<|Ra Y<|R_nil<|K5 0 2 3 6 7 Y<|Tr<|Rm Y<|Rm Y<|Rq Y (.guarded (y == false) Y Y Y Y fun h => v_move<|ov Y)<|Rq Y (.guarded (y == false) Y Y Y Y fun h => v_not<|ow Y h)<|Rq Y (v_or (ov Y) fun hp=>ow Y<|gF hp)<|R_nil<|K4 0 2 3 34 Y<|If h Y (fun h=>?_) fun h=>?_
  ·
   refine K2 2 3 Y<|Tr<|Rq Y (v_fieldP (ov Y) Y Y tF74_0)<|Rq Y (v_loadS (ov Y) Y Y Y tS3<|at_get at8)<|Rq Y (v_fieldP (ov Y) Y Y tF74_4)<|Rq Y (v_loadS (ov Y) Y Y Y tS3<|at_get at16)<|Rq Y (v_buildX (zr := (.int .i64 0) :: ((List.map C47 (Vector.replicate 64 0).toList) ++ (((List.map C3 (Vector.replicate 64 0).toList) ++ ((.bool false) :: (.int .i64 0) :: (.bool false) :: []))))) tPL74 tHA74 tZ74 (by kernel_rfl) (.cons (cvs (ov Y)<|cell1_b Y)<|.cons (cvs (ov Y)<|cell1_b Y)<|.cons (cvs (ov Y)<|cell1_b Y) .nil)<|fa_cons Y Y at8 pt9<|fa_cons Y Y at16 pt17<|fa_cons Y Y at22 pt23 fa_nil)<|Rx Y (w_store (ov Y) (ov Y) (cells_agg tA74 ln18) Y Y Y (put_le (at_all ln18) ln18) (cell1_all al20)<|put_all<|Eq.trans ln18<|Eq.symm ln18)<|R_nil<|?_
   obtain rfl := rt h
   exact T_ret (retq Y (.one<|.agg Y Y Y Y tA74 (at_sub<|at_all ln18) ln18 (pwB al19) (hns := ns21)))
  ·
   refine T_skip<|I1 (fun out=>⟨[(2, .ptr 0 1 0 0), (3, .ptr 1 1 0 0)], [some ⟨74, [(.int .i64 0) :: ((List.map C47 (Vector.replicate 64 0).toList) ++ (((List.map C3 (Vector.replicate 64 0).toList) ++ ((.bool false) :: (.int .i64 0) :: (.bool false) :: []))))]⟩, some ⟨74, [(.int .i64 out.Number) :: ((List.map C47 out.Frame.toList) ++ (((List.map C3 out.States.toList) ++ ((.bool out.Sound) :: (.int .i64 out.Copies) :: (.bool out.Conflict) :: []))))]⟩]⟩) h (fun h=>?_) fun out h=>?_
   ·
    refine K3 0 2 3 Y<|Tr<|Rq Y (v_fieldP (ov Y) Y Y tF74_3)<|Rq Y (v_loadS (ov Y) Y Y Y tS4<|at_get at14)<|R1 v_not Y<|R_nil<|K4 0 2 3 42 Y<|If h Y (fun h=>?_) fun h=>?_
    ·
     refine K3 0 2 3 Y<|Tr<|Rm Y<|bE h fun y3 h_y3 h=>Rx Y (w_callG [1] (ok_salvage_ofParts_w h_y3) (.cons (ov Y) (.ptr _ _ _ Y)<|.cons (ov Y) (.dat Y) .nil) (.cons Y (ro1 (by exact Eq.trans (b := 132) ln18 tZ_74.symm)<|rld al19) .nil) Y (.keep Y Y<|.lent 0 (.inl Y) Y (ro1 (by exact Eq.trans (b := 132) ln18 tZ_74.symm)<|rld al19) .nil) Y Y<|rTup<|rld Y)<|R_nil<|K2 2 3 Y<|Tr<|Rq Y (v_loadA (ov Y) Y Y Y tA74 (at_sub<|at_all ln18) ln18 (hns := ns21))<|bE h fun y4 h_y4 h=>Rq Y (v_call (ok_salvage_some h_y4)<|.cons (ov Y) (.aggB al19)<|.cons (ov Y) (.b Y)<|.cons (ov Y) (.b Y) .nil)<|R1 v_not Y<|Rm Y<|Rq Y (.guarded ((!y4) == true) Y Y Y Y fun h => v_fieldP (ov Y) Y Y tF74_1)<|Rq Y (.guarded ((!y4) == true) Y Y Y Y fun h => v_loadA (ow Y h) Y Y Y tA49 (at_sub at10) arL (hns := (nsM fun _ => Y)))<|Rq Y (.guarded ((!y4) == true) Y Y Y Y fun h => v_fieldP (ov Y) Y Y tF74_0)<|Rq Y (.guarded ((!y4) == true) Y Y Y Y fun h => v_loadS (ow Y h) Y Y Y tS3<|at_get at8)<|bE h fun y5 h_y5 h=>Rq Y (.guarded ((!y4) == true) Y Y Y Y fun h => v_call (ok_salvage_soundAs<|gdT h_y5 h)<|.cons (ow Y h) (.aggB<|arD fun _ => Y)<|.cons (ow Y h) (.b Y) .nil)<|Rq Y (v_and (ov Y) fun hp=>ow Y<|gT hp)<|R_nil<|K3 2 3 54 Y<|If h Y (fun h=>?_) fun h=>?_
     ·
      exact K2 2 3 Y<|T_reg<|bE h fun y6 h_y6 h=>Rq Y (v_call (ok_salvage_filled h_y6)<|.cons (ov Y) (.b Y) .nil)<|Rq Y (v_fieldP (ov Y) Y Y tF74_3)<|Rx Y (w_store (ov Y) (ov Y) (cells_scal tS4) Y Y Y (put_le at14 Y) (cell1_all Y) pt15)<|Rq Y (v_fieldP (ov Y) Y Y tF74_2)<|Rx Y (w_store (ov Y) (ov Y) (cells_agg tA72 arL) Y Y Y (put_le at12 arL) (cell1_all<|arC fun _ => Y) pt13)<|Rq Y (v_fieldP (ov Y) Y Y tF74_4)<|Rx Y (w_store (ov Y) (ov Y) (cells_scal tS3) Y Y Y (put_le at16 Y) (cell1_all Y) pt17)<|R_nil<|⟨_, h, ES [some 0, some 1]⟩
     ·
      exact T_skip<|⟨_, h, ES [some 0, some 1]⟩
    ·
     exact T_skip<|⟨_, h, ES [some 0, some 1]⟩
   ·
    refine T_seq<|Tr<|Rq Y (v_fieldP (ov Y) Y Y tF74_3)<|Rq Y (v_loadS (ov Y) Y Y Y tS4<|at_get at14)<|Rm Y<|Rq Y (.guarded (out.Sound == true) Y Y Y Y fun h => v_loadA (ov Y) Y Y Y tA74 (at_sub<|at_all ln18) ln18 (hns := ns21))<|bE h fun y7 h_y7 h=>Rq Y (.guarded (out.Sound == true) Y Y Y Y fun h => v_call (ok_salvage_all<|gdT h_y7 h)<|.cons (ow Y h) (.aggB al19)<|.cons (ov Y) (.b Y) .nil)<|Rq Y (v_and (ov Y) fun hp=>ow Y<|gT hp)<|R_nil<|K3 2 3 64 Y<|If h Y (fun h=>?_) fun h=>?_
    ·
     refine K2 2 3 Y<|T_reg<|Rq Y (v_fieldP (ov Y) Y Y tF74_4)<|Rq Y (v_loadS (ov Y) Y Y Y tS3<|at_get at16)<|Rq Y (v_max (ov Y) (ov Y) Y)<|Rq Y (v_fieldP (ov Y) Y Y tF74_4)<|Rx Y (w_store (ov Y) (ov Y) (cells_scal tS3) Y Y Y (put_le at16 Y) (cell1_all Y) pt17)<|R_nil<|K2 2 3 Y<|Tr<|Rq Y (v_loadA (ov Y) Y Y Y tA74 (at_sub<|at_all ln18) ln18 (hns := ns21))<|Rx Y (w_store (ov Y) (ov Y) (cells_agg tA74 ln18) Y Y Y (put_le (at_all ln18) ln18) (cell1_all al20)<|put_all<|Eq.trans ln18<|Eq.symm ln18)<|R_nil<|?_
     obtain rfl := rt h
     exact T_ret (retq Y (.one<|.agg Y Y Y Y tA74 (at_sub<|at_all ln18) ln18 (pwB al19) (hns := ns21)))
    ·
     refine T_skip<|K2 2 3 Y<|Tr<|Rq Y (v_loadA (ov Y) Y Y Y tA74 (at_sub<|at_all ln18) ln18 (hns := ns21))<|Rx Y (w_store (ov Y) (ov Y) (cells_agg tA74 ln18) Y Y Y (put_le (at_all ln18) ln18) (cell1_all al20)<|put_all<|Eq.trans ln18<|Eq.symm ln18)<|R_nil<|?_
     obtain rfl := rt h
     exact T_ret (retq Y (.one<|.agg Y Y Y Y tA74 (at_sub<|at_all ln18) ln18 (pwB al19) (hns := ns21)))
theorem ok_salvage_grouped {l : List api_Rest} {r : (List api_Rest)} (h : salvage_grouped l = some r) :
 CSpec Tryz.prog gl0 65 [.sl 74 (List.map R74 l)] (.sl 74 (List.map R74 r)) := by
 unfold salvage_grouped at h
 replace h := bnd0 h
 refine So Tryz.func65 Y fun w0 A=>Tr<|Ra Y<|R_nil<|K1 0 Y<|Tr<|Rx Y (w_makeMap 0 Y tMp165)<|Ra Y<|R_nil<|K2 0 3 Y<|Tr<|Ra Y<|R_nil<|I2 (fun groups numbers=>⟨[(3, .mref 0 1), (4, .own 1 numbers.length)], [some ⟨165, [[.mcon (List.map (mrow FK3 (osF 74 R74)) groups)]]⟩, some ⟨3, List.map R3 numbers⟩]⟩) h (fun h=>?_) fun groups numbers h=>?_
 ·
  refine Tr<|Rm Y<|Rl tZ_74 tL58 Y<|Rm Y<|R_nil<|T_block<|?_
  obtain ⟨r1, hl1, ho1⟩ := bndL h
  refine L3 (fun groups2 numbers2 i=>⟨[(3, .mref 0 1), (4, .own 1 numbers2.length), (11, .sl 74 (List.map R74 l)), (12, .int .i64 (l.length : Int)), (13, .int .i64 i)], [some ⟨165, [[.mcon (List.map (mrow FK3 (osF 74 R74)) groups2)]]⟩, some ⟨3, List.map R3 numbers2⟩]⟩) hl1 (ES [some 0, none] (hhp := .cons Y (roMap (fk := FK3) (fv := (osF 74 R74)) (m := ([] : List (Int × (List api_Rest)))) tZ_165 (fun _=>.dat Y) fun _=>rcOs D74)<|.row 3 .nil)) fun n1 groups2 numbers2 i h=>?_
  unfold salvage_grouped_L1 at h
  refine Tr<|R2 v_lss Y<|R_nil<|T_seq<|If h Y (fun h=>?_) fun h=>?_
  ·
   refine T_skip<|I2 (fun groups3 numbers3=>⟨[(3, .mref 0 1), (4, .own 1 numbers3.length), (11, .sl 74 (List.map R74 l)), (12, .int .i64 (l.length : Int)), (13, .int .i64 i)], [some ⟨165, [[.mcon (List.map (mrow FK3 (osF 74 R74)) groups3)]]⟩, some ⟨3, List.map R3 numbers3⟩]⟩) h (fun h=>?_) fun groups3 numbers3 h=>?_
   ·
    refine T_block<|K5 3 4 11 12 13 Y<|Tr<|bE h fun x h_x h=>Rq Y (v_ixSG (ov Y) (ov Y) tL58 h_x)<|Rq Y (v_loadA_r (ov Y) tA74 (at_sub<|at_all ln18) ln18)<|Rx Y (w_alloc (row := (.int .i64 0) :: ((List.map C47 (Vector.replicate 64 0).toList) ++ (((List.map C3 (Vector.replicate 64 0).toList) ++ ((.bool false) :: (.int .i64 0) :: (.bool false) :: []))))) 2 Y tZ74 (by kernel_rfl)<|by exact Eq.symm (Eq.trans (b := 132) ln18 tZ_74.symm))<|Rx Y (w_store (ov Y) (ov Y) (cells_agg tA74 ln18) Y Y Y (put_le (at_all ln18) ln18) (cell1_all al20)<|put_all<|Eq.trans ln18<|Eq.symm ln18)<|R_nil<|I1 (fun numbers4=>⟨[(3, .mref 0 1), (4, .own 1 numbers4.length), (6, .ptr 2 1 0 0), (11, .sl 74 (List.map R74 l)), (12, .int .i64 (l.length : Int)), (13, .int .i64 i)], [some ⟨165, [[.mcon (List.map (mrow FK3 (osF 74 R74)) groups2)]]⟩, some ⟨3, List.map R3 numbers4⟩, some ⟨74, [(.int .i64 x.Number) :: ((List.map C47 x.Frame.toList) ++ (((List.map C3 x.States.toList) ++ ((.bool x.Sound) :: (.int .i64 x.Copies) :: (.bool x.Conflict) :: []))))]⟩]⟩) h (fun h=>?_) fun numbers4 h=>?_
    ·
     refine K6 3 4 6 11 12 13 Y<|Tr<|Rm Y<|Rq Y (v_fieldP (ov Y) Y Y tF74_0)<|Rq Y (v_loadS (ov Y) Y Y Y tS3<|at_get at8)<|bE h fun z h_z h=>?_
     rcases z with z | z
     ·
      replace h := ell h
      refine Rq Y (v_lkN (e1 := 74) (R := R74) (m := groups2) (k := x.Number) (msel_l h_z) (ov Y) (ov Y) tMp165 tKO3 Y (fun _=>.b Y)<|zero_scal tZV58 Y)<|Rq Y (v_nilN (ng := false) (ov Y) tIsl58)<|R_nil<|K7 3 4 6 11 12 13 21 Y<|T_if h Y (fun b21 h=>?_) fun b21 h=>?_
      ·
       exact K6 3 4 6 11 12 13 Y<|T_reg<|Rm Y<|Rq Y (v_fieldP (ov Y) Y Y tF74_0)<|Rq Y (v_loadS (ov Y) Y Y Y tS3<|at_get at8)<|R_q (.sl 3<|List.map R3 ([x.Number] : List Int)) Y (v_lit tL28 (.cons (cvs (ov Y)<|cell1_b Y) Y (.cons (.b Y) .nil) .nil) Y Y)<|bE h fun l2 h_l2 h=>Rx Y (w_appendG (ov Y) (slv_sl (ov Y) tZ_3) tL28 Y Y Y (fun _=>cell1_all Y) Y h_l2)<|Ra Y<|R_nil<|⟨_, h, ES [some 0, some 1, some 2] (hhp := .cons Y (roMap (fk := FK3) (fv := (osF 74 R74)) (m := groups2) tZ_165 (fun _=>.dat Y) fun _=>rcOs D74)<|.cons Y (roM D3)<|.cons Y (ro1 (by exact Eq.trans (b := 132) ln18 tZ_74.symm)<|rld al19) .nil)⟩
      ·
       exact Bool.noConfusion b21
     ·
      replace h := elr h
      refine R_ent (Ent.focusMk1 (e := 74) (R := R74) (m := groups2) (k := x.Number) (r := 0) Y tZ_165 (msel_r h_z) D74)<|Rq Y (v_lkF (e1 := 74) (R := R74) (m := groups2) (k := x.Number) (ov Y) (ov Y) tMp165 tKO3 Y (fun _=>.b Y)<|zero_scal tZV58 Y)<|bE h fun u h_u h=>Rq Y (v_nilO (ng := false) (ov Y) tIsl58 Y (List.length_map ..) h_u)<|R_ent (by exact Ent.absorbMs1 (e := 74) (R := R74) (m := groups2) (k := x.Number) (ys := z) (fk := FK3) (r := 0) (q := 3) (msel_r h_z) rfl tZ_165 rfl rfl rfl)<|R_nil<|K7 3 4 6 11 12 13 21 Y<|T_if h Y (fun b21 h=>?_) fun b21 h=>?_
      ·
       exact Bool.noConfusion b21
      ·
       exact T_skip<|⟨_, h, ES [some 0, some 1, some 2] (hhp := .cons Y (roMap (fk := FK3) (fv := (osF 74 R74)) (m := groups2) tZ_165 (fun _=>.dat Y) fun _=>rcOs D74)<|.cons Y (roM D3)<|.cons Y (ro1 (by exact Eq.trans (b := 132) ln18 tZ_74.symm)<|rld al19) .nil)⟩
    ·
     refine bE h fun z2 h_z2 h=>?_
     rcases z2 with z2 | z2
     ·
      replace h := ell h
      refine T_draw (cw := md0) (by kernel_rfl)<|D1 3 v_move Y<|Dq 4 Y (v_fieldP (ov Y) Y Y tF74_0)<|Dq 5 Y (v_loadS (ov Y) Y Y Y tS3<|at_get at8)<|Dq 6 Y (v_lkN (e1 := 74) (R := R74) (m := groups2) (k := x.Number) (msel_l h_z2) (ov Y) (ov Y) tMp165 tKO3 Y (fun _=>.b Y)<|zero_scal tZV58 Y)<|Dq 7 Y (v_loadA (ov Y) Y Y Y tA74 (at_sub<|at_all ln18) ln18 (hns := ns21))<|D_q0 8 (.sl 74<|List.map R74 ([x] : List api_Rest)) Y (by kernel_rfl) Y Y (v_lit tL58 (.cons (cva<|ov Y) ln18 (pwD al19) .nil) Y Y)<|D_free 0 _ Y (by kernel_rfl) Y Y (fun hp'=>v_move<|ov Y)<|bE h fun l3 h_l3 h=>Dw 1 9 Y (v_fieldP (ov Y) Y Y tF74_0) (w_append0G (r := 3) Y (ov Y) (slv_sl (ov Y) tZ_74) tL58 Y h_l3) ?_ ?_
      ·
       refine Dw 2 9 Y (v_loadS (ov Y) Y Y Y tS3<|at_get at8) (w_append0G (r := 3) Y (ov Y) (slv_sl (ov Y) tZ_74) tL58 Y h_l3) ?_ ?_
       ·
        exact Do 9 Y (w_append0G (r := 3) Y (ov Y) (slv_sl (ov Y) tZ_74) tL58 Y h_l3)<|Do 10 Y (w_putN (e1 := 74) (R := R74) (m := groups2) (k := x.Number) (ov Y) (ov Y) (ov Y) tMp165 tKO3 Y fun _=>.b Y)<|D_doneE (by kernel_rfl) (Ent.absorbMk1 (e := 74) (R := R74) (m := groups2) (k := x.Number) (ys := l3) (fk := FK3) (r := 0) (q := 3) Y tZ_165 Y Y Y)<|⟨_, h, ES [some 0, some 1] (hhp := .cons Y (roMap (fk := FK3) (fv := (osF 74 R74)) (m := (mput kqI groups2 x.Number l3)) tZ_165 (fun _=>.dat Y) fun _=>rcOs D74)<|.cons Y (roM D3) .nil)⟩
       ·
        exact Dq 2 Y (v_loadS (ov Y) Y Y Y tS3<|at_get at8)<|Do 10 Y (w_putN (e1 := 74) (R := R74) (m := groups2) (k := x.Number) (ov Y) (ov Y) (ov Y) tMp165 tKO3 Y fun _=>.b Y)<|D_doneE (by kernel_rfl) (Ent.absorbMk1 (e := 74) (R := R74) (m := groups2) (k := x.Number) (ys := l3) (fk := FK3) (r := 0) (q := 3) Y tZ_165 Y Y Y)<|⟨_, h, ES [some 0, some 1] (hhp := .cons Y (roMap (fk := FK3) (fv := (osF 74 R74)) (m := (mput kqI groups2 x.Number l3)) tZ_165 (fun _=>.dat Y) fun _=>rcOs D74)<|.cons Y (roM D3) .nil)⟩
      ·
       exact Dq 1 Y (v_fieldP (ov Y) Y Y tF74_0)<|Dq 2 Y (v_loadS (ov Y) Y Y Y tS3<|at_get at8)<|Do 10 Y (w_putN (e1 := 74) (R := R74) (m := groups2) (k := x.Number) (ov Y) (ov Y) (ov Y) tMp165 tKO3 Y fun _=>.b Y)<|D_doneE (by kernel_rfl) (Ent.absorbMk1 (e := 74) (R := R74) (m := groups2) (k := x.Number) (ys := l3) (fk := FK3) (r := 0) (q := 3) Y tZ_165 Y Y Y)<|⟨_, h, ES [some 0, some 1] (hhp := .cons Y (roMap (fk := FK3) (fv := (osF 74 R74)) (m := (mput kqI groups2 x.Number l3)) tZ_165 (fun _=>.dat Y) fun _=>rcOs D74)<|.cons Y (roM D3) .nil)⟩
     ·
      replace h := elr h
      refine T_ent (Ent.focusMk1 (e := 74) (R := R74) (m := groups2) (k := x.Number) (r := 0) Y tZ_165 (msel_r h_z2) D74)<|T_draw (cw := md0) (by kernel_rfl)<|D1 3 v_move Y<|Dq 4 Y (v_fieldP (ov Y) Y Y tF74_0)<|Dq 5 Y (v_loadS (ov Y) Y Y Y tS3<|at_get at8)<|Dq 6 Y (v_lkF (e1 := 74) (R := R74) (m := groups2) (k := x.Number) (ov Y) (ov Y) tMp165 tKO3 Y (fun _=>.b Y)<|zero_scal tZV58 Y)<|Dq 7 Y (v_loadA (ov Y) Y Y Y tA74 (at_sub<|at_all ln18) ln18 (hns := ns21))<|D_q0 8 (.sl 74<|List.map R74 ([x] : List api_Rest)) Y (by kernel_rfl) Y Y (v_lit tL58 (.cons (cva<|ov Y) ln18 (pwD al19) .nil) Y Y)<|D_free 0 _ Y (by kernel_rfl) Y Y (fun hp'=>v_move<|ov Y)<|bE h fun l4 h_l4 h=>Dw 1 9 Y (v_fieldP (ov Y) Y Y tF74_0) (w_appendG (ov Y) (slv_sl (ov Y) tZ_74) tL58 Y Y Y (fun x=>cell1_all<|E74 x) Y h_l4) ?_ ?_
      ·
       refine Dw 2 9 Y (v_loadS (ov Y) Y Y Y tS3<|at_get at8) (w_appendG (ov Y) (slv_sl (ov Y) tZ_74) tL58 Y Y Y (fun x=>cell1_all<|E74 x) Y h_l4) ?_ ?_
       ·
        exact Do 9 Y (w_appendG (ov Y) (slv_sl (ov Y) tZ_74) tL58 Y Y Y (fun x=>cell1_all<|E74 x) Y h_l4)<|Do 10 Y (w_putF (e1 := 74) (R := R74) (m := groups2) (k := x.Number) (ov Y) (ov Y) (ov Y) tMp165 tKO3 Y fun _=>.b Y)<|D_doneE (by kernel_rfl) (Ent.absorbMk1 (e := 74) (R := R74) (m := groups2) (k := x.Number) (ys := l4) (fk := FK3) (r := 0) (q := 3) Y tZ_165 Y Y Y)<|⟨_, h, ES [some 0, some 1] (hhp := .cons Y (roMap (fk := FK3) (fv := (osF 74 R74)) (m := (mput kqI groups2 x.Number l4)) tZ_165 (fun _=>.dat Y) fun _=>rcOs D74)<|.cons Y (roM D3) .nil)⟩
       ·
        exact Dq 2 Y (v_loadS (ov Y) Y Y Y tS3<|at_get at8)<|Do 10 Y (w_putF (e1 := 74) (R := R74) (m := groups2) (k := x.Number) (ov Y) (ov Y) (ov Y) tMp165 tKO3 Y fun _=>.b Y)<|D_doneE (by kernel_rfl) (Ent.absorbMk1 (e := 74) (R := R74) (m := groups2) (k := x.Number) (ys := l4) (fk := FK3) (r := 0) (q := 3) Y tZ_165 Y Y Y)<|⟨_, h, ES [some 0, some 1] (hhp := .cons Y (roMap (fk := FK3) (fv := (osF 74 R74)) (m := (mput kqI groups2 x.Number l4)) tZ_165 (fun _=>.dat Y) fun _=>rcOs D74)<|.cons Y (roM D3) .nil)⟩
      ·
       exact Dq 1 Y (v_fieldP (ov Y) Y Y tF74_0)<|Dq 2 Y (v_loadS (ov Y) Y Y Y tS3<|at_get at8)<|Do 10 Y (w_putF (e1 := 74) (R := R74) (m := groups2) (k := x.Number) (ov Y) (ov Y) (ov Y) tMp165 tKO3 Y fun _=>.b Y)<|D_doneE (by kernel_rfl) (Ent.absorbMk1 (e := 74) (R := R74) (m := groups2) (k := x.Number) (ys := l4) (fk := FK3) (r := 0) (q := 3) Y tZ_165 Y Y Y)<|⟨_, h, ES [some 0, some 1] (hhp := .cons Y (roMap (fk := FK3) (fv := (osF 74 R74)) (m := (mput kqI groups2 x.Number l4)) tZ_165 (fun _=>.dat Y) fun _=>rcOs D74)<|.cons Y (roM D3) .nil)⟩
   ·
    exact T_reg<|R2 vadd Y<|Rm Y<|R_nil<|⟨_, h, ES [some 0, some 1] (hhp := .cons Y (roMap (fk := FK3) (fv := (osF 74 R74)) (m := groups3) tZ_165 (fun _=>.dat Y) fun _=>rcOs D74)<|.cons Y (roM D3) .nil)⟩
  ·
   refine T_exit<|?_
   replace h := lx h ▸ ho1
   exact ⟨_, h, ES [some 0, some 1] (hhp := .cons Y (roMap (fk := FK3) (fv := (osF 74 R74)) (m := groups2) tZ_165 (fun _=>.dat Y) fun _=>rcOs D74)<|.cons Y (roM D3) .nil)⟩
 ·
  refine Tr<|Rm Y<|bE h fun y h_y h=>Rx Y (w_callG [1] (ok_sortJL h_y) (.cons (ov Y) (.own _ Y) .nil) (.cons Y (roM D3) .nil) Y (.keep Y Y<|.lent 0 (.inl Y) Y (roM D3) .nil) Y Y<|rTup<|rld Y)<|R_nil<|K2 3 4 Y<|Tr<|Ra Y<|R_nil<|I1 (fun out=>⟨[(7, .own 0 out.length)], [some ⟨74, List.map R74 out⟩]⟩) h (fun h=>?_) fun out h=>?_
  ·
   refine Tr<|Rm Y<|Rq Y (v_lenO (ov Y) Y (ln_sortJ h_y) tL28)<|Rm Y<|R_nil<|T_block<|?_
   obtain ⟨r2, hl2, ho2⟩ := bndL h
   refine L2 (fun out2 i2=>⟨[(3, .mref 0 1), (7, .own 1 out2.length), (40, .own 2 y.length), (41, .int .i64 (y.length : Int)), (42, .int .i64 i2)], [some ⟨165, [[.mcon (List.map (mrow FK3 (osF 74 R74)) groups)]]⟩, some ⟨74, List.map R74 out2⟩, some ⟨3, List.map R3 y⟩]⟩) hl2 (Ent.sel [some 0, none, some 1] (sr 3 Y (.mref _ Y)<|sr 7 Y (.row Y)<|sr 40 Y (ownE (Eq.symm<|ln_sortJ h_y) Y)<|sd 41 Y Y<|sd 42 Y Y sn) (.cons Y (roMap (fk := FK3) (fv := (osF 74 R74)) (m := groups) tZ_165 (fun _=>.dat Y) fun _=>rcOs D74)<|.row 74<|.cons Y (roM D3) .nil) Y Y) fun n2 out2 i2 h=>?_
   unfold salvage_grouped_L2 at h
   refine Tr<|R2 v_lss Y<|R_nil<|T_seq<|If h Y (fun h=>?_) fun h=>?_
   ·
    refine T_skip<|T_seq<|T_block<|K5 3 7 40 41 42 Y<|Tr<|bE h fun x2 h_x2 h=>Rq Y (v_ixOG (ov Y) (ov Y) tL28 Y Y h_x2)<|Rq Y (v_loadSR (ov Y) Y Y h_x2 tS3 Y)<|Ra Y<|R_nil<|K6 3 7 9 40 41 42 Y<|T_reg<|Rm Y<|Rm Y<|Rm Y<|bE h fun z3 h_z3 h=>?_
    rcases z3 with z3 | z3
    ·
     replace h := ell h
     exact Rq Y (v_lkN (e1 := 74) (R := R74) (m := groups) (k := x2) (msel_l h_z3) (ov Y) (ov Y) tMp165 tKO3 Y (fun _=>.b Y)<|zero_scal tZV58 Y)<|bE h fun y2 h_y2 h=>Rq Y (v_call (ok_salvage_merge h_y2)<|.cons (ov Y) (Dat.nils _) .nil)<|R_q (.sl 74<|List.map R74 ([y2] : List api_Rest)) Y (v_lit tL58 (.cons (cva<|ov Y) ln18 (pwD al19) .nil) Y Y)<|bE h fun l5 h_l5 h=>Rx Y (w_appendG (ov Y) (slv_sl (ov Y) tZ_74) tL58 Y Y Y (fun x=>cell1_all<|E74 x) Y h_l5)<|Ra Y<|R_nil<|K5 3 7 40 41 42 Y<|T_reg<|R2 vadd Y<|Rm Y<|R_nil<|⟨_, h, ES [some 0, some 1, some 2] (hhp := .cons Y (roMap (fk := FK3) (fv := (osF 74 R74)) (m := groups) tZ_165 (fun _=>.dat Y) fun _=>rcOs D74)<|.cons Y (roM D74)<|.cons Y (roM D3) .nil)⟩
    ·
     replace h := elr h
     exact R_ent (Ent.focusMk1 (e := 74) (R := R74) (m := groups) (k := x2) (r := 0) Y tZ_165 (msel_r h_z3) D74)<|Rq Y (v_lkF (e1 := 74) (R := R74) (m := groups) (k := x2) (ov Y) (ov Y) tMp165 tKO3 Y (fun _=>.b Y)<|zero_scal tZV58 Y)<|bE h fun y3 h_y3 h=>Rq Y (v_callB (ok_salvage_merge h_y3) (.agg<|faC .int<|faA (faV fun _ => .int)<|faA (faV fun _ => .int)<|faC .bool<|faC .int<|faC .bool faN)<|.cons (ov Y) (View.ownM Y Y D74) .nil)<|R_q (.sl 74<|List.map R74 ([y3] : List api_Rest)) Y (v_lit tL58 (.cons (cva<|ov Y) ln18 (pwD al19) .nil) Y Y)<|bE h fun l6 h_l6 h=>Rx Y (w_appendG (ov Y) (slv_sl (ov Y) tZ_74) tL58 Y Y Y (fun x=>cell1_all<|E74 x) Y h_l6)<|Ra Y<|R_ent (by exact Ent.absorbMs1 (e := 74) (R := R74) (m := groups) (k := x2) (ys := z3) (fk := FK3) (r := 0) (q := 3) (msel_r h_z3) rfl tZ_165 rfl rfl rfl)<|R_nil<|K5 3 7 40 41 42 Y<|T_reg<|R2 vadd Y<|Rm Y<|R_nil<|⟨_, h, ES [some 0, some 1, some 2] (hhp := .cons Y (roMap (fk := FK3) (fv := (osF 74 R74)) (m := groups) tZ_165 (fun _=>.dat Y) fun _=>rcOs D74)<|.cons Y (roM D74)<|.cons Y (roM D3) .nil)⟩
   ·
    refine T_exit<|?_
    replace h := lx h ▸ ho2
    exact ⟨_, h, ES [some 1]⟩
  ·
   refine Tr<|Rm Y<|Ra Y<|R_nil<|?_
   obtain rfl := rt h
   exact T_ret (retq Y (.one<|.tmp Y<|View.ownM Y Y D74))
end Go.Proofs.YthdiljjohpamnaaGreatDoorRR
