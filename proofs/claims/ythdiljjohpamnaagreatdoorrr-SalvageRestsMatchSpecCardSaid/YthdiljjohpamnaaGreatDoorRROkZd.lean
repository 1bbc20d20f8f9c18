/- A text of the proof: a verified executor of the program form, or the contracts of the functions that the law reaches. -/
import Derived.Test.YthdiljjohpamnaaGreatDoorRROkZc
set_option linter.all false
namespace Go.Proofs.YthdiljjohpamnaaGreatDoorRR
open Go Go.Vx
set_option maxRecDepth 10000
set_option maxHeartbeats 1000000
set_option linter.unusedVariables false
theorem ok_ref4_grouped {l : List api_Rest} {r : (List api_Rest)} (h : ref4_grouped l = some r) :
 CSpec Tryz.prog gl0 60 [.sl 74 (List.map R74 l)] (.sl 74 (List.map R74 r)) := by
 unfold ref4_grouped at h
 replace h := bnd0 h
 refine So Tryz.func60 Y fun w0 A=>Tr<|Ra Y<|R_nil<|K1 0 Y<|Tr<|Ra Y<|R_nil<|Tr<|Rx Y (w_makeMap 0 Y tMp165)<|Ra Y<|R_nil<|I2 (fun order by_=>⟨[(3, .own 0 order.length), (4, .mref 1 1)], [some ⟨3, List.map R3 order⟩, some ⟨165, [[.mcon (List.map (mrow FK3 (osF 74 R74)) by_)]]⟩]⟩) h (fun h=>?_) fun order by_ h=>?_
 ·
  refine K3 0 3 4 Y<|Tr<|Rm Y<|Rl tZ_74 tL58 Y<|Rm Y<|R_nil<|T_block<|?_
  obtain ⟨r1, hl1, ho1⟩ := bndL h
  refine L3 (fun order2 by_2 i=>⟨[(3, .own 0 order2.length), (4, .mref 1 1), (12, .sl 74 (List.map R74 l)), (13, .int .i64 (l.length : Int)), (14, .int .i64 i)], [some ⟨3, List.map R3 order2⟩, some ⟨165, [[.mcon (List.map (mrow FK3 (osF 74 R74)) by_2)]]⟩]⟩) hl1 (ES [none, some 0] (hhp := .row 3<|.cons Y (roMap (fk := FK3) (fv := (osF 74 R74)) (m := ([] : List (Int × (List api_Rest)))) tZ_165 (fun _=>.dat Y) fun _=>rcOs D74) .nil)) fun n1 order2 by_2 i h=>?_
  unfold ref4_grouped_L1 at h
  refine Tr<|R2 v_lss Y<|R_nil<|T_seq<|If h Y (fun h=>?_) fun h=>?_
  ·
   refine T_skip<|I2 (fun order3 by_3=>⟨[(3, .own 0 order3.length), (4, .mref 1 1), (12, .sl 74 (List.map R74 l)), (13, .int .i64 (l.length : Int)), (14, .int .i64 i)], [some ⟨3, List.map R3 order3⟩, some ⟨165, [[.mcon (List.map (mrow FK3 (osF 74 R74)) by_3)]]⟩]⟩) h (fun h=>?_) fun order3 by_3 h=>?_
   ·
    refine T_block<|K5 3 4 12 13 14 Y<|Tr<|bE h fun x h_x h=>Rq Y (v_ixSG (ov Y) (ov Y) tL58 h_x)<|Rq Y (v_loadA_r (ov Y) tA74 (at_sub<|at_all ln18) ln18)<|Rx Y (w_alloc (row := (.int .i64 0) :: ((List.map C47 (Vector.replicate 64 0).toList) ++ (((List.map C3 (Vector.replicate 64 0).toList) ++ ((.bool false) :: (.int .i64 0) :: (.bool false) :: []))))) 2 Y tZ74 (by kernel_rfl)<|by exact Eq.symm (Eq.trans (b := 132) ln18 tZ_74.symm))<|Rx Y (w_store (ov Y) (ov Y) (cells_agg tA74 ln18) Y Y Y (put_le (at_all ln18) ln18) (cell1_all al20)<|put_all<|Eq.trans ln18<|Eq.symm ln18)<|R_nil<|I1 (fun order4=>⟨[(3, .own 0 order4.length), (4, .mref 1 1), (6, .ptr 2 1 0 0), (12, .sl 74 (List.map R74 l)), (13, .int .i64 (l.length : Int)), (14, .int .i64 i)], [some ⟨3, List.map R3 order4⟩, some ⟨165, [[.mcon (List.map (mrow FK3 (osF 74 R74)) by_2)]]⟩, some ⟨74, [(.int .i64 x.Number) :: ((List.map C47 x.Frame.toList) ++ (((List.map C3 x.States.toList) ++ ((.bool x.Sound) :: (.int .i64 x.Copies) :: (.bool x.Conflict) :: []))))]⟩]⟩) h (fun h=>?_) fun order4 h=>?_
    ·
     refine K6 3 4 6 12 13 14 Y<|Tr<|Rm Y<|Rq Y (v_fieldP (ov Y) Y Y tF74_0)<|Rq Y (v_loadS (ov Y) Y Y Y tS3<|at_get at8)<|bE h fun z h_z h=>?_
     rcases z with z | z
     ·
      replace h := ell h
      refine Rq Y (v_lkN (e1 := 74) (R := R74) (m := by_2) (k := x.Number) (msel_l h_z) (ov Y) (ov Y) tMp165 tKO3 Y (fun _=>.b Y)<|zero_scal tZV58 Y)<|Rq Y (v_len (slv_nils<|ov Y) tL58 Y)<|R2 v_eql Y<|R_nil<|K7 3 4 6 12 13 14 23 Y<|If h Y (fun h=>?_) fun h=>?_
      ·
       refine K6 3 4 6 12 13 14 Y<|Tr<|Rm Y<|Rq Y (v_lenO (ov Y) Y Y tL28)<|Ra Y<|R_nil<|I1 (fun at_=>⟨[(3, .own 0 order2.length), (4, .mref 1 1), (6, .ptr 2 1 0 0), (7, .int .i64 at_), (12, .sl 74 (List.map R74 l)), (13, .int .i64 (l.length : Int)), (14, .int .i64 i)], [some ⟨3, List.map R3 order2⟩, some ⟨165, [[.mcon (List.map (mrow FK3 (osF 74 R74)) by_2)]]⟩, some ⟨74, [(.int .i64 x.Number) :: ((List.map C47 x.Frame.toList) ++ (((List.map C3 x.States.toList) ++ ((.bool x.Sound) :: (.int .i64 x.Copies) :: (.bool x.Conflict) :: []))))]⟩]⟩) h (fun h=>?_) fun at_ h=>?_
       ·
        refine T_block<|?_
        obtain ⟨r2, hl2, ho2⟩ := bndL h
        refine L1 (fun at_2=>⟨[(3, .own 0 order2.length), (4, .mref 1 1), (6, .ptr 2 1 0 0), (7, .int .i64 at_2), (12, .sl 74 (List.map R74 l)), (13, .int .i64 (l.length : Int)), (14, .int .i64 i)], [some ⟨3, List.map R3 order2⟩, some ⟨165, [[.mcon (List.map (mrow FK3 (osF 74 R74)) by_2)]]⟩, some ⟨74, [(.int .i64 x.Number) :: ((List.map C47 x.Frame.toList) ++ (((List.map C3 x.States.toList) ++ ((.bool x.Sound) :: (.int .i64 x.Copies) :: (.bool x.Conflict) :: []))))]⟩]⟩) hl2 (ES [some 0, some 1, some 2] (hhp := .cons Y (roM D3)<|.cons Y (roMap (fk := FK3) (fv := (osF 74 R74)) (m := by_2) tZ_165 (fun _=>.dat Y) fun _=>rcOs D74)<|.cons Y (ro1 (by exact Eq.trans (b := 132) ln18 tZ_74.symm)<|rld al19) .nil)) fun n2 at_2 h=>?_
        unfold ref4_grouped_L2 at h
        refine T_seq<|Td md0<|D1 0 v_move Y<|D2 1 v_gtr Y<|D1 2 v_move Y<|Dq 3 Y (.guarded ((decide (0 < at_2)) == true) Y Y Y Y fun h => v_move<|ov Y)<|Dq 4 Y (.guarded ((decide (0 < at_2)) == true) Y Y Y Y fun h => v_move<|ov Y)<|Dq 5 Y (.guarded ((decide (0 < at_2)) == true) Y Y Y Y fun h => v_sub (ow Y h) (ov Y) Y)<|bE h fun x2 h_x2 h=>Dq 6 Y (.guarded ((decide (0 < at_2)) == true) Y Y Y Y fun h => v_ixOG (ow Y h) (ow Y h) tL28 Y Y<|gdT h_x2 h)<|Dq 7 Y (.guarded ((decide (0 < at_2)) == true) Y Y Y Y fun h => v_loadSR (ow Y h) Y Y (gdT h_x2 h) tS3 Y)<|Dq 8 Y (.guarded ((decide (0 < at_2)) == true) Y Y Y Y fun h => v_fieldP (ov Y) Y Y tF74_0)<|Dq 9 Y (.guarded ((decide (0 < at_2)) == true) Y Y Y Y fun h => v_loadS (ow Y h) Y Y Y tS3<|at_get at8)<|Dq 10 Y (.guarded ((decide (0 < at_2)) == true) Y Y Y Y fun h => v_gtr (ow Y h)<|ow Y h)<|Dq 11 Y (v_and (ov Y) fun hp=>ow Y<|gT hp)<|Dd<|K8 3 4 6 7 12 13 14 37 Y<|If h Y (fun h=>?_) fun h=>?_
        ·
         exact T_skip<|T_block<|K7 3 4 6 7 12 13 14 Y<|T_reg<|Rm Y<|R2 vsub Y<|Ra Y<|R_nil<|⟨_, h, ES [some 0, some 1, some 2] (hhp := .cons Y (roM D3)<|.cons Y (roMap (fk := FK3) (fv := (osF 74 R74)) (m := by_2) tZ_165 (fun _=>.dat Y) fun _=>rcOs D74)<|.cons Y (ro1 (by exact Eq.trans (b := 132) ln18 tZ_74.symm)<|rld al19) .nil)⟩
        ·
         refine T_exit<|?_
         replace h := lx h ▸ ho2
         exact ⟨_, h, ES [some 0, some 1, some 2] (hhp := .cons Y (roM D3)<|.cons Y (roMap (fk := FK3) (fv := (osF 74 R74)) (m := by_2) tZ_165 (fun _=>.dat Y) fun _=>rcOs D74)<|.cons Y (ro1 (by exact Eq.trans (b := 132) ln18 tZ_74.symm)<|rld al19) .nil)⟩
       ·
        exact Tr<|Rm Y<|R_q (.sl 3<|List.map R3 ([0] : List Int)) Y (v_lit tL28 (.cons (cvs (ov Y)<|cell1_b Y) Y (.cons (.b Y) .nil) .nil) Y Y)<|bE h fun l2 h_l2 h=>Rx Y (w_appendG (ov Y) (slv_sl (ov Y) tZ_3) tL28 Y Y Y (fun _=>cell1_all Y) Y h_l2)<|Ra Y<|R_nil<|K7 3 4 6 7 12 13 14 Y<|Td md0<|D1 0 v_move Y<|D1 1 v_move Y<|D2 2 vadd Y<|bE h fun u h_u h=>Dq 3 Y (v_slQ (ov Y) Y Y tL28 (oi<|ov Y) on h_u)<|D1 4 v_move Y<|D1 5 v_move Y<|bE h fun u2 h_u2 h=>Dq 6 Y (v_slQ (ov Y) Y Y tL28 (oi<|ov Y) on h_u2)<|Do 7 Y (w_copyO (g := C3) (ov Y) (ov Y) Y Y (fun _=>Y) (fun _=>Y) (fun _=>Y) tL28 (slq_bd h_u)<|slq_bd h_u2)<|Dd<|K7 3 4 6 7 12 13 14 Y<|T_reg<|Rm Y<|Rm Y<|Rq Y (v_fieldP (ov Y) Y Y tF74_0)<|Rq Y (v_loadS (ov Y) Y Y Y tS3<|at_get at8)<|bE h fun x3 h_x3 h=>Rq Y (v_ixOG (ov Y) (ov Y) tL28 Y ((cpy_len (slq_bd h_u) (slq_bd h_u2)).trans Y) h_x3)<|Rx Y (w_storeR (u' := x.Number) (ov Y) (ov Y) (cells_scal tS3) Y ((cpy_len (slq_bd h_u) (slq_bd h_u2)).trans Y) h_x3 Y (cell1_all Y) Y)<|R_nil<|⟨_, h, Ent.sel [some 0, some 1, some 2] (sr 3 Y (ownE (Eq.symm<|(List.length_set ..).trans<|(cpy_len (slq_bd h_u) (slq_bd h_u2)).trans Y) Y)<|sr 4 Y (.mref _ Y)<|sr 6 Y (.ptr _ _ _ Y)<|sd 12 Y Y<|sd 13 Y Y<|sd 14 Y Y sn) (.cons Y (roM D3)<|.cons Y (roMap (fk := FK3) (fv := (osF 74 R74)) (m := by_2) tZ_165 (fun _=>.dat Y) fun _=>rcOs D74)<|.cons Y (ro1 (by exact Eq.trans (b := 132) ln18 tZ_74.symm)<|rld al19) .nil) Y Y⟩
      ·
       exact T_skip<|⟨_, h, ES [some 0, some 1, some 2] (hhp := .cons Y (roM D3)<|.cons Y (roMap (fk := FK3) (fv := (osF 74 R74)) (m := by_2) tZ_165 (fun _=>.dat Y) fun _=>rcOs D74)<|.cons Y (ro1 (by exact Eq.trans (b := 132) ln18 tZ_74.symm)<|rld al19) .nil)⟩
     ·
      replace h := elr h
      refine R_ent (Ent.focusMk1 (e := 74) (R := R74) (m := by_2) (k := x.Number) (r := 1) Y tZ_165 (msel_r h_z) D74)<|Rq Y (v_lkF (e1 := 74) (R := R74) (m := by_2) (k := x.Number) (ov Y) (ov Y) tMp165 tKO3 Y (fun _=>.b Y)<|zero_scal tZV58 Y)<|Rq Y (v_lenO (ov Y) Y Y tL58)<|R2 v_eql Y<|R_ent (by exact Ent.absorbMs1 (e := 74) (R := R74) (m := by_2) (k := x.Number) (ys := z) (fk := FK3) (r := 1) (q := 3) (msel_r h_z) rfl tZ_165 rfl rfl rfl)<|R_nil<|K7 3 4 6 12 13 14 23 Y<|If h Y (fun h=>?_) fun h=>?_
      ·
       refine K6 3 4 6 12 13 14 Y<|Tr<|Rm Y<|Rq Y (v_lenO (ov Y) Y Y tL28)<|Ra Y<|R_nil<|I1 (fun at_3=>⟨[(3, .own 0 order2.length), (4, .mref 1 1), (6, .ptr 2 1 0 0), (7, .int .i64 at_3), (12, .sl 74 (List.map R74 l)), (13, .int .i64 (l.length : Int)), (14, .int .i64 i)], [some ⟨3, List.map R3 order2⟩, some ⟨165, [[.mcon (List.map (mrow FK3 (osF 74 R74)) by_2)]]⟩, some ⟨74, [(.int .i64 x.Number) :: ((List.map C47 x.Frame.toList) ++ (((List.map C3 x.States.toList) ++ ((.bool x.Sound) :: (.int .i64 x.Copies) :: (.bool x.Conflict) :: []))))]⟩]⟩) h (fun h=>?_) fun at_3 h=>?_
       ·
        refine T_block<|?_
        obtain ⟨r3, hl3, ho3⟩ := bndL h
        refine L1 (fun at_4=>⟨[(3, .own 0 order2.length), (4, .mref 1 1), (6, .ptr 2 1 0 0), (7, .int .i64 at_4), (12, .sl 74 (List.map R74 l)), (13, .int .i64 (l.length : Int)), (14, .int .i64 i)], [some ⟨3, List.map R3 order2⟩, some ⟨165, [[.mcon (List.map (mrow FK3 (osF 74 R74)) by_2)]]⟩, some ⟨74, [(.int .i64 x.Number) :: ((List.map C47 x.Frame.toList) ++ (((List.map C3 x.States.toList) ++ ((.bool x.Sound) :: (.int .i64 x.Copies) :: (.bool x.Conflict) :: []))))]⟩]⟩) hl3 (ES [some 0, some 1, some 2] (hhp := .cons Y (roM D3)<|.cons Y (roMap (fk := FK3) (fv := (osF 74 R74)) (m := by_2) tZ_165 (fun _=>.dat Y) fun _=>rcOs D74)<|.cons Y (ro1 (by exact Eq.trans (b := 132) ln18 tZ_74.symm)<|rld al19) .nil)) fun n3 at_4 h=>?_
        unfold ref4_grouped_L3 at h
        refine T_seq<|Td md0<|D1 0 v_move Y<|D2 1 v_gtr Y<|D1 2 v_move Y<|Dq 3 Y (.guarded ((decide (0 < at_4)) == true) Y Y Y Y fun h => v_move<|ov Y)<|Dq 4 Y (.guarded ((decide (0 < at_4)) == true) Y Y Y Y fun h => v_move<|ov Y)<|Dq 5 Y (.guarded ((decide (0 < at_4)) == true) Y Y Y Y fun h => v_sub (ow Y h) (ov Y) Y)<|bE h fun x4 h_x4 h=>Dq 6 Y (.guarded ((decide (0 < at_4)) == true) Y Y Y Y fun h => v_ixOG (ow Y h) (ow Y h) tL28 Y Y<|gdT h_x4 h)<|Dq 7 Y (.guarded ((decide (0 < at_4)) == true) Y Y Y Y fun h => v_loadSR (ow Y h) Y Y (gdT h_x4 h) tS3 Y)<|Dq 8 Y (.guarded ((decide (0 < at_4)) == true) Y Y Y Y fun h => v_fieldP (ov Y) Y Y tF74_0)<|Dq 9 Y (.guarded ((decide (0 < at_4)) == true) Y Y Y Y fun h => v_loadS (ow Y h) Y Y Y tS3<|at_get at8)<|Dq 10 Y (.guarded ((decide (0 < at_4)) == true) Y Y Y Y fun h => v_gtr (ow Y h)<|ow Y h)<|Dq 11 Y (v_and (ov Y) fun hp=>ow Y<|gT hp)<|Dd<|K8 3 4 6 7 12 13 14 37 Y<|If h Y (fun h=>?_) fun h=>?_
        ·
         exact T_skip<|T_block<|K7 3 4 6 7 12 13 14 Y<|T_reg<|Rm Y<|R2 vsub Y<|Ra Y<|R_nil<|⟨_, h, ES [some 0, some 1, some 2] (hhp := .cons Y (roM D3)<|.cons Y (roMap (fk := FK3) (fv := (osF 74 R74)) (m := by_2) tZ_165 (fun _=>.dat Y) fun _=>rcOs D74)<|.cons Y (ro1 (by exact Eq.trans (b := 132) ln18 tZ_74.symm)<|rld al19) .nil)⟩
        ·
         refine T_exit<|?_
         replace h := lx h ▸ ho3
         exact ⟨_, h, ES [some 0, some 1, some 2] (hhp := .cons Y (roM D3)<|.cons Y (roMap (fk := FK3) (fv := (osF 74 R74)) (m := by_2) tZ_165 (fun _=>.dat Y) fun _=>rcOs D74)<|.cons Y (ro1 (by exact Eq.trans (b := 132) ln18 tZ_74.symm)<|rld al19) .nil)⟩
       ·
        exact Tr<|Rm Y<|R_q (.sl 3<|List.map R3 ([0] : List Int)) Y (v_lit tL28 (.cons (cvs (ov Y)<|cell1_b Y) Y (.cons (.b Y) .nil) .nil) Y Y)<|bE h fun l3 h_l3 h=>Rx Y (w_appendG (ov Y) (slv_sl (ov Y) tZ_3) tL28 Y Y Y (fun _=>cell1_all Y) Y h_l3)<|Ra Y<|R_nil<|K7 3 4 6 7 12 13 14 Y<|Td md0<|D1 0 v_move Y<|D1 1 v_move Y<|D2 2 vadd Y<|bE h fun u3 h_u3 h=>Dq 3 Y (v_slQ (ov Y) Y Y tL28 (oi<|ov Y) on h_u3)<|D1 4 v_move Y<|D1 5 v_move Y<|bE h fun u4 h_u4 h=>Dq 6 Y (v_slQ (ov Y) Y Y tL28 (oi<|ov Y) on h_u4)<|Do 7 Y (w_copyO (g := C3) (ov Y) (ov Y) Y Y (fun _=>Y) (fun _=>Y) (fun _=>Y) tL28 (slq_bd h_u3)<|slq_bd h_u4)<|Dd<|K7 3 4 6 7 12 13 14 Y<|T_reg<|Rm Y<|Rm Y<|Rq Y (v_fieldP (ov Y) Y Y tF74_0)<|Rq Y (v_loadS (ov Y) Y Y Y tS3<|at_get at8)<|bE h fun x5 h_x5 h=>Rq Y (v_ixOG (ov Y) (ov Y) tL28 Y ((cpy_len (slq_bd h_u3) (slq_bd h_u4)).trans Y) h_x5)<|Rx Y (w_storeR (u' := x.Number) (ov Y) (ov Y) (cells_scal tS3) Y ((cpy_len (slq_bd h_u3) (slq_bd h_u4)).trans Y) h_x5 Y (cell1_all Y) Y)<|R_nil<|⟨_, h, Ent.sel [some 0, some 1, some 2] (sr 3 Y (ownE (Eq.symm<|(List.length_set ..).trans<|(cpy_len (slq_bd h_u3) (slq_bd h_u4)).trans Y) Y)<|sr 4 Y (.mref _ Y)<|sr 6 Y (.ptr _ _ _ Y)<|sd 12 Y Y<|sd 13 Y Y<|sd 14 Y Y sn) (.cons Y (roM D3)<|.cons Y (roMap (fk := FK3) (fv := (osF 74 R74)) (m := by_2) tZ_165 (fun _=>.dat Y) fun _=>rcOs D74)<|.cons Y (ro1 (by exact Eq.trans (b := 132) ln18 tZ_74.symm)<|rld al19) .nil) Y Y⟩
      ·
       exact T_skip<|⟨_, h, ES [some 0, some 1, some 2] (hhp := .cons Y (roM D3)<|.cons Y (roMap (fk := FK3) (fv := (osF 74 R74)) (m := by_2) tZ_165 (fun _=>.dat Y) fun _=>rcOs D74)<|.cons Y (ro1 (by exact Eq.trans (b := 132) ln18 tZ_74.symm)<|rld al19) .nil)⟩
    ·
     refine bE h fun z2 h_z2 h=>?_
     rcases z2 with z2 | z2
     ·
      replace h := ell h
      refine T_draw (cw := md0) (by kernel_rfl)<|D1 3 v_move Y<|Dq 4 Y (v_fieldP (ov Y) Y Y tF74_0)<|Dq 5 Y (v_loadS (ov Y) Y Y Y tS3<|at_get at8)<|Dq 6 Y (v_lkN (e1 := 74) (R := R74) (m := by_2) (k := x.Number) (msel_l h_z2) (ov Y) (ov Y) tMp165 tKO3 Y (fun _=>.b Y)<|zero_scal tZV58 Y)<|Dq 7 Y (v_loadA (ov Y) Y Y Y tA74 (at_sub<|at_all ln18) ln18 (hns := ns21))<|D_q0 8 (.sl 74<|List.map R74 ([x] : List api_Rest)) Y (by kernel_rfl) Y Y (v_lit tL58 (.cons (cva<|ov Y) ln18 (pwD al19) .nil) Y Y)<|D_free 0 _ Y (by kernel_rfl) Y Y (fun hp'=>v_move<|ov Y)<|bE h fun l4 h_l4 h=>Dw 1 9 Y (v_fieldP (ov Y) Y Y tF74_0) (w_append0G (r := 3) Y (ov Y) (slv_sl (ov Y) tZ_74) tL58 Y h_l4) ?_ ?_
      ·
       refine Dw 2 9 Y (v_loadS (ov Y) Y Y Y tS3<|at_get at8) (w_append0G (r := 3) Y (ov Y) (slv_sl (ov Y) tZ_74) tL58 Y h_l4) ?_ ?_
       ·
        exact Do 9 Y (w_append0G (r := 3) Y (ov Y) (slv_sl (ov Y) tZ_74) tL58 Y h_l4)<|Do 10 Y (w_putN (e1 := 74) (R := R74) (m := by_2) (k := x.Number) (ov Y) (ov Y) (ov Y) tMp165 tKO3 Y fun _=>.b Y)<|D_doneE (by kernel_rfl) (Ent.absorbMk1 (e := 74) (R := R74) (m := by_2) (k := x.Number) (ys := l4) (fk := FK3) (r := 1) (q := 3) Y tZ_165 Y Y Y)<|⟨_, h, ES [some 0, some 1] (hhp := .cons Y (roM D3)<|.cons Y (roMap (fk := FK3) (fv := (osF 74 R74)) (m := (mput kqI by_2 x.Number l4)) tZ_165 (fun _=>.dat Y) fun _=>rcOs D74) .nil)⟩
       ·
        exact Dq 2 Y (v_loadS (ov Y) Y Y Y tS3<|at_get at8)<|Do 10 Y (w_putN (e1 := 74) (R := R74) (m := by_2) (k := x.Number) (ov Y) (ov Y) (ov Y) tMp165 tKO3 Y fun _=>.b Y)<|D_doneE (by kernel_rfl) (Ent.absorbMk1 (e := 74) (R := R74) (m := by_2) (k := x.Number) (ys := l4) (fk := FK3) (r := 1) (q := 3) Y tZ_165 Y Y Y)<|⟨_, h, ES [some 0, some 1] (hhp := .cons Y (roM D3)<|.cons Y (roMap (fk := FK3) (fv := (osF 74 R74)) (m := (mput kqI by_2 x.Number l4)) tZ_165 (fun _=>.dat Y) fun _=>rcOs D74) .nil)⟩
      ·
       exact Dq 1 Y (v_fieldP (ov Y) Y Y tF74_0)<|Dq 2 Y (v_loadS (ov Y) Y Y Y tS3<|at_get at8)<|Do 10 Y (w_putN (e1 := 74) (R := R74) (m := by_2) (k := x.Number) (ov Y) (ov Y) (ov Y) tMp165 tKO3 Y fun _=>.b Y)<|D_doneE (by kernel_rfl) (Ent.absorbMk1 (e := 74) (R := R74) (m := by_2) (k := x.Number) (ys := l4) (fk := FK3) (r := 1) (q := 3) Y tZ_165 Y Y Y)<|⟨_, h, ES [some 0, some 1] (hhp := .cons Y (roM D3)<|.cons Y (roMap (fk := FK3) (fv := (osF 74 R74)) (m := (mput kqI by_2 x.Number l4)) tZ_165 (fun _=>.dat Y) fun _=>rcOs D74) .nil)⟩
     ·
      replace h := elr h
      refine T_ent (Ent.focusMk1 (e := 74) (R := R74) (m := by_2) (k := x.Number) (r := 1) Y tZ_165 (msel_r h_z2) D74)<|T_draw (cw := md0) (by kernel_rfl)<|D1 3 v_move Y<|Dq 4 Y (v_fieldP (ov Y) Y Y tF74_0)<|Dq 5 Y (v_loadS (ov Y) Y Y Y tS3<|at_get at8)<|Dq 6 Y (v_lkF (e1 := 74) (R := R74) (m := by_2) (k := x.Number) (ov Y) (ov Y) tMp165 tKO3 Y (fun _=>.b Y)<|zero_scal tZV58 Y)<|Dq 7 Y (v_loadA (ov Y) Y Y Y tA74 (at_sub<|at_all ln18) ln18 (hns := ns21))<|D_q0 8 (.sl 74<|List.map R74 ([x] : List api_Rest)) Y (by kernel_rfl) Y Y (v_lit tL58 (.cons (cva<|ov Y) ln18 (pwD al19) .nil) Y Y)<|D_free 0 _ Y (by kernel_rfl) Y Y (fun hp'=>v_move<|ov Y)<|bE h fun l5 h_l5 h=>Dw 1 9 Y (v_fieldP (ov Y) Y Y tF74_0) (w_appendG (ov Y) (slv_sl (ov Y) tZ_74) tL58 Y Y Y (fun x=>cell1_all<|E74 x) Y h_l5) ?_ ?_
      ·
       refine Dw 2 9 Y (v_loadS (ov Y) Y Y Y tS3<|at_get at8) (w_appendG (ov Y) (slv_sl (ov Y) tZ_74) tL58 Y Y Y (fun x=>cell1_all<|E74 x) Y h_l5) ?_ ?_
       ·
        exact Do 9 Y (w_appendG (ov Y) (slv_sl (ov Y) tZ_74) tL58 Y Y Y (fun x=>cell1_all<|E74 x) Y h_l5)<|Do 10 Y (w_putF (e1 := 74) (R := R74) (m := by_2) (k := x.Number) (ov Y) (ov Y) (ov Y) tMp165 tKO3 Y fun _=>.b Y)<|D_doneE (by kernel_rfl) (Ent.absorbMk1 (e := 74) (R := R74) (m := by_2) (k := x.Number) (ys := l5) (fk := FK3) (r := 1) (q := 3) Y tZ_165 Y Y Y)<|⟨_, h, ES [some 0, some 1] (hhp := .cons Y (roM D3)<|.cons Y (roMap (fk := FK3) (fv := (osF 74 R74)) (m := (mput kqI by_2 x.Number l5)) tZ_165 (fun _=>.dat Y) fun _=>rcOs D74) .nil)⟩
       ·
        exact Dq 2 Y (v_loadS (ov Y) Y Y Y tS3<|at_get at8)<|Do 10 Y (w_putF (e1 := 74) (R := R74) (m := by_2) (k := x.Number) (ov Y) (ov Y) (ov Y) tMp165 tKO3 Y fun _=>.b Y)<|D_doneE (by kernel_rfl) (Ent.absorbMk1 (e := 74) (R := R74) (m := by_2) (k := x.Number) (ys := l5) (fk := FK3) (r := 1) (q := 3) Y tZ_165 Y Y Y)<|⟨_, h, ES [some 0, some 1] (hhp := .cons Y (roM D3)<|.cons Y (roMap (fk := FK3) (fv := (osF 74 R74)) (m := (mput kqI by_2 x.Number l5)) tZ_165 (fun _=>.dat Y) fun _=>rcOs D74) .nil)⟩
      ·
       exact Dq 1 Y (v_fieldP (ov Y) Y Y tF74_0)<|Dq 2 Y (v_loadS (ov Y) Y Y Y tS3<|at_get at8)<|Do 10 Y (w_putF (e1 := 74) (R := R74) (m := by_2) (k := x.Number) (ov Y) (ov Y) (ov Y) tMp165 tKO3 Y fun _=>.b Y)<|D_doneE (by kernel_rfl) (Ent.absorbMk1 (e := 74) (R := R74) (m := by_2) (k := x.Number) (ys := l5) (fk := FK3) (r := 1) (q := 3) Y tZ_165 Y Y Y)<|⟨_, h, ES [some 0, some 1] (hhp := .cons Y (roM D3)<|.cons Y (roMap (fk := FK3) (fv := (osF 74 R74)) (m := (mput kqI by_2 x.Number l5)) tZ_165 (fun _=>.dat Y) fun _=>rcOs D74) .nil)⟩
   ·
    exact T_reg<|R2 vadd Y<|Rm Y<|R_nil<|⟨_, h, ES [some 0, some 1] (hhp := .cons Y (roM D3)<|.cons Y (roMap (fk := FK3) (fv := (osF 74 R74)) (m := by_3) tZ_165 (fun _=>.dat Y) fun _=>rcOs D74) .nil)⟩
  ·
   refine T_exit<|?_
   replace h := lx h ▸ ho1
   exact ⟨_, h, ES [some 0, some 1] (hhp := .cons Y (roM D3)<|.cons Y (roMap (fk := FK3) (fv := (osF 74 R74)) (m := by_2) tZ_165 (fun _=>.dat Y) fun _=>rcOs D74) .nil)⟩
 ·
  refine Tr<|Ra Y<|R_nil<|I1 (fun out=>⟨[(8, .own 0 out.length)], [some ⟨74, List.map R74 out⟩]⟩) h (fun h=>?_) fun out h=>?_
  ·
   refine Tr<|Rm Y<|Rq Y (v_lenO (ov Y) Y Y tL28)<|Rm Y<|R_nil<|T_block<|?_
   obtain ⟨r4, hl4, ho4⟩ := bndL h
   refine L2 (fun out2 i2=>⟨[(4, .mref 0 1), (8, .own 1 out2.length), (67, .own 2 order.length), (68, .int .i64 (order.length : Int)), (69, .int .i64 i2)], [some ⟨165, [[.mcon (List.map (mrow FK3 (osF 74 R74)) by_)]]⟩, some ⟨74, List.map R74 out2⟩, some ⟨3, List.map R3 order⟩]⟩) hl4 (ES [some 1, none, some 0] (hhp := .cons Y (roMap (fk := FK3) (fv := (osF 74 R74)) (m := by_) tZ_165 (fun _=>.dat Y) fun _=>rcOs D74)<|.row 74<|.cons Y (roM D3) .nil)) fun n4 out2 i2 h=>?_
   unfold ref4_grouped_L4 at h
   refine Tr<|R2 v_lss Y<|R_nil<|T_seq<|If h Y (fun h=>?_) fun h=>?_
   ·
    refine T_skip<|T_seq<|T_block<|K5 4 8 67 68 69 Y<|Tr<|bE h fun x6 h_x6 h=>Rq Y (v_ixOG (ov Y) (ov Y) tL28 Y Y h_x6)<|Rq Y (v_loadSR (ov Y) Y Y h_x6 tS3 Y)<|Ra Y<|R_nil<|K6 4 8 10 67 68 69 Y<|T_reg<|Rm Y<|Rm Y<|Rm Y<|bE h fun z3 h_z3 h=>?_
    rcases z3 with z3 | z3
    ·
     replace h := ell h
     exact Rq Y (v_lkN (e1 := 74) (R := R74) (m := by_) (k := x6) (msel_l h_z3) (ov Y) (ov Y) tMp165 tKO3 Y (fun _=>.b Y)<|zero_scal tZV58 Y)<|bE h fun y h_y h=>Rq Y (v_call (ok_ref4_merge h_y)<|.cons (ov Y) (Dat.nils _) .nil)<|R_q (.sl 74<|List.map R74 ([y] : List api_Rest)) Y (v_lit tL58 (.cons (cva<|ov Y) ln18 (pwD al19) .nil) Y Y)<|bE h fun l6 h_l6 h=>Rx Y (w_appendG (ov Y) (slv_sl (ov Y) tZ_74) tL58 Y Y Y (fun x=>cell1_all<|E74 x) Y h_l6)<|Ra Y<|R_nil<|K5 4 8 67 68 69 Y<|T_reg<|R2 vadd Y<|Rm Y<|R_nil<|⟨_, h, ES [some 0, some 1, some 2] (hhp := .cons Y (roMap (fk := FK3) (fv := (osF 74 R74)) (m := by_) tZ_165 (fun _=>.dat Y) fun _=>rcOs D74)<|.cons Y (roM D74)<|.cons Y (roM D3) .nil)⟩
    ·
     replace h := elr h
     exact R_ent (Ent.focusMk1 (e := 74) (R := R74) (m := by_) (k := x6) (r := 0) Y tZ_165 (msel_r h_z3) D74)<|Rq Y (v_lkF (e1 := 74) (R := R74) (m := by_) (k := x6) (ov Y) (ov Y) tMp165 tKO3 Y (fun _=>.b Y)<|zero_scal tZV58 Y)<|bE h fun y2 h_y2 h=>Rq Y (v_callB (ok_ref4_merge h_y2) (.agg<|faC .int<|faA (faV fun _ => .int)<|faA (faV fun _ => .int)<|faC .bool<|faC .int<|faC .bool faN)<|.cons (ov Y) (View.ownM Y Y D74) .nil)<|R_q (.sl 74<|List.map R74 ([y2] : List api_Rest)) Y (v_lit tL58 (.cons (cva<|ov Y) ln18 (pwD al19) .nil) Y Y)<|bE h fun l7 h_l7 h=>Rx Y (w_appendG (ov Y) (slv_sl (ov Y) tZ_74) tL58 Y Y Y (fun x=>cell1_all<|E74 x) Y h_l7)<|Ra Y<|R_ent (by exact Ent.absorbMs1 (e := 74) (R := R74) (m := by_) (k := x6) (ys := z3) (fk := FK3) (r := 0) (q := 3) (msel_r h_z3) rfl tZ_165 rfl rfl rfl)<|R_nil<|K5 4 8 67 68 69 Y<|T_reg<|R2 vadd Y<|Rm Y<|R_nil<|⟨_, h, ES [some 0, some 1, some 2] (hhp := .cons Y (roMap (fk := FK3) (fv := (osF 74 R74)) (m := by_) tZ_165 (fun _=>.dat Y) fun _=>rcOs D74)<|.cons Y (roM D74)<|.cons Y (roM D3) .nil)⟩
   ·
    refine T_exit<|?_
    replace h := lx h ▸ ho4
    exact ⟨_, h, ES [some 1]⟩
  ·
   refine Tr<|Rm Y<|Ra Y<|R_nil<|?_
   obtain rfl := rt h
   exact T_ret (retq Y (.one<|.tmp Y<|View.ownM Y Y D74))
theorem ok_ref4_Rests {p : api_Piece} {r : (List api_Rest) × Int} (h : ref4_Rests p = some r) :
 CSpec Tryz.prog gl0 20 [.agg [.sl 5 (List.map R5 p.Bytes), .bool p.Half]] (.tuple [.sl 74 (List.map R74 r.1), .int .i64 r.2]) := by
 unfold ref4_Rests at h
 replace h := bnd0 h
 refine So Tryz.func20 Y fun w0 A=>Tr<|Rq Y (v_boxD (cva<|ov Y) Y tZ_68 Y)<|Ra Y<|Ra Y<|R_nil<|T_seq<|K1 1 Y<|Tr<|Rq Y (v_loadA_r (ov Y) tA68 Y Y)<|bE h fun y h_y h=>Rq Y (v_call (ok_ref4_CheckPiece h_y)<|.cons (ov Y) (.aggB Y) .nil)<|Ra Y<|R_nil<|K2 1 4 Y<|Tr<|Rm Y<|R2 v_neq Y<|R_nil<|K3 1 4 8 Y<|If h Y (fun h=>?_) fun h=>?_
 ·
  refine K1 4 Y<|Tr<|Rm Y<|Ra Y<|Ra Y<|R_nil<|?_
  obtain rfl := rt h
  exact T_ret (retq Y (.two (.tmp Y<|View.nils 74)<|rb Y))
 ·
  refine T_skip<|K1 1 Y<|Tr<|Rq Y (v_loadA_r (ov Y) tA68 Y Y)<|bE h fun y2 h_y2 h=>Rq Y (v_call (ok_ref4_Halves h_y2)<|.cons (ov Y) (.aggB Y) .nil)<|bE h fun y3 h_y3 h=>Rq Y (v_call (ok_ref4_rests h_y3)<|.cons (ov Y) (.b Y) .nil)<|bE h fun y4 h_y4 h=>Rq Y (v_call (ok_ref4_grouped h_y4)<|.cons (ov Y) (.b Y) .nil)<|Ra Y<|Ra Y<|R_nil<|?_
  obtain rfl := rt h
  exact T_ret (retq Y (.two (rb Y)<|rb Y))
theorem ok_slices_Equal_api_Rest_api_Rest {s1 : List api_Rest} {s2 : List api_Rest} {r : Bool} (h : slices_Equal_api_Rest_api_Rest s1 s2 = some r) :
 CSpec Tryz.prog gl0 21 [.sl 74 (List.map R74 s1), .sl 74 (List.map R74 s2)] (.bool r) := by
 unfold slices_Equal_api_Rest_api_Rest at h
 replace h := bnd0 h
 refine So Tryz.func21 Y fun w0 A=>Tr<|Ra Y<|R_nil<|T_seq<|K2 0 1 Y<|Tr<|Rm Y<|Rl tZ_74 tL58 Y<|Rm Y<|Rl tZ_74 tL58 Y<|R2 v_neq Y<|R_nil<|K3 0 1 10 Y<|If h Y (fun h=>?_) fun h=>?_
 ·
  refine K0<|Tr<|Ra Y<|R_nil<|?_
  obtain rfl := rt h
  exact T_ret (retq Y (.one<|rb Y))
 ·
  refine T_skip<|J0 (fun j => (.inr j)) ⟨[], []⟩ h (fun h=>?_) fun h=>?_
  ·
   refine K2 0 1 Y<|Tr<|Rm Y<|Rl tZ_74 tL58 Y<|Rm Y<|R_nil<|T_block<|?_
   obtain ⟨r1, hl1, ho1⟩ := bndL h
   refine L1 (fun i=>⟨[(0, .sl 74 (List.map R74 s1)), (1, .sl 74 (List.map R74 s2)), (12, .int .i64 (s1.length : Int)), (13, .int .i64 i)], []⟩) hl1 (ES []) fun n1 i h=>?_
   unfold slices_Equal_api_Rest_api_Rest_L1 at h
   refine Tr<|R2 v_lss Y<|R_nil<|T_seq<|If h Y (fun h=>?_) fun h=>?_
   ·
    refine T_skip<|T_seq<|T_block<|K4 0 1 12 13 Y<|Tr<|Rm Y<|Ra Y<|R_nil<|K5 0 1 5 12 13 Y<|Td md0<|D1 0 v_move Y<|D1 1 v_move Y<|bE h fun x h_x h=>Dq 2 Y (v_ixSG (ov Y) (ov Y) tL58 h_x)<|Dq 3 Y (v_loadA_r (ov Y) tA74 (at_sub<|at_all ln18) ln18)<|D1 4 v_move Y<|D1 5 v_move Y<|bE h fun x2 h_x2 h=>Dq 6 Y (v_ixSG (ov Y) (ov Y) tL58 h_x2)<|Dq 7 Y (v_loadA_r (ov Y) tA74 (at_sub<|at_all ln18) ln18)<|Dq 8 Y (v_neqX tEq74 (ov Y) (ov Y) (.aggB al19) (.aggB al19) (fkC Y<|fkA (fkV fun _ => Y)<|fkA (fkV fun _ => Y)<|fkC Y<|fkC Y<|fkC Y fkN) (fkC Y<|fkA (fkV fun _ => Y)<|fkA (fkV fun _ => Y)<|fkC Y<|fkC Y<|fkC Y fkN)<|eqC Y<|eqA (Eq.trans arL<|Eq.symm arL) (eqV fun _ _ => Y)<|eqA (Eq.trans arL<|Eq.symm arL) (eqV fun _ _ => Y)<|eqC Y<|eqC Y<|eqC Y eqN)<|Dd<|K5 0 1 12 13 24 Y<|If h Y (fun h=>?_) fun h=>?_
    ·
     refine K0<|Tr<|Ra Y<|R_nil<|?_
     replace h := lx h ▸ ho1
     obtain rfl := rt h
     exact T_ret (retq Y (.one<|rb Y))
    ·
     exact T_skip<|K4 0 1 12 13 Y<|T_reg<|R2 vadd Y<|Rm Y<|R_nil<|⟨_, h, ES []⟩
   ·
    refine T_exit<|?_
    replace h := lx h ▸ ho1
    exact ⟨_, h, ES []⟩
  ·
   replace h := elr h
   replace h := t0i h
   refine Tr<|Ra Y<|R_nil<|?_
   obtain rfl := rt h
   exact T_ret (retq Y (.one<|rb Y))
theorem ok_ref1_word {data : Int} {r : Int} (h : ref1_word data = some r) :
 CSpec Tryz.prog gl0 165 [.int .i64 data] (.int .i64 r) := by
 unfold ref1_word at h
 replace h := bnd0 h
 refine So Tryz.func165 Y fun w0 A=>Tr<|Ra Y<|R_nil<|T_seq<|K1 0 Y<|Tr<|Rm Y<|bE h fun y h_y h=>Rq Y (v_call (ok_ref1_odd h_y)<|.cons (ov Y) (.b Y) .nil)<|R_nil<|K2 0 4 Y<|If h Y (fun h=>?_) fun h=>?_
 ·
  refine K1 0 Y<|Tr<|Rm Y<|Ra Y<|R_nil<|?_
  obtain rfl := rt h
  exact T_ret (retq Y (.one<|rb Y))
 ·
  refine T_skip<|K1 0 Y<|Tr<|Rm Y<|R2 vadd Y<|Ra Y<|R_nil<|?_
  obtain rfl := rt h
  exact T_ret (retq Y (.one<|rb Y))
theorem ok_ref1_checked {f : Vector Int 64} {r : (Vector Int 64)} (h : ref1_checked f = some r) :
 CSpec Tryz.prog gl0 169 [.agg (List.map C47 f.toList)] (.agg (List.map C47 r.toList)) := by
 unfold ref1_checked at h
 replace h := bnd0 h
 refine So Tryz.func169 Y fun w0 A=>Tr<|Rx Y (w_box 0 Y (ov Y) tA49 arL)<|Rx Y (w_alloc (row := (List.map C47 (Vector.replicate 64 0).toList)) 1 Y tZ49 Y tZ_49)<|R_nil<|K2 1 2 Y<|Tr<|Rq Y (v_loadA (ov Y) Y Y Y tA49 (at_sub<|at_all arL) arL (hns := (nsM fun _ => Y)))<|bE h fun y h_y h=>Rq Y (v_call (ok_ref1_check h_y)<|.cons (ov Y) (.aggB<|arD fun _ => Y) .nil)<|Ra Y<|R_nil<|K3 1 2 3 Y<|Tr<|Rm Y<|bE h fun q h_q h=>Rq Y (v_quoG (ov Y) (ov Y) h_q)<|bE h fun y2 h_y2 h=>Rq Y (v_call (ok_ref1_word h_y2)<|.cons (ov Y) (.b Y) .nil)<|Rq Y (v_conv (ov Y) tI3 tI47 Y)<|Rm Y<|bE h fun q2 h_q2 h=>Rq Y (v_remG (ov Y) (ov Y) h_q2)<|bE h fun y3 h_y3 h=>Rq Y (v_call (ok_ref1_word h_y3)<|.cons (ov Y) (.b Y) .nil)<|Rq Y (v_conv (ov Y) tI3 tI47 Y)<|bE h fun x h_x h=>Rq Y (v_ixAG (ov Y) (ov Y) tR49 Y Y h_x)<|Rx Y (w_store (ov Y) (ov Y) (cells_scal tS47) Y Y Y (arB h_x) (cell1_all Y)<|arS h_x)<|bE h fun x2 h_x2 h=>Rq Y (v_ixAG (ov Y) (ov Y) tR49 Y Y h_x2)<|Rx Y (w_store (ov Y) (ov Y) (cells_scal tS47) Y Y Y (arB h_x2) (cell1_all Y)<|arS h_x2)<|R_nil<|K2 1 2 Y<|Tr<|Rq Y (v_loadA (ov Y) Y Y Y tA49 (at_sub<|at_all arL) arL (hns := (nsM fun _ => Y)))<|Rx Y (w_store (ov Y) (ov Y) (cells_agg tA49 arL) Y Y Y (put_le (at_all arL) arL) (cell1_all<|arC fun _ => Y)<|put_all<|Eq.trans arL<|Eq.symm arL)<|R_nil<|?_
 obtain rfl := rt h
 exact T_ret (retq Y (.one<|.agg Y Y Y Y tA49 (at_sub<|at_all arL) arL (pwB<|arD fun _ => Y) (hns := (nsM fun _ => Y))))
theorem ok_ref1_sealed {f : Vector Int 64} {r : (Vector Int 64)} (h : ref1_sealed f = some r) :
 CSpec Tryz.prog gl0 123 [.agg (List.map C47 f.toList)] (.agg (List.map C47 r.toList)) := by
 unfold ref1_sealed at h
 replace h := bnd0 h
 refine So Tryz.func123 Y fun w0 A=>Tr<|Rx Y (w_box 0 Y (ov Y) tA49 arL)<|Rx Y (w_alloc (row := (List.map C47 (Vector.replicate 64 0).toList)) 1 Y tZ49 Y tZ_49)<|R_nil<|I1 (fun f2=>⟨[(1, .ptr 0 1 0 0), (2, .ptr 1 1 0 0)], [some ⟨49, [(List.map C47 f2.toList)]⟩, some ⟨49, [(List.map C47 (Vector.replicate 64 0).toList)]⟩]⟩) h (fun h=>?_) fun f2 h=>?_
 ·
  refine K2 1 2 Y<|Tr<|Ra Y<|R_nil<|T_block<|?_
  obtain ⟨r1, hl1, ho1⟩ := bndL h
  refine L2 (fun f3 i=>⟨[(1, .ptr 0 1 0 0), (2, .ptr 1 1 0 0), (3, .int .i64 i)], [some ⟨49, [(List.map C47 f3.toList)]⟩, some ⟨49, [(List.map C47 (Vector.replicate 64 0).toList)]⟩]⟩) hl1 (ES [some 0, some 1]) fun n1 f3 i h=>?_
  unfold ref1_sealed_L1 at h
  refine T_seq<|Tr<|Rm Y<|R2 v_leq Y<|R_nil<|K4 1 2 3 5 Y<|If h Y (fun h=>?_) fun h=>?_
  ·
   exact T_skip<|T_seq<|T_block<|K3 1 2 3 Y<|T_reg<|Rm Y<|Rm Y<|bE h fun x h_x h=>Rq Y (v_ixAG (ov Y) (ov Y) tR49 Y Y h_x)<|Rq Y (v_loadS (ov Y) Y Y Y tS47<|at_get<|at_at (o := 0) (o' := (i.toNat * 1)) (at_all arL)<|at_v1 h_x)<|Rq Y (v_conv (ov Y) tI47 tI3 Y)<|bE h fun q h_q h=>Rq Y (v_remG (ov Y) (ov Y) h_q)<|bE h fun y h_y h=>Rq Y (v_call (ok_ref1_word h_y)<|.cons (ov Y) (.b Y) .nil)<|Rq Y (v_conv (ov Y) tI3 tI47 Y)<|bE h fun x2 h_x2 h=>Rq Y (v_ixAG (ov Y) (ov Y) tR49 Y Y h_x2)<|Rx Y (w_store (ov Y) (ov Y) (cells_scal tS47) Y Y Y (arB h_x2) (cell1_all Y)<|arS h_x2)<|R_nil<|K3 1 2 3 Y<|T_reg<|Rm Y<|R2 vadd Y<|Ra Y<|R_nil<|⟨_, h, ES [some 0, some 1]⟩
  ·
   refine T_exit<|?_
   replace h := lx h ▸ ho1
   exact ⟨_, h, ES [some 0, some 1]⟩
 ·
  refine Tr<|Rq Y (v_loadA (ov Y) Y Y Y tA49 (at_sub<|at_all arL) arL (hns := (nsM fun _ => Y)))<|bE h fun y2 h_y2 h=>Rq Y (v_call (ok_ref1_numberOf h_y2)<|.cons (ov Y) (.aggB<|arD fun _ => Y) .nil)<|bE h fun y3 h_y3 h=>Rq Y (v_call (ok_ref1_syncOf h_y3)<|.cons (ov Y) (.b Y) .nil)<|Rq Y (v_conv (ov Y) tI3 tI47 Y)<|bE h fun x3 h_x3 h=>Rq Y (v_ixAG (ov Y) (ov Y) tR49 Y Y h_x3)<|Rx Y (w_store (ov Y) (ov Y) (cells_scal tS47) Y Y Y (arB h_x3) (cell1_all Y)<|arS h_x3)<|R_nil<|K2 1 2 Y<|Tr<|Rq Y (v_loadA (ov Y) Y Y Y tA49 (at_sub<|at_all arL) arL (hns := (nsM fun _ => Y)))<|bE h fun y4 h_y4 h=>Rq Y (v_call (ok_ref1_sum h_y4)<|.cons (ov Y) (.aggB<|arD fun _ => Y) .nil)<|bE h fun y5 h_y5 h=>Rq Y (v_call (ok_ref1_word h_y5)<|.cons (ov Y) (.b Y) .nil)<|Rq Y (v_conv (ov Y) tI3 tI47 Y)<|bE h fun x4 h_x4 h=>Rq Y (v_ixAG (ov Y) (ov Y) tR49 Y Y h_x4)<|Rx Y (w_store (ov Y) (ov Y) (cells_scal tS47) Y Y Y (arB h_x4) (cell1_all Y)<|arS h_x4)<|R_nil<|K2 1 2 Y<|Tr<|Rq Y (v_loadA (ov Y) Y Y Y tA49 (at_sub<|at_all arL) arL (hns := (nsM fun _ => Y)))<|bE h fun y6 h_y6 h=>Rq Y (v_call (ok_ref1_checked h_y6)<|.cons (ov Y) (.aggB<|arD fun _ => Y) .nil)<|Rx Y (w_store (ov Y) (ov Y) (cells_agg tA49 arL) Y Y Y (put_le (at_all arL) arL) (cell1_all<|arC fun _ => Y)<|put_all<|Eq.trans arL<|Eq.symm arL)<|R_nil<|?_
  obtain rfl := rt h
  exact T_ret (retq Y (.one<|.agg Y Y Y Y tA49 (at_sub<|at_all arL) arL (pwB<|arD fun _ => Y) (hns := (nsM fun _ => Y))))
theorem ok_ref1_New {number : Int} {data : List Int} {r : (Vector Int 64) × Int} (h : ref1_New number data = some r) :
 CSpec Tryz.prog gl0 63 [.int .i64 number, .sl 3 (List.map R3 data)] (.tuple [.agg (List.map C47 r.1.toList), .int .i64 r.2]) := by
 unfold ref1_New at h
 replace h := bnd0 h
 refine So Tryz.func63 Y fun w0 A=>Tr<|Rx Y (w_alloc (row := (List.map C47 (Vector.replicate 64 0).toList)) 0 Y tZ49 Y tZ_49)<|Ra Y<|R_nil<|T_seq<|K3 0 1 4 Y<|Tr<|Rm Y<|R2 v_lss Y<|Rm Y<|Rq Y (.guarded ((decide (number < 0)) == false) Y Y Y Y fun h => v_move<|ov Y)<|Rq Y (.guarded ((decide (number < 0)) == false) Y Y Y Y fun h => v_geq (ow Y h)<|ov Y)<|Rq Y (v_or (ov Y) fun hp=>ow Y<|gF hp)<|R_nil<|K4 0 1 4 14 Y<|If h Y (fun h=>?_) fun h=>?_
 ·
  refine K1 4 Y<|Tr<|R_q (.agg<|List.map C47 (#v[0, 0, 0, 0, 0, 0, 0, 0, 0, 0, 0, 0, 0, 0, 0, 0, 0, 0, 0, 0, 0, 0, 0, 0, 0, 0, 0, 0, 0, 0, 0, 0, 0, 0, 0, 0, 0, 0, 0, 0, 0, 0, 0, 0, 0, 0, 0, 0, 0, 0, 0, 0, 0, 0, 0, 0, 0, 0, 0, 0, 0, 0, 0, 0] : Vector Int 64).toList) Y (v_buildA (ys := [_, _, _, _, _, _, _, _, _, _, _, _, _, _, _, _, _, _, _, _, _, _, _, _, _, _, _, _, _, _, _, _, _, _, _, _, _, _, _, _, _, _, _, _, _, _, _, _, _, _, _, _, _, _, _, _, _, _, _, _, _, _, _, _]) tR49 tZ49 .nil Y)<|Rx Y (w_store (ov Y) (ov Y) (cells_agg tA49 arL) Y Y Y (put_le (at_all arL) arL) (cell1_all<|arC fun _ => Y)<|put_all<|Eq.trans arL<|Eq.symm arL)<|Ra Y<|R_nil<|?_
  obtain rfl := rt h
  exact T_ret (retq Y (.two (.agg Y Y Y Y tA49 (at_sub<|at_all arL) arL (pwB<|arD fun _ => Y) (hns := (nsM fun _ => Y)))<|rb Y))
 ·
  refine T_skip<|T_seq<|K3 0 1 4 Y<|Tr<|Rm Y<|Rl tZ_3 tL28 Y<|R2 v_neq Y<|R_nil<|K4 0 1 4 18 Y<|If h Y (fun h=>?_) fun h=>?_
  ·
   refine K1 4 Y<|Tr<|R_q (.agg<|List.map C47 (#v[0, 0, 0, 0, 0, 0, 0, 0, 0, 0, 0, 0, 0, 0, 0, 0, 0, 0, 0, 0, 0, 0, 0, 0, 0, 0, 0, 0, 0, 0, 0, 0, 0, 0, 0, 0, 0, 0, 0, 0, 0, 0, 0, 0, 0, 0, 0, 0, 0, 0, 0, 0, 0, 0, 0, 0, 0, 0, 0, 0, 0, 0, 0, 0] : Vector Int 64).toList) Y (v_buildA (ys := [_, _, _, _, _, _, _, _, _, _, _, _, _, _, _, _, _, _, _, _, _, _, _, _, _, _, _, _, _, _, _, _, _, _, _, _, _, _, _, _, _, _, _, _, _, _, _, _, _, _, _, _, _, _, _, _, _, _, _, _, _, _, _, _]) tR49 tZ49 .nil Y)<|Rx Y (w_store (ov Y) (ov Y) (cells_agg tA49 arL) Y Y Y (put_le (at_all arL) arL) (cell1_all<|arC fun _ => Y)<|put_all<|Eq.trans arL<|Eq.symm arL)<|Ra Y<|R_nil<|?_
   obtain rfl := rt h
   exact T_ret (retq Y (.two (.agg Y Y Y Y tA49 (at_sub<|at_all arL) arL (pwB<|arD fun _ => Y) (hns := (nsM fun _ => Y)))<|rb Y))
  ·
   refine T_skip<|K3 0 1 4 Y<|Tr<|R_q (.agg<|List.map C47 (#v[0, 0, 0, 0, 0, 0, 0, 0, 0, 0, 0, 0, 0, 0, 0, 0, 0, 0, 0, 0, 0, 0, 0, 0, 0, 0, 0, 0, 0, 0, 0, 0, 0, 0, 0, 0, 0, 0, 0, 0, 0, 0, 0, 0, 0, 0, 0, 0, 0, 0, 0, 0, 0, 0, 0, 0, 0, 0, 0, 0, 0, 0, 0, 0] : Vector Int 64).toList) Y (v_buildA (ys := [_, _, _, _, _, _, _, _, _, _, _, _, _, _, _, _, _, _, _, _, _, _, _, _, _, _, _, _, _, _, _, _, _, _, _, _, _, _, _, _, _, _, _, _, _, _, _, _, _, _, _, _, _, _, _, _, _, _, _, _, _, _, _, _]) tR49 tZ49 .nil Y)<|Rx Y (w_alloc (row := (List.map C47 (Vector.replicate 64 0).toList)) 1 Y tZ49 Y tZ_49)<|Rx Y (w_store (ov Y) (ov Y) (cells_agg tA49 arL) Y Y Y (put_le (at_all arL) arL) (cell1_all<|arC fun _ => Y)<|put_all<|Eq.trans arL<|Eq.symm arL)<|R_nil<|K4 0 1 4 6 Y<|Tr<|Rm Y<|bE h fun q h_q h=>Rq Y (v_remG (ov Y) (ov Y) h_q)<|Rq Y (v_conv (ov Y) tI3 tI47 Y)<|Rm Y<|bE h fun q2 h_q2 h=>Rq Y (v_quoG (ov Y) (ov Y) h_q2)<|Rq Y (v_conv (ov Y) tI3 tI47 Y)<|bE h fun x h_x h=>Rq Y (v_ixAG (ov Y) (ov Y) tR49 Y Y h_x)<|Rx Y (w_store (ov Y) (ov Y) (cells_scal tS47) Y Y Y (arB h_x) (cell1_all Y)<|arS h_x)<|bE h fun x2 h_x2 h=>Rq Y (v_ixAG (ov Y) (ov Y) tR49 Y Y h_x2)<|Rx Y (w_store (ov Y) (ov Y) (cells_scal tS47) Y Y Y (arB h_x2) (cell1_all Y)<|arS h_x2)<|R_nil<|J1 (fun j => (.inr j)) (fun f=>⟨[(4, .ptr 0 1 0 0), (6, .ptr 1 1 0 0)], [some ⟨49, [(List.map C47 (Vector.replicate 64 0).toList)]⟩, some ⟨49, [(List.map C47 f.toList)]⟩]⟩) h (fun h=>?_) fun f h=>?_
   ·
    refine K3 1 4 6 Y<|Tr<|Rm Y<|Rl tZ_3 tL28 Y<|Rm Y<|R_nil<|T_block<|?_
    obtain ⟨r1, hl1, ho1⟩ := bndL h
    refine L2 (fun f2 i=>⟨[(4, .ptr 0 1 0 0), (6, .ptr 1 1 0 0), (29, .sl 3 (List.map R3 data)), (30, .int .i64 (data.length : Int)), (31, .int .i64 i)], [some ⟨49, [(List.map C47 (Vector.replicate 64 0).toList)]⟩, some ⟨49, [(List.map C47 f2.toList)]⟩]⟩) hl1 (ES [some 0, some 1]) fun n1 f2 i h=>?_
    unfold ref1_New_L1 at h
    refine Tr<|R2 v_lss Y<|R_nil<|T_seq<|If h Y (fun h=>?_) fun h=>?_
    ·
     refine T_skip<|T_seq<|T_block<|K5 4 6 29 30 31 Y<|Tr<|Rm Y<|bE h fun x3 h_x3 h=>Rq Y (v_ixSG (ov Y) (ov Y) tL28 h_x3)<|Rq Y (v_loadS_r (ov Y) tS3 Y)<|Ra Y<|Ra Y<|R_nil<|T_seq<|K7 4 6 7 8 29 30 31 Y<|Tr<|Rm Y<|R2 v_lss Y<|Rm Y<|Rq Y (.guarded ((decide (x3 < 0)) == false) Y Y Y Y fun h => v_move<|ov Y)<|Rq Y (.guarded ((decide (x3 < 0)) == false) Y Y Y Y fun h => v_gtr (ow Y h)<|ov Y)<|Rq Y (v_or (ov Y) fun hp=>ow Y<|gF hp)<|R_nil<|K8 4 6 7 8 29 30 31 41 Y<|If h Y (fun h=>?_) fun h=>?_
     ·
      refine K1 4 Y<|Tr<|R_q (.agg<|List.map C47 (#v[0, 0, 0, 0, 0, 0, 0, 0, 0, 0, 0, 0, 0, 0, 0, 0, 0, 0, 0, 0, 0, 0, 0, 0, 0, 0, 0, 0, 0, 0, 0, 0, 0, 0, 0, 0, 0, 0, 0, 0, 0, 0, 0, 0, 0, 0, 0, 0, 0, 0, 0, 0, 0, 0, 0, 0, 0, 0, 0, 0, 0, 0, 0, 0] : Vector Int 64).toList) Y (v_buildA (ys := [_, _, _, _, _, _, _, _, _, _, _, _, _, _, _, _, _, _, _, _, _, _, _, _, _, _, _, _, _, _, _, _, _, _, _, _, _, _, _, _, _, _, _, _, _, _, _, _, _, _, _, _, _, _, _, _, _, _, _, _, _, _, _, _]) tR49 tZ49 .nil Y)<|Rx Y (w_store (ov Y) (ov Y) (cells_agg tA49 arL) Y Y Y (put_le (at_all arL) arL) (cell1_all<|arC fun _ => Y)<|put_all<|Eq.trans arL<|Eq.symm arL)<|Ra Y<|R_nil<|?_
      replace h := lx h ▸ ho1
      obtain rfl := rt h
      exact T_ret (retq Y (.two (.agg Y Y Y Y tA49 (at_sub<|at_all arL) arL (pwB<|arD fun _ => Y) (hns := (nsM fun _ => Y)))<|rb Y))
     ·
      exact T_skip<|K7 4 6 7 8 29 30 31 Y<|T_reg<|Rm Y<|R2 vadd Y<|Rm Y<|Rq Y (v_conv (ov Y) tI3 tI47 Y)<|bE h fun x4 h_x4 h=>Rq Y (v_ixAG (ov Y) (ov Y) tR49 Y Y h_x4)<|Rx Y (w_store (ov Y) (ov Y) (cells_scal tS47) Y Y Y (arB h_x4) (cell1_all Y)<|arS h_x4)<|R_nil<|K5 4 6 29 30 31 Y<|T_reg<|R2 vadd Y<|Rm Y<|R_nil<|⟨_, h, ES [some 0, some 1]⟩
    ·
     refine T_exit<|?_
     replace h := lx h ▸ ho1
     exact ⟨_, h, ES [some 0, some 1]⟩
   ·
    replace h := elr h
    replace h := t1i h
    refine Tr<|Rq Y (v_loadA (ov Y) Y Y Y tA49 (at_sub<|at_all arL) arL (hns := (nsM fun _ => Y)))<|bE h fun y h_y h=>Rq Y (v_call (ok_ref1_sealed h_y)<|.cons (ov Y) (.aggB<|arD fun _ => Y) .nil)<|Rx Y (w_store (ov Y) (ov Y) (cells_agg tA49 arL) Y Y Y (put_le (at_all arL) arL) (cell1_all<|arC fun _ => Y)<|put_all<|Eq.trans arL<|Eq.symm arL)<|Ra Y<|R_nil<|?_
    obtain rfl := rt h
    exact T_ret (retq Y (.two (.agg Y Y Y Y tA49 (at_sub<|at_all arL) arL (pwB<|arD fun _ => Y) (hns := (nsM fun _ => Y)))<|rb Y))
theorem ok_ref1_Wide {f : Vector Int 64} {r : Bool} (h : ref1_Wide f = some r) :
 CSpec Tryz.prog gl0 124 [.agg (List.map C47 f.toList)] (.bool r) := by
 unfold ref1_Wide at h
 replace h := bnd0 h
 refine So Tryz.func124 Y fun w0 A=>Tr<|Rq Y (v_boxD (cva<|ov Y) arL tZ_49<|arD fun _ => Y)<|Ra Y<|R_nil<|J0 (fun j => (.inr j)) ⟨[], []⟩ h (fun h=>?_) fun h=>?_
 ·
  refine K1 1 Y<|Tr<|Rq Y (v_loadA_r (ov Y) tA49 (at_sub<|at_all arL) arL)<|Rm Y<|R_nil<|T_block<|?_
  obtain ⟨r1, hl1, ho1⟩ := bndL h
  refine L1 (fun i=>⟨[(5, .agg (List.map C47 f.toList)), (6, .int .i64 i)], []⟩) hl1 (ES []) fun n1 i h=>?_
  unfold ref1_Wide_L1 at h
  refine Tr<|R2 v_lss Y<|R_nil<|T_seq<|If h Y (fun h=>?_) fun h=>?_
  ·
   refine T_skip<|T_seq<|T_block<|K2 5 6 Y<|Tr<|bE h fun x h_x h=>Rq Y (v_indexVG (ov Y) (ov Y) tR49 tS47 h_x)<|Ra Y<|R_nil<|K3 4 5 6 Y<|Tr<|Rm Y<|R2 v_gtr Y<|R_nil<|K3 5 6 10 Y<|If h Y (fun h=>?_) fun h=>?_
   ·
    refine K0<|Tr<|Ra Y<|R_nil<|?_
    replace h := lx h ▸ ho1
    obtain rfl := rt h
    exact T_ret (retq Y (.one<|rb Y))
   ·
    exact T_skip<|K2 5 6 Y<|T_reg<|R2 vadd Y<|Rm Y<|R_nil<|⟨_, h, ES []⟩
  ·
   refine T_exit<|?_
   replace h := lx h ▸ ho1
   exact ⟨_, h, ES []⟩
 ·
  replace h := elr h
  replace h := t0i h
  refine Tr<|Ra Y<|R_nil<|?_
  obtain rfl := rt h
  exact T_ret (retq Y (.one<|rb Y))
theorem ok_ref1_Half {f : Vector Int 64} {n : Int} {r : Int} (h : ref1_Half f n = some r) :
 CSpec Tryz.prog gl0 170 [.agg (List.map C47 f.toList), .int .i64 n] (.int .i64 r) := by
 unfold ref1_Half at h
 replace h := bnd0 h
 refine So Tryz.func170 Y fun w0 A=>Tr<|Rq Y (v_boxD (cva<|ov Y) arL tZ_49<|arD fun _ => Y)<|Ra Y<|R_nil<|K3 1 2 4 Y<|Tr<|Rm Y<|bE h fun q h_q h=>Rq Y (v_quoG (ov Y) (ov Y) h_q)<|bE h fun x h_x h=>Rq Y (v_ixRG (ov Y) (ov Y) tR49 h_x)<|Rq Y (v_loadS_r (ov Y) tS47<|at_get<|at_at (o := 0) (o' := (q.toNat * 1)) (at_all arL)<|at_v1 h_x)<|Rq Y (v_conv (ov Y) tI47 tI3 Y)<|Rm Y<|bE h fun q2 h_q2 h=>Rq Y (v_remG (ov Y) (ov Y) h_q2)<|R2 vmul Y<|R2 vsub Y<|bE h fun q3 h_q3 h=>Rq Y (v_shrG (ov Y) (ov Y) h_q3)<|R2 v_and_ Y<|Ra Y<|R_nil<|?_
 obtain rfl := rt h
 exact T_ret (retq Y (.one<|rb Y))
theorem ok_ref1_bytes {f : Vector Int 64} {r : (List Int)} (h : ref1_bytes f = some r) :
 CSpec Tryz.prog gl0 125 [.agg (List.map C47 f.toList)] (.sl 5 (List.map R5 r)) := by
 unfold ref1_bytes at h
 replace h := bnd0 h
 refine So Tryz.func125 Y fun w0 A=>Tr<|Rq Y (v_boxD (cva<|ov Y) arL tZ_49<|arD fun _ => Y)<|Ra Y<|R_nil<|K1 1 Y<|Tr<|bE h fun l h_l h=>Rx Y (w_makeG [none] (r := 0) (f := R5) (z0 := 0) Y (ov Y) (ov Y) tL66 Y tZ5 Y Y h_l)<|Ra Y<|R_nil<|I1 (fun out=>⟨[(3, .own 0 out.length)], [some ⟨5, List.map R5 out⟩]⟩) h (fun h=>?_) fun out h=>?_
 ·
  refine K2 1 3 Y<|Tr<|Rm Y<|Rq Y (v_lenO (ov Y) Y Y tL66)<|Rm Y<|R_nil<|T_block<|?_
  obtain ⟨r1, hl1, ho1⟩ := bndL h
  refine L2 (fun out2 i=>⟨[(1, .rp (List.map C47 f.toList) 0), (3, .own 0 out2.length), (7, .int .i64 (l.length : Int)), (8, .int .i64 i)], [some ⟨5, List.map R5 out2⟩]⟩) hl1 (ES [some 0]) fun n1 out2 i h=>?_
  unfold ref1_bytes_L1 at h
  refine Tr<|R2 v_lss Y<|R_nil<|T_seq<|If h Y (fun h=>?_) fun h=>?_
  ·
   exact T_skip<|T_seq<|T_block<|K4 1 3 7 8 Y<|Tr<|Rm Y<|Ra Y<|R_nil<|K5 1 3 4 7 8 Y<|T_draw (cw := md0) (by kernel_rfl)<|D1 0 v_move Y<|D1 1 v_move Y<|Dq 2 Y (v_loadA_r (ov Y) tA49 (at_sub<|at_all arL) arL)<|D1 3 v_move Y<|D2 4 vmul Y<|bE h fun y h_y h=>Dq 5 Y (v_call (ok_ref1_Half h_y)<|.cons (ov Y) (.aggB<|arD fun _ => Y)<|.cons (ov Y) (.b Y) .nil)<|D2 6 vmul Y<|Dq 7 Y (v_loadA_r (ov Y) tA49 (at_sub<|at_all arL) arL)<|D1 8 v_move Y<|D2 9 vmul Y<|D2 10 vadd Y<|bE h fun y2 h_y2 h=>Dq 11 Y (v_call (ok_ref1_Half h_y2)<|.cons (ov Y) (.aggB<|arD fun _ => Y)<|.cons (ov Y) (.b Y) .nil)<|D2 12 vadd Y<|Dq 13 Y (v_conv (ov Y) tI3 tI5 Y)<|bE h fun x h_x h=>Dq 14 Y (v_ixOG (ov Y) (ov Y) tL66 Y Y h_x)<|Do 15 Y (w_storeR (u' := (u8 (i64 ((i64 (16 * y)) + y2)))) (ov Y) (ov Y) (cells_scal tS5) Y Y h_x Y (cell1_all Y) Y)<|Dd<|K4 1 3 7 8 Y<|T_reg<|R2 vadd Y<|Rm Y<|R_nil<|⟨_, h, ES [some 0]<|sd 1 Y Y<|sr 3 Y (ownE (Eq.symm<|(List.length_set ..).trans Y) Y)<|sd 7 Y Y<|sd 8 Y Y sn⟩
  ·
   refine T_exit<|?_
   replace h := lx h ▸ ho1
   exact ⟨_, h, ES [some 0]⟩
 ·
  refine Tr<|Rm Y<|Ra Y<|R_nil<|?_
  obtain rfl := rt h
  exact T_ret (retq Y (.one<|.tmp Y<|View.ownM Y Y D5))
theorem ok_ref1_ToBytes {f : Vector Int 64} {r : (List Int) × Int} (h : ref1_ToBytes f = some r) :
 CSpec Tryz.prog gl0 64 [.agg (List.map C47 f.toList)] (.tuple [.sl 5 (List.map R5 r.1), .int .i64 r.2]) := by
 unfold ref1_ToBytes at h
 replace h := bnd0 h
 refine So Tryz.func64 Y fun w0 A=>Tr<|Rq Y (v_boxD (cva<|ov Y) arL tZ_49<|arD fun _ => Y)<|Ra Y<|Ra Y<|R_nil<|T_seq<|K1 1 Y<|Tr<|Rq Y (v_loadA_r (ov Y) tA49 (at_sub<|at_all arL) arL)<|bE h fun y h_y h=>Rq Y (v_call (ok_ref1_Wide h_y)<|.cons (ov Y) (.aggB<|arD fun _ => Y) .nil)<|R_nil<|K2 1 5 Y<|If h Y (fun h=>?_) fun h=>?_
 ·
  refine K0<|Tr<|Ra Y<|Ra Y<|R_nil<|?_
  obtain rfl := rt h
  exact T_ret (retq Y (.two (.tmp Y<|View.nils 5)<|rb Y))
 ·
  refine T_skip<|K1 1 Y<|Tr<|Rq Y (v_loadA_r (ov Y) tA49 (at_sub<|at_all arL) arL)<|bE h fun y2 h_y2 h=>Rq Y (v_call (ok_ref1_bytes h_y2)<|.cons (ov Y) (.aggB<|arD fun _ => Y) .nil)<|Ra Y<|Ra Y<|R_nil<|?_
  obtain rfl := rt h
  exact T_ret (retq Y (.two (rb Y)<|rb Y))
theorem ok_salvage_grouped_o {l : List api_Rest} {r : (List api_Rest)} (h : salvage_grouped l = some r) :
 GSpec Tryz.prog gl0 65 [.sl 74 (List.map R74 l)] [] (.own 0 r.length) [some ⟨74, List.map R74 r⟩] := by
 unfold salvage_grouped at h
 replace h := bnd0 h
 refine gspec_of (by kernel_rfl) Tryz.func65 Y Y<|?_
 intro w0 A W φ0
 refine Tr<|Ra Y<|R_nil<|K1 0 Y<|Tr<|Rx Y (w_makeMap 0 Y tMp165)<|Ra Y<|R_nil<|K2 0 3 Y<|Tr<|Ra Y<|R_nil<|I2 (fun groups numbers=>⟨[(3, .mref 0 1), (4, .own 1 numbers.length)], [some ⟨165, [[.mcon (List.map (mrow FK3 (osF 74 R74)) groups)]]⟩, some ⟨3, List.map R3 numbers⟩]⟩) h (fun h=>?_) fun groups numbers h=>?_
 ·
  refine Tr<|Rm Y<|Rl tZ_74 tL58 Y<|Rm Y<|R_nil<|T_block<|?_
  obtain ⟨r1, hl1, ho1⟩ := bndL h
  refine L3 (fun groups2 numbers2 i=>⟨[(3, .mref 0 1), (4, .own 1 numbers2.length), (11, .sl 74 (List.map R74 l)), (12, .int .i64 (l.length : Int)), (13, .int .i64 i)], [some ⟨165, [[.mcon (List.map (mrow FK3 (osF 74 R74)) groups2)]]⟩, some ⟨3, List.map R3 numbers2⟩]⟩) hl1 (ES [some 0, none] (hhp := .cons Y (roMap (fk := FK3) (fv := (osF 74 R74)) (m := ([] : List (Int × (List api_Rest)))) tZ_165 (fun _=>.dat Y) fun _=>rcOs D74)<|.row 3 .nil)) fun n1 groups2 numbers2 i h=>?_
  unfold salvage_grouped_L1 at h
  refine Tr<|R2 v_lss Y<|R_nil<|T_seq<|If h Y (fun h=>?_) fun h=>?_
  ·
   refine T_skip<|I2 (fun groups3 numbers3=>⟨[(3, .mref 0 1), (4, .own 1 numbers3.length), (11, .sl 74 (List.map R74 l)), (12, .int .i64 (l.length : Int)), (13, .int .i64 i)], [some ⟨165, [[.mcon (List.map (mrow FK3 (osF 74 R74)) groups3)]]⟩, some ⟨3, List.map R3 numbers3⟩]⟩) h (fun h=>?_) fun groups3 numbers3 h=>?_
   ·
    refine T_block<|K5 3 4 11 12 13 Y<|Tr<|bE h fun x h_x h=>Rq Y (v_ixSG (ov Y) (ov Y) tL58 h_x)<|Rq Y (v_loadA_r (ov Y) tA74 (at_sub<|at_all ln18) ln18)<|Rx Y (w_alloc (row := (.int .i64 0) :: ((List.map C47 (Vector.replicate 64 0).toList) ++ (((List.map C3 (Vector.replicate 64 0).toList) ++ ((.bool false) :: (.int .i64 0) :: (.bool false) :: []))))) 2 Y tZ74 (by kernel_rfl)<|by exact Eq.symm (Eq.trans (b := 132) ln18 tZ_74.symm))<|Rx Y (w_store (ov Y) (ov Y) (cells_agg tA74 ln18) Y Y Y (put_le (at_all ln18) ln18) (cell1_all al20)<|put_all<|Eq.trans ln18<|Eq.symm ln18)<|R_nil<|I1 (fun numbers4=>⟨[(3, .mref 0 1), (4, .own 1 numbers4.length), (6, .ptr 2 1 0 0), (11, .sl 74 (List.map R74 l)), (12, .int .i64 (l.length : Int)), (13, .int .i64 i)], [some ⟨165, [[.mcon (List.map (mrow FK3 (osF 74 R74)) groups2)]]⟩, some ⟨3, List.map R3 numbers4⟩, some ⟨74, [(.int .i64 x.Number) :: ((List.map C47 x.Frame.toList) ++ (((List.map C3 x.States.toList) ++ ((.bool x.Sound) :: (.int .i64 x.Copies) :: (.bool x.Conflict) :: []))))]⟩]⟩) h (fun h=>?_) fun numbers4 h=>?_
    ·
     refine K6 3 4 6 11 12 13 Y<|Tr<|Rm Y<|Rq Y (v_fieldP (ov Y) Y Y tF74_0)<|Rq Y (v_loadS (ov Y) Y Y Y tS3<|at_get at8)<|bE h fun z h_z h=>?_
     rcases z with z | z
     ·
      replace h := ell h
      refine Rq Y (v_lkN (e1 := 74) (R := R74) (m := groups2) (k := x.Number) (msel_l h_z) (ov Y) (ov Y) tMp165 tKO3 Y (fun _=>.b Y)<|zero_scal tZV58 Y)<|Rq Y (v_nilN (ng := false) (ov Y) tIsl58)<|R_nil<|K7 3 4 6 11 12 13 21 Y<|T_if h Y (fun b21 h=>?_) fun b21 h=>?_
      ·
       exact K6 3 4 6 11 12 13 Y<|T_reg<|Rm Y<|Rq Y (v_fieldP (ov Y) Y Y tF74_0)<|Rq Y (v_loadS (ov Y) Y Y Y tS3<|at_get at8)<|R_q (.sl 3<|List.map R3 ([x.Number] : List Int)) Y (v_lit tL28 (.cons (cvs (ov Y)<|cell1_b Y) Y (.cons (.b Y) .nil) .nil) Y Y)<|bE h fun l2 h_l2 h=>Rx Y (w_appendG (ov Y) (slv_sl (ov Y) tZ_3) tL28 Y Y Y (fun _=>cell1_all Y) Y h_l2)<|Ra Y<|R_nil<|⟨_, h, ES [some 0, some 1, some 2] (hhp := .cons Y (roMap (fk := FK3) (fv := (osF 74 R74)) (m := groups2) tZ_165 (fun _=>.dat Y) fun _=>rcOs D74)<|.cons Y (roM D3)<|.cons Y (ro1 (by exact Eq.trans (b := 132) ln18 tZ_74.symm)<|rld al19) .nil)⟩
      ·
       exact Bool.noConfusion b21
     ·
      replace h := elr h
      refine R_ent (Ent.focusMk1 (e := 74) (R := R74) (m := groups2) (k := x.Number) (r := 0) Y tZ_165 (msel_r h_z) D74)<|Rq Y (v_lkF (e1 := 74) (R := R74) (m := groups2) (k := x.Number) (ov Y) (ov Y) tMp165 tKO3 Y (fun _=>.b Y)<|zero_scal tZV58 Y)<|bE h fun u h_u h=>Rq Y (v_nilO (ng := false) (ov Y) tIsl58 Y (List.length_map ..) h_u)<|R_ent (by exact Ent.absorbMs1 (e := 74) (R := R74) (m := groups2) (k := x.Number) (ys := z) (fk := FK3) (r := 0) (q := 3) (msel_r h_z) rfl tZ_165 rfl rfl rfl)<|R_nil<|K7 3 4 6 11 12 13 21 Y<|T_if h Y (fun b21 h=>?_) fun b21 h=>?_
      ·
       exact Bool.noConfusion b21
      ·
       exact T_skip<|⟨_, h, ES [some 0, some 1, some 2] (hhp := .cons Y (roMap (fk := FK3) (fv := (osF 74 R74)) (m := groups2) tZ_165 (fun _=>.dat Y) fun _=>rcOs D74)<|.cons Y (roM D3)<|.cons Y (ro1 (by exact Eq.trans (b := 132) ln18 tZ_74.symm)<|rld al19) .nil)⟩
    ·
     refine bE h fun z2 h_z2 h=>?_
     rcases z2 with z2 | z2
     ·
      replace h := ell h
      refine T_draw (cw := md0) (by kernel_rfl)<|D1 3 v_move Y<|Dq 4 Y (v_fieldP (ov Y) Y Y tF74_0)<|Dq 5 Y (v_loadS (ov Y) Y Y Y tS3<|at_get at8)<|Dq 6 Y (v_lkN (e1 := 74) (R := R74) (m := groups2) (k := x.Number) (msel_l h_z2) (ov Y) (ov Y) tMp165 tKO3 Y (fun _=>.b Y)<|zero_scal tZV58 Y)<|Dq 7 Y (v_loadA (ov Y) Y Y Y tA74 (at_sub<|at_all ln18) ln18 (hns := ns21))<|D_q0 8 (.sl 74<|List.map R74 ([x] : List api_Rest)) Y (by kernel_rfl) Y Y (v_lit tL58 (.cons (cva<|ov Y) ln18 (pwD al19) .nil) Y Y)<|D_free 0 _ Y (by kernel_rfl) Y Y (fun hp'=>v_move<|ov Y)<|bE h fun l3 h_l3 h=>Dw 1 9 Y (v_fieldP (ov Y) Y Y tF74_0) (w_append0G (r := 3) Y (ov Y) (slv_sl (ov Y) tZ_74) tL58 Y h_l3) ?_ ?_
      ·
       refine Dw 2 9 Y (v_loadS (ov Y) Y Y Y tS3<|at_get at8) (w_append0G (r := 3) Y (ov Y) (slv_sl (ov Y) tZ_74) tL58 Y h_l3) ?_ ?_
       ·
        exact Do 9 Y (w_append0G (r := 3) Y (ov Y) (slv_sl (ov Y) tZ_74) tL58 Y h_l3)<|Do 10 Y (w_putN (e1 := 74) (R := R74) (m := groups2) (k := x.Number) (ov Y) (ov Y) (ov Y) tMp165 tKO3 Y fun _=>.b Y)<|D_doneE (by kernel_rfl) (Ent.absorbMk1 (e := 74) (R := R74) (m := groups2) (k := x.Number) (ys := l3) (fk := FK3) (r := 0) (q := 3) Y tZ_165 Y Y Y)<|⟨_, h, ES [some 0, some 1] (hhp := .cons Y (roMap (fk := FK3) (fv := (osF 74 R74)) (m := (mput kqI groups2 x.Number l3)) tZ_165 (fun _=>.dat Y) fun _=>rcOs D74)<|.cons Y (roM D3) .nil)⟩
       ·
        exact Dq 2 Y (v_loadS (ov Y) Y Y Y tS3<|at_get at8)<|Do 10 Y (w_putN (e1 := 74) (R := R74) (m := groups2) (k := x.Number) (ov Y) (ov Y) (ov Y) tMp165 tKO3 Y fun _=>.b Y)<|D_doneE (by kernel_rfl) (Ent.absorbMk1 (e := 74) (R := R74) (m := groups2) (k := x.Number) (ys := l3) (fk := FK3) (r := 0) (q := 3) Y tZ_165 Y Y Y)<|⟨_, h, ES [some 0, some 1] (hhp := .cons Y (roMap (fk := FK3) (fv := (osF 74 R74)) (m := (mput kqI groups2 x.Number l3)) tZ_165 (fun _=>.dat Y) fun _=>rcOs D74)<|.cons Y (roM D3) .nil)⟩
      ·
       exact Dq 1 Y (v_fieldP (ov Y) Y Y tF74_0)<|Dq 2 Y (v_loadS (ov Y) Y Y Y tS3<|at_get at8)<|Do 10 Y (w_putN (e1 := 74) (R := R74) (m := groups2) (k := x.Number) (ov Y) (ov Y) (ov Y) tMp165 tKO3 Y fun _=>.b Y)<|D_doneE (by kernel_rfl) (Ent.absorbMk1 (e := 74) (R := R74) (m := groups2) (k := x.Number) (ys := l3) (fk := FK3) (r := 0) (q := 3) Y tZ_165 Y Y Y)<|⟨_, h, ES [some 0, some 1] (hhp := .cons Y (roMap (fk := FK3) (fv := (osF 74 R74)) (m := (mput kqI groups2 x.Number l3)) tZ_165 (fun _=>.dat Y) fun _=>rcOs D74)<|.cons Y (roM D3) .nil)⟩
     ·
      replace h := elr h
      refine T_ent (Ent.focusMk1 (e := 74) (R := R74) (m := groups2) (k := x.Number) (r := 0) Y tZ_165 (msel_r h_z2) D74)<|T_draw (cw := md0) (by kernel_rfl)<|D1 3 v_move Y<|Dq 4 Y (v_fieldP (ov Y) Y Y tF74_0)<|Dq 5 Y (v_loadS (ov Y) Y Y Y tS3<|at_get at8)<|Dq 6 Y (v_lkF (e1 := 74) (R := R74) (m := groups2) (k := x.Number) (ov Y) (ov Y) tMp165 tKO3 Y (fun _=>.b Y)<|zero_scal tZV58 Y)<|Dq 7 Y (v_loadA (ov Y) Y Y Y tA74 (at_sub<|at_all ln18) ln18 (hns := ns21))<|D_q0 8 (.sl 74<|List.map R74 ([x] : List api_Rest)) Y (by kernel_rfl) Y Y (v_lit tL58 (.cons (cva<|ov Y) ln18 (pwD al19) .nil) Y Y)<|D_free 0 _ Y (by kernel_rfl) Y Y (fun hp'=>v_move<|ov Y)<|bE h fun l4 h_l4 h=>Dw 1 9 Y (v_fieldP (ov Y) Y Y tF74_0) (w_appendG (ov Y) (slv_sl (ov Y) tZ_74) tL58 Y Y Y (fun x=>cell1_all<|E74 x) Y h_l4) ?_ ?_
      ·
       refine Dw 2 9 Y (v_loadS (ov Y) Y Y Y tS3<|at_get at8) (w_appendG (ov Y) (slv_sl (ov Y) tZ_74) tL58 Y Y Y (fun x=>cell1_all<|E74 x) Y h_l4) ?_ ?_
       ·
        exact Do 9 Y (w_appendG (ov Y) (slv_sl (ov Y) tZ_74) tL58 Y Y Y (fun x=>cell1_all<|E74 x) Y h_l4)<|Do 10 Y (w_putF (e1 := 74) (R := R74) (m := groups2) (k := x.Number) (ov Y) (ov Y) (ov Y) tMp165 tKO3 Y fun _=>.b Y)<|D_doneE (by kernel_rfl) (Ent.absorbMk1 (e := 74) (R := R74) (m := groups2) (k := x.Number) (ys := l4) (fk := FK3) (r := 0) (q := 3) Y tZ_165 Y Y Y)<|⟨_, h, ES [some 0, some 1] (hhp := .cons Y (roMap (fk := FK3) (fv := (osF 74 R74)) (m := (mput kqI groups2 x.Number l4)) tZ_165 (fun _=>.dat Y) fun _=>rcOs D74)<|.cons Y (roM D3) .nil)⟩
       ·
        exact Dq 2 Y (v_loadS (ov Y) Y Y Y tS3<|at_get at8)<|Do 10 Y (w_putF (e1 := 74) (R := R74) (m := groups2) (k := x.Number) (ov Y) (ov Y) (ov Y) tMp165 tKO3 Y fun _=>.b Y)<|D_doneE (by kernel_rfl) (Ent.absorbMk1 (e := 74) (R := R74) (m := groups2) (k := x.Number) (ys := l4) (fk := FK3) (r := 0) (q := 3) Y tZ_165 Y Y Y)<|⟨_, h, ES [some 0, some 1] (hhp := .cons Y (roMap (fk := FK3) (fv := (osF 74 R74)) (m := (mput kqI groups2 x.Number l4)) tZ_165 (fun _=>.dat Y) fun _=>rcOs D74)<|.cons Y (roM D3) .nil)⟩
      ·
       exact Dq 1 Y (v_fieldP (ov Y) Y Y tF74_0)<|Dq 2 Y (v_loadS (ov Y) Y Y Y tS3<|at_get at8)<|Do 10 Y (w_putF (e1 := 74) (R := R74) (m := groups2) (k := x.Number) (ov Y) (ov Y) (ov Y) tMp165 tKO3 Y fun _=>.b Y)<|D_doneE (by kernel_rfl) (Ent.absorbMk1 (e := 74) (R := R74) (m := groups2) (k := x.Number) (ys := l4) (fk := FK3) (r := 0) (q := 3) Y tZ_165 Y Y Y)<|⟨_, h, ES [some 0, some 1] (hhp := .cons Y (roMap (fk := FK3) (fv := (osF 74 R74)) (m := (mput kqI groups2 x.Number l4)) tZ_165 (fun _=>.dat Y) fun _=>rcOs D74)<|.cons Y (roM D3) .nil)⟩
   ·
    exact T_reg<|R2 vadd Y<|Rm Y<|R_nil<|⟨_, h, ES [some 0, some 1] (hhp := .cons Y (roMap (fk := FK3) (fv := (osF 74 R74)) (m := groups3) tZ_165 (fun _=>.dat Y) fun _=>rcOs D74)<|.cons Y (roM D3) .nil)⟩
  ·
   refine T_exit<|?_
   replace h := lx h ▸ ho1
   exact ⟨_, h, ES [some 0, some 1] (hhp := .cons Y (roMap (fk := FK3) (fv := (osF 74 R74)) (m := groups2) tZ_165 (fun _=>.dat Y) fun _=>rcOs D74)<|.cons Y (roM D3) .nil)⟩
 ·
  refine Tr<|Rm Y<|bE h fun y h_y h=>Rx Y (w_callG [1] (ok_sortJL h_y) (.cons (ov Y) (.own _ Y) .nil) (.cons Y (roM D3) .nil) Y (.keep Y Y<|.lent 0 (.inl Y) Y (roM D3) .nil) Y Y<|rTup<|rld Y)<|R_nil<|K2 3 4 Y<|Tr<|Ra Y<|R_nil<|I1 (fun out=>⟨[(7, .own 0 out.length)], [some ⟨74, List.map R74 out⟩]⟩) h (fun h=>?_) fun out h=>?_
  ·
   refine Tr<|Rm Y<|Rq Y (v_lenO (ov Y) Y (ln_sortJ h_y) tL28)<|Rm Y<|R_nil<|T_block<|?_
   obtain ⟨r2, hl2, ho2⟩ := bndL h
   refine L2 (fun out2 i2=>⟨[(3, .mref 0 1), (7, .own 1 out2.length), (40, .own 2 y.length), (41, .int .i64 (y.length : Int)), (42, .int .i64 i2)], [some ⟨165, [[.mcon (List.map (mrow FK3 (osF 74 R74)) groups)]]⟩, some ⟨74, List.map R74 out2⟩, some ⟨3, List.map R3 y⟩]⟩) hl2 (Ent.sel [some 0, none, some 1] (sr 3 Y (.mref _ Y)<|sr 7 Y (.row Y)<|sr 40 Y (ownE (Eq.symm<|ln_sortJ h_y) Y)<|sd 41 Y Y<|sd 42 Y Y sn) (.cons Y (roMap (fk := FK3) (fv := (osF 74 R74)) (m := groups) tZ_165 (fun _=>.dat Y) fun _=>rcOs D74)<|.row 74<|.cons Y (roM D3) .nil) Y Y) fun n2 out2 i2 h=>?_
   unfold salvage_grouped_L2 at h
   refine Tr<|R2 v_lss Y<|R_nil<|T_seq<|If h Y (fun h=>?_) fun h=>?_
   ·
    refine T_skip<|T_seq<|T_block<|K5 3 7 40 41 42 Y<|Tr<|bE h fun x2 h_x2 h=>Rq Y (v_ixOG (ov Y) (ov Y) tL28 Y Y h_x2)<|Rq Y (v_loadSR (ov Y) Y Y h_x2 tS3 Y)<|Ra Y<|R_nil<|K6 3 7 9 40 41 42 Y<|T_reg<|Rm Y<|Rm Y<|Rm Y<|bE h fun z3 h_z3 h=>?_
    rcases z3 with z3 | z3
    ·
     replace h := ell h
     exact Rq Y (v_lkN (e1 := 74) (R := R74) (m := groups) (k := x2) (msel_l h_z3) (ov Y) (ov Y) tMp165 tKO3 Y (fun _=>.b Y)<|zero_scal tZV58 Y)<|bE h fun y2 h_y2 h=>Rq Y (v_call (ok_salvage_merge h_y2)<|.cons (ov Y) (Dat.nils _) .nil)<|R_q (.sl 74<|List.map R74 ([y2] : List api_Rest)) Y (v_lit tL58 (.cons (cva<|ov Y) ln18 (pwD al19) .nil) Y Y)<|bE h fun l5 h_l5 h=>Rx Y (w_appendG (ov Y) (slv_sl (ov Y) tZ_74) tL58 Y Y Y (fun x=>cell1_all<|E74 x) Y h_l5)<|Ra Y<|R_nil<|K5 3 7 40 41 42 Y<|T_reg<|R2 vadd Y<|Rm Y<|R_nil<|⟨_, h, ES [some 0, some 1, some 2] (hhp := .cons Y (roMap (fk := FK3) (fv := (osF 74 R74)) (m := groups) tZ_165 (fun _=>.dat Y) fun _=>rcOs D74)<|.cons Y (roM D74)<|.cons Y (roM D3) .nil)⟩
    ·
     replace h := elr h
     exact R_ent (Ent.focusMk1 (e := 74) (R := R74) (m := groups) (k := x2) (r := 0) Y tZ_165 (msel_r h_z3) D74)<|Rq Y (v_lkF (e1 := 74) (R := R74) (m := groups) (k := x2) (ov Y) (ov Y) tMp165 tKO3 Y (fun _=>.b Y)<|zero_scal tZV58 Y)<|bE h fun y3 h_y3 h=>Rq Y (v_callB (ok_salvage_merge h_y3) (.agg<|faC .int<|faA (faV fun _ => .int)<|faA (faV fun _ => .int)<|faC .bool<|faC .int<|faC .bool faN)<|.cons (ov Y) (View.ownM Y Y D74) .nil)<|R_q (.sl 74<|List.map R74 ([y3] : List api_Rest)) Y (v_lit tL58 (.cons (cva<|ov Y) ln18 (pwD al19) .nil) Y Y)<|bE h fun l6 h_l6 h=>Rx Y (w_appendG (ov Y) (slv_sl (ov Y) tZ_74) tL58 Y Y Y (fun x=>cell1_all<|E74 x) Y h_l6)<|Ra Y<|R_ent (by exact Ent.absorbMs1 (e := 74) (R := R74) (m := groups) (k := x2) (ys := z3) (fk := FK3) (r := 0) (q := 3) (msel_r h_z3) rfl tZ_165 rfl rfl rfl)<|R_nil<|K5 3 7 40 41 42 Y<|T_reg<|R2 vadd Y<|Rm Y<|R_nil<|⟨_, h, ES [some 0, some 1, some 2] (hhp := .cons Y (roMap (fk := FK3) (fv := (osF 74 R74)) (m := groups) tZ_165 (fun _=>.dat Y) fun _=>rcOs D74)<|.cons Y (roM D74)<|.cons Y (roM D3) .nil)⟩
   ·
    refine T_exit<|?_
    replace h := lx h ▸ ho2
    exact ⟨_, h, ES [some 1]⟩
  ·
   refine Tr<|Rm Y<|Ra Y<|R_nil<|?_
   obtain rfl := rt h
   exact T_ret<|retg [some 0] Y (.cons (.tmp Y) .nil) (.cons Y (roM D74) .nil) Y Y<|.own _ Y
theorem ok_frame_word {data : Int} {r : Int} (h : frame_word data = some r) :
 CSpec Tryz.prog gl0 71 [.int .i64 data] (.int .u16 r) := by
 unfold frame_word at h
 replace h := bnd0 h
 refine So Tryz.func71 Y fun w0 A=>Tr<|Ra Y<|R_nil<|K1 0 Y<|Tr<|Rm Y<|Rq Y (v_conv (ov Y) tI3 tI47 Y)<|Ra Y<|R_nil<|T_seq<|K1 3 Y<|Tr<|Rm Y<|bE h fun y h_y h=>Rq Y (v_call (ok_frame_odd h_y)<|.cons (ov Y) (.b Y) .nil)<|R1 v_not Y<|R_nil<|K2 3 8 Y<|If h Y (fun h=>?_) fun h=>?_
 ·
  refine K1 3 Y<|T_reg<|Rm Y<|R2 v_or_ Y<|Ra Y<|R_nil<|K1 3 Y<|Tr<|Rm Y<|Ra Y<|R_nil<|?_
  obtain rfl := rt h
  exact T_ret (retq Y (.one<|rb Y))
 ·
  refine T_skip<|K1 3 Y<|Tr<|Rm Y<|Ra Y<|R_nil<|?_
  obtain rfl := rt h
  exact T_ret (retq Y (.one<|rb Y))
theorem ok_frame_replaced {f : Vector Int 64} {i : Int} {r : (Vector Int 64)} (h : frame_replaced f i = some r) :
 CSpec Tryz.prog gl0 178 [.agg (List.map C47 f.toList), .int .i64 i] (.agg (List.map C47 r.toList)) := by
 unfold frame_replaced at h
 replace h := bnd0 h
 refine So Tryz.func178 Y fun w0 A=>Tr<|Rx Y (w_box 0 Y (ov Y) tA49 arL)<|Rx Y (w_alloc (row := (List.map C47 (Vector.replicate 64 0).toList)) 1 Y tZ49 Y tZ_49)<|R_nil<|I1 (fun f2=>⟨[(2, .ptr 0 1 0 0), (4, .ptr 1 1 0 0)], [some ⟨49, [(List.map C47 f2.toList)]⟩, some ⟨49, [(List.map C47 (Vector.replicate 64 0).toList)]⟩]⟩) h (fun h=>?_) fun f2 h=>?_
 ·
  refine K3 1 2 4 Y<|Tr<|Rm Y<|R_nil<|T_block<|Tr<|R2 v_eql Y<|Ra Y<|R_nil<|K5 1 2 4 5 19 Y<|If h Y (fun h=>?_) fun h=>?_
  ·
   exact K2 2 4 Y<|T_reg<|bE h fun y h_y h=>Rq Y (v_callB (ok_frame_numberOf h_y) .int<|.cons (ov Y) (View.ptr Y Y Y (pwB<|arD fun _ => Y) (hns := (nsM fun _ => Y))) .nil)<|bE h fun q h_q h=>Rq Y (v_remG (ov Y) (ov Y) h_q)<|bE h fun x h_x h=>Rq Y (v_ixRG (og (v := gv_frame_syncs) (k := .u16) (f := C47) (by simp [gl0]) fun _=>Y) (ov Y) tR187 h_x)<|Rq Y (v_loadS_r (ov Y) tS47<|at_get<|at_at (o := 0) (o' := (q.toNat * 1)) (at_all arL)<|at_v1 h_x)<|bE h fun x2 h_x2 h=>Rq Y (v_ixAG (ov Y) (ov Y) tR49 Y Y h_x2)<|Rx Y (w_store (ov Y) (ov Y) (cells_scal tS47) Y Y Y (arB h_x2) (cell1_all Y)<|arS h_x2)<|R_nil<|⟨_, h, ES [some 0, some 1]⟩
  ·
   refine K4 1 2 4 5 Y<|Tr<|R2 v_eql Y<|Ra Y<|R_nil<|K5 1 2 4 5 26 Y<|If h Y (fun h=>?_) fun h=>?_
   ·
    exact K3 1 2 4 Y<|T_reg<|Rm Y<|bE h fun y2 h_y2 h=>Rq Y (v_callB (ok_frame_sumOf h_y2) .int<|.cons (ov Y) (View.ptr Y Y Y (pwB<|arD fun _ => Y) (hns := (nsM fun _ => Y))) .nil)<|bE h fun y3 h_y3 h=>Rq Y (v_call (ok_frame_word h_y3)<|.cons (ov Y) (.b Y) .nil)<|bE h fun x3 h_x3 h=>Rq Y (v_ixAG (ov Y) (ov Y) tR49 Y Y h_x3)<|Rx Y (w_store (ov Y) (ov Y) (cells_scal tS47) Y Y Y (arB h_x3) (cell1_all Y)<|arS h_x3)<|R_nil<|⟨_, h, ES [some 0, some 1]⟩
   ·
    refine K4 1 2 4 5 Y<|Tr<|R2 v_eql Y<|Ra Y<|R_nil<|K5 1 2 4 5 32 Y<|If h Y (fun h=>?_) fun h=>?_
    ·
     exact K3 1 2 4 Y<|T_reg<|Rm Y<|bE h fun y4 h_y4 h=>Rq Y (v_callB (ok_frame_checkOf h_y4) .int<|.cons (ov Y) (View.ptr Y Y Y (pwB<|arD fun _ => Y) (hns := (nsM fun _ => Y))) .nil)<|bE h fun q2 h_q2 h=>Rq Y (v_shrG (ov Y) (ov Y) h_q2)<|bE h fun y5 h_y5 h=>Rq Y (v_call (ok_frame_word h_y5)<|.cons (ov Y) (.b Y) .nil)<|bE h fun x4 h_x4 h=>Rq Y (v_ixAG (ov Y) (ov Y) tR49 Y Y h_x4)<|Rx Y (w_store (ov Y) (ov Y) (cells_scal tS47) Y Y Y (arB h_x4) (cell1_all Y)<|arS h_x4)<|R_nil<|⟨_, h, ES [some 0, some 1]⟩
    ·
     refine K4 1 2 4 5 Y<|Tr<|R2 v_eql Y<|Ra Y<|R_nil<|K4 1 2 4 39 Y<|If h Y (fun h=>?_) fun h=>?_
     ·
      exact K3 1 2 4 Y<|T_reg<|Rm Y<|bE h fun y6 h_y6 h=>Rq Y (v_callB (ok_frame_checkOf h_y6) .int<|.cons (ov Y) (View.ptr Y Y Y (pwB<|arD fun _ => Y) (hns := (nsM fun _ => Y))) .nil)<|R2 v_and_ Y<|bE h fun y7 h_y7 h=>Rq Y (v_call (ok_frame_word h_y7)<|.cons (ov Y) (.b Y) .nil)<|bE h fun x5 h_x5 h=>Rq Y (v_ixAG (ov Y) (ov Y) tR49 Y Y h_x5)<|Rx Y (w_store (ov Y) (ov Y) (cells_scal tS47) Y Y Y (arB h_x5) (cell1_all Y)<|arS h_x5)<|R_nil<|⟨_, h, ES [some 0, some 1]⟩
     ·
      exact K3 1 2 4 Y<|T_draw (cw := md0) (by kernel_rfl)<|D1 0 v_move Y<|bE h fun y8 h_y8 h=>Dq 1 Y (v_callB (ok_frame_sumOf h_y8) .int<|.cons (ov Y) (View.ptr Y Y Y (pwB<|arD fun _ => Y) (hns := (nsM fun _ => Y))) .nil)<|D1 2 v_move Y<|bE h fun x6 h_x6 h=>Dq 3 Y (v_ixAG (ov Y) (ov Y) tR49 Y Y h_x6)<|Dq 4 Y (v_loadS (ov Y) Y Y Y tS47<|at_get<|at_at (o := 0) (o' := (i.toNat * 1)) (at_all arL)<|at_v1 h_x6)<|bE h fun y9 h_y9 h=>Dq 5 Y (v_call (ok_frame_data h_y9)<|.cons (ov Y) (.b Y) .nil)<|D2 6 v_xor_ Y<|bE h fun x7 h_x7 h=>Dq 7 Y (v_ixAG (ov Y) (ov Y) tR49 Y Y h_x7)<|Dq 8 Y (v_loadS (ov Y) Y Y Y tS47<|at_get<|at_at (o := 0) (o' := ((Int.toNat 61) * 1)) (at_all arL)<|at_v1 h_x7)<|bE h fun y10 h_y10 h=>Dq 9 Y (v_call (ok_frame_data h_y10)<|.cons (ov Y) (.b Y) .nil)<|D2 10 v_xor_ Y<|bE h fun y11 h_y11 h=>Dq 11 Y (v_call (ok_frame_word h_y11)<|.cons (ov Y) (.b Y) .nil)<|bE h fun x8 h_x8 h=>Dq 12 Y (v_ixAG (ov Y) (ov Y) tR49 Y Y h_x8)<|Do 13 Y (w_store (ov Y) (ov Y) (cells_scal tS47) Y Y Y (arB h_x8) (cell1_all Y)<|arS h_x8)<|Dd<|⟨_, h, ES [some 0, some 1]⟩
 ·
  refine Tr<|Rq Y (v_loadA (ov Y) Y Y Y tA49 (at_sub<|at_all arL) arL (hns := (nsM fun _ => Y)))<|Rx Y (w_store (ov Y) (ov Y) (cells_agg tA49 arL) Y Y Y (put_le (at_all arL) arL) (cell1_all<|arC fun _ => Y)<|put_all<|Eq.trans arL<|Eq.symm arL)<|R_nil<|?_
  obtain rfl := rt h
  exact T_ret (retq Y (.one<|.agg Y Y Y Y tA49 (at_sub<|at_all arL) arL (pwB<|arD fun _ => Y) (hns := (nsM fun _ => Y))))
theorem ok_frame_Replaced {f : Vector Int 64} {i : Int} {r : (Vector Int 64) × Bool} (h : frame_Replaced f i = some r) :
 CSpec Tryz.prog gl0 128 [.agg (List.map C47 f.toList), .int .i64 i] (.tuple [.agg (List.map C47 r.1.toList), .bool r.2]) := by
 unfold frame_Replaced at h
 replace h := bnd0 h
 refine So Tryz.func128 Y fun w0 A=>Tr<|Rx Y (w_box 0 Y (ov Y) tA49 arL)<|Rx Y (w_alloc (row := (List.map C47 (Vector.replicate 64 0).toList)) 1 Y tZ49 Y tZ_49)<|Ra Y<|R_nil<|T_seq<|K3 1 2 4 Y<|Tr<|Rm Y<|R2 v_lss Y<|Rm Y<|Rq Y (.guarded ((decide (i < 0)) == false) Y Y Y Y fun h => v_move<|ov Y)<|Rq Y (.guarded ((decide (i < 0)) == false) Y Y Y Y fun h => v_geq (ow Y h)<|ov Y)<|Rq Y (v_or (ov Y) fun hp=>ow Y<|gF hp)<|R_nil<|K4 1 2 4 12 Y<|If h Y (fun h=>?_) fun h=>?_
 ·
  refine K1 4 Y<|Tr<|R_q (.agg<|List.map C47 (#v[0, 0, 0, 0, 0, 0, 0, 0, 0, 0, 0, 0, 0, 0, 0, 0, 0, 0, 0, 0, 0, 0, 0, 0, 0, 0, 0, 0, 0, 0, 0, 0, 0, 0, 0, 0, 0, 0, 0, 0, 0, 0, 0, 0, 0, 0, 0, 0, 0, 0, 0, 0, 0, 0, 0, 0, 0, 0, 0, 0, 0, 0, 0, 0] : Vector Int 64).toList) Y (v_buildA (ys := [_, _, _, _, _, _, _, _, _, _, _, _, _, _, _, _, _, _, _, _, _, _, _, _, _, _, _, _, _, _, _, _, _, _, _, _, _, _, _, _, _, _, _, _, _, _, _, _, _, _, _, _, _, _, _, _, _, _, _, _, _, _, _, _]) tR49 tZ49 .nil Y)<|Rx Y (w_store (ov Y) (ov Y) (cells_agg tA49 arL) Y Y Y (put_le (at_all arL) arL) (cell1_all<|arC fun _ => Y)<|put_all<|Eq.trans arL<|Eq.symm arL)<|Ra Y<|R_nil<|?_
  obtain rfl := rt h
  exact T_ret (retq Y (.two (.agg Y Y Y Y tA49 (at_sub<|at_all arL) arL (pwB<|arD fun _ => Y) (hns := (nsM fun _ => Y)))<|rb Y))
 ·
  refine T_skip<|K3 1 2 4 Y<|Tr<|Rm Y<|bE h fun x h_x h=>Rq Y (v_ixAG (ov Y) (ov Y) tR49 Y Y h_x)<|Rx Y (w_store (ov Y) (ov Y) (cells_scal tS47) Y Y Y (arB h_x) (cell1_all Y)<|arS h_x)<|R_nil<|T_seq<|K3 1 2 4 Y<|Tr<|bE h fun y h_y h=>Rq Y (v_callB (ok_frame_wide h_y) .bool<|.cons (ov Y) (View.ptr Y Y Y (pwB<|arD fun _ => Y) (hns := (nsM fun _ => Y))) .nil)<|R_nil<|If h Y (fun h=>?_) fun h=>?_
  ·
   refine K1 4 Y<|Tr<|R_q (.agg<|List.map C47 (#v[0, 0, 0, 0, 0, 0, 0, 0, 0, 0, 0, 0, 0, 0, 0, 0, 0, 0, 0, 0, 0, 0, 0, 0, 0, 0, 0, 0, 0, 0, 0, 0, 0, 0, 0, 0, 0, 0, 0, 0, 0, 0, 0, 0, 0, 0, 0, 0, 0, 0, 0, 0, 0, 0, 0, 0, 0, 0, 0, 0, 0, 0, 0, 0] : Vector Int 64).toList) Y (v_buildA (ys := [_, _, _, _, _, _, _, _, _, _, _, _, _, _, _, _, _, _, _, _, _, _, _, _, _, _, _, _, _, _, _, _, _, _, _, _, _, _, _, _, _, _, _, _, _, _, _, _, _, _, _, _, _, _, _, _, _, _, _, _, _, _, _, _]) tR49 tZ49 .nil Y)<|Rx Y (w_store (ov Y) (ov Y) (cells_agg tA49 arL) Y Y Y (put_le (at_all arL) arL) (cell1_all<|arC fun _ => Y)<|put_all<|Eq.trans arL<|Eq.symm arL)<|Ra Y<|R_nil<|?_
   obtain rfl := rt h
   exact T_ret (retq Y (.two (.agg Y Y Y Y tA49 (at_sub<|at_all arL) arL (pwB<|arD fun _ => Y) (hns := (nsM fun _ => Y)))<|rb Y))
  ·
   refine T_skip<|K3 1 2 4 Y<|Tr<|Rq Y (v_loadA (ov Y) Y Y Y tA49 (at_sub<|at_all arL) arL (hns := (nsM fun _ => Y)))<|Rm Y<|bE h fun y2 h_y2 h=>Rq Y (v_call (ok_frame_replaced h_y2)<|.cons (ov Y) (.aggB<|arD fun _ => Y)<|.cons (ov Y) (.b Y) .nil)<|Rx Y (w_alloc (row := (List.map C47 (Vector.replicate 64 0).toList)) 2 Y tZ49 Y tZ_49)<|Rx Y (w_store (ov Y) (ov Y) (cells_agg tA49 arL) Y Y Y (put_le (at_all arL) arL) (cell1_all<|arC fun _ => Y)<|put_all<|Eq.trans arL<|Eq.symm arL)<|R_nil<|T_seq<|K2 4 6 Y<|Tr<|bE h fun y3 h_y3 h=>Rq Y (v_callB (ok_frame_sound h_y3) .bool<|.cons (ov Y) (View.ptr Y Y Y (pwB<|arD fun _ => Y) (hns := (nsM fun _ => Y))) .nil)<|R1 v_not Y<|R_nil<|K3 4 6 22 Y<|If h Y (fun h=>?_) fun h=>?_
   ·
    refine K1 4 Y<|Tr<|R_q (.agg<|List.map C47 (#v[0, 0, 0, 0, 0, 0, 0, 0, 0, 0, 0, 0, 0, 0, 0, 0, 0, 0, 0, 0, 0, 0, 0, 0, 0, 0, 0, 0, 0, 0, 0, 0, 0, 0, 0, 0, 0, 0, 0, 0, 0, 0, 0, 0, 0, 0, 0, 0, 0, 0, 0, 0, 0, 0, 0, 0, 0, 0, 0, 0, 0, 0, 0, 0] : Vector Int 64).toList) Y (v_buildA (ys := [_, _, _, _, _, _, _, _, _, _, _, _, _, _, _, _, _, _, _, _, _, _, _, _, _, _, _, _, _, _, _, _, _, _, _, _, _, _, _, _, _, _, _, _, _, _, _, _, _, _, _, _, _, _, _, _, _, _, _, _, _, _, _, _]) tR49 tZ49 .nil Y)<|Rx Y (w_store (ov Y) (ov Y) (cells_agg tA49 arL) Y Y Y (put_le (at_all arL) arL) (cell1_all<|arC fun _ => Y)<|put_all<|Eq.trans arL<|Eq.symm arL)<|Ra Y<|R_nil<|?_
    obtain rfl := rt h
    exact T_ret (retq Y (.two (.agg Y Y Y Y tA49 (at_sub<|at_all arL) arL (pwB<|arD fun _ => Y) (hns := (nsM fun _ => Y)))<|rb Y))
   ·
    refine T_skip<|K2 4 6 Y<|Tr<|Rq Y (v_loadA (ov Y) Y Y Y tA49 (at_sub<|at_all arL) arL (hns := (nsM fun _ => Y)))<|Rx Y (w_store (ov Y) (ov Y) (cells_agg tA49 arL) Y Y Y (put_le (at_all arL) arL) (cell1_all<|arC fun _ => Y)<|put_all<|Eq.trans arL<|Eq.symm arL)<|Ra Y<|R_nil<|?_
    obtain rfl := rt h
    exact T_ret (retq Y (.two (.agg Y Y Y Y tA49 (at_sub<|at_all arL) arL (pwB<|arD fun _ => Y) (hns := (nsM fun _ => Y)))<|rb Y))
theorem ok_salvage_mended {r_ : api_Rest} {r : api_Rest} (h : salvage_mended r_ = some r) :
 CSpec Tryz.prog gl0 66 [.agg ((.int .i64 r_.Number) :: ((List.map C47 r_.Frame.toList) ++ (((List.map C3 r_.States.toList) ++ ((.bool r_.Sound) :: (.int .i64 r_.Copies) :: (.bool r_.Conflict) :: [])))))] (.agg ((.int .i64 r.Number) :: ((List.map C47 r.Frame.toList) ++ (((List.map C3 r.States.toList) ++ ((.bool r.Sound) :: (.int .i64 r.Copies) :: (.bool r.Conflict) :: [])))))) := by
 unfold salvage_mended at h
 replace h := bnd0 h
 refine So Tryz.func66 Y fun w0 A=>Tr<|Rx Y (w_box 0 Y (ov Y) tA74 ln18)<|Rx Y (w_alloc (row := (.int .i64 0) :: ((List.map C47 (Vector.replicate 64 0).toList) ++ (((List.map C3 (Vector.replicate 64 0).toList) ++ ((.bool false) :: (.int .i64 0) :: (.bool false) :: []))))) 1 Y tZ74 (by kernel_rfl)<|by exact Eq.symm (Eq.trans (b := 132) ln18 tZ_74.symm))<|R_nil<|T_seq<|K2 1 2 Y<|Tr<|Rq Y (v_fieldP (ov Y) Y Y tF74_3)<|Rq Y (v_loadS (ov Y) Y Y Y tS4<|at_get at14)<|Rm Y<|Rq Y (.guarded (r_.Sound == false) Y Y Y Y fun h => v_fieldP (ov Y) Y Y tF74_5)<|Rq Y (.guarded (r_.Sound == false) Y Y Y Y fun h => v_loadS (ow Y h) Y Y Y tS4<|at_get at22)<|Rq Y (v_or (ov Y) fun hp=>ow Y<|gF hp)<|R_nil<|K3 1 2 14 Y<|If h Y (fun h=>?_) fun h=>?_
 ·
  refine K2 1 2 Y<|Tr<|Rq Y (v_loadA (ov Y) Y Y Y tA74 (at_sub<|at_all ln18) ln18 (hns := ns21))<|Rx Y (w_store (ov Y) (ov Y) (cells_agg tA74 ln18) Y Y Y (put_le (at_all ln18) ln18) (cell1_all al20)<|put_all<|Eq.trans ln18<|Eq.symm ln18)<|R_nil<|?_
  obtain rfl := rt h
  exact T_ret (retq Y (.one<|.agg Y Y Y Y tA74 (at_sub<|at_all ln18) ln18 (pwB al19) (hns := ns21)))
 ·
  refine T_skip<|K2 1 2 Y<|Tr<|Ra Y<|Ra Y<|R_nil<|I2 (fun lost place=>⟨[(1, .ptr 0 1 0 0), (2, .ptr 1 1 0 0), (3, .int .i64 lost), (4, .int .i64 place)], [some ⟨74, [(.int .i64 r_.Number) :: ((List.map C47 r_.Frame.toList) ++ (((List.map C3 r_.States.toList) ++ ((.bool r_.Sound) :: (.int .i64 r_.Copies) :: (.bool r_.Conflict) :: []))))]⟩, some ⟨74, [(.int .i64 0) :: ((List.map C47 (Vector.replicate 64 0).toList) ++ (((List.map C3 (Vector.replicate 64 0).toList) ++ ((.bool false) :: (.int .i64 0) :: (.bool false) :: []))))]⟩]⟩) h (fun h=>?_) fun lost place h=>?_
  ·
   refine Tr<|Rq Y (v_fieldP (ov Y) Y Y tF74_2)<|Rq Y (v_loadA (ov Y) Y Y Y tA72 (at_sub at12) arL (hns := (nsM fun _ => Y)))<|Rm Y<|R_nil<|T_block<|?_
   obtain ⟨r1, hl1, ho1⟩ := bndL h
   refine L3 (fun lost2 place2 i=>⟨[(1, .ptr 0 1 0 0), (2, .ptr 1 1 0 0), (3, .int .i64 lost2), (4, .int .i64 place2), (17, .agg (List.map C3 r_.States.toList)), (18, .int .i64 i)], [some ⟨74, [(.int .i64 r_.Number) :: ((List.map C47 r_.Frame.toList) ++ (((List.map C3 r_.States.toList) ++ ((.bool r_.Sound) :: (.int .i64 r_.Copies) :: (.bool r_.Conflict) :: []))))]⟩, some ⟨74, [(.int .i64 0) :: ((List.map C47 (Vector.replicate 64 0).toList) ++ (((List.map C3 (Vector.replicate 64 0).toList) ++ ((.bool false) :: (.int .i64 0) :: (.bool false) :: []))))]⟩]⟩) hl1 (ES [some 0, some 1]) fun n1 lost2 place2 i h=>?_
   unfold salvage_mended_L1 at h
   refine Tr<|R2 v_lss Y<|R_nil<|T_seq<|If h Y (fun h=>?_) fun h=>?_
   ·
    refine T_skip<|T_seq<|T_block<|K6 1 2 3 4 17 18 Y<|Tr<|Rm Y<|bE h fun x h_x h=>Rq Y (v_indexVG (ov Y) (ov Y) tR72 tS3 h_x)<|Ra Y<|Ra Y<|R_nil<|K8 1 2 3 4 5 6 17 18 Y<|Tr<|Rm Y<|R2 v_eql Y<|R_nil<|K8 1 2 3 4 5 17 18 23 Y<|If h Y (fun h=>?_) fun h=>?_
    ·
     exact K7 1 2 3 4 5 17 18 Y<|T_reg<|Rm Y<|R2 vadd Y<|Rm Y<|Ra Y<|Ra Y<|R_nil<|K6 1 2 3 4 17 18 Y<|T_reg<|R2 vadd Y<|Rm Y<|R_nil<|⟨_, h, ES [some 0, some 1]⟩
    ·
     exact T_skip<|K6 1 2 3 4 17 18 Y<|T_reg<|R2 vadd Y<|Rm Y<|R_nil<|⟨_, h, ES [some 0, some 1]⟩
   ·
    refine T_exit<|?_
    replace h := lx h ▸ ho1
    exact ⟨_, h, ES [some 0, some 1]⟩
  ·
   refine T_seq<|Tr<|Rm Y<|R2 v_neq Y<|R_nil<|K4 1 2 4 29 Y<|If h Y (fun h=>?_) fun h=>?_
   ·
    refine K2 1 2 Y<|Tr<|Rq Y (v_loadA (ov Y) Y Y Y tA74 (at_sub<|at_all ln18) ln18 (hns := ns21))<|Rx Y (w_store (ov Y) (ov Y) (cells_agg tA74 ln18) Y Y Y (put_le (at_all ln18) ln18) (cell1_all al20)<|put_all<|Eq.trans ln18<|Eq.symm ln18)<|R_nil<|?_
    obtain rfl := rt h
    exact T_ret (retq Y (.one<|.agg Y Y Y Y tA74 (at_sub<|at_all ln18) ln18 (pwB al19) (hns := ns21)))
   ·
    refine T_skip<|K3 1 2 4 Y<|Tr<|Rq Y (v_fieldP (ov Y) Y Y tF74_1)<|Rq Y (v_loadA (ov Y) Y Y Y tA49 (at_sub at10) arL (hns := (nsM fun _ => Y)))<|Rm Y<|bE h fun y h_y h=>Rq Y (v_call (ok_frame_Replaced h_y)<|.cons (ov Y) (.aggB<|arD fun _ => Y)<|.cons (ov Y) (.b Y) .nil)<|Rm Y<|Rq Y (v_extract (ov Y) Y)<|Rq Y (v_extract (ov Y) Y)<|Rx Y (w_alloc (row := (List.map C47 (Vector.replicate 64 0).toList)) 2 Y tZ49 Y tZ_49)<|Rx Y (w_store (ov Y) (ov Y) (cells_agg tA49 arL) Y Y Y (put_le (at_all arL) arL) (cell1_all<|arC fun _ => Y)<|put_all<|Eq.trans arL<|Eq.symm arL)<|Ra Y<|R_nil<|T_seq<|K5 1 2 4 7 8 Y<|Tr<|Rm Y<|R1 v_not Y<|Rm Y<|Rq Y (.guarded ((!y.2) == false) Y Y Y Y fun h => v_loadA (ov Y) Y Y Y tA49 (at_sub<|at_all arL) arL (hns := (nsM fun _ => Y)))<|Rq Y (.guarded ((!y.2) == false) Y Y Y Y fun h => v_fieldP (ov Y) Y Y tF74_0)<|Rq Y (.guarded ((!y.2) == false) Y Y Y Y fun h => v_loadS (ow Y h) Y Y Y tS3<|at_get at8)<|bE h fun y2 h_y2 h=>Rq Y (.guarded ((!y.2) == false) Y Y Y Y fun h => v_call (ok_salvage_soundAs<|gdT h_y2 h)<|.cons (ow Y h) (.aggB<|arD fun _ => Y)<|.cons (ow Y h) (.b Y) .nil)<|Rq Y (.guarded ((!y.2) == false) Y Y Y Y fun h => v_not<|ow Y h)<|Rq Y (v_or (ov Y) fun hp=>ow Y<|gF hp)<|R_nil<|K5 1 2 4 7 46 Y<|If h Y (fun h=>?_) fun h=>?_
    ·
     refine K2 1 2 Y<|Tr<|Rq Y (v_loadA (ov Y) Y Y Y tA74 (at_sub<|at_all ln18) ln18 (hns := ns21))<|Rx Y (w_store (ov Y) (ov Y) (cells_agg tA74 ln18) Y Y Y (put_le (at_all ln18) ln18) (cell1_all al20)<|put_all<|Eq.trans ln18<|Eq.symm ln18)<|R_nil<|?_
     obtain rfl := rt h
     exact T_ret (retq Y (.one<|.agg Y Y Y Y tA74 (at_sub<|at_all ln18) ln18 (pwB al19) (hns := ns21)))
    ·
     refine T_skip<|K4 1 2 4 7 Y<|Td md0<|Dq 0 Y (v_loadA (ov Y) Y Y Y tA49 (at_sub<|at_all arL) arL (hns := (nsM fun _ => Y)))<|bE h fun y3 h_y3 h=>Dq 1 Y (v_call (ok_salvage_filled h_y3)<|.cons (ov Y) (.b Y) .nil)<|Dq 2 Y (v_fieldP (ov Y) Y Y tF74_1)<|Do 3 Y (w_store (ov Y) (ov Y) (cells_agg tA49 arL) Y Y Y (put_le at10 arL) (cell1_all<|arC fun _ => Y) pt11)<|Dq 4 Y (v_fieldP (ov Y) Y Y tF74_2)<|Do 5 Y (w_store (ov Y) (ov Y) (cells_agg tA72 arL) Y Y Y (put_le at12 arL) (cell1_all<|arC fun _ => Y) pt13)<|Dq 6 Y (v_fieldP (ov Y) Y Y tF74_3)<|Do 7 Y (w_store (ov Y) (ov Y) (cells_scal tS4) Y Y Y (put_le at14 Y) (cell1_all Y) pt15)<|Dq 8 Y (v_fieldP (ov Y) Y Y tF74_4)<|Do 9 Y (w_store (ov Y) (ov Y) (cells_scal tS3) Y Y Y (put_le at16 Y) (cell1_all Y) pt17)<|Dd<|K3 1 2 4 Y<|Tr<|Rm Y<|Rq Y (v_fieldP (ov Y) Y Y tF74_2)<|bE h fun x2 h_x2 h=>Rq Y (v_ixAG (ov Y) (ov Y) tR72 Y Y h_x2)<|Rx Y (w_store (ov Y) (ov Y) (cells_scal tS3) Y Y Y (put_le (at_at (o := 65) (o' := (place.toNat * 1)) at12<|at_v1 h_x2) Y) (cell1_all Y)<|put_put (o := 65) (o' := (place.toNat * 1)) at12 (at_v1 h_x2) Y (put_v1 h_x2 (x := 2)) pt13)<|R_nil<|K2 1 2 Y<|Tr<|Rq Y (v_loadA (ov Y) Y Y Y tA74 (at_sub<|at_all ln18) ln18 (hns := ns21))<|Rx Y (w_store (ov Y) (ov Y) (cells_agg tA74 ln18) Y Y Y (put_le (at_all ln18) ln18) (cell1_all al20)<|put_all<|Eq.trans ln18<|Eq.symm ln18)<|R_nil<|?_
     obtain rfl := rt h
     exact T_ret (retq Y (.one<|.agg Y Y Y Y tA74 (at_sub<|at_all ln18) ln18 (pwB al19) (hns := ns21)))
theorem ok_salvage_Salvage {l : List api_Piece} {r : (List api_Rest) × Int} (h : salvage_Salvage l = some r) :
 CSpec Tryz.prog gl0 23 [.sl 68 (List.map R68 l)] (.tuple [.sl 74 (List.map R74 r.1), .int .i64 r.2]) := by
 unfold salvage_Salvage at h
 replace h := bnd0 h
 refine So Tryz.func23 Y fun w0 A=>Tr<|Ra Y<|Ra Y<|R_nil<|T_seq<|K1 0 Y<|Tr<|Rm Y<|Rl tZ_68 tL76 Y<|R2 v_gtr Y<|R_nil<|K2 0 14 Y<|If h Y (fun h=>?_) fun h=>?_
 ·
  refine K0<|Tr<|Ra Y<|Ra Y<|R_nil<|?_
  obtain rfl := rt h
  exact T_ret (retq Y (.two (.tmp Y<|View.nils 74)<|rb Y))
 ·
  refine T_skip<|J0 (fun j => (.inr j)) ⟨[(0, .sl 68 (List.map R68 l))], []⟩ h (fun h=>?_) fun h=>?_
  ·
   refine K1 0 Y<|Tr<|Rm Y<|Rl tZ_68 tL76 Y<|Rm Y<|R_nil<|T_block<|?_
   obtain ⟨r1, hl1, ho1⟩ := bndL h
   refine L1 (fun i=>⟨[(0, .sl 68 (List.map R68 l)), (15, .sl 68 (List.map R68 l)), (16, .int .i64 (l.length : Int)), (17, .int .i64 i)], []⟩) hl1 (ES []) fun n1 i h=>?_
   unfold salvage_Salvage_L1 at h
   refine Tr<|R2 v_lss Y<|R_nil<|T_seq<|If h Y (fun h=>?_) fun h=>?_
   ·
    refine T_skip<|T_seq<|T_block<|K4 0 15 16 17 Y<|Tr<|bE h fun x h_x h=>Rq Y (v_ixSG (ov Y) (ov Y) tL76 h_x)<|Rq Y (v_loadA_r (ov Y) tA68 Y Y)<|Rx Y (w_alloc (row := [_, _]) 0 Y tZ68 Y tZ_68)<|Rx Y (w_store (ov Y) (ov Y) (cells_agg tA68 Y) Y Y Y (Nat.le_of_ble_eq_true Y) (cell1_all Y) Y)<|R_nil<|K5 0 5 15 16 17 Y<|Tr<|Rq Y (v_loadA (ov Y) Y Y Y tA68 Y Y)<|bE h fun y h_y h=>Rq Y (v_call (ok_salvage_CheckPiece h_y)<|.cons (ov Y) (.aggB Y) .nil)<|Ra Y<|R_nil<|K5 0 6 15 16 17 Y<|Tr<|Rm Y<|R2 v_neq Y<|R_nil<|K6 0 6 15 16 17 24 Y<|If h Y (fun h=>?_) fun h=>?_
    ·
     refine K1 6 Y<|Tr<|Rm Y<|Ra Y<|Ra Y<|R_nil<|?_
     replace h := lx h ▸ ho1
     obtain rfl := rt h
     exact T_ret (retq Y (.two (.tmp Y<|View.nils 74)<|rb Y))
    ·
     exact T_skip<|K4 0 15 16 17 Y<|T_reg<|R2 vadd Y<|Rm Y<|R_nil<|⟨_, h, ES []⟩
   ·
    refine T_exit<|?_
    replace h := lx h ▸ ho1
    exact ⟨_, h, ES []⟩
  ·
   replace h := elr h
   replace h := t0i h
   refine Tr<|Ra Y<|R_nil<|I1 (fun parts=>⟨[(7, .own 0 parts.length)], [some ⟨74, List.map R74 parts⟩]⟩) h (fun h=>?_) fun parts h=>?_
   ·
    refine Tr<|Rm Y<|Rl tZ_68 tL76 Y<|Rm Y<|R_nil<|T_block<|?_
    obtain ⟨r2, hl2, ho2⟩ := bndL h
    refine L2 (fun parts2 i2=>⟨[(7, .own 0 parts2.length), (27, .sl 68 (List.map R68 l)), (28, .int .i64 (l.length : Int)), (29, .int .i64 i2)], [some ⟨74, List.map R74 parts2⟩]⟩) hl2 (ES [none]) fun n2 parts2 i2 h=>?_
    unfold salvage_Salvage_L2 at h
    refine Tr<|R2 v_lss Y<|R_nil<|T_seq<|If h Y (fun h=>?_) fun h=>?_
    ·
     exact T_skip<|T_seq<|T_block<|K4 7 27 28 29 Y<|Tr<|bE h fun x2 h_x2 h=>Rq Y (v_ixSG (ov Y) (ov Y) tL76 h_x2)<|Rq Y (v_loadA_r (ov Y) tA68 Y Y)<|Rx Y (w_alloc (row := [_, _]) 1 Y tZ68 Y tZ_68)<|Rx Y (w_store (ov Y) (ov Y) (cells_agg tA68 Y) Y Y Y (Nat.le_of_ble_eq_true Y) (cell1_all Y) Y)<|R_nil<|K5 7 9 27 28 29 Y<|T_reg<|Rm Y<|Rq Y (v_loadA (ov Y) Y Y Y tA68 Y Y)<|bE h fun y2 h_y2 h=>Rq Y (v_call (ok_salvage_halves h_y2)<|.cons (ov Y) (.aggB Y) .nil)<|bE h fun y3 h_y3 h=>Rq Y (v_call (ok_salvage_rests h_y3)<|.cons (ov Y) (.b Y) .nil)<|bE h fun l2 h_l2 h=>Rx Y (w_appendZ (ov Y) (slv_sl (ov Y) tZ_74) tL58 Y Y (fun x=>cell1_all<|E74 x) Y h_l2)<|Ra Y<|R_nil<|K4 7 27 28 29 Y<|T_reg<|R2 vadd Y<|Rm Y<|R_nil<|⟨_, h, ES [some 0]⟩
    ·
     refine T_exit<|?_
     replace h := lx h ▸ ho2
     exact ⟨_, h, ES [some 0]⟩
   ·
    refine Tr<|Rm Y<|bE h fun y4 h_y4 h=>R_ent (Ent.sel [none] (sr 7 Y (frzM Y Y Y D74)<|sr 39 Y (frzM Y Y Y D74) sn) (.row 74 .nil) Y Y)<|Rx Y (w_callG [] (ok_salvage_grouped_o h_y4) (.cons (ov Y) (.dat Y) .nil) .nil Y (.keep Y Y<|.lent 0 (.inr ⟨Nat.le_of_ble_eq_true Y, Y⟩) Y (roM D74) .nil) Y Y<|.own _<|.inr ⟨Nat.le_of_ble_eq_true Y, Y⟩)<|Ra Y<|R_nil<|T_seq<|K1 10 Y<|Td md0<|D1 0 v_move Y<|Dq 1 Y (v_lenO (ov Y) Y Y tL58)<|D2 2 v_gtr Y<|D1 3 v_move Y<|Dq 4 Y (.guarded ((decide (0 < (y4.length : Int))) == true) Y Y Y Y fun h => v_move<|ov Y)<|Dq 5 Y (.guarded ((decide (0 < (y4.length : Int))) == true) Y Y Y Y fun h => v_move<|ov Y)<|Dq 6 Y (.guarded ((decide (0 < (y4.length : Int))) == true) Y Y Y Y fun h => v_lenO (ow Y h) Y Y tL58)<|Dq 7 Y (.guarded ((decide (0 < (y4.length : Int))) == true) Y Y Y Y fun h => v_sub (ow Y h) (ov Y) Y)<|bE h fun x3 h_x3 h=>Dq 8 Y (.guarded ((decide (0 < (y4.length : Int))) == true) Y Y Y Y fun h => v_ixOG (ow Y h) (ow Y h) tL58 Y Y<|gdT h_x3 h)<|Dq 9 Y (.guarded ((decide (0 < (y4.length : Int))) == true) Y Y Y Y fun h => v_fieldPR (ow Y h) Y Y tF74_0)<|Dq 10 Y (.guarded ((decide (0 < (y4.length : Int))) == true) Y Y Y Y fun h => v_loadSR (ow Y h) Y Y (gdT h_x3 h) tS3<|at_get at8)<|Dq 11 Y (.guarded ((decide (0 < (y4.length : Int))) == true) Y Y Y Y fun h => v_move<|ov Y)<|bE h fun x4 h_x4 h=>Dq 12 Y (.guarded ((decide (0 < (y4.length : Int))) == true) Y Y Y Y fun h => v_ixOG (ow Y h) (ov Y) tL58 Y Y<|gdT h_x4 h)<|Dq 13 Y (.guarded ((decide (0 < (y4.length : Int))) == true) Y Y Y Y fun h => v_fieldPR (ow Y h) Y Y tF74_0)<|Dq 14 Y (.guarded ((decide (0 < (y4.length : Int))) == true) Y Y Y Y fun h => v_loadSR (ow Y h) Y Y (gdT h_x4 h) tS3<|at_get at8)<|Dq 15 Y (.guarded ((decide (0 < (y4.length : Int))) == true) Y Y Y Y fun h => v_sub (ow Y h) (ow Y h) Y)<|Dq 16 Y (.guarded ((decide (0 < (y4.length : Int))) == true) Y Y Y Y fun h => v_gtr (ow Y h)<|ov Y)<|Dq 17 Y (v_and (ov Y) fun hp=>ow Y<|gT hp)<|Dd<|K2 10 58 Y<|If h Y (fun h=>?_) fun h=>?_
    ·
     refine K0<|Tr<|Ra Y<|Ra Y<|R_nil<|?_
     obtain rfl := rt h
     exact T_ret (retq Y (.two (.tmp Y<|View.nils 74)<|rb Y))
    ·
     refine T_skip<|I1 (fun out=>⟨[(10, .own 0 out.length)], [some ⟨74, List.map R74 out⟩]⟩) h (fun h=>?_) fun out h=>?_
     ·
      refine K1 10 Y<|Tr<|Rm Y<|Rq Y (v_lenO (ov Y) Y Y tL58)<|Rm Y<|R_nil<|T_block<|?_
      obtain ⟨r3, hl3, ho3⟩ := bndL h
      refine L2 (fun out2 i3=>⟨[(10, .own 0 out2.length), (60, .int .i64 (y4.length : Int)), (61, .int .i64 i3)], [some ⟨74, List.map R74 out2⟩]⟩) hl3 (ES [some 1]) fun n3 out2 i3 h=>?_
      unfold salvage_Salvage_L3 at h
      refine Tr<|R2 v_lss Y<|R_nil<|T_seq<|If h Y (fun h=>?_) fun h=>?_
      ·
       exact T_skip<|T_seq<|T_block<|K3 10 60 61 Y<|Tr<|Rm Y<|Ra Y<|R_nil<|K4 10 11 60 61 Y<|T_reg<|Rm Y<|Rm Y<|Rm Y<|Rm Y<|bE h fun x5 h_x5 h=>Rq Y (v_ixOG (ov Y) (ov Y) tL58 Y Y h_x5)<|Rq Y (v_loadAR (ov Y) Y Y h_x5 tA74 (at_sub<|at_all ln18) ln18 (hns := ns21))<|bE h fun y5 h_y5 h=>Rq Y (v_call (ok_salvage_mended h_y5)<|.cons (ov Y) (.aggB al19) .nil)<|bE h fun x6 h_x6 h=>Rq Y (v_ixOG (ov Y) (ov Y) tL58 Y Y h_x6)<|Rx Y (w_storeR (u' := y5) (ov Y) (ov Y) (cells_agg tA74 ln18) Y Y h_x6 (Nat.ble_eq_true_of_le<|put_le (at_all ln18) ln18) (cell1_all al20)<|put_all<|Eq.trans ln18<|Eq.symm ln18)<|R_nil<|K3 10 60 61 Y<|T_reg<|R2 vadd Y<|Rm Y<|R_nil<|⟨_, h, ES [some 0]<|sr 10 Y (ownE (Eq.symm<|(List.length_set ..).trans Y) Y)<|sd 60 Y Y<|sd 61 Y Y sn⟩
      ·
       refine T_exit<|?_
       replace h := lx h ▸ ho3
       exact ⟨_, h, ES [some 0]⟩
     ·
      refine Tr<|Rm Y<|Ra Y<|Ra Y<|R_nil<|?_
      obtain rfl := rt h
      exact T_ret (retq Y (.two (.tmp Y<|View.ownM Y Y D74)<|rb Y))
theorem ok_law4_saved  {r : Bool} (h : law4_saved  = some r) :
 CSpec Tryz.prog gl0 22 [] (.bool r) := by
 unfold law4_saved at h
 replace h := bnd0 h
 refine So Tryz.func22 Y fun w0 A=>Tr<|Ra Y<|R_nil<|K0<|Tr<|bE h fun l h_l h=>Rx Y (w_makeG [none] (r := 0) (f := R3) (z0 := 0) Y (ov Y) (ov Y) tL28 Y tZ3 Y Y h_l)<|bE h fun y h_y h=>Rq Y (v_callB (ok_ref1_New h_y) (.tuple<|by simp only [List.mem_cons, List.not_mem_nil, or_false, forall_eq_or_imp, forall_eq]; exact ⟨(flat_arr (fun _ => .int)), .int⟩)<|.cons (ov Y) (Dat.view<|.b Y)<|.cons (ov Y) (View.ownM Y Y D3) .nil)<|Rm Y<|Rq Y (v_extract (ov Y) Y)<|Rq Y (v_extract (ov Y) Y)<|Rx Y (w_alloc (row := (List.map C47 (Vector.replicate 64 0).toList)) 1 Y tZ49 Y tZ_49)<|Rx Y (w_store (ov Y) (ov Y) (cells_agg tA49 arL) Y Y Y (put_le (at_all arL) arL) (cell1_all<|arC fun _ => Y)<|put_all<|Eq.trans arL<|Eq.symm arL)<|Ra Y<|R_nil<|K1 1 Y<|Tr<|Rq Y (v_loadA (ov Y) Y Y Y tA49 (at_sub<|at_all arL) arL (hns := (nsM fun _ => Y)))<|bE h fun y2 h_y2 h=>Rq Y (v_call (ok_ref1_ToBytes h_y2)<|.cons (ov Y) (.aggB<|arD fun _ => Y) .nil)<|Rm Y<|Rq Y (v_extract (ov Y) Y)<|Rq Y (v_extract (ov Y) Y)<|Ra Y<|Ra Y<|R_nil<|K2 1 3 Y<|Tr<|Rx Y (w_litG (r := 2) (xs := ([7] : List Int)) (f := R5) Y tL66 (.cons (cvs (ov Y)<|cell1_b Y) Y (.cons (.b Y) .nil) .nil) Y Y Y)<|Rm Y<|bE h fun l2 h_l2 h=>Rx Y (w_appendZ (ov Y) (slv_sl (ov Y) tZ_5) tL66 Y Y (fun _=>cell1_all Y) Y h_l2)<|Rq Y (v_build (ys := [_, _]) tPL68 tHA68 tZ68 (.cons (cvs (ov Y)<|cell1_b Y) .nil) Y)<|R_ent (Ent.sel [some 0, some 1, none] (sr 1 Y (.ptr (r' := 1) _ _ _ Y)<|sd 3 Y Y<|sd 19 Y Y<|sr 20 Y (frzM Y Y Y D5)<|sr 21 Y (rAgg<|rlc (frzM Y Y Y D5)<|rlc (.dat Y) rln) sn) (.cons Y (roM D3)<|.cons Y (ro1 (by exact Eq.trans (b := 64) arL tZ_49.symm)<|rld<|arD fun _ => Y)<|.row 5 .nil) Y Y)<|R_q (.sl 68<|List.map R68 ([(api_Piece.mk l2 false)] : List api_Piece)) Y (v_lit tL76 (.cons (cva<|ov Y) Y (pwD Y) .nil) Y Y)<|bE h fun y3 h_y3 h=>Rq Y (v_call (ok_salvage_Salvage h_y3)<|.cons (ov Y) (.b Y) .nil)<|Rm Y<|Rq Y (v_extract (ov Y) Y)<|Rq Y (v_extract (ov Y) Y)<|Ra Y<|Ra Y<|R_nil<|K3 1 5 6 Y<|Td md0<|D1 0 v_move Y<|D2 1 v_eql Y<|D1 2 v_move Y<|Dq 3 Y (.guarded ((decide (y3.2 = 0)) == true) Y Y Y Y fun h => v_move<|ov Y)<|Dq 4 Y (.guarded ((decide (y3.2 = 0)) == true) Y Y Y Y fun h => v_len (slv_sl (ow Y h) tZ_74) tL58<|len_map _ _)<|Dq 5 Y (.guarded ((decide (y3.2 = 0)) == true) Y Y Y Y fun h => v_eql (ow Y h)<|ov Y)<|Dq 6 Y (v_and (ov Y) fun hp=>ow Y<|gT hp)<|D1 7 v_move Y<|Dq 8 Y (.guarded (((decide (y3.2 = 0)) && (decide ((y3.1.length : Int) = 1))) == true) Y Y Y Y fun h => v_move<|ov Y)<|bE h fun x h_x h=>Dq 9 Y (.guarded (((decide (y3.2 = 0)) && (decide ((y3.1.length : Int) = 1))) == true) Y Y Y Y fun h => v_ixSG (ow Y h) (ov Y) tL58<|gdT h_x h)<|Dq 10 Y (.guarded (((decide (y3.2 = 0)) && (decide ((y3.1.length : Int) = 1))) == true) Y Y Y Y fun h => v_fieldR (ow Y h) tF74_0)<|Dq 11 Y (.guarded (((decide (y3.2 = 0)) && (decide ((y3.1.length : Int) = 1))) == true) Y Y Y Y fun h => v_loadS_r (ow Y h) tS3<|at_get at8)<|Dq 12 Y (.guarded (((decide (y3.2 = 0)) && (decide ((y3.1.length : Int) = 1))) == true) Y Y Y Y fun h => v_eql (ow Y h)<|ov Y)<|Dq 13 Y (v_and (ov Y) fun hp=>ow Y<|gT hp)<|D1 14 v_move Y<|Dq 15 Y (.guarded ((((decide (y3.2 = 0)) && (decide ((y3.1.length : Int) = 1))) && (decide (x.Number = 9))) == true) Y Y Y Y fun h => v_move<|ov Y)<|bE h fun x2 h_x2 h=>Dq 16 Y (.guarded ((((decide (y3.2 = 0)) && (decide ((y3.1.length : Int) = 1))) && (decide (x.Number = 9))) == true) Y Y Y Y fun h => v_ixSG (ow Y h) (ov Y) tL58<|gdT h_x2 h)<|Dq 17 Y (.guarded ((((decide (y3.2 = 0)) && (decide ((y3.1.length : Int) = 1))) && (decide (x.Number = 9))) == true) Y Y Y Y fun h => v_fieldR (ow Y h) tF74_1)<|Dq 18 Y (.guarded ((((decide (y3.2 = 0)) && (decide ((y3.1.length : Int) = 1))) && (decide (x.Number = 9))) == true) Y Y Y Y fun h => v_loadA_r (ow Y h) tA49 (at_sub at10) arL)<|Dq 19 Y (.guarded ((((decide (y3.2 = 0)) && (decide ((y3.1.length : Int) = 1))) && (decide (x.Number = 9))) == true) Y Y Y Y fun h => v_loadA (ov Y) Y Y Y tA49 (at_sub<|at_all arL) arL (hns := (nsM fun _ => Y)))<|Dq 20 Y (.guarded ((((decide (y3.2 = 0)) && (decide ((y3.1.length : Int) = 1))) && (decide (x.Number = 9))) == true) Y Y Y Y fun h => v_eqlX tEq49 (ow Y h) (ow Y h) (.aggB<|arD fun _ => Y) (.aggB<|arD fun _ => Y) (fkV fun _ => Y) (fkV fun _ => Y)<|eqV fun _ _ => Y)<|Dq 21 Y (v_and (ov Y) fun hp=>ow Y<|gT hp)<|D1 22 v_move Y<|Dq 23 Y (.guarded (((((decide (y3.2 = 0)) && (decide ((y3.1.length : Int) = 1))) && (decide (x.Number = 9))) && (decide (x2.Frame = y.1))) == true) Y Y Y Y fun h => v_move<|ov Y)<|bE h fun x3 h_x3 h=>Dq 24 Y (.guarded (((((decide (y3.2 = 0)) && (decide ((y3.1.length : Int) = 1))) && (decide (x.Number = 9))) && (decide (x2.Frame = y.1))) == true) Y Y Y Y fun h => v_ixSG (ow Y h) (ov Y) tL58<|gdT h_x3 h)<|Dq 25 Y (.guarded (((((decide (y3.2 = 0)) && (decide ((y3.1.length : Int) = 1))) && (decide (x.Number = 9))) && (decide (x2.Frame = y.1))) == true) Y Y Y Y fun h => v_fieldR (ow Y h) tF74_3)<|Dq 26 Y (.guarded (((((decide (y3.2 = 0)) && (decide ((y3.1.length : Int) = 1))) && (decide (x.Number = 9))) && (decide (x2.Frame = y.1))) == true) Y Y Y Y fun h => v_loadS_r (ow Y h) tS4<|at_get at14)<|Dq 27 Y (v_and (ov Y) fun hp=>ow Y<|gT hp)<|D1 28 v_move Y<|Dq 29 Y (.guarded ((((((decide (y3.2 = 0)) && (decide ((y3.1.length : Int) = 1))) && (decide (x.Number = 9))) && (decide (x2.Frame = y.1))) && x3.Sound) == true) Y Y Y Y fun h => v_move<|ov Y)<|bE h fun x4 h_x4 h=>Dq 30 Y (.guarded ((((((decide (y3.2 = 0)) && (decide ((y3.1.length : Int) = 1))) && (decide (x.Number = 9))) && (decide (x2.Frame = y.1))) && x3.Sound) == true) Y Y Y Y fun h => v_ixSG (ow Y h) (ov Y) tL58<|gdT h_x4 h)<|Dq 31 Y (.guarded ((((((decide (y3.2 = 0)) && (decide ((y3.1.length : Int) = 1))) && (decide (x.Number = 9))) && (decide (x2.Frame = y.1))) && x3.Sound) == true) Y Y Y Y fun h => v_fieldR (ow Y h) tF74_4)<|Dq 32 Y (.guarded ((((((decide (y3.2 = 0)) && (decide ((y3.1.length : Int) = 1))) && (decide (x.Number = 9))) && (decide (x2.Frame = y.1))) && x3.Sound) == true) Y Y Y Y fun h => v_loadS_r (ow Y h) tS3<|at_get at16)<|Dq 33 Y (.guarded ((((((decide (y3.2 = 0)) && (decide ((y3.1.length : Int) = 1))) && (decide (x.Number = 9))) && (decide (x2.Frame = y.1))) && x3.Sound) == true) Y Y Y Y fun h => v_eql (ow Y h)<|ov Y)<|Dq 34 Y (v_and (ov Y) fun hp=>ow Y<|gT hp)<|D1 35 v_move Y<|Dq 36 Y (.guarded (((((((decide (y3.2 = 0)) && (decide ((y3.1.length : Int) = 1))) && (decide (x.Number = 9))) && (decide (x2.Frame = y.1))) && x3.Sound) && (decide (x4.Copies = 1))) == true) Y Y Y Y fun h => v_move<|ov Y)<|bE h fun x5 h_x5 h=>Dq 37 Y (.guarded (((((((decide (y3.2 = 0)) && (decide ((y3.1.length : Int) = 1))) && (decide (x.Number = 9))) && (decide (x2.Frame = y.1))) && x3.Sound) && (decide (x4.Copies = 1))) == true) Y Y Y Y fun h => v_ixSG (ow Y h) (ov Y) tL58<|gdT h_x5 h)<|Dq 38 Y (.guarded (((((((decide (y3.2 = 0)) && (decide ((y3.1.length : Int) = 1))) && (decide (x.Number = 9))) && (decide (x2.Frame = y.1))) && x3.Sound) && (decide (x4.Copies = 1))) == true) Y Y Y Y fun h => v_fieldR (ow Y h) tF74_2)<|bE h fun x6 h_x6 h=>Dq 39 Y (.guarded (((((((decide (y3.2 = 0)) && (decide ((y3.1.length : Int) = 1))) && (decide (x.Number = 9))) && (decide (x2.Frame = y.1))) && x3.Sound) && (decide (x4.Copies = 1))) == true) Y Y Y Y fun h => v_ixRG (ow Y h) (ov Y) tR72<|gdT h_x6 h)<|Dq 40 Y (.guarded (((((((decide (y3.2 = 0)) && (decide ((y3.1.length : Int) = 1))) && (decide (x.Number = 9))) && (decide (x2.Frame = y.1))) && x3.Sound) && (decide (x4.Copies = 1))) == true) Y Y Y Y fun h => v_loadS_r (ow Y h) tS3<|at_get<|at_at (o := 65) (o' := ((Int.toNat 63) * 1)) at12<|at_v1<|gdT h_x6 h)<|Dq 41 Y (.guarded (((((((decide (y3.2 = 0)) && (decide ((y3.1.length : Int) = 1))) && (decide (x.Number = 9))) && (decide (x2.Frame = y.1))) && x3.Sound) && (decide (x4.Copies = 1))) == true) Y Y Y Y fun h => v_eql (ow Y h)<|ov Y)<|Dq 42 Y (v_and (ov Y) fun hp=>ow Y<|gT hp)<|D1 43 v_assign Y<|Dd<|?_
 obtain rfl := rt h
 exact T_ret (retq Y (.one<|rb Y))
theorem ok_law4_SalvageRestsMatchSpec {p : api_Piece} {r : Bool} (h : law4_SalvageRestsMatchSpec p = some r) :
 CSpec Tryz.prog gl0 4 [.agg [.sl 5 (List.map R5 p.Bytes), .bool p.Half]] (.bool r) := by
 unfold law4_SalvageRestsMatchSpec at h
 replace h := bnd0 h
 refine So Tryz.func4 Y fun w0 A=>Tr<|Rq Y (v_boxD (cva<|ov Y) Y tZ_68 Y)<|Ra Y<|R_nil<|K1 1 Y<|Tr<|Rq Y (v_loadA_r (ov Y) tA68 Y Y)<|bE h fun y h_y h=>Rq Y (v_call (ok_salvage_Rests h_y)<|.cons (ov Y) (.aggB Y) .nil)<|Rm Y<|Rq Y (v_extract (ov Y) Y)<|Rq Y (v_extract (ov Y) Y)<|Ra Y<|Ra Y<|R_nil<|K3 1 3 4 Y<|Tr<|Rq Y (v_loadA_r (ov Y) tA68 Y Y)<|bE h fun y2 h_y2 h=>Rq Y (v_call (ok_ref4_Rests h_y2)<|.cons (ov Y) (.aggB Y) .nil)<|Rm Y<|Rq Y (v_extract (ov Y) Y)<|Rq Y (v_extract (ov Y) Y)<|Ra Y<|Ra Y<|R_nil<|K4 3 4 5 6 Y<|Tr<|Rm Y<|Rm Y<|R2 v_eql Y<|Rm Y<|Rq Y (.guarded ((decide (y.2 = y2.2)) == true) Y Y Y Y fun h => v_move<|ov Y)<|Rq Y (.guarded ((decide (y.2 = y2.2)) == true) Y Y Y Y fun h => v_move<|ov Y)<|bE h fun y3 h_y3 h=>Rq Y (.guarded ((decide (y.2 = y2.2)) == true) Y Y Y Y fun h => v_call (ok_slices_Equal_api_Rest_api_Rest<|gdT h_y3 h)<|.cons (ow Y h) (.b Y)<|.cons (ow Y h) (.b Y) .nil)<|Rq Y (v_and (ov Y) fun hp=>ow Y<|gT hp)<|Rm Y<|bE h fun y4 h_y4 h=>Rq Y (.guarded (((decide (y.2 = y2.2)) && y3) == true) Y Y Y Y fun h => v_call (ok_law4_saved<|gdT h_y4 h) .nil)<|Rq Y (v_and (ov Y) fun hp=>ow Y<|gT hp)<|Ra Y<|R_nil<|?_
 obtain rfl := rt h
 exact T_ret (retq Y (.one<|rb Y))
end Go.Proofs.YthdiljjohpamnaaGreatDoorRR
