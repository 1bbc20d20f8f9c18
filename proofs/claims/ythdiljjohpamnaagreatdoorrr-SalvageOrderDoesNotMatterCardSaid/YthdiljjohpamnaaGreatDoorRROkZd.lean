/- A text of the proof: a verified executor of the program form, or the contracts of the functions that the law reaches. -/
import Derived.Test.YthdiljjohpamnaaGreatDoorRROkZc
set_option linter.all false
namespace Go.Proofs.YthdiljjohpamnaaGreatDoorRR
open Go Go.Vx
set_option maxRecDepth 10000
set_option maxHeartbeats 1000000
set_option linter.unusedVariables false
theorem ZjE {l : List api_Rest} {r : (List api_Rest)} (h : XW l = some r) :
 CSpec Tryz.prog gl0 60 [.sl 74 (List.map R74 l)] (.sl 74 (List.map R74 r)) := by
 unfold XW at h
 replace h := Qj h
 refine So Tryz.func60 Y fun w0 A=>Tr<|Ra Y<|Za<|K1 0 Y<|Tr<|Ra Y<|Za<|Tr<|Rx Y (Zfh 0 Y Qf)<|Ra Y<|Za<|I2 (fun order by_=>⟨[(3, .own 0 order.length), (4, .mref 1 1)], [some ⟨3, List.map R3 order⟩, some ⟨165, [[.mcon (List.map (QC FK3 (osF 74 R74)) by_)]]⟩]⟩) h (fun h=>?_) fun order by_ h=>?_
 ·
  refine K3 0 3 4 Y<|Tr<|Rm Y<|Rl tZ_74 Qd Y<|Rm Y<|Za<|Zk<|?_
  obtain ⟨r1, hl1, ho1⟩ := QP h
  refine L3 (fun order2 by_2 i=>⟨[(3, .own 0 order2.length), (4, .mref 1 1), (12, .sl 74 (List.map R74 l)), (13, .int .i64 (l.length : Int)), (14, .int .i64 i)], [some ⟨3, List.map R3 order2⟩, some ⟨165, [[.mcon (List.map (QC FK3 (osF 74 R74)) by_2)]]⟩]⟩) hl1 (ES [none, some 0] (hhp := .row 3<|.cons Y (ZJ (fk := FK3) (fv := (osF 74 R74)) (m := ([] : List (Int × (List api_Rest)))) tZ_165 (fun _=>.dat Y) fun _=>QY D74) .nil)) fun n1 order2 by_2 i h=>?_
  unfold JM at h
  refine Tr<|R2 ZX Y<|Za<|Zr<|If h Y (fun h=>?_) fun h=>?_
  ·
   refine Zn<|I2 (fun order3 by_3=>⟨[(3, .own 0 order3.length), (4, .mref 1 1), (12, .sl 74 (List.map R74 l)), (13, .int .i64 (l.length : Int)), (14, .int .i64 i)], [some ⟨3, List.map R3 order3⟩, some ⟨165, [[.mcon (List.map (QC FK3 (osF 74 R74)) by_3)]]⟩]⟩) h (fun h=>?_) fun order3 by_3 h=>?_
   ·
    refine Zk<|K5 3 4 12 13 14 Y<|Tr<|bE h fun x h_x h=>Rq Y (ZS (ov Y) (ov Y) Qd h_x)<|Rq Y (ZF (ov Y) Qh (Zm<|Ze Zl) Zl)<|Rx Y (ZO (row := (.int .i64 0) :: ((List.map C47 (Vector.replicate 64 0).toList) ++ (((List.map C3 (Vector.replicate 64 0).toList) ++ ((.bool false) :: (.int .i64 0) :: (.bool false) :: []))))) 2 Y ZbS (by kernel_rfl)<|by exact Eq.symm (Eq.trans (b := 132) Zl tZ_74.symm))<|Rx Y (Zf (ov Y) (ov Y) (Zp Qh Zl) Y Y Y (Zt (Ze Zl) Zl) (Zb ZaL)<|ZC<|Eq.trans Zl<|Eq.symm Zl)<|Za<|I1 (fun order4=>⟨[(3, .own 0 order4.length), (4, .mref 1 1), (6, .ptr 2 1 0 0), (12, .sl 74 (List.map R74 l)), (13, .int .i64 (l.length : Int)), (14, .int .i64 i)], [some ⟨3, List.map R3 order4⟩, some ⟨165, [[.mcon (List.map (QC FK3 (osF 74 R74)) by_2)]]⟩, some ⟨74, [(.int .i64 x.Number) :: ((List.map C47 x.Frame.toList) ++ (((List.map C3 x.States.toList) ++ ((.bool x.Sound) :: (.int .i64 x.Copies) :: (.bool x.Conflict) :: []))))]⟩]⟩) h (fun h=>?_) fun order4 h=>?_
    ·
     refine K6 3 4 6 12 13 14 Y<|Tr<|Rm Y<|Rq Y (Zd (ov Y) Y Y Qg)<|Rq Y (Zi (ov Y) Y Y Y tS3<|Zj at8)<|bE h fun z h_z h=>?_
     rcases z with z | z
     ·
      replace h := ell h
      refine Rq Y (ZfJ (e1 := 74) (R := R74) (m := by_2) (k := x.Number) (ZdW h_z) (ov Y) (ov Y) Qf Qk Y (fun _=>.b Y)<|Zw Za4 Y)<|Rq Y (Zfo (ZlX<|ov Y) Qd Y)<|R2 QD Y<|Za<|K7 3 4 6 12 13 14 23 Y<|If h Y (fun h=>?_) fun h=>?_
      ·
       refine K6 3 4 6 12 13 14 Y<|Tr<|Rm Y<|Rq Y (Zaf (ov Y) Y Y Qq)<|Ra Y<|Za<|I1 (fun at_=>⟨[(3, .own 0 order2.length), (4, .mref 1 1), (6, .ptr 2 1 0 0), (7, .int .i64 at_), (12, .sl 74 (List.map R74 l)), (13, .int .i64 (l.length : Int)), (14, .int .i64 i)], [some ⟨3, List.map R3 order2⟩, some ⟨165, [[.mcon (List.map (QC FK3 (osF 74 R74)) by_2)]]⟩, some ⟨74, [(.int .i64 x.Number) :: ((List.map C47 x.Frame.toList) ++ (((List.map C3 x.States.toList) ++ ((.bool x.Sound) :: (.int .i64 x.Copies) :: (.bool x.Conflict) :: []))))]⟩]⟩) h (fun h=>?_) fun at_ h=>?_
       ·
        refine Zk<|?_
        obtain ⟨r2, hl2, ho2⟩ := QP h
        refine L1 (fun at_2=>⟨[(3, .own 0 order2.length), (4, .mref 1 1), (6, .ptr 2 1 0 0), (7, .int .i64 at_2), (12, .sl 74 (List.map R74 l)), (13, .int .i64 (l.length : Int)), (14, .int .i64 i)], [some ⟨3, List.map R3 order2⟩, some ⟨165, [[.mcon (List.map (QC FK3 (osF 74 R74)) by_2)]]⟩, some ⟨74, [(.int .i64 x.Number) :: ((List.map C47 x.Frame.toList) ++ (((List.map C3 x.States.toList) ++ ((.bool x.Sound) :: (.int .i64 x.Copies) :: (.bool x.Conflict) :: []))))]⟩]⟩) hl2 (ES [some 0, some 1, some 2] (hhp := .cons Y (roM D3)<|.cons Y (ZJ (fk := FK3) (fv := (osF 74 R74)) (m := by_2) tZ_165 (fun _=>.dat Y) fun _=>QY D74)<|.cons Y (ro1 (by exact Eq.trans (b := 132) Zl tZ_74.symm)<|rld Qz) .nil)) fun n2 at_2 h=>?_
        unfold ZaW at h
        refine Zr<|Td md0<|D1 0 Zc Y<|D2 1 JW Y<|D1 2 Zc Y<|Dq 3 Y (.guarded ((decide (0 < at_2)) == true) Y Y Y Y fun h => Zc<|ov Y)<|Dq 4 Y (.guarded ((decide (0 < at_2)) == true) Y Y Y Y fun h => Zc<|ov Y)<|Dq 5 Y (.guarded ((decide (0 < at_2)) == true) Y Y Y Y fun h => ZcY (ow Y h) (ov Y) Y)<|bE h fun x2 h_x2 h=>Dq 6 Y (.guarded ((decide (0 < at_2)) == true) Y Y Y Y fun h => XQ (ow Y h) (ow Y h) Qq Y Y<|gdT h_x2 h)<|Dq 7 Y (.guarded ((decide (0 < at_2)) == true) Y Y Y Y fun h => ZaU (ow Y h) Y Y (gdT h_x2 h) tS3 Y)<|Dq 8 Y (.guarded ((decide (0 < at_2)) == true) Y Y Y Y fun h => Zd (ov Y) Y Y Qg)<|Dq 9 Y (.guarded ((decide (0 < at_2)) == true) Y Y Y Y fun h => Zi (ow Y h) Y Y Y tS3<|Zj at8)<|Dq 10 Y (.guarded ((decide (0 < at_2)) == true) Y Y Y Y fun h => JW (ow Y h)<|ow Y h)<|Dq 11 Y (QU (ov Y) fun hp=>ow Y<|gT hp)<|Dd<|K8 3 4 6 7 12 13 14 37 Y<|If h Y (fun h=>?_) fun h=>?_
        ·
         exact Zn<|Zk<|K7 3 4 6 7 12 13 14 Y<|Zu<|Rm Y<|R2 ZdH Y<|Ra Y<|Za<|⟨_, h, ES [some 0, some 1, some 2] (hhp := .cons Y (roM D3)<|.cons Y (ZJ (fk := FK3) (fv := (osF 74 R74)) (m := by_2) tZ_165 (fun _=>.dat Y) fun _=>QY D74)<|.cons Y (ro1 (by exact Eq.trans (b := 132) Zl tZ_74.symm)<|rld Qz) .nil)⟩
        ·
         refine ZL<|?_
         replace h := lx h ▸ ho2
         exact ⟨_, h, ES [some 0, some 1, some 2] (hhp := .cons Y (roM D3)<|.cons Y (ZJ (fk := FK3) (fv := (osF 74 R74)) (m := by_2) tZ_165 (fun _=>.dat Y) fun _=>QY D74)<|.cons Y (ro1 (by exact Eq.trans (b := 132) Zl tZ_74.symm)<|rld Qz) .nil)⟩
       ·
        exact Tr<|Rm Y<|R_q (.sl 3<|List.map R3 ([0] : List Int)) Y (Xv Qq (.cons (cvs (ov Y)<|ZU Y) Y (.cons (.b Y) .nil) .nil) Y Y)<|bE h fun l2 h_l2 h=>Rx Y (Zv (ov Y) (ZG (ov Y) tZ_3) Qq Y Y Y (fun _=>Zb Y) Y h_l2)<|Ra Y<|Za<|K7 3 4 6 7 12 13 14 Y<|Td md0<|D1 0 Zc Y<|D1 1 Zc Y<|D2 2 ZZ Y<|bE h fun u h_u h=>Dq 3 Y (Zjp (ov Y) Y Y Qq (oi<|ov Y) on h_u)<|D1 4 Zc Y<|D1 5 Zc Y<|bE h fun u2 h_u2 h=>Dq 6 Y (Zjp (ov Y) Y Y Qq (oi<|ov Y) on h_u2)<|Do 7 Y (ZjK (g := C3) (ov Y) (ov Y) Y Y (fun _=>Y) (fun _=>Y) (fun _=>Y) Qq (Xh h_u)<|Xh h_u2)<|Dd<|K7 3 4 6 7 12 13 14 Y<|Zu<|Rm Y<|Rm Y<|Rq Y (Zd (ov Y) Y Y Qg)<|Rq Y (Zi (ov Y) Y Y Y tS3<|Zj at8)<|bE h fun x3 h_x3 h=>Rq Y (XQ (ov Y) (ov Y) Qq Y ((JI (Xh h_u) (Xh h_u2)).trans Y) h_x3)<|Rx Y (Zb3 (u' := x.Number) (ov Y) (ov Y) (Zg tS3) Y ((JI (Xh h_u) (Xh h_u2)).trans Y) h_x3 Y (Zb Y) Y)<|Za<|⟨_, h, Ent.sel [some 0, some 1, some 2] (sr 3 Y (Zj1 (Eq.symm<|(List.length_set ..).trans<|(JI (Xh h_u) (Xh h_u2)).trans Y) Y)<|sr 4 Y (.mref _ Y)<|sr 6 Y (.ptr _ _ _ Y)<|sd 12 Y Y<|sd 13 Y Y<|sd 14 Y Y sn) (.cons Y (roM D3)<|.cons Y (ZJ (fk := FK3) (fv := (osF 74 R74)) (m := by_2) tZ_165 (fun _=>.dat Y) fun _=>QY D74)<|.cons Y (ro1 (by exact Eq.trans (b := 132) Zl tZ_74.symm)<|rld Qz) .nil) Y Y⟩
      ·
       exact Zn<|⟨_, h, ES [some 0, some 1, some 2] (hhp := .cons Y (roM D3)<|.cons Y (ZJ (fk := FK3) (fv := (osF 74 R74)) (m := by_2) tZ_165 (fun _=>.dat Y) fun _=>QY D74)<|.cons Y (ro1 (by exact Eq.trans (b := 132) Zl tZ_74.symm)<|rld Qz) .nil)⟩
     ·
      replace h := elr h
      refine Zb5 (Ent.focusMk1 (e := 74) (R := R74) (m := by_2) (k := x.Number) (r := 1) Y tZ_165 (ZaA h_z) D74)<|Rq Y (ZfO (e1 := 74) (R := R74) (m := by_2) (k := x.Number) (ov Y) (ov Y) Qf Qk Y (fun _=>.b Y)<|Zw Za4 Y)<|Rq Y (Zaf (ov Y) Y Y Qd)<|R2 QD Y<|Zb5 (by exact Ent.absorbMs1 (e := 74) (R := R74) (m := by_2) (k := x.Number) (ys := z) (fk := FK3) (r := 1) (q := 3) (ZaA h_z) rfl tZ_165 rfl rfl rfl)<|Za<|K7 3 4 6 12 13 14 23 Y<|If h Y (fun h=>?_) fun h=>?_
      ·
       refine K6 3 4 6 12 13 14 Y<|Tr<|Rm Y<|Rq Y (Zaf (ov Y) Y Y Qq)<|Ra Y<|Za<|I1 (fun at_3=>⟨[(3, .own 0 order2.length), (4, .mref 1 1), (6, .ptr 2 1 0 0), (7, .int .i64 at_3), (12, .sl 74 (List.map R74 l)), (13, .int .i64 (l.length : Int)), (14, .int .i64 i)], [some ⟨3, List.map R3 order2⟩, some ⟨165, [[.mcon (List.map (QC FK3 (osF 74 R74)) by_2)]]⟩, some ⟨74, [(.int .i64 x.Number) :: ((List.map C47 x.Frame.toList) ++ (((List.map C3 x.States.toList) ++ ((.bool x.Sound) :: (.int .i64 x.Copies) :: (.bool x.Conflict) :: []))))]⟩]⟩) h (fun h=>?_) fun at_3 h=>?_
       ·
        refine Zk<|?_
        obtain ⟨r3, hl3, ho3⟩ := QP h
        refine L1 (fun at_4=>⟨[(3, .own 0 order2.length), (4, .mref 1 1), (6, .ptr 2 1 0 0), (7, .int .i64 at_4), (12, .sl 74 (List.map R74 l)), (13, .int .i64 (l.length : Int)), (14, .int .i64 i)], [some ⟨3, List.map R3 order2⟩, some ⟨165, [[.mcon (List.map (QC FK3 (osF 74 R74)) by_2)]]⟩, some ⟨74, [(.int .i64 x.Number) :: ((List.map C47 x.Frame.toList) ++ (((List.map C3 x.States.toList) ++ ((.bool x.Sound) :: (.int .i64 x.Copies) :: (.bool x.Conflict) :: []))))]⟩]⟩) hl3 (ES [some 0, some 1, some 2] (hhp := .cons Y (roM D3)<|.cons Y (ZJ (fk := FK3) (fv := (osF 74 R74)) (m := by_2) tZ_165 (fun _=>.dat Y) fun _=>QY D74)<|.cons Y (ro1 (by exact Eq.trans (b := 132) Zl tZ_74.symm)<|rld Qz) .nil)) fun n3 at_4 h=>?_
        unfold ZdR at h
        refine Zr<|Td md0<|D1 0 Zc Y<|D2 1 JW Y<|D1 2 Zc Y<|Dq 3 Y (.guarded ((decide (0 < at_4)) == true) Y Y Y Y fun h => Zc<|ov Y)<|Dq 4 Y (.guarded ((decide (0 < at_4)) == true) Y Y Y Y fun h => Zc<|ov Y)<|Dq 5 Y (.guarded ((decide (0 < at_4)) == true) Y Y Y Y fun h => ZcY (ow Y h) (ov Y) Y)<|bE h fun x4 h_x4 h=>Dq 6 Y (.guarded ((decide (0 < at_4)) == true) Y Y Y Y fun h => XQ (ow Y h) (ow Y h) Qq Y Y<|gdT h_x4 h)<|Dq 7 Y (.guarded ((decide (0 < at_4)) == true) Y Y Y Y fun h => ZaU (ow Y h) Y Y (gdT h_x4 h) tS3 Y)<|Dq 8 Y (.guarded ((decide (0 < at_4)) == true) Y Y Y Y fun h => Zd (ov Y) Y Y Qg)<|Dq 9 Y (.guarded ((decide (0 < at_4)) == true) Y Y Y Y fun h => Zi (ow Y h) Y Y Y tS3<|Zj at8)<|Dq 10 Y (.guarded ((decide (0 < at_4)) == true) Y Y Y Y fun h => JW (ow Y h)<|ow Y h)<|Dq 11 Y (QU (ov Y) fun hp=>ow Y<|gT hp)<|Dd<|K8 3 4 6 7 12 13 14 37 Y<|If h Y (fun h=>?_) fun h=>?_
        ·
         exact Zn<|Zk<|K7 3 4 6 7 12 13 14 Y<|Zu<|Rm Y<|R2 ZdH Y<|Ra Y<|Za<|⟨_, h, ES [some 0, some 1, some 2] (hhp := .cons Y (roM D3)<|.cons Y (ZJ (fk := FK3) (fv := (osF 74 R74)) (m := by_2) tZ_165 (fun _=>.dat Y) fun _=>QY D74)<|.cons Y (ro1 (by exact Eq.trans (b := 132) Zl tZ_74.symm)<|rld Qz) .nil)⟩
        ·
         refine ZL<|?_
         replace h := lx h ▸ ho3
         exact ⟨_, h, ES [some 0, some 1, some 2] (hhp := .cons Y (roM D3)<|.cons Y (ZJ (fk := FK3) (fv := (osF 74 R74)) (m := by_2) tZ_165 (fun _=>.dat Y) fun _=>QY D74)<|.cons Y (ro1 (by exact Eq.trans (b := 132) Zl tZ_74.symm)<|rld Qz) .nil)⟩
       ·
        exact Tr<|Rm Y<|R_q (.sl 3<|List.map R3 ([0] : List Int)) Y (Xv Qq (.cons (cvs (ov Y)<|ZU Y) Y (.cons (.b Y) .nil) .nil) Y Y)<|bE h fun l3 h_l3 h=>Rx Y (Zv (ov Y) (ZG (ov Y) tZ_3) Qq Y Y Y (fun _=>Zb Y) Y h_l3)<|Ra Y<|Za<|K7 3 4 6 7 12 13 14 Y<|Td md0<|D1 0 Zc Y<|D1 1 Zc Y<|D2 2 ZZ Y<|bE h fun u3 h_u3 h=>Dq 3 Y (Zjp (ov Y) Y Y Qq (oi<|ov Y) on h_u3)<|D1 4 Zc Y<|D1 5 Zc Y<|bE h fun u4 h_u4 h=>Dq 6 Y (Zjp (ov Y) Y Y Qq (oi<|ov Y) on h_u4)<|Do 7 Y (ZjK (g := C3) (ov Y) (ov Y) Y Y (fun _=>Y) (fun _=>Y) (fun _=>Y) Qq (Xh h_u3)<|Xh h_u4)<|Dd<|K7 3 4 6 7 12 13 14 Y<|Zu<|Rm Y<|Rm Y<|Rq Y (Zd (ov Y) Y Y Qg)<|Rq Y (Zi (ov Y) Y Y Y tS3<|Zj at8)<|bE h fun x5 h_x5 h=>Rq Y (XQ (ov Y) (ov Y) Qq Y ((JI (Xh h_u3) (Xh h_u4)).trans Y) h_x5)<|Rx Y (Zb3 (u' := x.Number) (ov Y) (ov Y) (Zg tS3) Y ((JI (Xh h_u3) (Xh h_u4)).trans Y) h_x5 Y (Zb Y) Y)<|Za<|⟨_, h, Ent.sel [some 0, some 1, some 2] (sr 3 Y (Zj1 (Eq.symm<|(List.length_set ..).trans<|(JI (Xh h_u3) (Xh h_u4)).trans Y) Y)<|sr 4 Y (.mref _ Y)<|sr 6 Y (.ptr _ _ _ Y)<|sd 12 Y Y<|sd 13 Y Y<|sd 14 Y Y sn) (.cons Y (roM D3)<|.cons Y (ZJ (fk := FK3) (fv := (osF 74 R74)) (m := by_2) tZ_165 (fun _=>.dat Y) fun _=>QY D74)<|.cons Y (ro1 (by exact Eq.trans (b := 132) Zl tZ_74.symm)<|rld Qz) .nil) Y Y⟩
      ·
       exact Zn<|⟨_, h, ES [some 0, some 1, some 2] (hhp := .cons Y (roM D3)<|.cons Y (ZJ (fk := FK3) (fv := (osF 74 R74)) (m := by_2) tZ_165 (fun _=>.dat Y) fun _=>QY D74)<|.cons Y (ro1 (by exact Eq.trans (b := 132) Zl tZ_74.symm)<|rld Qz) .nil)⟩
    ·
     refine bE h fun z2 h_z2 h=>?_
     rcases z2 with z2 | z2
     ·
      replace h := ell h
      refine J6 (cw := md0) (by kernel_rfl)<|D1 3 Zc Y<|Dq 4 Y (Zd (ov Y) Y Y Qg)<|Dq 5 Y (Zi (ov Y) Y Y Y tS3<|Zj at8)<|Dq 6 Y (ZfJ (e1 := 74) (R := R74) (m := by_2) (k := x.Number) (ZdW h_z2) (ov Y) (ov Y) Qf Qk Y (fun _=>.b Y)<|Zw Za4 Y)<|Dq 7 Y (Zy (ov Y) Y Y Y Qh (Zm<|Ze Zl) Zl (hns := Jd))<|Zjb 8 (.sl 74<|List.map R74 ([x] : List api_Rest)) Y (by kernel_rfl) Y Y (Xv Qd (.cons (cva<|ov Y) Zl (pwD Qz) .nil) Y Y)<|Zai 0 _ Y (by kernel_rfl) Y Y (fun hp'=>Zc<|ov Y)<|bE h fun l4 h_l4 h=>Dw 1 9 Y (Zd (ov Y) Y Y Qg) (X8 (r := 3) Y (ov Y) (ZG (ov Y) tZ_74) Qd Y h_l4) ?_ ?_
      ·
       refine Dw 2 9 Y (Zi (ov Y) Y Y Y tS3<|Zj at8) (X8 (r := 3) Y (ov Y) (ZG (ov Y) tZ_74) Qd Y h_l4) ?_ ?_
       ·
        exact Do 9 Y (X8 (r := 3) Y (ov Y) (ZG (ov Y) tZ_74) Qd Y h_l4)<|Do 10 Y (ZdL (e1 := 74) (R := R74) (m := by_2) (k := x.Number) (ov Y) (ov Y) (ov Y) Qf Qk Y fun _=>.b Y)<|Xy (by kernel_rfl) (Ent.absorbMk1 (e := 74) (R := R74) (m := by_2) (k := x.Number) (ys := l4) (fk := FK3) (r := 1) (q := 3) Y tZ_165 Y Y Y)<|⟨_, h, ES [some 0, some 1] (hhp := .cons Y (roM D3)<|.cons Y (ZJ (fk := FK3) (fv := (osF 74 R74)) (m := (Z0 kqI by_2 x.Number l4)) tZ_165 (fun _=>.dat Y) fun _=>QY D74) .nil)⟩
       ·
        exact Dq 2 Y (Zi (ov Y) Y Y Y tS3<|Zj at8)<|Do 10 Y (ZdL (e1 := 74) (R := R74) (m := by_2) (k := x.Number) (ov Y) (ov Y) (ov Y) Qf Qk Y fun _=>.b Y)<|Xy (by kernel_rfl) (Ent.absorbMk1 (e := 74) (R := R74) (m := by_2) (k := x.Number) (ys := l4) (fk := FK3) (r := 1) (q := 3) Y tZ_165 Y Y Y)<|⟨_, h, ES [some 0, some 1] (hhp := .cons Y (roM D3)<|.cons Y (ZJ (fk := FK3) (fv := (osF 74 R74)) (m := (Z0 kqI by_2 x.Number l4)) tZ_165 (fun _=>.dat Y) fun _=>QY D74) .nil)⟩
      ·
       exact Dq 1 Y (Zd (ov Y) Y Y Qg)<|Dq 2 Y (Zi (ov Y) Y Y Y tS3<|Zj at8)<|Do 10 Y (ZdL (e1 := 74) (R := R74) (m := by_2) (k := x.Number) (ov Y) (ov Y) (ov Y) Qf Qk Y fun _=>.b Y)<|Xy (by kernel_rfl) (Ent.absorbMk1 (e := 74) (R := R74) (m := by_2) (k := x.Number) (ys := l4) (fk := FK3) (r := 1) (q := 3) Y tZ_165 Y Y Y)<|⟨_, h, ES [some 0, some 1] (hhp := .cons Y (roM D3)<|.cons Y (ZJ (fk := FK3) (fv := (osF 74 R74)) (m := (Z0 kqI by_2 x.Number l4)) tZ_165 (fun _=>.dat Y) fun _=>QY D74) .nil)⟩
     ·
      replace h := elr h
      refine ZhW (Ent.focusMk1 (e := 74) (R := R74) (m := by_2) (k := x.Number) (r := 1) Y tZ_165 (ZaA h_z2) D74)<|J6 (cw := md0) (by kernel_rfl)<|D1 3 Zc Y<|Dq 4 Y (Zd (ov Y) Y Y Qg)<|Dq 5 Y (Zi (ov Y) Y Y Y tS3<|Zj at8)<|Dq 6 Y (ZfO (e1 := 74) (R := R74) (m := by_2) (k := x.Number) (ov Y) (ov Y) Qf Qk Y (fun _=>.b Y)<|Zw Za4 Y)<|Dq 7 Y (Zy (ov Y) Y Y Y Qh (Zm<|Ze Zl) Zl (hns := Jd))<|Zjb 8 (.sl 74<|List.map R74 ([x] : List api_Rest)) Y (by kernel_rfl) Y Y (Xv Qd (.cons (cva<|ov Y) Zl (pwD Qz) .nil) Y Y)<|Zai 0 _ Y (by kernel_rfl) Y Y (fun hp'=>Zc<|ov Y)<|bE h fun l5 h_l5 h=>Dw 1 9 Y (Zd (ov Y) Y Y Qg) (Zv (ov Y) (ZG (ov Y) tZ_74) Qd Y Y Y (fun x=>Zb<|E74 x) Y h_l5) ?_ ?_
      ·
       refine Dw 2 9 Y (Zi (ov Y) Y Y Y tS3<|Zj at8) (Zv (ov Y) (ZG (ov Y) tZ_74) Qd Y Y Y (fun x=>Zb<|E74 x) Y h_l5) ?_ ?_
       ·
        exact Do 9 Y (Zv (ov Y) (ZG (ov Y) tZ_74) Qd Y Y Y (fun x=>Zb<|E74 x) Y h_l5)<|Do 10 Y (ZdS (e1 := 74) (R := R74) (m := by_2) (k := x.Number) (ov Y) (ov Y) (ov Y) Qf Qk Y fun _=>.b Y)<|Xy (by kernel_rfl) (Ent.absorbMk1 (e := 74) (R := R74) (m := by_2) (k := x.Number) (ys := l5) (fk := FK3) (r := 1) (q := 3) Y tZ_165 Y Y Y)<|⟨_, h, ES [some 0, some 1] (hhp := .cons Y (roM D3)<|.cons Y (ZJ (fk := FK3) (fv := (osF 74 R74)) (m := (Z0 kqI by_2 x.Number l5)) tZ_165 (fun _=>.dat Y) fun _=>QY D74) .nil)⟩
       ·
        exact Dq 2 Y (Zi (ov Y) Y Y Y tS3<|Zj at8)<|Do 10 Y (ZdS (e1 := 74) (R := R74) (m := by_2) (k := x.Number) (ov Y) (ov Y) (ov Y) Qf Qk Y fun _=>.b Y)<|Xy (by kernel_rfl) (Ent.absorbMk1 (e := 74) (R := R74) (m := by_2) (k := x.Number) (ys := l5) (fk := FK3) (r := 1) (q := 3) Y tZ_165 Y Y Y)<|⟨_, h, ES [some 0, some 1] (hhp := .cons Y (roM D3)<|.cons Y (ZJ (fk := FK3) (fv := (osF 74 R74)) (m := (Z0 kqI by_2 x.Number l5)) tZ_165 (fun _=>.dat Y) fun _=>QY D74) .nil)⟩
      ·
       exact Dq 1 Y (Zd (ov Y) Y Y Qg)<|Dq 2 Y (Zi (ov Y) Y Y Y tS3<|Zj at8)<|Do 10 Y (ZdS (e1 := 74) (R := R74) (m := by_2) (k := x.Number) (ov Y) (ov Y) (ov Y) Qf Qk Y fun _=>.b Y)<|Xy (by kernel_rfl) (Ent.absorbMk1 (e := 74) (R := R74) (m := by_2) (k := x.Number) (ys := l5) (fk := FK3) (r := 1) (q := 3) Y tZ_165 Y Y Y)<|⟨_, h, ES [some 0, some 1] (hhp := .cons Y (roM D3)<|.cons Y (ZJ (fk := FK3) (fv := (osF 74 R74)) (m := (Z0 kqI by_2 x.Number l5)) tZ_165 (fun _=>.dat Y) fun _=>QY D74) .nil)⟩
   ·
    exact Zu<|R2 ZZ Y<|Rm Y<|Za<|⟨_, h, ES [some 0, some 1] (hhp := .cons Y (roM D3)<|.cons Y (ZJ (fk := FK3) (fv := (osF 74 R74)) (m := by_3) tZ_165 (fun _=>.dat Y) fun _=>QY D74) .nil)⟩
  ·
   refine ZL<|?_
   replace h := lx h ▸ ho1
   exact ⟨_, h, ES [some 0, some 1] (hhp := .cons Y (roM D3)<|.cons Y (ZJ (fk := FK3) (fv := (osF 74 R74)) (m := by_2) tZ_165 (fun _=>.dat Y) fun _=>QY D74) .nil)⟩
 ·
  refine Tr<|Ra Y<|Za<|I1 (fun out=>⟨[(8, .own 0 out.length)], [some ⟨74, List.map R74 out⟩]⟩) h (fun h=>?_) fun out h=>?_
  ·
   refine Tr<|Rm Y<|Rq Y (Zaf (ov Y) Y Y Qq)<|Rm Y<|Za<|Zk<|?_
   obtain ⟨r4, hl4, ho4⟩ := QP h
   refine L2 (fun out2 i2=>⟨[(4, .mref 0 1), (8, .own 1 out2.length), (67, .own 2 order.length), (68, .int .i64 (order.length : Int)), (69, .int .i64 i2)], [some ⟨165, [[.mcon (List.map (QC FK3 (osF 74 R74)) by_)]]⟩, some ⟨74, List.map R74 out2⟩, some ⟨3, List.map R3 order⟩]⟩) hl4 (ES [some 1, none, some 0] (hhp := .cons Y (ZJ (fk := FK3) (fv := (osF 74 R74)) (m := by_) tZ_165 (fun _=>.dat Y) fun _=>QY D74)<|.row 74<|.cons Y (roM D3) .nil)) fun n4 out2 i2 h=>?_
   unfold JP at h
   refine Tr<|R2 ZX Y<|Za<|Zr<|If h Y (fun h=>?_) fun h=>?_
   ·
    refine Zn<|Zr<|Zk<|K5 4 8 67 68 69 Y<|Tr<|bE h fun x6 h_x6 h=>Rq Y (XQ (ov Y) (ov Y) Qq Y Y h_x6)<|Rq Y (ZaU (ov Y) Y Y h_x6 tS3 Y)<|Ra Y<|Za<|K6 4 8 10 67 68 69 Y<|Zu<|Rm Y<|Rm Y<|Rm Y<|bE h fun z3 h_z3 h=>?_
    rcases z3 with z3 | z3
    ·
     replace h := ell h
     exact Rq Y (ZfJ (e1 := 74) (R := R74) (m := by_) (k := x6) (ZdW h_z3) (ov Y) (ov Y) Qf Qk Y (fun _=>.b Y)<|Zw Za4 Y)<|bE h fun y h_y h=>Rq Y (Zq (Zdz h_y)<|.cons (ov Y) (Dat.nils _) .nil)<|R_q (.sl 74<|List.map R74 ([y] : List api_Rest)) Y (Xv Qd (.cons (cva<|ov Y) Zl (pwD Qz) .nil) Y Y)<|bE h fun l6 h_l6 h=>Rx Y (Zv (ov Y) (ZG (ov Y) tZ_74) Qd Y Y Y (fun x=>Zb<|E74 x) Y h_l6)<|Ra Y<|Za<|K5 4 8 67 68 69 Y<|Zu<|R2 ZZ Y<|Rm Y<|Za<|⟨_, h, ES [some 0, some 1, some 2] (hhp := .cons Y (ZJ (fk := FK3) (fv := (osF 74 R74)) (m := by_) tZ_165 (fun _=>.dat Y) fun _=>QY D74)<|.cons Y (roM D74)<|.cons Y (roM D3) .nil)⟩
    ·
     replace h := elr h
     exact Zb5 (Ent.focusMk1 (e := 74) (R := R74) (m := by_) (k := x6) (r := 0) Y tZ_165 (ZaA h_z3) D74)<|Rq Y (ZfO (e1 := 74) (R := R74) (m := by_) (k := x6) (ov Y) (ov Y) Qf Qk Y (fun _=>.b Y)<|Zw Za4 Y)<|bE h fun y2 h_y2 h=>Rq Y (Zb7 (Zdz h_y2) (.agg<|faC .int<|faA (faV fun _ => .int)<|faA (faV fun _ => .int)<|faC .bool<|faC .int<|faC .bool faN)<|.cons (ov Y) (View.ownM Y Y D74) .nil)<|R_q (.sl 74<|List.map R74 ([y2] : List api_Rest)) Y (Xv Qd (.cons (cva<|ov Y) Zl (pwD Qz) .nil) Y Y)<|bE h fun l7 h_l7 h=>Rx Y (Zv (ov Y) (ZG (ov Y) tZ_74) Qd Y Y Y (fun x=>Zb<|E74 x) Y h_l7)<|Ra Y<|Zb5 (by exact Ent.absorbMs1 (e := 74) (R := R74) (m := by_) (k := x6) (ys := z3) (fk := FK3) (r := 0) (q := 3) (ZaA h_z3) rfl tZ_165 rfl rfl rfl)<|Za<|K5 4 8 67 68 69 Y<|Zu<|R2 ZZ Y<|Rm Y<|Za<|⟨_, h, ES [some 0, some 1, some 2] (hhp := .cons Y (ZJ (fk := FK3) (fv := (osF 74 R74)) (m := by_) tZ_165 (fun _=>.dat Y) fun _=>QY D74)<|.cons Y (roM D74)<|.cons Y (roM D3) .nil)⟩
   ·
    refine ZL<|?_
    replace h := lx h ▸ ho4
    exact ⟨_, h, ES [some 1]⟩
  ·
   refine Tr<|Rm Y<|Ra Y<|Za<|?_
   obtain rfl := rt h
   exact Zz (ZP Y (.one<|.tmp Y<|View.ownM Y Y D74))
theorem JJ {s1 : List api_Rest} {s2 : List api_Rest} {r : Bool} (h : Qo s1 s2 = some r) :
 CSpec Tryz.prog gl0 21 [.sl 74 (List.map R74 s1), .sl 74 (List.map R74 s2)] (.bool r) := by
 unfold Qo at h
 replace h := Qj h
 refine So Tryz.func21 Y fun w0 A=>Tr<|Ra Y<|Za<|Zr<|K2 0 1 Y<|Tr<|Rm Y<|Rl tZ_74 Qd Y<|Rm Y<|Rl tZ_74 Qd Y<|R2 Jl Y<|Za<|K3 0 1 10 Y<|If h Y (fun h=>?_) fun h=>?_
 ·
  refine K0<|Tr<|Ra Y<|Za<|?_
  obtain rfl := rt h
  exact Zz (ZP Y (.one<|rb Y))
 ·
  refine Zn<|J0 (fun j => (.inr j)) ⟨[], []⟩ h (fun h=>?_) fun h=>?_
  ·
   refine K2 0 1 Y<|Tr<|Rm Y<|Rl tZ_74 Qd Y<|Rm Y<|Za<|Zk<|?_
   obtain ⟨r1, hl1, ho1⟩ := QP h
   refine L1 (fun i=>⟨[(0, .sl 74 (List.map R74 s1)), (1, .sl 74 (List.map R74 s2)), (12, .int .i64 (s1.length : Int)), (13, .int .i64 i)], []⟩) hl1 (ES []) fun n1 i h=>?_
   unfold Qu at h
   refine Tr<|R2 ZX Y<|Za<|Zr<|If h Y (fun h=>?_) fun h=>?_
   ·
    refine Zn<|Zr<|Zk<|K4 0 1 12 13 Y<|Tr<|Rm Y<|Ra Y<|Za<|K5 0 1 5 12 13 Y<|Td md0<|D1 0 Zc Y<|D1 1 Zc Y<|bE h fun x h_x h=>Dq 2 Y (ZS (ov Y) (ov Y) Qd h_x)<|Dq 3 Y (ZF (ov Y) Qh (Zm<|Ze Zl) Zl)<|D1 4 Zc Y<|D1 5 Zc Y<|bE h fun x2 h_x2 h=>Dq 6 Y (ZS (ov Y) (ov Y) Qd h_x2)<|Dq 7 Y (ZF (ov Y) Qh (Zm<|Ze Zl) Zl)<|Dq 8 Y (ZmZ ZrY (ov Y) (ov Y) (.aggB Qz) (.aggB Qz) (fkC Y<|fkA (fkV fun _ => Y)<|fkA (fkV fun _ => Y)<|fkC Y<|fkC Y<|fkC Y fkN) (fkC Y<|fkA (fkV fun _ => Y)<|fkA (fkV fun _ => Y)<|fkC Y<|fkC Y<|fkC Y fkN)<|eqC Y<|eqA (Eq.trans arL<|Eq.symm arL) (eqV fun _ _ => Y)<|eqA (Eq.trans arL<|Eq.symm arL) (eqV fun _ _ => Y)<|eqC Y<|eqC Y<|eqC Y eqN)<|Dd<|K5 0 1 12 13 24 Y<|If h Y (fun h=>?_) fun h=>?_
    ·
     refine K0<|Tr<|Ra Y<|Za<|?_
     replace h := lx h ▸ ho1
     obtain rfl := rt h
     exact Zz (ZP Y (.one<|rb Y))
    ·
     exact Zn<|K4 0 1 12 13 Y<|Zu<|R2 ZZ Y<|Rm Y<|Za<|⟨_, h, ES []⟩
   ·
    refine ZL<|?_
    replace h := lx h ▸ ho1
    exact ⟨_, h, ES []⟩
  ·
   replace h := elr h
   replace h := t0i h
   refine Tr<|Ra Y<|Za<|?_
   obtain rfl := rt h
   exact Zz (ZP Y (.one<|rb Y))
theorem J3 {data : Int} {r : Int} (h : X7 data = some r) :
 CSpec Tryz.prog gl0 165 [.int .i64 data] (.int .i64 r) := by
 unfold X7 at h
 replace h := Qj h
 refine So Tryz.func165 Y fun w0 A=>Tr<|Ra Y<|Za<|Zr<|K1 0 Y<|Tr<|Rm Y<|bE h fun y h_y h=>Rq Y (Zq (Zgv h_y)<|.cons (ov Y) (.b Y) .nil)<|Za<|K2 0 4 Y<|If h Y (fun h=>?_) fun h=>?_
 ·
  refine K1 0 Y<|Tr<|Rm Y<|Ra Y<|Za<|?_
  obtain rfl := rt h
  exact Zz (ZP Y (.one<|rb Y))
 ·
  refine Zn<|K1 0 Y<|Tr<|Rm Y<|R2 ZZ Y<|Ra Y<|Za<|?_
  obtain rfl := rt h
  exact Zz (ZP Y (.one<|rb Y))
theorem Zjx {f : Vector Int 64} {r : (Vector Int 64)} (h : Zc0 f = some r) :
 CSpec Tryz.prog gl0 169 [.agg (List.map C47 f.toList)] (.agg (List.map C47 r.toList)) := by
 unfold Zc0 at h
 replace h := Qj h
 refine So Tryz.func169 Y fun w0 A=>Tr<|Rx Y (Zkd 0 Y (ov Y) Z3 arL)<|Rx Y (ZO (row := (List.map C47 (Vector.replicate 64 0).toList)) 1 Y ZcW Y tZ_49)<|Za<|K2 1 2 Y<|Tr<|Rq Y (Zy (ov Y) Y Y Y Z3 (Zm<|Ze arL) arL (hns := (nsM fun _ => Y)))<|bE h fun y h_y h=>Rq Y (Zq (Zdq h_y)<|.cons (ov Y) (.aggB<|arD fun _ => Y) .nil)<|Ra Y<|Za<|K3 1 2 3 Y<|Tr<|Rm Y<|bE h fun q h_q h=>Rq Y (Zbe (ov Y) (ov Y) h_q)<|bE h fun y2 h_y2 h=>Rq Y (Zq (J3 h_y2)<|.cons (ov Y) (.b Y) .nil)<|Rq Y (Qi (ov Y) tI3 JV Y)<|Rm Y<|bE h fun q2 h_q2 h=>Rq Y (XA (ov Y) (ov Y) h_q2)<|bE h fun y3 h_y3 h=>Rq Y (Zq (J3 h_y3)<|.cons (ov Y) (.b Y) .nil)<|Rq Y (Qi (ov Y) tI3 JV Y)<|bE h fun x h_x h=>Rq Y (ZY (ov Y) (ov Y) QL Y Y h_x)<|Rx Y (Zf (ov Y) (ov Y) (Zg QR) Y Y Y (arB h_x) (Zb Y)<|arS h_x)<|bE h fun x2 h_x2 h=>Rq Y (ZY (ov Y) (ov Y) QL Y Y h_x2)<|Rx Y (Zf (ov Y) (ov Y) (Zg QR) Y Y Y (arB h_x2) (Zb Y)<|arS h_x2)<|Za<|K2 1 2 Y<|Tr<|Rq Y (Zy (ov Y) Y Y Y Z3 (Zm<|Ze arL) arL (hns := (nsM fun _ => Y)))<|Rx Y (Zf (ov Y) (ov Y) (Zp Z3 arL) Y Y Y (Zt (Ze arL) arL) (Zb<|arC fun _ => Y)<|ZC<|Eq.trans arL<|Eq.symm arL)<|Za<|?_
 obtain rfl := rt h
 exact Zz (ZP Y (.one<|.agg Y Y Y Y Z3 (Zm<|Ze arL) arL (pwB<|arD fun _ => Y) (hns := (nsM fun _ => Y))))
theorem Zks {f : Vector Int 64} {r : (Vector Int 64)} (h : ZdC f = some r) :
 CSpec Tryz.prog gl0 123 [.agg (List.map C47 f.toList)] (.agg (List.map C47 r.toList)) := by
 unfold ZdC at h
 replace h := Qj h
 refine So Tryz.func123 Y fun w0 A=>Tr<|Rx Y (Zkd 0 Y (ov Y) Z3 arL)<|Rx Y (ZO (row := (List.map C47 (Vector.replicate 64 0).toList)) 1 Y ZcW Y tZ_49)<|Za<|I1 (fun f2=>⟨[(1, .ptr 0 1 0 0), (2, .ptr 1 1 0 0)], [some ⟨49, [(List.map C47 f2.toList)]⟩, some ⟨49, [(List.map C47 (Vector.replicate 64 0).toList)]⟩]⟩) h (fun h=>?_) fun f2 h=>?_
 ·
  refine K2 1 2 Y<|Tr<|Ra Y<|Za<|Zk<|?_
  obtain ⟨r1, hl1, ho1⟩ := QP h
  refine L2 (fun f3 i=>⟨[(1, .ptr 0 1 0 0), (2, .ptr 1 1 0 0), (3, .int .i64 i)], [some ⟨49, [(List.map C47 f3.toList)]⟩, some ⟨49, [(List.map C47 (Vector.replicate 64 0).toList)]⟩]⟩) hl1 (ES [some 0, some 1]) fun n1 f3 i h=>?_
  unfold ZcR at h
  refine Zr<|Tr<|Rm Y<|R2 ZgE Y<|Za<|K4 1 2 3 5 Y<|If h Y (fun h=>?_) fun h=>?_
  ·
   exact Zn<|Zr<|Zk<|K3 1 2 3 Y<|Zu<|Rm Y<|Rm Y<|bE h fun x h_x h=>Rq Y (ZY (ov Y) (ov Y) QL Y Y h_x)<|Rq Y (Zi (ov Y) Y Y Y QR<|Zj<|Z1 (o := 0) (o' := (i.toNat * 1)) (Ze arL)<|ZN h_x)<|Rq Y (Qi (ov Y) JV tI3 Y)<|bE h fun q h_q h=>Rq Y (XA (ov Y) (ov Y) h_q)<|bE h fun y h_y h=>Rq Y (Zq (J3 h_y)<|.cons (ov Y) (.b Y) .nil)<|Rq Y (Qi (ov Y) tI3 JV Y)<|bE h fun x2 h_x2 h=>Rq Y (ZY (ov Y) (ov Y) QL Y Y h_x2)<|Rx Y (Zf (ov Y) (ov Y) (Zg QR) Y Y Y (arB h_x2) (Zb Y)<|arS h_x2)<|Za<|K3 1 2 3 Y<|Zu<|Rm Y<|R2 ZZ Y<|Ra Y<|Za<|⟨_, h, ES [some 0, some 1]⟩
  ·
   refine ZL<|?_
   replace h := lx h ▸ ho1
   exact ⟨_, h, ES [some 0, some 1]⟩
 ·
  refine Tr<|Rq Y (Zy (ov Y) Y Y Y Z3 (Zm<|Ze arL) arL (hns := (nsM fun _ => Y)))<|bE h fun y2 h_y2 h=>Rq Y (Zq (ZbE h_y2)<|.cons (ov Y) (.aggB<|arD fun _ => Y) .nil)<|bE h fun y3 h_y3 h=>Rq Y (Zq (ZcB h_y3)<|.cons (ov Y) (.b Y) .nil)<|Rq Y (Qi (ov Y) tI3 JV Y)<|bE h fun x3 h_x3 h=>Rq Y (ZY (ov Y) (ov Y) QL Y Y h_x3)<|Rx Y (Zf (ov Y) (ov Y) (Zg QR) Y Y Y (arB h_x3) (Zb Y)<|arS h_x3)<|Za<|K2 1 2 Y<|Tr<|Rq Y (Zy (ov Y) Y Y Y Z3 (Zm<|Ze arL) arL (hns := (nsM fun _ => Y)))<|bE h fun y4 h_y4 h=>Rq Y (Zq (ZeE h_y4)<|.cons (ov Y) (.aggB<|arD fun _ => Y) .nil)<|bE h fun y5 h_y5 h=>Rq Y (Zq (J3 h_y5)<|.cons (ov Y) (.b Y) .nil)<|Rq Y (Qi (ov Y) tI3 JV Y)<|bE h fun x4 h_x4 h=>Rq Y (ZY (ov Y) (ov Y) QL Y Y h_x4)<|Rx Y (Zf (ov Y) (ov Y) (Zg QR) Y Y Y (arB h_x4) (Zb Y)<|arS h_x4)<|Za<|K2 1 2 Y<|Tr<|Rq Y (Zy (ov Y) Y Y Y Z3 (Zm<|Ze arL) arL (hns := (nsM fun _ => Y)))<|bE h fun y6 h_y6 h=>Rq Y (Zq (Zjx h_y6)<|.cons (ov Y) (.aggB<|arD fun _ => Y) .nil)<|Rx Y (Zf (ov Y) (ov Y) (Zp Z3 arL) Y Y Y (Zt (Ze arL) arL) (Zb<|arC fun _ => Y)<|ZC<|Eq.trans arL<|Eq.symm arL)<|Za<|?_
  obtain rfl := rt h
  exact Zz (ZP Y (.one<|.agg Y Y Y Y Z3 (Zm<|Ze arL) arL (pwB<|arD fun _ => Y) (hns := (nsM fun _ => Y))))
theorem Zme {number : Int} {data : List Int} {r : (Vector Int 64) × Int} (h : ZgP number data = some r) :
 CSpec Tryz.prog gl0 63 [.int .i64 number, .sl 3 (List.map R3 data)] (.tuple [.agg (List.map C47 r.1.toList), .int .i64 r.2]) := by
 unfold ZgP at h
 replace h := Qj h
 refine So Tryz.func63 Y fun w0 A=>Tr<|Rx Y (ZO (row := (List.map C47 (Vector.replicate 64 0).toList)) 0 Y ZcW Y tZ_49)<|Ra Y<|Za<|Zr<|K3 0 1 4 Y<|Tr<|Rm Y<|R2 ZX Y<|Rm Y<|Rq Y (.guarded ((decide (number < 0)) == false) Y Y Y Y fun h => Zc<|ov Y)<|Rq Y (.guarded ((decide (number < 0)) == false) Y Y Y Y fun h => ZdJ (ow Y h)<|ov Y)<|Rq Y (Zaj (ov Y) fun hp=>ow Y<|gF hp)<|Za<|K4 0 1 4 14 Y<|If h Y (fun h=>?_) fun h=>?_
 ·
  refine K1 4 Y<|Tr<|R_q (.agg<|List.map C47 (#v[0, 0, 0, 0, 0, 0, 0, 0, 0, 0, 0, 0, 0, 0, 0, 0, 0, 0, 0, 0, 0, 0, 0, 0, 0, 0, 0, 0, 0, 0, 0, 0, 0, 0, 0, 0, 0, 0, 0, 0, 0, 0, 0, 0, 0, 0, 0, 0, 0, 0, 0, 0, 0, 0, 0, 0, 0, 0, 0, 0, 0, 0, 0, 0] : Vector Int 64).toList) Y (Zbp (ys := [_, _, _, _, _, _, _, _, _, _, _, _, _, _, _, _, _, _, _, _, _, _, _, _, _, _, _, _, _, _, _, _, _, _, _, _, _, _, _, _, _, _, _, _, _, _, _, _, _, _, _, _, _, _, _, _, _, _, _, _, _, _, _, _]) QL ZcW .nil Y)<|Rx Y (Zf (ov Y) (ov Y) (Zp Z3 arL) Y Y Y (Zt (Ze arL) arL) (Zb<|arC fun _ => Y)<|ZC<|Eq.trans arL<|Eq.symm arL)<|Ra Y<|Za<|?_
  obtain rfl := rt h
  exact Zz (ZP Y (.two (.agg Y Y Y Y Z3 (Zm<|Ze arL) arL (pwB<|arD fun _ => Y) (hns := (nsM fun _ => Y)))<|rb Y))
 ·
  refine Zn<|Zr<|K3 0 1 4 Y<|Tr<|Rm Y<|Rl tZ_3 Qq Y<|R2 Jl Y<|Za<|K4 0 1 4 18 Y<|If h Y (fun h=>?_) fun h=>?_
  ·
   refine K1 4 Y<|Tr<|R_q (.agg<|List.map C47 (#v[0, 0, 0, 0, 0, 0, 0, 0, 0, 0, 0, 0, 0, 0, 0, 0, 0, 0, 0, 0, 0, 0, 0, 0, 0, 0, 0, 0, 0, 0, 0, 0, 0, 0, 0, 0, 0, 0, 0, 0, 0, 0, 0, 0, 0, 0, 0, 0, 0, 0, 0, 0, 0, 0, 0, 0, 0, 0, 0, 0, 0, 0, 0, 0] : Vector Int 64).toList) Y (Zbp (ys := [_, _, _, _, _, _, _, _, _, _, _, _, _, _, _, _, _, _, _, _, _, _, _, _, _, _, _, _, _, _, _, _, _, _, _, _, _, _, _, _, _, _, _, _, _, _, _, _, _, _, _, _, _, _, _, _, _, _, _, _, _, _, _, _]) QL ZcW .nil Y)<|Rx Y (Zf (ov Y) (ov Y) (Zp Z3 arL) Y Y Y (Zt (Ze arL) arL) (Zb<|arC fun _ => Y)<|ZC<|Eq.trans arL<|Eq.symm arL)<|Ra Y<|Za<|?_
   obtain rfl := rt h
   exact Zz (ZP Y (.two (.agg Y Y Y Y Z3 (Zm<|Ze arL) arL (pwB<|arD fun _ => Y) (hns := (nsM fun _ => Y)))<|rb Y))
  ·
   refine Zn<|K3 0 1 4 Y<|Tr<|R_q (.agg<|List.map C47 (#v[0, 0, 0, 0, 0, 0, 0, 0, 0, 0, 0, 0, 0, 0, 0, 0, 0, 0, 0, 0, 0, 0, 0, 0, 0, 0, 0, 0, 0, 0, 0, 0, 0, 0, 0, 0, 0, 0, 0, 0, 0, 0, 0, 0, 0, 0, 0, 0, 0, 0, 0, 0, 0, 0, 0, 0, 0, 0, 0, 0, 0, 0, 0, 0] : Vector Int 64).toList) Y (Zbp (ys := [_, _, _, _, _, _, _, _, _, _, _, _, _, _, _, _, _, _, _, _, _, _, _, _, _, _, _, _, _, _, _, _, _, _, _, _, _, _, _, _, _, _, _, _, _, _, _, _, _, _, _, _, _, _, _, _, _, _, _, _, _, _, _, _]) QL ZcW .nil Y)<|Rx Y (ZO (row := (List.map C47 (Vector.replicate 64 0).toList)) 1 Y ZcW Y tZ_49)<|Rx Y (Zf (ov Y) (ov Y) (Zp Z3 arL) Y Y Y (Zt (Ze arL) arL) (Zb<|arC fun _ => Y)<|ZC<|Eq.trans arL<|Eq.symm arL)<|Za<|K4 0 1 4 6 Y<|Tr<|Rm Y<|bE h fun q h_q h=>Rq Y (XA (ov Y) (ov Y) h_q)<|Rq Y (Qi (ov Y) tI3 JV Y)<|Rm Y<|bE h fun q2 h_q2 h=>Rq Y (Zbe (ov Y) (ov Y) h_q2)<|Rq Y (Qi (ov Y) tI3 JV Y)<|bE h fun x h_x h=>Rq Y (ZY (ov Y) (ov Y) QL Y Y h_x)<|Rx Y (Zf (ov Y) (ov Y) (Zg QR) Y Y Y (arB h_x) (Zb Y)<|arS h_x)<|bE h fun x2 h_x2 h=>Rq Y (ZY (ov Y) (ov Y) QL Y Y h_x2)<|Rx Y (Zf (ov Y) (ov Y) (Zg QR) Y Y Y (arB h_x2) (Zb Y)<|arS h_x2)<|Za<|J1 (fun j => (.inr j)) (fun f=>⟨[(4, .ptr 0 1 0 0), (6, .ptr 1 1 0 0)], [some ⟨49, [(List.map C47 (Vector.replicate 64 0).toList)]⟩, some ⟨49, [(List.map C47 f.toList)]⟩]⟩) h (fun h=>?_) fun f h=>?_
   ·
    refine K3 1 4 6 Y<|Tr<|Rm Y<|Rl tZ_3 Qq Y<|Rm Y<|Za<|Zk<|?_
    obtain ⟨r1, hl1, ho1⟩ := QP h
    refine L2 (fun f2 i=>⟨[(4, .ptr 0 1 0 0), (6, .ptr 1 1 0 0), (29, .sl 3 (List.map R3 data)), (30, .int .i64 (data.length : Int)), (31, .int .i64 i)], [some ⟨49, [(List.map C47 (Vector.replicate 64 0).toList)]⟩, some ⟨49, [(List.map C47 f2.toList)]⟩]⟩) hl1 (ES [some 0, some 1]) fun n1 f2 i h=>?_
    unfold ZeF at h
    refine Tr<|R2 ZX Y<|Za<|Zr<|If h Y (fun h=>?_) fun h=>?_
    ·
     refine Zn<|Zr<|Zk<|K5 4 6 29 30 31 Y<|Tr<|Rm Y<|bE h fun x3 h_x3 h=>Rq Y (ZS (ov Y) (ov Y) Qq h_x3)<|Rq Y (Zh (ov Y) tS3 Y)<|Ra Y<|Ra Y<|Za<|Zr<|K7 4 6 7 8 29 30 31 Y<|Tr<|Rm Y<|R2 ZX Y<|Rm Y<|Rq Y (.guarded ((decide (x3 < 0)) == false) Y Y Y Y fun h => Zc<|ov Y)<|Rq Y (.guarded ((decide (x3 < 0)) == false) Y Y Y Y fun h => JW (ow Y h)<|ov Y)<|Rq Y (Zaj (ov Y) fun hp=>ow Y<|gF hp)<|Za<|K8 4 6 7 8 29 30 31 41 Y<|If h Y (fun h=>?_) fun h=>?_
     ·
      refine K1 4 Y<|Tr<|R_q (.agg<|List.map C47 (#v[0, 0, 0, 0, 0, 0, 0, 0, 0, 0, 0, 0, 0, 0, 0, 0, 0, 0, 0, 0, 0, 0, 0, 0, 0, 0, 0, 0, 0, 0, 0, 0, 0, 0, 0, 0, 0, 0, 0, 0, 0, 0, 0, 0, 0, 0, 0, 0, 0, 0, 0, 0, 0, 0, 0, 0, 0, 0, 0, 0, 0, 0, 0, 0] : Vector Int 64).toList) Y (Zbp (ys := [_, _, _, _, _, _, _, _, _, _, _, _, _, _, _, _, _, _, _, _, _, _, _, _, _, _, _, _, _, _, _, _, _, _, _, _, _, _, _, _, _, _, _, _, _, _, _, _, _, _, _, _, _, _, _, _, _, _, _, _, _, _, _, _]) QL ZcW .nil Y)<|Rx Y (Zf (ov Y) (ov Y) (Zp Z3 arL) Y Y Y (Zt (Ze arL) arL) (Zb<|arC fun _ => Y)<|ZC<|Eq.trans arL<|Eq.symm arL)<|Ra Y<|Za<|?_
      replace h := lx h ▸ ho1
      obtain rfl := rt h
      exact Zz (ZP Y (.two (.agg Y Y Y Y Z3 (Zm<|Ze arL) arL (pwB<|arD fun _ => Y) (hns := (nsM fun _ => Y)))<|rb Y))
     ·
      exact Zn<|K7 4 6 7 8 29 30 31 Y<|Zu<|Rm Y<|R2 ZZ Y<|Rm Y<|Rq Y (Qi (ov Y) tI3 JV Y)<|bE h fun x4 h_x4 h=>Rq Y (ZY (ov Y) (ov Y) QL Y Y h_x4)<|Rx Y (Zf (ov Y) (ov Y) (Zg QR) Y Y Y (arB h_x4) (Zb Y)<|arS h_x4)<|Za<|K5 4 6 29 30 31 Y<|Zu<|R2 ZZ Y<|Rm Y<|Za<|⟨_, h, ES [some 0, some 1]⟩
    ·
     refine ZL<|?_
     replace h := lx h ▸ ho1
     exact ⟨_, h, ES [some 0, some 1]⟩
   ·
    replace h := elr h
    replace h := t1i h
    refine Tr<|Rq Y (Zy (ov Y) Y Y Y Z3 (Zm<|Ze arL) arL (hns := (nsM fun _ => Y)))<|bE h fun y h_y h=>Rq Y (Zq (Zks h_y)<|.cons (ov Y) (.aggB<|arD fun _ => Y) .nil)<|Rx Y (Zf (ov Y) (ov Y) (Zp Z3 arL) Y Y Y (Zt (Ze arL) arL) (Zb<|arC fun _ => Y)<|ZC<|Eq.trans arL<|Eq.symm arL)<|Ra Y<|Za<|?_
    obtain rfl := rt h
    exact Zz (ZP Y (.two (.agg Y Y Y Y Z3 (Zm<|Ze arL) arL (pwB<|arD fun _ => Y) (hns := (nsM fun _ => Y)))<|rb Y))
theorem ZlG {f : Vector Int 64} {r : Bool} (h : Zfk f = some r) :
 CSpec Tryz.prog gl0 124 [.agg (List.map C47 f.toList)] (.bool r) := by
 unfold Zfk at h
 replace h := Qj h
 refine So Tryz.func124 Y fun w0 A=>Tr<|Rq Y (QK (cva<|ov Y) arL tZ_49<|arD fun _ => Y)<|Ra Y<|Za<|J0 (fun j => (.inr j)) ⟨[], []⟩ h (fun h=>?_) fun h=>?_
 ·
  refine K1 1 Y<|Tr<|Rq Y (ZF (ov Y) Z3 (Zm<|Ze arL) arL)<|Rm Y<|Za<|Zk<|?_
  obtain ⟨r1, hl1, ho1⟩ := QP h
  refine L1 (fun i=>⟨[(5, .agg (List.map C47 f.toList)), (6, .int .i64 i)], []⟩) hl1 (ES []) fun n1 i h=>?_
  unfold Zea at h
  refine Tr<|R2 ZX Y<|Za<|Zr<|If h Y (fun h=>?_) fun h=>?_
  ·
   refine Zn<|Zr<|Zk<|K2 5 6 Y<|Tr<|bE h fun x h_x h=>Rq Y (Jr (ov Y) (ov Y) QL QR h_x)<|Ra Y<|Za<|K3 4 5 6 Y<|Tr<|Rm Y<|R2 JW Y<|Za<|K3 5 6 10 Y<|If h Y (fun h=>?_) fun h=>?_
   ·
    refine K0<|Tr<|Ra Y<|Za<|?_
    replace h := lx h ▸ ho1
    obtain rfl := rt h
    exact Zz (ZP Y (.one<|rb Y))
   ·
    exact Zn<|K2 5 6 Y<|Zu<|R2 ZZ Y<|Rm Y<|Za<|⟨_, h, ES []⟩
  ·
   refine ZL<|?_
   replace h := lx h ▸ ho1
   exact ⟨_, h, ES []⟩
 ·
  replace h := elr h
  replace h := t0i h
  refine Tr<|Ra Y<|Za<|?_
  obtain rfl := rt h
  exact Zz (ZP Y (.one<|rb Y))
theorem Zh4 {f : Vector Int 64} {n : Int} {r : Int} (h : Zeg f n = some r) :
 CSpec Tryz.prog gl0 170 [.agg (List.map C47 f.toList), .int .i64 n] (.int .i64 r) := by
 unfold Zeg at h
 replace h := Qj h
 refine So Tryz.func170 Y fun w0 A=>Tr<|Rq Y (QK (cva<|ov Y) arL tZ_49<|arD fun _ => Y)<|Ra Y<|Za<|K3 1 2 4 Y<|Tr<|Rm Y<|bE h fun q h_q h=>Rq Y (Zbe (ov Y) (ov Y) h_q)<|bE h fun x h_x h=>Rq Y (QA (ov Y) (ov Y) QL h_x)<|Rq Y (Zh (ov Y) QR<|Zj<|Z1 (o := 0) (o' := (q.toNat * 1)) (Ze arL)<|ZN h_x)<|Rq Y (Qi (ov Y) JV tI3 Y)<|Rm Y<|bE h fun q2 h_q2 h=>Rq Y (XA (ov Y) (ov Y) h_q2)<|R2 Zfn Y<|R2 ZdH Y<|bE h fun q3 h_q3 h=>Rq Y (ZfF (ov Y) (ov Y) h_q3)<|R2 Zer Y<|Ra Y<|Za<|?_
 obtain rfl := rt h
 exact Zz (ZP Y (.one<|rb Y))
theorem ZkK {f : Vector Int 64} {r : (List Int)} (h : Zej f = some r) :
 CSpec Tryz.prog gl0 125 [.agg (List.map C47 f.toList)] (.sl 5 (List.map R5 r)) := by
 unfold Zej at h
 replace h := Qj h
 refine So Tryz.func125 Y fun w0 A=>Tr<|Rq Y (QK (cva<|ov Y) arL tZ_49<|arD fun _ => Y)<|Ra Y<|Za<|K1 1 Y<|Tr<|bE h fun l h_l h=>Rx Y (ZlS [none] (r := 0) (f := R5) (z0 := 0) Y (ov Y) (ov Y) ZaC Y tZ5 Y Y h_l)<|Ra Y<|Za<|I1 (fun out=>⟨[(3, .own 0 out.length)], [some ⟨5, List.map R5 out⟩]⟩) h (fun h=>?_) fun out h=>?_
 ·
  refine K2 1 3 Y<|Tr<|Rm Y<|Rq Y (Zaf (ov Y) Y Y ZaC)<|Rm Y<|Za<|Zk<|?_
  obtain ⟨r1, hl1, ho1⟩ := QP h
  refine L2 (fun out2 i=>⟨[(1, .rp (List.map C47 f.toList) 0), (3, .own 0 out2.length), (7, .int .i64 (l.length : Int)), (8, .int .i64 i)], [some ⟨5, List.map R5 out2⟩]⟩) hl1 (ES [some 0]) fun n1 out2 i h=>?_
  unfold Zdu at h
  refine Tr<|R2 ZX Y<|Za<|Zr<|If h Y (fun h=>?_) fun h=>?_
  ·
   exact Zn<|Zr<|Zk<|K4 1 3 7 8 Y<|Tr<|Rm Y<|Ra Y<|Za<|K5 1 3 4 7 8 Y<|J6 (cw := md0) (by kernel_rfl)<|D1 0 Zc Y<|D1 1 Zc Y<|Dq 2 Y (ZF (ov Y) Z3 (Zm<|Ze arL) arL)<|D1 3 Zc Y<|D2 4 Zfn Y<|bE h fun y h_y h=>Dq 5 Y (Zq (Zh4 h_y)<|.cons (ov Y) (.aggB<|arD fun _ => Y)<|.cons (ov Y) (.b Y) .nil)<|D2 6 Zfn Y<|Dq 7 Y (ZF (ov Y) Z3 (Zm<|Ze arL) arL)<|D1 8 Zc Y<|D2 9 Zfn Y<|D2 10 ZZ Y<|bE h fun y2 h_y2 h=>Dq 11 Y (Zq (Zh4 h_y2)<|.cons (ov Y) (.aggB<|arD fun _ => Y)<|.cons (ov Y) (.b Y) .nil)<|D2 12 ZZ Y<|Dq 13 Y (Qi (ov Y) tI3 tI5 Y)<|bE h fun x h_x h=>Dq 14 Y (XQ (ov Y) (ov Y) ZaC Y Y h_x)<|Do 15 Y (Zb3 (u' := (u8 (i64 ((i64 (16 * y)) + y2)))) (ov Y) (ov Y) (Zg tS5) Y Y h_x Y (Zb Y) Y)<|Dd<|K4 1 3 7 8 Y<|Zu<|R2 ZZ Y<|Rm Y<|Za<|⟨_, h, ES [some 0]<|sd 1 Y Y<|sr 3 Y (Zj1 (Eq.symm<|(List.length_set ..).trans Y) Y)<|sd 7 Y Y<|sd 8 Y Y sn⟩
  ·
   refine ZL<|?_
   replace h := lx h ▸ ho1
   exact ⟨_, h, ES [some 0]⟩
 ·
  refine Tr<|Rm Y<|Ra Y<|Za<|?_
  obtain rfl := rt h
  exact Zz (ZP Y (.one<|.tmp Y<|View.ownM Y Y D5))
theorem Zjr {f : Vector Int 64} {r : (List Int) × Int} (h : ZcZ f = some r) :
 CSpec Tryz.prog gl0 64 [.agg (List.map C47 f.toList)] (.tuple [.sl 5 (List.map R5 r.1), .int .i64 r.2]) := by
 unfold ZcZ at h
 replace h := Qj h
 refine So Tryz.func64 Y fun w0 A=>Tr<|Rq Y (QK (cva<|ov Y) arL tZ_49<|arD fun _ => Y)<|Ra Y<|Ra Y<|Za<|Zr<|K1 1 Y<|Tr<|Rq Y (ZF (ov Y) Z3 (Zm<|Ze arL) arL)<|bE h fun y h_y h=>Rq Y (Zq (ZlG h_y)<|.cons (ov Y) (.aggB<|arD fun _ => Y) .nil)<|Za<|K2 1 5 Y<|If h Y (fun h=>?_) fun h=>?_
 ·
  refine K0<|Tr<|Ra Y<|Ra Y<|Za<|?_
  obtain rfl := rt h
  exact Zz (ZP Y (.two (.tmp Y<|View.nils 5)<|rb Y))
 ·
  refine Zn<|K1 1 Y<|Tr<|Rq Y (ZF (ov Y) Z3 (Zm<|Ze arL) arL)<|bE h fun y2 h_y2 h=>Rq Y (Zq (ZkK h_y2)<|.cons (ov Y) (.aggB<|arD fun _ => Y) .nil)<|Ra Y<|Ra Y<|Za<|?_
  obtain rfl := rt h
  exact Zz (ZP Y (.two (rb Y)<|rb Y))
theorem Zgi {l : List api_Rest} {r : (List api_Rest)} (h : QO l = some r) :
 GSpec Tryz.prog gl0 65 [.sl 74 (List.map R74 l)] [] (.own 0 r.length) [some ⟨74, List.map R74 r⟩] := by
 unfold QO at h
 replace h := Qj h
 refine Zes (by kernel_rfl) Tryz.func65 Y Y<|?_
 intro w0 A W φ0
 refine Tr<|Ra Y<|Za<|K1 0 Y<|Tr<|Rx Y (Zfh 0 Y Qf)<|Ra Y<|Za<|K2 0 3 Y<|Tr<|Ra Y<|Za<|I2 (fun groups numbers=>⟨[(3, .mref 0 1), (4, .own 1 numbers.length)], [some ⟨165, [[.mcon (List.map (QC FK3 (osF 74 R74)) groups)]]⟩, some ⟨3, List.map R3 numbers⟩]⟩) h (fun h=>?_) fun groups numbers h=>?_
 ·
  refine Tr<|Rm Y<|Rl tZ_74 Qd Y<|Rm Y<|Za<|Zk<|?_
  obtain ⟨r1, hl1, ho1⟩ := QP h
  refine L3 (fun groups2 numbers2 i=>⟨[(3, .mref 0 1), (4, .own 1 numbers2.length), (11, .sl 74 (List.map R74 l)), (12, .int .i64 (l.length : Int)), (13, .int .i64 i)], [some ⟨165, [[.mcon (List.map (QC FK3 (osF 74 R74)) groups2)]]⟩, some ⟨3, List.map R3 numbers2⟩]⟩) hl1 (ES [some 0, none] (hhp := .cons Y (ZJ (fk := FK3) (fv := (osF 74 R74)) (m := ([] : List (Int × (List api_Rest)))) tZ_165 (fun _=>.dat Y) fun _=>QY D74)<|.row 3 .nil)) fun n1 groups2 numbers2 i h=>?_
  unfold Q6 at h
  refine Tr<|R2 ZX Y<|Za<|Zr<|If h Y (fun h=>?_) fun h=>?_
  ·
   refine Zn<|I2 (fun groups3 numbers3=>⟨[(3, .mref 0 1), (4, .own 1 numbers3.length), (11, .sl 74 (List.map R74 l)), (12, .int .i64 (l.length : Int)), (13, .int .i64 i)], [some ⟨165, [[.mcon (List.map (QC FK3 (osF 74 R74)) groups3)]]⟩, some ⟨3, List.map R3 numbers3⟩]⟩) h (fun h=>?_) fun groups3 numbers3 h=>?_
   ·
    refine Zk<|K5 3 4 11 12 13 Y<|Tr<|bE h fun x h_x h=>Rq Y (ZS (ov Y) (ov Y) Qd h_x)<|Rq Y (ZF (ov Y) Qh (Zm<|Ze Zl) Zl)<|Rx Y (ZO (row := (.int .i64 0) :: ((List.map C47 (Vector.replicate 64 0).toList) ++ (((List.map C3 (Vector.replicate 64 0).toList) ++ ((.bool false) :: (.int .i64 0) :: (.bool false) :: []))))) 2 Y ZbS (by kernel_rfl)<|by exact Eq.symm (Eq.trans (b := 132) Zl tZ_74.symm))<|Rx Y (Zf (ov Y) (ov Y) (Zp Qh Zl) Y Y Y (Zt (Ze Zl) Zl) (Zb ZaL)<|ZC<|Eq.trans Zl<|Eq.symm Zl)<|Za<|I1 (fun numbers4=>⟨[(3, .mref 0 1), (4, .own 1 numbers4.length), (6, .ptr 2 1 0 0), (11, .sl 74 (List.map R74 l)), (12, .int .i64 (l.length : Int)), (13, .int .i64 i)], [some ⟨165, [[.mcon (List.map (QC FK3 (osF 74 R74)) groups2)]]⟩, some ⟨3, List.map R3 numbers4⟩, some ⟨74, [(.int .i64 x.Number) :: ((List.map C47 x.Frame.toList) ++ (((List.map C3 x.States.toList) ++ ((.bool x.Sound) :: (.int .i64 x.Copies) :: (.bool x.Conflict) :: []))))]⟩]⟩) h (fun h=>?_) fun numbers4 h=>?_
    ·
     refine K6 3 4 6 11 12 13 Y<|Tr<|Rm Y<|Rq Y (Zd (ov Y) Y Y Qg)<|Rq Y (Zi (ov Y) Y Y Y tS3<|Zj at8)<|bE h fun z h_z h=>?_
     rcases z with z | z
     ·
      replace h := ell h
      refine Rq Y (ZfJ (e1 := 74) (R := R74) (m := groups2) (k := x.Number) (ZdW h_z) (ov Y) (ov Y) Qf Qk Y (fun _=>.b Y)<|Zw Za4 Y)<|Rq Y (ZoL (ng := false) (ov Y) Zlz)<|Za<|K7 3 4 6 11 12 13 21 Y<|ZnZ h Y (fun b21 h=>?_) fun b21 h=>?_
      ·
       exact K6 3 4 6 11 12 13 Y<|Zu<|Rm Y<|Rq Y (Zd (ov Y) Y Y Qg)<|Rq Y (Zi (ov Y) Y Y Y tS3<|Zj at8)<|R_q (.sl 3<|List.map R3 ([x.Number] : List Int)) Y (Xv Qq (.cons (cvs (ov Y)<|ZU Y) Y (.cons (.b Y) .nil) .nil) Y Y)<|bE h fun l2 h_l2 h=>Rx Y (Zv (ov Y) (ZG (ov Y) tZ_3) Qq Y Y Y (fun _=>Zb Y) Y h_l2)<|Ra Y<|Za<|⟨_, h, ES [some 0, some 1, some 2] (hhp := .cons Y (ZJ (fk := FK3) (fv := (osF 74 R74)) (m := groups2) tZ_165 (fun _=>.dat Y) fun _=>QY D74)<|.cons Y (roM D3)<|.cons Y (ro1 (by exact Eq.trans (b := 132) Zl tZ_74.symm)<|rld Qz) .nil)⟩
      ·
       exact Bool.noConfusion b21
     ·
      replace h := elr h
      refine Zb5 (Ent.focusMk1 (e := 74) (R := R74) (m := groups2) (k := x.Number) (r := 0) Y tZ_165 (ZaA h_z) D74)<|Rq Y (ZfO (e1 := 74) (R := R74) (m := groups2) (k := x.Number) (ov Y) (ov Y) Qf Qk Y (fun _=>.b Y)<|Zw Za4 Y)<|bE h fun u h_u h=>Rq Y (Zpl (ng := false) (ov Y) Zlz Y (List.length_map ..) h_u)<|Zb5 (by exact Ent.absorbMs1 (e := 74) (R := R74) (m := groups2) (k := x.Number) (ys := z) (fk := FK3) (r := 0) (q := 3) (ZaA h_z) rfl tZ_165 rfl rfl rfl)<|Za<|K7 3 4 6 11 12 13 21 Y<|ZnZ h Y (fun b21 h=>?_) fun b21 h=>?_
      ·
       exact Bool.noConfusion b21
      ·
       exact Zn<|⟨_, h, ES [some 0, some 1, some 2] (hhp := .cons Y (ZJ (fk := FK3) (fv := (osF 74 R74)) (m := groups2) tZ_165 (fun _=>.dat Y) fun _=>QY D74)<|.cons Y (roM D3)<|.cons Y (ro1 (by exact Eq.trans (b := 132) Zl tZ_74.symm)<|rld Qz) .nil)⟩
    ·
     refine bE h fun z2 h_z2 h=>?_
     rcases z2 with z2 | z2
     ·
      replace h := ell h
      refine J6 (cw := md0) (by kernel_rfl)<|D1 3 Zc Y<|Dq 4 Y (Zd (ov Y) Y Y Qg)<|Dq 5 Y (Zi (ov Y) Y Y Y tS3<|Zj at8)<|Dq 6 Y (ZfJ (e1 := 74) (R := R74) (m := groups2) (k := x.Number) (ZdW h_z2) (ov Y) (ov Y) Qf Qk Y (fun _=>.b Y)<|Zw Za4 Y)<|Dq 7 Y (Zy (ov Y) Y Y Y Qh (Zm<|Ze Zl) Zl (hns := Jd))<|Zjb 8 (.sl 74<|List.map R74 ([x] : List api_Rest)) Y (by kernel_rfl) Y Y (Xv Qd (.cons (cva<|ov Y) Zl (pwD Qz) .nil) Y Y)<|Zai 0 _ Y (by kernel_rfl) Y Y (fun hp'=>Zc<|ov Y)<|bE h fun l3 h_l3 h=>Dw 1 9 Y (Zd (ov Y) Y Y Qg) (X8 (r := 3) Y (ov Y) (ZG (ov Y) tZ_74) Qd Y h_l3) ?_ ?_
      ·
       refine Dw 2 9 Y (Zi (ov Y) Y Y Y tS3<|Zj at8) (X8 (r := 3) Y (ov Y) (ZG (ov Y) tZ_74) Qd Y h_l3) ?_ ?_
       ·
        exact Do 9 Y (X8 (r := 3) Y (ov Y) (ZG (ov Y) tZ_74) Qd Y h_l3)<|Do 10 Y (ZdL (e1 := 74) (R := R74) (m := groups2) (k := x.Number) (ov Y) (ov Y) (ov Y) Qf Qk Y fun _=>.b Y)<|Xy (by kernel_rfl) (Ent.absorbMk1 (e := 74) (R := R74) (m := groups2) (k := x.Number) (ys := l3) (fk := FK3) (r := 0) (q := 3) Y tZ_165 Y Y Y)<|⟨_, h, ES [some 0, some 1] (hhp := .cons Y (ZJ (fk := FK3) (fv := (osF 74 R74)) (m := (Z0 kqI groups2 x.Number l3)) tZ_165 (fun _=>.dat Y) fun _=>QY D74)<|.cons Y (roM D3) .nil)⟩
       ·
        exact Dq 2 Y (Zi (ov Y) Y Y Y tS3<|Zj at8)<|Do 10 Y (ZdL (e1 := 74) (R := R74) (m := groups2) (k := x.Number) (ov Y) (ov Y) (ov Y) Qf Qk Y fun _=>.b Y)<|Xy (by kernel_rfl) (Ent.absorbMk1 (e := 74) (R := R74) (m := groups2) (k := x.Number) (ys := l3) (fk := FK3) (r := 0) (q := 3) Y tZ_165 Y Y Y)<|⟨_, h, ES [some 0, some 1] (hhp := .cons Y (ZJ (fk := FK3) (fv := (osF 74 R74)) (m := (Z0 kqI groups2 x.Number l3)) tZ_165 (fun _=>.dat Y) fun _=>QY D74)<|.cons Y (roM D3) .nil)⟩
      ·
       exact Dq 1 Y (Zd (ov Y) Y Y Qg)<|Dq 2 Y (Zi (ov Y) Y Y Y tS3<|Zj at8)<|Do 10 Y (ZdL (e1 := 74) (R := R74) (m := groups2) (k := x.Number) (ov Y) (ov Y) (ov Y) Qf Qk Y fun _=>.b Y)<|Xy (by kernel_rfl) (Ent.absorbMk1 (e := 74) (R := R74) (m := groups2) (k := x.Number) (ys := l3) (fk := FK3) (r := 0) (q := 3) Y tZ_165 Y Y Y)<|⟨_, h, ES [some 0, some 1] (hhp := .cons Y (ZJ (fk := FK3) (fv := (osF 74 R74)) (m := (Z0 kqI groups2 x.Number l3)) tZ_165 (fun _=>.dat Y) fun _=>QY D74)<|.cons Y (roM D3) .nil)⟩
     ·
      replace h := elr h
      refine ZhW (Ent.focusMk1 (e := 74) (R := R74) (m := groups2) (k := x.Number) (r := 0) Y tZ_165 (ZaA h_z2) D74)<|J6 (cw := md0) (by kernel_rfl)<|D1 3 Zc Y<|Dq 4 Y (Zd (ov Y) Y Y Qg)<|Dq 5 Y (Zi (ov Y) Y Y Y tS3<|Zj at8)<|Dq 6 Y (ZfO (e1 := 74) (R := R74) (m := groups2) (k := x.Number) (ov Y) (ov Y) Qf Qk Y (fun _=>.b Y)<|Zw Za4 Y)<|Dq 7 Y (Zy (ov Y) Y Y Y Qh (Zm<|Ze Zl) Zl (hns := Jd))<|Zjb 8 (.sl 74<|List.map R74 ([x] : List api_Rest)) Y (by kernel_rfl) Y Y (Xv Qd (.cons (cva<|ov Y) Zl (pwD Qz) .nil) Y Y)<|Zai 0 _ Y (by kernel_rfl) Y Y (fun hp'=>Zc<|ov Y)<|bE h fun l4 h_l4 h=>Dw 1 9 Y (Zd (ov Y) Y Y Qg) (Zv (ov Y) (ZG (ov Y) tZ_74) Qd Y Y Y (fun x=>Zb<|E74 x) Y h_l4) ?_ ?_
      ·
       refine Dw 2 9 Y (Zi (ov Y) Y Y Y tS3<|Zj at8) (Zv (ov Y) (ZG (ov Y) tZ_74) Qd Y Y Y (fun x=>Zb<|E74 x) Y h_l4) ?_ ?_
       ·
        exact Do 9 Y (Zv (ov Y) (ZG (ov Y) tZ_74) Qd Y Y Y (fun x=>Zb<|E74 x) Y h_l4)<|Do 10 Y (ZdS (e1 := 74) (R := R74) (m := groups2) (k := x.Number) (ov Y) (ov Y) (ov Y) Qf Qk Y fun _=>.b Y)<|Xy (by kernel_rfl) (Ent.absorbMk1 (e := 74) (R := R74) (m := groups2) (k := x.Number) (ys := l4) (fk := FK3) (r := 0) (q := 3) Y tZ_165 Y Y Y)<|⟨_, h, ES [some 0, some 1] (hhp := .cons Y (ZJ (fk := FK3) (fv := (osF 74 R74)) (m := (Z0 kqI groups2 x.Number l4)) tZ_165 (fun _=>.dat Y) fun _=>QY D74)<|.cons Y (roM D3) .nil)⟩
       ·
        exact Dq 2 Y (Zi (ov Y) Y Y Y tS3<|Zj at8)<|Do 10 Y (ZdS (e1 := 74) (R := R74) (m := groups2) (k := x.Number) (ov Y) (ov Y) (ov Y) Qf Qk Y fun _=>.b Y)<|Xy (by kernel_rfl) (Ent.absorbMk1 (e := 74) (R := R74) (m := groups2) (k := x.Number) (ys := l4) (fk := FK3) (r := 0) (q := 3) Y tZ_165 Y Y Y)<|⟨_, h, ES [some 0, some 1] (hhp := .cons Y (ZJ (fk := FK3) (fv := (osF 74 R74)) (m := (Z0 kqI groups2 x.Number l4)) tZ_165 (fun _=>.dat Y) fun _=>QY D74)<|.cons Y (roM D3) .nil)⟩
      ·
       exact Dq 1 Y (Zd (ov Y) Y Y Qg)<|Dq 2 Y (Zi (ov Y) Y Y Y tS3<|Zj at8)<|Do 10 Y (ZdS (e1 := 74) (R := R74) (m := groups2) (k := x.Number) (ov Y) (ov Y) (ov Y) Qf Qk Y fun _=>.b Y)<|Xy (by kernel_rfl) (Ent.absorbMk1 (e := 74) (R := R74) (m := groups2) (k := x.Number) (ys := l4) (fk := FK3) (r := 0) (q := 3) Y tZ_165 Y Y Y)<|⟨_, h, ES [some 0, some 1] (hhp := .cons Y (ZJ (fk := FK3) (fv := (osF 74 R74)) (m := (Z0 kqI groups2 x.Number l4)) tZ_165 (fun _=>.dat Y) fun _=>QY D74)<|.cons Y (roM D3) .nil)⟩
   ·
    exact Zu<|R2 ZZ Y<|Rm Y<|Za<|⟨_, h, ES [some 0, some 1] (hhp := .cons Y (ZJ (fk := FK3) (fv := (osF 74 R74)) (m := groups3) tZ_165 (fun _=>.dat Y) fun _=>QY D74)<|.cons Y (roM D3) .nil)⟩
  ·
   refine ZL<|?_
   replace h := lx h ▸ ho1
   exact ⟨_, h, ES [some 0, some 1] (hhp := .cons Y (ZJ (fk := FK3) (fv := (osF 74 R74)) (m := groups2) tZ_165 (fun _=>.dat Y) fun _=>QY D74)<|.cons Y (roM D3) .nil)⟩
 ·
  refine Tr<|Rm Y<|bE h fun y h_y h=>Rx Y (Zd8 [1] (Zk3 h_y) (.cons (ov Y) (.own _ Y) .nil) (.cons Y (roM D3) .nil) Y (.keep Y Y<|.lent 0 (.inl Y) Y (roM D3) .nil) Y Y<|ZkV<|rld Y)<|Za<|K2 3 4 Y<|Tr<|Ra Y<|Za<|I1 (fun out=>⟨[(7, .own 0 out.length)], [some ⟨74, List.map R74 out⟩]⟩) h (fun h=>?_) fun out h=>?_
  ·
   refine Tr<|Rm Y<|Rq Y (Zaf (ov Y) Y (Zgm h_y) Qq)<|Rm Y<|Za<|Zk<|?_
   obtain ⟨r2, hl2, ho2⟩ := QP h
   refine L2 (fun out2 i2=>⟨[(3, .mref 0 1), (7, .own 1 out2.length), (40, .own 2 y.length), (41, .int .i64 (y.length : Int)), (42, .int .i64 i2)], [some ⟨165, [[.mcon (List.map (QC FK3 (osF 74 R74)) groups)]]⟩, some ⟨74, List.map R74 out2⟩, some ⟨3, List.map R3 y⟩]⟩) hl2 (Ent.sel [some 0, none, some 1] (sr 3 Y (.mref _ Y)<|sr 7 Y (.row Y)<|sr 40 Y (Zj1 (Eq.symm<|Zgm h_y) Y)<|sd 41 Y Y<|sd 42 Y Y sn) (.cons Y (ZJ (fk := FK3) (fv := (osF 74 R74)) (m := groups) tZ_165 (fun _=>.dat Y) fun _=>QY D74)<|.row 74<|.cons Y (roM D3) .nil) Y Y) fun n2 out2 i2 h=>?_
   unfold Q0 at h
   refine Tr<|R2 ZX Y<|Za<|Zr<|If h Y (fun h=>?_) fun h=>?_
   ·
    refine Zn<|Zr<|Zk<|K5 3 7 40 41 42 Y<|Tr<|bE h fun x2 h_x2 h=>Rq Y (XQ (ov Y) (ov Y) Qq Y Y h_x2)<|Rq Y (ZaU (ov Y) Y Y h_x2 tS3 Y)<|Ra Y<|Za<|K6 3 7 9 40 41 42 Y<|Zu<|Rm Y<|Rm Y<|Rm Y<|bE h fun z3 h_z3 h=>?_
    rcases z3 with z3 | z3
    ·
     replace h := ell h
     exact Rq Y (ZfJ (e1 := 74) (R := R74) (m := groups) (k := x2) (ZdW h_z3) (ov Y) (ov Y) Qf Qk Y (fun _=>.b Y)<|Zw Za4 Y)<|bE h fun y2 h_y2 h=>Rq Y (Zq (ZbH h_y2)<|.cons (ov Y) (Dat.nils _) .nil)<|R_q (.sl 74<|List.map R74 ([y2] : List api_Rest)) Y (Xv Qd (.cons (cva<|ov Y) Zl (pwD Qz) .nil) Y Y)<|bE h fun l5 h_l5 h=>Rx Y (Zv (ov Y) (ZG (ov Y) tZ_74) Qd Y Y Y (fun x=>Zb<|E74 x) Y h_l5)<|Ra Y<|Za<|K5 3 7 40 41 42 Y<|Zu<|R2 ZZ Y<|Rm Y<|Za<|⟨_, h, ES [some 0, some 1, some 2] (hhp := .cons Y (ZJ (fk := FK3) (fv := (osF 74 R74)) (m := groups) tZ_165 (fun _=>.dat Y) fun _=>QY D74)<|.cons Y (roM D74)<|.cons Y (roM D3) .nil)⟩
    ·
     replace h := elr h
     exact Zb5 (Ent.focusMk1 (e := 74) (R := R74) (m := groups) (k := x2) (r := 0) Y tZ_165 (ZaA h_z3) D74)<|Rq Y (ZfO (e1 := 74) (R := R74) (m := groups) (k := x2) (ov Y) (ov Y) Qf Qk Y (fun _=>.b Y)<|Zw Za4 Y)<|bE h fun y3 h_y3 h=>Rq Y (Zb7 (ZbH h_y3) (.agg<|faC .int<|faA (faV fun _ => .int)<|faA (faV fun _ => .int)<|faC .bool<|faC .int<|faC .bool faN)<|.cons (ov Y) (View.ownM Y Y D74) .nil)<|R_q (.sl 74<|List.map R74 ([y3] : List api_Rest)) Y (Xv Qd (.cons (cva<|ov Y) Zl (pwD Qz) .nil) Y Y)<|bE h fun l6 h_l6 h=>Rx Y (Zv (ov Y) (ZG (ov Y) tZ_74) Qd Y Y Y (fun x=>Zb<|E74 x) Y h_l6)<|Ra Y<|Zb5 (by exact Ent.absorbMs1 (e := 74) (R := R74) (m := groups) (k := x2) (ys := z3) (fk := FK3) (r := 0) (q := 3) (ZaA h_z3) rfl tZ_165 rfl rfl rfl)<|Za<|K5 3 7 40 41 42 Y<|Zu<|R2 ZZ Y<|Rm Y<|Za<|⟨_, h, ES [some 0, some 1, some 2] (hhp := .cons Y (ZJ (fk := FK3) (fv := (osF 74 R74)) (m := groups) tZ_165 (fun _=>.dat Y) fun _=>QY D74)<|.cons Y (roM D74)<|.cons Y (roM D3) .nil)⟩
   ·
    refine ZL<|?_
    replace h := lx h ▸ ho2
    exact ⟨_, h, ES [some 1]⟩
  ·
   refine Tr<|Rm Y<|Ra Y<|Za<|?_
   obtain rfl := rt h
   exact Zz<|Zmb [some 0] Y (.cons (.tmp Y) .nil) (.cons Y (roM D74) .nil) Y Y<|.own _ Y
theorem Zdx {data : Int} {r : Int} (h : Zaa data = some r) :
 CSpec Tryz.prog gl0 71 [.int .i64 data] (.int .u16 r) := by
 unfold Zaa at h
 replace h := Qj h
 refine So Tryz.func71 Y fun w0 A=>Tr<|Ra Y<|Za<|K1 0 Y<|Tr<|Rm Y<|Rq Y (Qi (ov Y) tI3 JV Y)<|Ra Y<|Za<|Zr<|K1 3 Y<|Tr<|Rm Y<|bE h fun y h_y h=>Rq Y (Zq (ZcL h_y)<|.cons (ov Y) (.b Y) .nil)<|R1 Jn Y<|Za<|K2 3 8 Y<|If h Y (fun h=>?_) fun h=>?_
 ·
  refine K1 3 Y<|Zu<|Rm Y<|R2 Zmh Y<|Ra Y<|Za<|K1 3 Y<|Tr<|Rm Y<|Ra Y<|Za<|?_
  obtain rfl := rt h
  exact Zz (ZP Y (.one<|rb Y))
 ·
  refine Zn<|K1 3 Y<|Tr<|Rm Y<|Ra Y<|Za<|?_
  obtain rfl := rt h
  exact Zz (ZP Y (.one<|rb Y))
theorem Ziw {f : Vector Int 64} {i : Int} {r : (Vector Int 64)} (h : Q4 f i = some r) :
 CSpec Tryz.prog gl0 178 [.agg (List.map C47 f.toList), .int .i64 i] (.agg (List.map C47 r.toList)) := by
 unfold Q4 at h
 replace h := Qj h
 refine So Tryz.func178 Y fun w0 A=>Tr<|Rx Y (Zkd 0 Y (ov Y) Z3 arL)<|Rx Y (ZO (row := (List.map C47 (Vector.replicate 64 0).toList)) 1 Y ZcW Y tZ_49)<|Za<|I1 (fun f2=>⟨[(2, .ptr 0 1 0 0), (4, .ptr 1 1 0 0)], [some ⟨49, [(List.map C47 f2.toList)]⟩, some ⟨49, [(List.map C47 (Vector.replicate 64 0).toList)]⟩]⟩) h (fun h=>?_) fun f2 h=>?_
 ·
  refine K3 1 2 4 Y<|Tr<|Rm Y<|Za<|Zk<|Tr<|R2 QD Y<|Ra Y<|Za<|K5 1 2 4 5 19 Y<|If h Y (fun h=>?_) fun h=>?_
  ·
   exact K2 2 4 Y<|Zu<|bE h fun y h_y h=>Rq Y (Zb7 (ZcT h_y) .int<|.cons (ov Y) (View.ptr Y Y Y (pwB<|arD fun _ => Y) (hns := (nsM fun _ => Y))) .nil)<|bE h fun q h_q h=>Rq Y (XA (ov Y) (ov Y) h_q)<|bE h fun x h_x h=>Rq Y (QA (og (v := gv_frame_syncs) (k := .u16) (f := C47) (by simp [gl0]) fun _=>Y) (ov Y) Zpu h_x)<|Rq Y (Zh (ov Y) QR<|Zj<|Z1 (o := 0) (o' := (q.toNat * 1)) (Ze arL)<|ZN h_x)<|bE h fun x2 h_x2 h=>Rq Y (ZY (ov Y) (ov Y) QL Y Y h_x2)<|Rx Y (Zf (ov Y) (ov Y) (Zg QR) Y Y Y (arB h_x2) (Zb Y)<|arS h_x2)<|Za<|⟨_, h, ES [some 0, some 1]⟩
  ·
   refine K4 1 2 4 5 Y<|Tr<|R2 QD Y<|Ra Y<|Za<|K5 1 2 4 5 26 Y<|If h Y (fun h=>?_) fun h=>?_
   ·
    exact K3 1 2 4 Y<|Zu<|Rm Y<|bE h fun y2 h_y2 h=>Rq Y (Zb7 (Zet h_y2) .int<|.cons (ov Y) (View.ptr Y Y Y (pwB<|arD fun _ => Y) (hns := (nsM fun _ => Y))) .nil)<|bE h fun y3 h_y3 h=>Rq Y (Zq (Zdx h_y3)<|.cons (ov Y) (.b Y) .nil)<|bE h fun x3 h_x3 h=>Rq Y (ZY (ov Y) (ov Y) QL Y Y h_x3)<|Rx Y (Zf (ov Y) (ov Y) (Zg QR) Y Y Y (arB h_x3) (Zb Y)<|arS h_x3)<|Za<|⟨_, h, ES [some 0, some 1]⟩
   ·
    refine K4 1 2 4 5 Y<|Tr<|R2 QD Y<|Ra Y<|Za<|K5 1 2 4 5 32 Y<|If h Y (fun h=>?_) fun h=>?_
    ·
     exact K3 1 2 4 Y<|Zu<|Rm Y<|bE h fun y4 h_y4 h=>Rq Y (Zb7 (Zdk h_y4) .int<|.cons (ov Y) (View.ptr Y Y Y (pwB<|arD fun _ => Y) (hns := (nsM fun _ => Y))) .nil)<|bE h fun q2 h_q2 h=>Rq Y (ZfF (ov Y) (ov Y) h_q2)<|bE h fun y5 h_y5 h=>Rq Y (Zq (Zdx h_y5)<|.cons (ov Y) (.b Y) .nil)<|bE h fun x4 h_x4 h=>Rq Y (ZY (ov Y) (ov Y) QL Y Y h_x4)<|Rx Y (Zf (ov Y) (ov Y) (Zg QR) Y Y Y (arB h_x4) (Zb Y)<|arS h_x4)<|Za<|⟨_, h, ES [some 0, some 1]⟩
    ·
     refine K4 1 2 4 5 Y<|Tr<|R2 QD Y<|Ra Y<|Za<|K4 1 2 4 39 Y<|If h Y (fun h=>?_) fun h=>?_
     ·
      exact K3 1 2 4 Y<|Zu<|Rm Y<|bE h fun y6 h_y6 h=>Rq Y (Zb7 (Zdk h_y6) .int<|.cons (ov Y) (View.ptr Y Y Y (pwB<|arD fun _ => Y) (hns := (nsM fun _ => Y))) .nil)<|R2 Zer Y<|bE h fun y7 h_y7 h=>Rq Y (Zq (Zdx h_y7)<|.cons (ov Y) (.b Y) .nil)<|bE h fun x5 h_x5 h=>Rq Y (ZY (ov Y) (ov Y) QL Y Y h_x5)<|Rx Y (Zf (ov Y) (ov Y) (Zg QR) Y Y Y (arB h_x5) (Zb Y)<|arS h_x5)<|Za<|⟨_, h, ES [some 0, some 1]⟩
     ·
      exact K3 1 2 4 Y<|J6 (cw := md0) (by kernel_rfl)<|D1 0 Zc Y<|bE h fun y8 h_y8 h=>Dq 1 Y (Zb7 (Zet h_y8) .int<|.cons (ov Y) (View.ptr Y Y Y (pwB<|arD fun _ => Y) (hns := (nsM fun _ => Y))) .nil)<|D1 2 Zc Y<|bE h fun x6 h_x6 h=>Dq 3 Y (ZY (ov Y) (ov Y) QL Y Y h_x6)<|Dq 4 Y (Zi (ov Y) Y Y Y QR<|Zj<|Z1 (o := 0) (o' := (i.toNat * 1)) (Ze arL)<|ZN h_x6)<|bE h fun y9 h_y9 h=>Dq 5 Y (Zq (Jm h_y9)<|.cons (ov Y) (.b Y) .nil)<|D2 6 Zgn Y<|bE h fun x7 h_x7 h=>Dq 7 Y (ZY (ov Y) (ov Y) QL Y Y h_x7)<|Dq 8 Y (Zi (ov Y) Y Y Y QR<|Zj<|Z1 (o := 0) (o' := ((Int.toNat 61) * 1)) (Ze arL)<|ZN h_x7)<|bE h fun y10 h_y10 h=>Dq 9 Y (Zq (Jm h_y10)<|.cons (ov Y) (.b Y) .nil)<|D2 10 Zgn Y<|bE h fun y11 h_y11 h=>Dq 11 Y (Zq (Zdx h_y11)<|.cons (ov Y) (.b Y) .nil)<|bE h fun x8 h_x8 h=>Dq 12 Y (ZY (ov Y) (ov Y) QL Y Y h_x8)<|Do 13 Y (Zf (ov Y) (ov Y) (Zg QR) Y Y Y (arB h_x8) (Zb Y)<|arS h_x8)<|Dd<|⟨_, h, ES [some 0, some 1]⟩
 ·
  refine Tr<|Rq Y (Zy (ov Y) Y Y Y Z3 (Zm<|Ze arL) arL (hns := (nsM fun _ => Y)))<|Rx Y (Zf (ov Y) (ov Y) (Zp Z3 arL) Y Y Y (Zt (Ze arL) arL) (Zb<|arC fun _ => Y)<|ZC<|Eq.trans arL<|Eq.symm arL)<|Za<|?_
  obtain rfl := rt h
  exact Zz (ZP Y (.one<|.agg Y Y Y Y Z3 (Zm<|Ze arL) arL (pwB<|arD fun _ => Y) (hns := (nsM fun _ => Y))))
theorem Zh2 {f : Vector Int 64} {i : Int} {r : (Vector Int 64) × Bool} (h : Jw f i = some r) :
 CSpec Tryz.prog gl0 128 [.agg (List.map C47 f.toList), .int .i64 i] (.tuple [.agg (List.map C47 r.1.toList), .bool r.2]) := by
 unfold Jw at h
 replace h := Qj h
 refine So Tryz.func128 Y fun w0 A=>Tr<|Rx Y (Zkd 0 Y (ov Y) Z3 arL)<|Rx Y (ZO (row := (List.map C47 (Vector.replicate 64 0).toList)) 1 Y ZcW Y tZ_49)<|Ra Y<|Za<|Zr<|K3 1 2 4 Y<|Tr<|Rm Y<|R2 ZX Y<|Rm Y<|Rq Y (.guarded ((decide (i < 0)) == false) Y Y Y Y fun h => Zc<|ov Y)<|Rq Y (.guarded ((decide (i < 0)) == false) Y Y Y Y fun h => ZdJ (ow Y h)<|ov Y)<|Rq Y (Zaj (ov Y) fun hp=>ow Y<|gF hp)<|Za<|K4 1 2 4 12 Y<|If h Y (fun h=>?_) fun h=>?_
 ·
  refine K1 4 Y<|Tr<|R_q (.agg<|List.map C47 (#v[0, 0, 0, 0, 0, 0, 0, 0, 0, 0, 0, 0, 0, 0, 0, 0, 0, 0, 0, 0, 0, 0, 0, 0, 0, 0, 0, 0, 0, 0, 0, 0, 0, 0, 0, 0, 0, 0, 0, 0, 0, 0, 0, 0, 0, 0, 0, 0, 0, 0, 0, 0, 0, 0, 0, 0, 0, 0, 0, 0, 0, 0, 0, 0] : Vector Int 64).toList) Y (Zbp (ys := [_, _, _, _, _, _, _, _, _, _, _, _, _, _, _, _, _, _, _, _, _, _, _, _, _, _, _, _, _, _, _, _, _, _, _, _, _, _, _, _, _, _, _, _, _, _, _, _, _, _, _, _, _, _, _, _, _, _, _, _, _, _, _, _]) QL ZcW .nil Y)<|Rx Y (Zf (ov Y) (ov Y) (Zp Z3 arL) Y Y Y (Zt (Ze arL) arL) (Zb<|arC fun _ => Y)<|ZC<|Eq.trans arL<|Eq.symm arL)<|Ra Y<|Za<|?_
  obtain rfl := rt h
  exact Zz (ZP Y (.two (.agg Y Y Y Y Z3 (Zm<|Ze arL) arL (pwB<|arD fun _ => Y) (hns := (nsM fun _ => Y)))<|rb Y))
 ·
  refine Zn<|K3 1 2 4 Y<|Tr<|Rm Y<|bE h fun x h_x h=>Rq Y (ZY (ov Y) (ov Y) QL Y Y h_x)<|Rx Y (Zf (ov Y) (ov Y) (Zg QR) Y Y Y (arB h_x) (Zb Y)<|arS h_x)<|Za<|Zr<|K3 1 2 4 Y<|Tr<|bE h fun y h_y h=>Rq Y (Zb7 (Zhf h_y) .bool<|.cons (ov Y) (View.ptr Y Y Y (pwB<|arD fun _ => Y) (hns := (nsM fun _ => Y))) .nil)<|Za<|If h Y (fun h=>?_) fun h=>?_
  ·
   refine K1 4 Y<|Tr<|R_q (.agg<|List.map C47 (#v[0, 0, 0, 0, 0, 0, 0, 0, 0, 0, 0, 0, 0, 0, 0, 0, 0, 0, 0, 0, 0, 0, 0, 0, 0, 0, 0, 0, 0, 0, 0, 0, 0, 0, 0, 0, 0, 0, 0, 0, 0, 0, 0, 0, 0, 0, 0, 0, 0, 0, 0, 0, 0, 0, 0, 0, 0, 0, 0, 0, 0, 0, 0, 0] : Vector Int 64).toList) Y (Zbp (ys := [_, _, _, _, _, _, _, _, _, _, _, _, _, _, _, _, _, _, _, _, _, _, _, _, _, _, _, _, _, _, _, _, _, _, _, _, _, _, _, _, _, _, _, _, _, _, _, _, _, _, _, _, _, _, _, _, _, _, _, _, _, _, _, _]) QL ZcW .nil Y)<|Rx Y (Zf (ov Y) (ov Y) (Zp Z3 arL) Y Y Y (Zt (Ze arL) arL) (Zb<|arC fun _ => Y)<|ZC<|Eq.trans arL<|Eq.symm arL)<|Ra Y<|Za<|?_
   obtain rfl := rt h
   exact Zz (ZP Y (.two (.agg Y Y Y Y Z3 (Zm<|Ze arL) arL (pwB<|arD fun _ => Y) (hns := (nsM fun _ => Y)))<|rb Y))
  ·
   refine Zn<|K3 1 2 4 Y<|Tr<|Rq Y (Zy (ov Y) Y Y Y Z3 (Zm<|Ze arL) arL (hns := (nsM fun _ => Y)))<|Rm Y<|bE h fun y2 h_y2 h=>Rq Y (Zq (Ziw h_y2)<|.cons (ov Y) (.aggB<|arD fun _ => Y)<|.cons (ov Y) (.b Y) .nil)<|Rx Y (ZO (row := (List.map C47 (Vector.replicate 64 0).toList)) 2 Y ZcW Y tZ_49)<|Rx Y (Zf (ov Y) (ov Y) (Zp Z3 arL) Y Y Y (Zt (Ze arL) arL) (Zb<|arC fun _ => Y)<|ZC<|Eq.trans arL<|Eq.symm arL)<|Za<|Zr<|K2 4 6 Y<|Tr<|bE h fun y3 h_y3 h=>Rq Y (Zb7 (ZgA h_y3) .bool<|.cons (ov Y) (View.ptr Y Y Y (pwB<|arD fun _ => Y) (hns := (nsM fun _ => Y))) .nil)<|R1 Jn Y<|Za<|K3 4 6 22 Y<|If h Y (fun h=>?_) fun h=>?_
   ·
    refine K1 4 Y<|Tr<|R_q (.agg<|List.map C47 (#v[0, 0, 0, 0, 0, 0, 0, 0, 0, 0, 0, 0, 0, 0, 0, 0, 0, 0, 0, 0, 0, 0, 0, 0, 0, 0, 0, 0, 0, 0, 0, 0, 0, 0, 0, 0, 0, 0, 0, 0, 0, 0, 0, 0, 0, 0, 0, 0, 0, 0, 0, 0, 0, 0, 0, 0, 0, 0, 0, 0, 0, 0, 0, 0] : Vector Int 64).toList) Y (Zbp (ys := [_, _, _, _, _, _, _, _, _, _, _, _, _, _, _, _, _, _, _, _, _, _, _, _, _, _, _, _, _, _, _, _, _, _, _, _, _, _, _, _, _, _, _, _, _, _, _, _, _, _, _, _, _, _, _, _, _, _, _, _, _, _, _, _]) QL ZcW .nil Y)<|Rx Y (Zf (ov Y) (ov Y) (Zp Z3 arL) Y Y Y (Zt (Ze arL) arL) (Zb<|arC fun _ => Y)<|ZC<|Eq.trans arL<|Eq.symm arL)<|Ra Y<|Za<|?_
    obtain rfl := rt h
    exact Zz (ZP Y (.two (.agg Y Y Y Y Z3 (Zm<|Ze arL) arL (pwB<|arD fun _ => Y) (hns := (nsM fun _ => Y)))<|rb Y))
   ·
    refine Zn<|K2 4 6 Y<|Tr<|Rq Y (Zy (ov Y) Y Y Y Z3 (Zm<|Ze arL) arL (hns := (nsM fun _ => Y)))<|Rx Y (Zf (ov Y) (ov Y) (Zp Z3 arL) Y Y Y (Zt (Ze arL) arL) (Zb<|arC fun _ => Y)<|ZC<|Eq.trans arL<|Eq.symm arL)<|Ra Y<|Za<|?_
    obtain rfl := rt h
    exact Zz (ZP Y (.two (.agg Y Y Y Y Z3 (Zm<|Ze arL) arL (pwB<|arD fun _ => Y) (hns := (nsM fun _ => Y)))<|rb Y))
theorem Ziu {r_ : api_Rest} {r : api_Rest} (h : XE r_ = some r) :
 CSpec Tryz.prog gl0 66 [.agg ((.int .i64 r_.Number) :: ((List.map C47 r_.Frame.toList) ++ (((List.map C3 r_.States.toList) ++ ((.bool r_.Sound) :: (.int .i64 r_.Copies) :: (.bool r_.Conflict) :: [])))))] (.agg ((.int .i64 r.Number) :: ((List.map C47 r.Frame.toList) ++ (((List.map C3 r.States.toList) ++ ((.bool r.Sound) :: (.int .i64 r.Copies) :: (.bool r.Conflict) :: [])))))) := by
 unfold XE at h
 replace h := Qj h
 refine So Tryz.func66 Y fun w0 A=>Tr<|Rx Y (Zkd 0 Y (ov Y) Qh Zl)<|Rx Y (ZO (row := (.int .i64 0) :: ((List.map C47 (Vector.replicate 64 0).toList) ++ (((List.map C3 (Vector.replicate 64 0).toList) ++ ((.bool false) :: (.int .i64 0) :: (.bool false) :: []))))) 1 Y ZbS (by kernel_rfl)<|by exact Eq.symm (Eq.trans (b := 132) Zl tZ_74.symm))<|Za<|Zr<|K2 1 2 Y<|Tr<|Rq Y (Zd (ov Y) Y Y Zcm)<|Rq Y (Zi (ov Y) Y Y Y tS4<|Zj ZeC)<|Rm Y<|Rq Y (.guarded (r_.Sound == false) Y Y Y Y fun h => Zd (ov Y) Y Y Zgp)<|Rq Y (.guarded (r_.Sound == false) Y Y Y Y fun h => Zi (ow Y h) Y Y Y tS4<|Zj ZkS)<|Rq Y (Zaj (ov Y) fun hp=>ow Y<|gF hp)<|Za<|K3 1 2 14 Y<|If h Y (fun h=>?_) fun h=>?_
 ·
  refine K2 1 2 Y<|Tr<|Rq Y (Zy (ov Y) Y Y Y Qh (Zm<|Ze Zl) Zl (hns := Jd))<|Rx Y (Zf (ov Y) (ov Y) (Zp Qh Zl) Y Y Y (Zt (Ze Zl) Zl) (Zb ZaL)<|ZC<|Eq.trans Zl<|Eq.symm Zl)<|Za<|?_
  obtain rfl := rt h
  exact Zz (ZP Y (.one<|.agg Y Y Y Y Qh (Zm<|Ze Zl) Zl (pwB Qz) (hns := Jd)))
 ·
  refine Zn<|K2 1 2 Y<|Tr<|Ra Y<|Ra Y<|Za<|I2 (fun lost place=>⟨[(1, .ptr 0 1 0 0), (2, .ptr 1 1 0 0), (3, .int .i64 lost), (4, .int .i64 place)], [some ⟨74, [(.int .i64 r_.Number) :: ((List.map C47 r_.Frame.toList) ++ (((List.map C3 r_.States.toList) ++ ((.bool r_.Sound) :: (.int .i64 r_.Copies) :: (.bool r_.Conflict) :: []))))]⟩, some ⟨74, [(.int .i64 0) :: ((List.map C47 (Vector.replicate 64 0).toList) ++ (((List.map C3 (Vector.replicate 64 0).toList) ++ ((.bool false) :: (.int .i64 0) :: (.bool false) :: []))))]⟩]⟩) h (fun h=>?_) fun lost place h=>?_
  ·
   refine Tr<|Rq Y (Zd (ov Y) Y Y QJ)<|Rq Y (Zy (ov Y) Y Y Y Zhv (Zm Xz) arL (hns := (nsM fun _ => Y)))<|Rm Y<|Za<|Zk<|?_
   obtain ⟨r1, hl1, ho1⟩ := QP h
   refine L3 (fun lost2 place2 i=>⟨[(1, .ptr 0 1 0 0), (2, .ptr 1 1 0 0), (3, .int .i64 lost2), (4, .int .i64 place2), (17, .agg (List.map C3 r_.States.toList)), (18, .int .i64 i)], [some ⟨74, [(.int .i64 r_.Number) :: ((List.map C47 r_.Frame.toList) ++ (((List.map C3 r_.States.toList) ++ ((.bool r_.Sound) :: (.int .i64 r_.Copies) :: (.bool r_.Conflict) :: []))))]⟩, some ⟨74, [(.int .i64 0) :: ((List.map C47 (Vector.replicate 64 0).toList) ++ (((List.map C3 (Vector.replicate 64 0).toList) ++ ((.bool false) :: (.int .i64 0) :: (.bool false) :: []))))]⟩]⟩) hl1 (ES [some 0, some 1]) fun n1 lost2 place2 i h=>?_
   unfold Xe at h
   refine Tr<|R2 ZX Y<|Za<|Zr<|If h Y (fun h=>?_) fun h=>?_
   ·
    refine Zn<|Zr<|Zk<|K6 1 2 3 4 17 18 Y<|Tr<|Rm Y<|bE h fun x h_x h=>Rq Y (Jr (ov Y) (ov Y) ZaO tS3 h_x)<|Ra Y<|Ra Y<|Za<|K8 1 2 3 4 5 6 17 18 Y<|Tr<|Rm Y<|R2 QD Y<|Za<|K8 1 2 3 4 5 17 18 23 Y<|If h Y (fun h=>?_) fun h=>?_
    ·
     exact K7 1 2 3 4 5 17 18 Y<|Zu<|Rm Y<|R2 ZZ Y<|Rm Y<|Ra Y<|Ra Y<|Za<|K6 1 2 3 4 17 18 Y<|Zu<|R2 ZZ Y<|Rm Y<|Za<|⟨_, h, ES [some 0, some 1]⟩
    ·
     exact Zn<|K6 1 2 3 4 17 18 Y<|Zu<|R2 ZZ Y<|Rm Y<|Za<|⟨_, h, ES [some 0, some 1]⟩
   ·
    refine ZL<|?_
    replace h := lx h ▸ ho1
    exact ⟨_, h, ES [some 0, some 1]⟩
  ·
   refine Zr<|Tr<|Rm Y<|R2 Jl Y<|Za<|K4 1 2 4 29 Y<|If h Y (fun h=>?_) fun h=>?_
   ·
    refine K2 1 2 Y<|Tr<|Rq Y (Zy (ov Y) Y Y Y Qh (Zm<|Ze Zl) Zl (hns := Jd))<|Rx Y (Zf (ov Y) (ov Y) (Zp Qh Zl) Y Y Y (Zt (Ze Zl) Zl) (Zb ZaL)<|ZC<|Eq.trans Zl<|Eq.symm Zl)<|Za<|?_
    obtain rfl := rt h
    exact Zz (ZP Y (.one<|.agg Y Y Y Y Qh (Zm<|Ze Zl) Zl (pwB Qz) (hns := Jd)))
   ·
    refine Zn<|K3 1 2 4 Y<|Tr<|Rq Y (Zd (ov Y) Y Y Xb)<|Rq Y (Zy (ov Y) Y Y Y Z3 (Zm JL) arL (hns := (nsM fun _ => Y)))<|Rm Y<|bE h fun y h_y h=>Rq Y (Zq (Zh2 h_y)<|.cons (ov Y) (.aggB<|arD fun _ => Y)<|.cons (ov Y) (.b Y) .nil)<|Rm Y<|Rq Y (Zo (ov Y) Y)<|Rq Y (Zo (ov Y) Y)<|Rx Y (ZO (row := (List.map C47 (Vector.replicate 64 0).toList)) 2 Y ZcW Y tZ_49)<|Rx Y (Zf (ov Y) (ov Y) (Zp Z3 arL) Y Y Y (Zt (Ze arL) arL) (Zb<|arC fun _ => Y)<|ZC<|Eq.trans arL<|Eq.symm arL)<|Ra Y<|Za<|Zr<|K5 1 2 4 7 8 Y<|Tr<|Rm Y<|R1 Jn Y<|Rm Y<|Rq Y (.guarded ((!y.2) == false) Y Y Y Y fun h => Zy (ov Y) Y Y Y Z3 (Zm<|Ze arL) arL (hns := (nsM fun _ => Y)))<|Rq Y (.guarded ((!y.2) == false) Y Y Y Y fun h => Zd (ov Y) Y Y Qg)<|Rq Y (.guarded ((!y.2) == false) Y Y Y Y fun h => Zi (ow Y h) Y Y Y tS3<|Zj at8)<|bE h fun y2 h_y2 h=>Rq Y (.guarded ((!y.2) == false) Y Y Y Y fun h => Zq (Zey<|gdT h_y2 h)<|.cons (ow Y h) (.aggB<|arD fun _ => Y)<|.cons (ow Y h) (.b Y) .nil)<|Rq Y (.guarded ((!y.2) == false) Y Y Y Y fun h => Jn<|ow Y h)<|Rq Y (Zaj (ov Y) fun hp=>ow Y<|gF hp)<|Za<|K5 1 2 4 7 46 Y<|If h Y (fun h=>?_) fun h=>?_
    ·
     refine K2 1 2 Y<|Tr<|Rq Y (Zy (ov Y) Y Y Y Qh (Zm<|Ze Zl) Zl (hns := Jd))<|Rx Y (Zf (ov Y) (ov Y) (Zp Qh Zl) Y Y Y (Zt (Ze Zl) Zl) (Zb ZaL)<|ZC<|Eq.trans Zl<|Eq.symm Zl)<|Za<|?_
     obtain rfl := rt h
     exact Zz (ZP Y (.one<|.agg Y Y Y Y Qh (Zm<|Ze Zl) Zl (pwB Qz) (hns := Jd)))
    ·
     refine Zn<|K4 1 2 4 7 Y<|Td md0<|Dq 0 Y (Zy (ov Y) Y Y Y Z3 (Zm<|Ze arL) arL (hns := (nsM fun _ => Y)))<|bE h fun y3 h_y3 h=>Dq 1 Y (Zq (Zc6 h_y3)<|.cons (ov Y) (.b Y) .nil)<|Dq 2 Y (Zd (ov Y) Y Y Xb)<|Do 3 Y (Zf (ov Y) (ov Y) (Zp Z3 arL) Y Y Y (Zt JL arL) (Zb<|arC fun _ => Y) Zgc)<|Dq 4 Y (Zd (ov Y) Y Y QJ)<|Do 5 Y (Zf (ov Y) (ov Y) (Zp Zhv arL) Y Y Y (Zt Xz arL) (Zb<|arC fun _ => Y) ZeY)<|Dq 6 Y (Zd (ov Y) Y Y Zcm)<|Do 7 Y (Zf (ov Y) (ov Y) (Zg tS4) Y Y Y (Zt ZeC Y) (Zb Y) Zjq)<|Dq 8 Y (Zd (ov Y) Y Y ZbM)<|Do 9 Y (Zf (ov Y) (ov Y) (Zg tS3) Y Y Y (Zt Zfj Y) (Zb Y) Zkv)<|Dd<|K3 1 2 4 Y<|Tr<|Rm Y<|Rq Y (Zd (ov Y) Y Y QJ)<|bE h fun x2 h_x2 h=>Rq Y (ZY (ov Y) (ov Y) ZaO Y Y h_x2)<|Rx Y (Zf (ov Y) (ov Y) (Zg tS3) Y Y Y (Zt (Z1 (o := 65) (o' := (place.toNat * 1)) Xz<|ZN h_x2) Y) (Zb Y)<|Xk (o := 65) (o' := (place.toNat * 1)) Xz (ZN h_x2) Y (Jc h_x2 (x := 2)) ZeY)<|Za<|K2 1 2 Y<|Tr<|Rq Y (Zy (ov Y) Y Y Y Qh (Zm<|Ze Zl) Zl (hns := Jd))<|Rx Y (Zf (ov Y) (ov Y) (Zp Qh Zl) Y Y Y (Zt (Ze Zl) Zl) (Zb ZaL)<|ZC<|Eq.trans Zl<|Eq.symm Zl)<|Za<|?_
     obtain rfl := rt h
     exact Zz (ZP Y (.one<|.agg Y Y Y Y Qh (Zm<|Ze Zl) Zl (pwB Qz) (hns := Jd)))
theorem Zck {l : List api_Piece} {r : (List api_Rest) × Int} (h : QF l = some r) :
 CSpec Tryz.prog gl0 23 [.sl 68 (List.map R68 l)] (.tuple [.sl 74 (List.map R74 r.1), .int .i64 r.2]) := by
 unfold QF at h
 replace h := Qj h
 refine So Tryz.func23 Y fun w0 A=>Tr<|Ra Y<|Ra Y<|Za<|Zr<|K1 0 Y<|Tr<|Rm Y<|Rl tZ_68 Zf9 Y<|R2 JW Y<|Za<|K2 0 14 Y<|If h Y (fun h=>?_) fun h=>?_
 ·
  refine K0<|Tr<|Ra Y<|Ra Y<|Za<|?_
  obtain rfl := rt h
  exact Zz (ZP Y (.two (.tmp Y<|View.nils 74)<|rb Y))
 ·
  refine Zn<|J0 (fun j => (.inr j)) ⟨[(0, .sl 68 (List.map R68 l))], []⟩ h (fun h=>?_) fun h=>?_
  ·
   refine K1 0 Y<|Tr<|Rm Y<|Rl tZ_68 Zf9 Y<|Rm Y<|Za<|Zk<|?_
   obtain ⟨r1, hl1, ho1⟩ := QP h
   refine L1 (fun i=>⟨[(0, .sl 68 (List.map R68 l)), (15, .sl 68 (List.map R68 l)), (16, .int .i64 (l.length : Int)), (17, .int .i64 i)], []⟩) hl1 (ES []) fun n1 i h=>?_
   unfold Q1 at h
   refine Tr<|R2 ZX Y<|Za<|Zr<|If h Y (fun h=>?_) fun h=>?_
   ·
    refine Zn<|Zr<|Zk<|K4 0 15 16 17 Y<|Tr<|bE h fun x h_x h=>Rq Y (ZS (ov Y) (ov Y) Zf9 h_x)<|Rq Y (ZF (ov Y) ZfG Y Y)<|Rx Y (ZO (row := [_, _]) 0 Y ZpF Y tZ_68)<|Rx Y (Zf (ov Y) (ov Y) (Zp ZfG Y) Y Y Y (Nat.le_of_ble_eq_true Y) (Zb Y) Y)<|Za<|K5 0 5 15 16 17 Y<|Tr<|Rq Y (Zy (ov Y) Y Y Y ZfG Y Y)<|bE h fun y h_y h=>Rq Y (Zq (Zf8 h_y)<|.cons (ov Y) (.aggB Y) .nil)<|Ra Y<|Za<|K5 0 6 15 16 17 Y<|Tr<|Rm Y<|R2 Jl Y<|Za<|K6 0 6 15 16 17 24 Y<|If h Y (fun h=>?_) fun h=>?_
    ·
     refine K1 6 Y<|Tr<|Rm Y<|Ra Y<|Ra Y<|Za<|?_
     replace h := lx h ▸ ho1
     obtain rfl := rt h
     exact Zz (ZP Y (.two (.tmp Y<|View.nils 74)<|rb Y))
    ·
     exact Zn<|K4 0 15 16 17 Y<|Zu<|R2 ZZ Y<|Rm Y<|Za<|⟨_, h, ES []⟩
   ·
    refine ZL<|?_
    replace h := lx h ▸ ho1
    exact ⟨_, h, ES []⟩
  ·
   replace h := elr h
   replace h := t0i h
   refine Tr<|Ra Y<|Za<|I1 (fun parts=>⟨[(7, .own 0 parts.length)], [some ⟨74, List.map R74 parts⟩]⟩) h (fun h=>?_) fun parts h=>?_
   ·
    refine Tr<|Rm Y<|Rl tZ_68 Zf9 Y<|Rm Y<|Za<|Zk<|?_
    obtain ⟨r2, hl2, ho2⟩ := QP h
    refine L2 (fun parts2 i2=>⟨[(7, .own 0 parts2.length), (27, .sl 68 (List.map R68 l)), (28, .int .i64 (l.length : Int)), (29, .int .i64 i2)], [some ⟨74, List.map R74 parts2⟩]⟩) hl2 (ES [none]) fun n2 parts2 i2 h=>?_
    unfold Q5 at h
    refine Tr<|R2 ZX Y<|Za<|Zr<|If h Y (fun h=>?_) fun h=>?_
    ·
     exact Zn<|Zr<|Zk<|K4 7 27 28 29 Y<|Tr<|bE h fun x2 h_x2 h=>Rq Y (ZS (ov Y) (ov Y) Zf9 h_x2)<|Rq Y (ZF (ov Y) ZfG Y Y)<|Rx Y (ZO (row := [_, _]) 1 Y ZpF Y tZ_68)<|Rx Y (Zf (ov Y) (ov Y) (Zp ZfG Y) Y Y Y (Nat.le_of_ble_eq_true Y) (Zb Y) Y)<|Za<|K5 7 9 27 28 29 Y<|Zu<|Rm Y<|Rq Y (Zy (ov Y) Y Y Y ZfG Y Y)<|bE h fun y2 h_y2 h=>Rq Y (Zq (ZhS h_y2)<|.cons (ov Y) (.aggB Y) .nil)<|bE h fun y3 h_y3 h=>Rq Y (Zq (Zjc h_y3)<|.cons (ov Y) (.b Y) .nil)<|bE h fun l2 h_l2 h=>Rx Y (Zg4 (ov Y) (ZG (ov Y) tZ_74) Qd Y Y (fun x=>Zb<|E74 x) Y h_l2)<|Ra Y<|Za<|K4 7 27 28 29 Y<|Zu<|R2 ZZ Y<|Rm Y<|Za<|⟨_, h, ES [some 0]⟩
    ·
     refine ZL<|?_
     replace h := lx h ▸ ho2
     exact ⟨_, h, ES [some 0]⟩
   ·
    refine Tr<|Rm Y<|bE h fun y4 h_y4 h=>Zb5 (Ent.sel [none] (sr 7 Y (Zjy Y Y Y D74)<|sr 39 Y (Zjy Y Y Y D74) sn) (.row 74 .nil) Y Y)<|Rx Y (Zd8 [] (Zgi h_y4) (.cons (ov Y) (.dat Y) .nil) .nil Y (.keep Y Y<|.lent 0 (.inr ⟨Nat.le_of_ble_eq_true Y, Y⟩) Y (roM D74) .nil) Y Y<|.own _<|.inr ⟨Nat.le_of_ble_eq_true Y, Y⟩)<|Ra Y<|Za<|Zr<|K1 10 Y<|Td md0<|D1 0 Zc Y<|Dq 1 Y (Zaf (ov Y) Y Y Qd)<|D2 2 JW Y<|D1 3 Zc Y<|Dq 4 Y (.guarded ((decide (0 < (y4.length : Int))) == true) Y Y Y Y fun h => Zc<|ov Y)<|Dq 5 Y (.guarded ((decide (0 < (y4.length : Int))) == true) Y Y Y Y fun h => Zc<|ov Y)<|Dq 6 Y (.guarded ((decide (0 < (y4.length : Int))) == true) Y Y Y Y fun h => Zaf (ow Y h) Y Y Qd)<|Dq 7 Y (.guarded ((decide (0 < (y4.length : Int))) == true) Y Y Y Y fun h => ZcY (ow Y h) (ov Y) Y)<|bE h fun x3 h_x3 h=>Dq 8 Y (.guarded ((decide (0 < (y4.length : Int))) == true) Y Y Y Y fun h => XQ (ow Y h) (ow Y h) Qd Y Y<|gdT h_x3 h)<|Dq 9 Y (.guarded ((decide (0 < (y4.length : Int))) == true) Y Y Y Y fun h => ZgT (ow Y h) Y Y Qg)<|Dq 10 Y (.guarded ((decide (0 < (y4.length : Int))) == true) Y Y Y Y fun h => ZaU (ow Y h) Y Y (gdT h_x3 h) tS3<|Zj at8)<|Dq 11 Y (.guarded ((decide (0 < (y4.length : Int))) == true) Y Y Y Y fun h => Zc<|ov Y)<|bE h fun x4 h_x4 h=>Dq 12 Y (.guarded ((decide (0 < (y4.length : Int))) == true) Y Y Y Y fun h => XQ (ow Y h) (ov Y) Qd Y Y<|gdT h_x4 h)<|Dq 13 Y (.guarded ((decide (0 < (y4.length : Int))) == true) Y Y Y Y fun h => ZgT (ow Y h) Y Y Qg)<|Dq 14 Y (.guarded ((decide (0 < (y4.length : Int))) == true) Y Y Y Y fun h => ZaU (ow Y h) Y Y (gdT h_x4 h) tS3<|Zj at8)<|Dq 15 Y (.guarded ((decide (0 < (y4.length : Int))) == true) Y Y Y Y fun h => ZcY (ow Y h) (ow Y h) Y)<|Dq 16 Y (.guarded ((decide (0 < (y4.length : Int))) == true) Y Y Y Y fun h => JW (ow Y h)<|ov Y)<|Dq 17 Y (QU (ov Y) fun hp=>ow Y<|gT hp)<|Dd<|K2 10 58 Y<|If h Y (fun h=>?_) fun h=>?_
    ·
     refine K0<|Tr<|Ra Y<|Ra Y<|Za<|?_
     obtain rfl := rt h
     exact Zz (ZP Y (.two (.tmp Y<|View.nils 74)<|rb Y))
    ·
     refine Zn<|I1 (fun out=>⟨[(10, .own 0 out.length)], [some ⟨74, List.map R74 out⟩]⟩) h (fun h=>?_) fun out h=>?_
     ·
      refine K1 10 Y<|Tr<|Rm Y<|Rq Y (Zaf (ov Y) Y Y Qd)<|Rm Y<|Za<|Zk<|?_
      obtain ⟨r3, hl3, ho3⟩ := QP h
      refine L2 (fun out2 i3=>⟨[(10, .own 0 out2.length), (60, .int .i64 (y4.length : Int)), (61, .int .i64 i3)], [some ⟨74, List.map R74 out2⟩]⟩) hl3 (ES [some 1]) fun n3 out2 i3 h=>?_
      unfold QZ at h
      refine Tr<|R2 ZX Y<|Za<|Zr<|If h Y (fun h=>?_) fun h=>?_
      ·
       exact Zn<|Zr<|Zk<|K3 10 60 61 Y<|Tr<|Rm Y<|Ra Y<|Za<|K4 10 11 60 61 Y<|Zu<|Rm Y<|Rm Y<|Rm Y<|Rm Y<|bE h fun x5 h_x5 h=>Rq Y (XQ (ov Y) (ov Y) Qd Y Y h_x5)<|Rq Y (Zgo (ov Y) Y Y h_x5 Qh (Zm<|Ze Zl) Zl (hns := Jd))<|bE h fun y5 h_y5 h=>Rq Y (Zq (Ziu h_y5)<|.cons (ov Y) (.aggB Qz) .nil)<|bE h fun x6 h_x6 h=>Rq Y (XQ (ov Y) (ov Y) Qd Y Y h_x6)<|Rx Y (Zb3 (u' := y5) (ov Y) (ov Y) (Zp Qh Zl) Y Y h_x6 (Nat.ble_eq_true_of_le<|Zt (Ze Zl) Zl) (Zb ZaL)<|ZC<|Eq.trans Zl<|Eq.symm Zl)<|Za<|K3 10 60 61 Y<|Zu<|R2 ZZ Y<|Rm Y<|Za<|⟨_, h, ES [some 0]<|sr 10 Y (Zj1 (Eq.symm<|(List.length_set ..).trans Y) Y)<|sd 60 Y Y<|sd 61 Y Y sn⟩
      ·
       refine ZL<|?_
       replace h := lx h ▸ ho3
       exact ⟨_, h, ES [some 0]⟩
     ·
      refine Tr<|Rm Y<|Ra Y<|Ra Y<|Za<|?_
      obtain rfl := rt h
      exact Zz (ZP Y (.two (.tmp Y<|View.ownM Y Y D74)<|rb Y))
theorem Zhj  {r : Bool} (h : Zco  = some r) :
 CSpec Tryz.prog gl0 22 [] (.bool r) := by
 unfold Zco at h
 replace h := Qj h
 refine So Tryz.func22 Y fun w0 A=>Tr<|Ra Y<|Za<|K0<|Tr<|bE h fun l h_l h=>Rx Y (ZlS [none] (r := 0) (f := R3) (z0 := 0) Y (ov Y) (ov Y) Qq Y tZ3 Y Y h_l)<|bE h fun y h_y h=>Rq Y (Zb7 (Zme h_y) (.tuple<|by simp only [List.mem_cons, List.not_mem_nil, or_false, forall_eq_or_imp, forall_eq]; exact ⟨(ZpB (fun _ => .int)), .int⟩)<|.cons (ov Y) (Dat.view<|.b Y)<|.cons (ov Y) (View.ownM Y Y D3) .nil)<|Rm Y<|Rq Y (Zo (ov Y) Y)<|Rq Y (Zo (ov Y) Y)<|Rx Y (ZO (row := (List.map C47 (Vector.replicate 64 0).toList)) 1 Y ZcW Y tZ_49)<|Rx Y (Zf (ov Y) (ov Y) (Zp Z3 arL) Y Y Y (Zt (Ze arL) arL) (Zb<|arC fun _ => Y)<|ZC<|Eq.trans arL<|Eq.symm arL)<|Ra Y<|Za<|K1 1 Y<|Tr<|Rq Y (Zy (ov Y) Y Y Y Z3 (Zm<|Ze arL) arL (hns := (nsM fun _ => Y)))<|bE h fun y2 h_y2 h=>Rq Y (Zq (Zjr h_y2)<|.cons (ov Y) (.aggB<|arD fun _ => Y) .nil)<|Rm Y<|Rq Y (Zo (ov Y) Y)<|Rq Y (Zo (ov Y) Y)<|Ra Y<|Ra Y<|Za<|K2 1 3 Y<|Tr<|Rx Y (Zpt (r := 2) (xs := ([7] : List Int)) (f := R5) Y ZaC (.cons (cvs (ov Y)<|ZU Y) Y (.cons (.b Y) .nil) .nil) Y Y Y)<|Rm Y<|bE h fun l2 h_l2 h=>Rx Y (Zg4 (ov Y) (ZG (ov Y) tZ_5) ZaC Y Y (fun _=>Zb Y) Y h_l2)<|Rq Y (ZeG (ys := [_, _]) Zr3 ZrW ZpF (.cons (cvs (ov Y)<|ZU Y) .nil) Y)<|Zb5 (Ent.sel [some 0, some 1, none] (sr 1 Y (.ptr (r' := 1) _ _ _ Y)<|sd 3 Y Y<|sd 19 Y Y<|sr 20 Y (Zjy Y Y Y D5)<|sr 21 Y (ZqM<|rlc (Zjy Y Y Y D5)<|rlc (.dat Y) rln) sn) (.cons Y (roM D3)<|.cons Y (ro1 (by exact Eq.trans (b := 64) arL tZ_49.symm)<|rld<|arD fun _ => Y)<|.row 5 .nil) Y Y)<|R_q (.sl 68<|List.map R68 ([(api_Piece.mk l2 false)] : List api_Piece)) Y (Xv Zf9 (.cons (cva<|ov Y) Y (pwD Y) .nil) Y Y)<|bE h fun y3 h_y3 h=>Rq Y (Zq (Zck h_y3)<|.cons (ov Y) (.b Y) .nil)<|Rm Y<|Rq Y (Zo (ov Y) Y)<|Rq Y (Zo (ov Y) Y)<|Ra Y<|Ra Y<|Za<|K3 1 5 6 Y<|Td md0<|D1 0 Zc Y<|D2 1 QD Y<|D1 2 Zc Y<|Dq 3 Y (.guarded ((decide (y3.2 = 0)) == true) Y Y Y Y fun h => Zc<|ov Y)<|Dq 4 Y (.guarded ((decide (y3.2 = 0)) == true) Y Y Y Y fun h => Zfo (ZG (ow Y h) tZ_74) Qd<|Zc7 _ _)<|Dq 5 Y (.guarded ((decide (y3.2 = 0)) == true) Y Y Y Y fun h => QD (ow Y h)<|ov Y)<|Dq 6 Y (QU (ov Y) fun hp=>ow Y<|gT hp)<|D1 7 Zc Y<|Dq 8 Y (.guarded (((decide (y3.2 = 0)) && (decide ((y3.1.length : Int) = 1))) == true) Y Y Y Y fun h => Zc<|ov Y)<|bE h fun x h_x h=>Dq 9 Y (.guarded (((decide (y3.2 = 0)) && (decide ((y3.1.length : Int) = 1))) == true) Y Y Y Y fun h => ZS (ow Y h) (ov Y) Qd<|gdT h_x h)<|Dq 10 Y (.guarded (((decide (y3.2 = 0)) && (decide ((y3.1.length : Int) = 1))) == true) Y Y Y Y fun h => ZB (ow Y h) Qg)<|Dq 11 Y (.guarded (((decide (y3.2 = 0)) && (decide ((y3.1.length : Int) = 1))) == true) Y Y Y Y fun h => Zh (ow Y h) tS3<|Zj at8)<|Dq 12 Y (.guarded (((decide (y3.2 = 0)) && (decide ((y3.1.length : Int) = 1))) == true) Y Y Y Y fun h => QD (ow Y h)<|ov Y)<|Dq 13 Y (QU (ov Y) fun hp=>ow Y<|gT hp)<|D1 14 Zc Y<|Dq 15 Y (.guarded ((((decide (y3.2 = 0)) && (decide ((y3.1.length : Int) = 1))) && (decide (x.Number = 9))) == true) Y Y Y Y fun h => Zc<|ov Y)<|bE h fun x2 h_x2 h=>Dq 16 Y (.guarded ((((decide (y3.2 = 0)) && (decide ((y3.1.length : Int) = 1))) && (decide (x.Number = 9))) == true) Y Y Y Y fun h => ZS (ow Y h) (ov Y) Qd<|gdT h_x2 h)<|Dq 17 Y (.guarded ((((decide (y3.2 = 0)) && (decide ((y3.1.length : Int) = 1))) && (decide (x.Number = 9))) == true) Y Y Y Y fun h => ZB (ow Y h) Xb)<|Dq 18 Y (.guarded ((((decide (y3.2 = 0)) && (decide ((y3.1.length : Int) = 1))) && (decide (x.Number = 9))) == true) Y Y Y Y fun h => ZF (ow Y h) Z3 (Zm JL) arL)<|Dq 19 Y (.guarded ((((decide (y3.2 = 0)) && (decide ((y3.1.length : Int) = 1))) && (decide (x.Number = 9))) == true) Y Y Y Y fun h => Zy (ov Y) Y Y Y Z3 (Zm<|Ze arL) arL (hns := (nsM fun _ => Y)))<|Dq 20 Y (.guarded ((((decide (y3.2 = 0)) && (decide ((y3.1.length : Int) = 1))) && (decide (x.Number = 9))) == true) Y Y Y Y fun h => ZoA Zoj (ow Y h) (ow Y h) (.aggB<|arD fun _ => Y) (.aggB<|arD fun _ => Y) (fkV fun _ => Y) (fkV fun _ => Y)<|eqV fun _ _ => Y)<|Dq 21 Y (QU (ov Y) fun hp=>ow Y<|gT hp)<|D1 22 Zc Y<|Dq 23 Y (.guarded (((((decide (y3.2 = 0)) && (decide ((y3.1.length : Int) = 1))) && (decide (x.Number = 9))) && (decide (x2.Frame = y.1))) == true) Y Y Y Y fun h => Zc<|ov Y)<|bE h fun x3 h_x3 h=>Dq 24 Y (.guarded (((((decide (y3.2 = 0)) && (decide ((y3.1.length : Int) = 1))) && (decide (x.Number = 9))) && (decide (x2.Frame = y.1))) == true) Y Y Y Y fun h => ZS (ow Y h) (ov Y) Qd<|gdT h_x3 h)<|Dq 25 Y (.guarded (((((decide (y3.2 = 0)) && (decide ((y3.1.length : Int) = 1))) && (decide (x.Number = 9))) && (decide (x2.Frame = y.1))) == true) Y Y Y Y fun h => ZB (ow Y h) Zcm)<|Dq 26 Y (.guarded (((((decide (y3.2 = 0)) && (decide ((y3.1.length : Int) = 1))) && (decide (x.Number = 9))) && (decide (x2.Frame = y.1))) == true) Y Y Y Y fun h => Zh (ow Y h) tS4<|Zj ZeC)<|Dq 27 Y (QU (ov Y) fun hp=>ow Y<|gT hp)<|D1 28 Zc Y<|Dq 29 Y (.guarded ((((((decide (y3.2 = 0)) && (decide ((y3.1.length : Int) = 1))) && (decide (x.Number = 9))) && (decide (x2.Frame = y.1))) && x3.Sound) == true) Y Y Y Y fun h => Zc<|ov Y)<|bE h fun x4 h_x4 h=>Dq 30 Y (.guarded ((((((decide (y3.2 = 0)) && (decide ((y3.1.length : Int) = 1))) && (decide (x.Number = 9))) && (decide (x2.Frame = y.1))) && x3.Sound) == true) Y Y Y Y fun h => ZS (ow Y h) (ov Y) Qd<|gdT h_x4 h)<|Dq 31 Y (.guarded ((((((decide (y3.2 = 0)) && (decide ((y3.1.length : Int) = 1))) && (decide (x.Number = 9))) && (decide (x2.Frame = y.1))) && x3.Sound) == true) Y Y Y Y fun h => ZB (ow Y h) ZbM)<|Dq 32 Y (.guarded ((((((decide (y3.2 = 0)) && (decide ((y3.1.length : Int) = 1))) && (decide (x.Number = 9))) && (decide (x2.Frame = y.1))) && x3.Sound) == true) Y Y Y Y fun h => Zh (ow Y h) tS3<|Zj Zfj)<|Dq 33 Y (.guarded ((((((decide (y3.2 = 0)) && (decide ((y3.1.length : Int) = 1))) && (decide (x.Number = 9))) && (decide (x2.Frame = y.1))) && x3.Sound) == true) Y Y Y Y fun h => QD (ow Y h)<|ov Y)<|Dq 34 Y (QU (ov Y) fun hp=>ow Y<|gT hp)<|D1 35 Zc Y<|Dq 36 Y (.guarded (((((((decide (y3.2 = 0)) && (decide ((y3.1.length : Int) = 1))) && (decide (x.Number = 9))) && (decide (x2.Frame = y.1))) && x3.Sound) && (decide (x4.Copies = 1))) == true) Y Y Y Y fun h => Zc<|ov Y)<|bE h fun x5 h_x5 h=>Dq 37 Y (.guarded (((((((decide (y3.2 = 0)) && (decide ((y3.1.length : Int) = 1))) && (decide (x.Number = 9))) && (decide (x2.Frame = y.1))) && x3.Sound) && (decide (x4.Copies = 1))) == true) Y Y Y Y fun h => ZS (ow Y h) (ov Y) Qd<|gdT h_x5 h)<|Dq 38 Y (.guarded (((((((decide (y3.2 = 0)) && (decide ((y3.1.length : Int) = 1))) && (decide (x.Number = 9))) && (decide (x2.Frame = y.1))) && x3.Sound) && (decide (x4.Copies = 1))) == true) Y Y Y Y fun h => ZB (ow Y h) QJ)<|bE h fun x6 h_x6 h=>Dq 39 Y (.guarded (((((((decide (y3.2 = 0)) && (decide ((y3.1.length : Int) = 1))) && (decide (x.Number = 9))) && (decide (x2.Frame = y.1))) && x3.Sound) && (decide (x4.Copies = 1))) == true) Y Y Y Y fun h => QA (ow Y h) (ov Y) ZaO<|gdT h_x6 h)<|Dq 40 Y (.guarded (((((((decide (y3.2 = 0)) && (decide ((y3.1.length : Int) = 1))) && (decide (x.Number = 9))) && (decide (x2.Frame = y.1))) && x3.Sound) && (decide (x4.Copies = 1))) == true) Y Y Y Y fun h => Zh (ow Y h) tS3<|Zj<|Z1 (o := 65) (o' := ((Int.toNat 63) * 1)) Xz<|ZN<|gdT h_x6 h)<|Dq 41 Y (.guarded (((((((decide (y3.2 = 0)) && (decide ((y3.1.length : Int) = 1))) && (decide (x.Number = 9))) && (decide (x2.Frame = y.1))) && x3.Sound) && (decide (x4.Copies = 1))) == true) Y Y Y Y fun h => QD (ow Y h)<|ov Y)<|Dq 42 Y (QU (ov Y) fun hp=>ow Y<|gT hp)<|D1 43 QG Y<|Dd<|?_
 obtain rfl := rt h
 exact Zz (ZP Y (.one<|rb Y))
theorem Zg9 {l : List api_Piece} {r : Int} (h : Js l = some r) :
 CSpec Tryz.prog gl0 67 [.sl 68 (List.map R68 l)] (.int .i64 r) := by
 unfold Js at h
 replace h := Qj h
 refine So Tryz.func67 Y fun w0 A=>Tr<|Ra Y<|Za<|Zr<|K1 0 Y<|Tr<|Rm Y<|Rl tZ_68 Zf9 Y<|R2 JW Y<|Za<|K2 0 8 Y<|If h Y (fun h=>?_) fun h=>?_
 ·
  refine K0<|Tr<|Ra Y<|Za<|?_
  obtain rfl := rt h
  exact Zz (ZP Y (.one<|rb Y))
 ·
  refine Zn<|J0 (fun j => (.inr j)) ⟨[], []⟩ h (fun h=>?_) fun h=>?_
  ·
   refine K1 0 Y<|Tr<|Rm Y<|Rl tZ_68 Zf9 Y<|Rm Y<|Za<|Zk<|?_
   obtain ⟨r1, hl1, ho1⟩ := QP h
   refine L1 (fun i=>⟨[(9, .sl 68 (List.map R68 l)), (10, .int .i64 (l.length : Int)), (11, .int .i64 i)], []⟩) hl1 (ES []) fun n1 i h=>?_
   unfold XK at h
   refine Tr<|R2 ZX Y<|Za<|Zr<|If h Y (fun h=>?_) fun h=>?_
   ·
    refine Zn<|Zr<|Zk<|K3 9 10 11 Y<|Tr<|bE h fun x h_x h=>Rq Y (ZS (ov Y) (ov Y) Zf9 h_x)<|Rq Y (ZF (ov Y) ZfG Y Y)<|Rx Y (ZO (row := [_, _]) 0 Y ZpF Y tZ_68)<|Rx Y (Zf (ov Y) (ov Y) (Zp ZfG Y) Y Y Y (Nat.le_of_ble_eq_true Y) (Zb Y) Y)<|Za<|K4 4 9 10 11 Y<|Tr<|Rq Y (Zy (ov Y) Y Y Y ZfG Y Y)<|bE h fun y h_y h=>Rq Y (Zq (Zhx h_y)<|.cons (ov Y) (.aggB Y) .nil)<|Ra Y<|Za<|K4 5 9 10 11 Y<|Tr<|Rm Y<|R2 Jl Y<|Za<|K5 5 9 10 11 18 Y<|If h Y (fun h=>?_) fun h=>?_
    ·
     refine K1 5 Y<|Tr<|Rm Y<|Ra Y<|Za<|?_
     replace h := lx h ▸ ho1
     obtain rfl := rt h
     exact Zz (ZP Y (.one<|rb Y))
    ·
     exact Zn<|K3 9 10 11 Y<|Zu<|R2 ZZ Y<|Rm Y<|Za<|⟨_, h, ES []⟩
   ·
    refine ZL<|?_
    replace h := lx h ▸ ho1
    exact ⟨_, h, ES []⟩
  ·
   replace h := elr h
   replace h := t0i h
   refine Tr<|Ra Y<|Za<|?_
   obtain rfl := rt h
   exact Zz (ZP Y (.one<|rb Y))
theorem Zie {l : List api_Rest} {r : (List api_Rest)} (h : XW l = some r) :
 GSpec Tryz.prog gl0 60 [.sl 74 (List.map R74 l)] [] (.own 0 r.length) [some ⟨74, List.map R74 r⟩] := by
 unfold XW at h
 replace h := Qj h
 refine Zes (by kernel_rfl) Tryz.func60 Y Y<|?_
 intro w0 A W φ0
 refine Tr<|Ra Y<|Za<|K1 0 Y<|Tr<|Ra Y<|Za<|Tr<|Rx Y (Zfh 0 Y Qf)<|Ra Y<|Za<|I2 (fun order by_=>⟨[(3, .own 0 order.length), (4, .mref 1 1)], [some ⟨3, List.map R3 order⟩, some ⟨165, [[.mcon (List.map (QC FK3 (osF 74 R74)) by_)]]⟩]⟩) h (fun h=>?_) fun order by_ h=>?_
 ·
  refine K3 0 3 4 Y<|Tr<|Rm Y<|Rl tZ_74 Qd Y<|Rm Y<|Za<|Zk<|?_
  obtain ⟨r1, hl1, ho1⟩ := QP h
  refine L3 (fun order2 by_2 i=>⟨[(3, .own 0 order2.length), (4, .mref 1 1), (12, .sl 74 (List.map R74 l)), (13, .int .i64 (l.length : Int)), (14, .int .i64 i)], [some ⟨3, List.map R3 order2⟩, some ⟨165, [[.mcon (List.map (QC FK3 (osF 74 R74)) by_2)]]⟩]⟩) hl1 (ES [none, some 0] (hhp := .row 3<|.cons Y (ZJ (fk := FK3) (fv := (osF 74 R74)) (m := ([] : List (Int × (List api_Rest)))) tZ_165 (fun _=>.dat Y) fun _=>QY D74) .nil)) fun n1 order2 by_2 i h=>?_
  unfold JM at h
  refine Tr<|R2 ZX Y<|Za<|Zr<|If h Y (fun h=>?_) fun h=>?_
  ·
   refine Zn<|I2 (fun order3 by_3=>⟨[(3, .own 0 order3.length), (4, .mref 1 1), (12, .sl 74 (List.map R74 l)), (13, .int .i64 (l.length : Int)), (14, .int .i64 i)], [some ⟨3, List.map R3 order3⟩, some ⟨165, [[.mcon (List.map (QC FK3 (osF 74 R74)) by_3)]]⟩]⟩) h (fun h=>?_) fun order3 by_3 h=>?_
   ·
    refine Zk<|K5 3 4 12 13 14 Y<|Tr<|bE h fun x h_x h=>Rq Y (ZS (ov Y) (ov Y) Qd h_x)<|Rq Y (ZF (ov Y) Qh (Zm<|Ze Zl) Zl)<|Rx Y (ZO (row := (.int .i64 0) :: ((List.map C47 (Vector.replicate 64 0).toList) ++ (((List.map C3 (Vector.replicate 64 0).toList) ++ ((.bool false) :: (.int .i64 0) :: (.bool false) :: []))))) 2 Y ZbS (by kernel_rfl)<|by exact Eq.symm (Eq.trans (b := 132) Zl tZ_74.symm))<|Rx Y (Zf (ov Y) (ov Y) (Zp Qh Zl) Y Y Y (Zt (Ze Zl) Zl) (Zb ZaL)<|ZC<|Eq.trans Zl<|Eq.symm Zl)<|Za<|I1 (fun order4=>⟨[(3, .own 0 order4.length), (4, .mref 1 1), (6, .ptr 2 1 0 0), (12, .sl 74 (List.map R74 l)), (13, .int .i64 (l.length : Int)), (14, .int .i64 i)], [some ⟨3, List.map R3 order4⟩, some ⟨165, [[.mcon (List.map (QC FK3 (osF 74 R74)) by_2)]]⟩, some ⟨74, [(.int .i64 x.Number) :: ((List.map C47 x.Frame.toList) ++ (((List.map C3 x.States.toList) ++ ((.bool x.Sound) :: (.int .i64 x.Copies) :: (.bool x.Conflict) :: []))))]⟩]⟩) h (fun h=>?_) fun order4 h=>?_
    ·
     refine K6 3 4 6 12 13 14 Y<|Tr<|Rm Y<|Rq Y (Zd (ov Y) Y Y Qg)<|Rq Y (Zi (ov Y) Y Y Y tS3<|Zj at8)<|bE h fun z h_z h=>?_
     rcases z with z | z
     ·
      replace h := ell h
      refine Rq Y (ZfJ (e1 := 74) (R := R74) (m := by_2) (k := x.Number) (ZdW h_z) (ov Y) (ov Y) Qf Qk Y (fun _=>.b Y)<|Zw Za4 Y)<|Rq Y (Zfo (ZlX<|ov Y) Qd Y)<|R2 QD Y<|Za<|K7 3 4 6 12 13 14 23 Y<|If h Y (fun h=>?_) fun h=>?_
      ·
       refine K6 3 4 6 12 13 14 Y<|Tr<|Rm Y<|Rq Y (Zaf (ov Y) Y Y Qq)<|Ra Y<|Za<|I1 (fun at_=>⟨[(3, .own 0 order2.length), (4, .mref 1 1), (6, .ptr 2 1 0 0), (7, .int .i64 at_), (12, .sl 74 (List.map R74 l)), (13, .int .i64 (l.length : Int)), (14, .int .i64 i)], [some ⟨3, List.map R3 order2⟩, some ⟨165, [[.mcon (List.map (QC FK3 (osF 74 R74)) by_2)]]⟩, some ⟨74, [(.int .i64 x.Number) :: ((List.map C47 x.Frame.toList) ++ (((List.map C3 x.States.toList) ++ ((.bool x.Sound) :: (.int .i64 x.Copies) :: (.bool x.Conflict) :: []))))]⟩]⟩) h (fun h=>?_) fun at_ h=>?_
       ·
        refine Zk<|?_
        obtain ⟨r2, hl2, ho2⟩ := QP h
        refine L1 (fun at_2=>⟨[(3, .own 0 order2.length), (4, .mref 1 1), (6, .ptr 2 1 0 0), (7, .int .i64 at_2), (12, .sl 74 (List.map R74 l)), (13, .int .i64 (l.length : Int)), (14, .int .i64 i)], [some ⟨3, List.map R3 order2⟩, some ⟨165, [[.mcon (List.map (QC FK3 (osF 74 R74)) by_2)]]⟩, some ⟨74, [(.int .i64 x.Number) :: ((List.map C47 x.Frame.toList) ++ (((List.map C3 x.States.toList) ++ ((.bool x.Sound) :: (.int .i64 x.Copies) :: (.bool x.Conflict) :: []))))]⟩]⟩) hl2 (ES [some 0, some 1, some 2] (hhp := .cons Y (roM D3)<|.cons Y (ZJ (fk := FK3) (fv := (osF 74 R74)) (m := by_2) tZ_165 (fun _=>.dat Y) fun _=>QY D74)<|.cons Y (ro1 (by exact Eq.trans (b := 132) Zl tZ_74.symm)<|rld Qz) .nil)) fun n2 at_2 h=>?_
        unfold ZaW at h
        refine Zr<|Td md0<|D1 0 Zc Y<|D2 1 JW Y<|D1 2 Zc Y<|Dq 3 Y (.guarded ((decide (0 < at_2)) == true) Y Y Y Y fun h => Zc<|ov Y)<|Dq 4 Y (.guarded ((decide (0 < at_2)) == true) Y Y Y Y fun h => Zc<|ov Y)<|Dq 5 Y (.guarded ((decide (0 < at_2)) == true) Y Y Y Y fun h => ZcY (ow Y h) (ov Y) Y)<|bE h fun x2 h_x2 h=>Dq 6 Y (.guarded ((decide (0 < at_2)) == true) Y Y Y Y fun h => XQ (ow Y h) (ow Y h) Qq Y Y<|gdT h_x2 h)<|Dq 7 Y (.guarded ((decide (0 < at_2)) == true) Y Y Y Y fun h => ZaU (ow Y h) Y Y (gdT h_x2 h) tS3 Y)<|Dq 8 Y (.guarded ((decide (0 < at_2)) == true) Y Y Y Y fun h => Zd (ov Y) Y Y Qg)<|Dq 9 Y (.guarded ((decide (0 < at_2)) == true) Y Y Y Y fun h => Zi (ow Y h) Y Y Y tS3<|Zj at8)<|Dq 10 Y (.guarded ((decide (0 < at_2)) == true) Y Y Y Y fun h => JW (ow Y h)<|ow Y h)<|Dq 11 Y (QU (ov Y) fun hp=>ow Y<|gT hp)<|Dd<|K8 3 4 6 7 12 13 14 37 Y<|If h Y (fun h=>?_) fun h=>?_
        ·
         exact Zn<|Zk<|K7 3 4 6 7 12 13 14 Y<|Zu<|Rm Y<|R2 ZdH Y<|Ra Y<|Za<|⟨_, h, ES [some 0, some 1, some 2] (hhp := .cons Y (roM D3)<|.cons Y (ZJ (fk := FK3) (fv := (osF 74 R74)) (m := by_2) tZ_165 (fun _=>.dat Y) fun _=>QY D74)<|.cons Y (ro1 (by exact Eq.trans (b := 132) Zl tZ_74.symm)<|rld Qz) .nil)⟩
        ·
         refine ZL<|?_
         replace h := lx h ▸ ho2
         exact ⟨_, h, ES [some 0, some 1, some 2] (hhp := .cons Y (roM D3)<|.cons Y (ZJ (fk := FK3) (fv := (osF 74 R74)) (m := by_2) tZ_165 (fun _=>.dat Y) fun _=>QY D74)<|.cons Y (ro1 (by exact Eq.trans (b := 132) Zl tZ_74.symm)<|rld Qz) .nil)⟩
       ·
        exact Tr<|Rm Y<|R_q (.sl 3<|List.map R3 ([0] : List Int)) Y (Xv Qq (.cons (cvs (ov Y)<|ZU Y) Y (.cons (.b Y) .nil) .nil) Y Y)<|bE h fun l2 h_l2 h=>Rx Y (Zv (ov Y) (ZG (ov Y) tZ_3) Qq Y Y Y (fun _=>Zb Y) Y h_l2)<|Ra Y<|Za<|K7 3 4 6 7 12 13 14 Y<|Td md0<|D1 0 Zc Y<|D1 1 Zc Y<|D2 2 ZZ Y<|bE h fun u h_u h=>Dq 3 Y (Zjp (ov Y) Y Y Qq (oi<|ov Y) on h_u)<|D1 4 Zc Y<|D1 5 Zc Y<|bE h fun u2 h_u2 h=>Dq 6 Y (Zjp (ov Y) Y Y Qq (oi<|ov Y) on h_u2)<|Do 7 Y (ZjK (g := C3) (ov Y) (ov Y) Y Y (fun _=>Y) (fun _=>Y) (fun _=>Y) Qq (Xh h_u)<|Xh h_u2)<|Dd<|K7 3 4 6 7 12 13 14 Y<|Zu<|Rm Y<|Rm Y<|Rq Y (Zd (ov Y) Y Y Qg)<|Rq Y (Zi (ov Y) Y Y Y tS3<|Zj at8)<|bE h fun x3 h_x3 h=>Rq Y (XQ (ov Y) (ov Y) Qq Y ((JI (Xh h_u) (Xh h_u2)).trans Y) h_x3)<|Rx Y (Zb3 (u' := x.Number) (ov Y) (ov Y) (Zg tS3) Y ((JI (Xh h_u) (Xh h_u2)).trans Y) h_x3 Y (Zb Y) Y)<|Za<|⟨_, h, Ent.sel [some 0, some 1, some 2] (sr 3 Y (Zj1 (Eq.symm<|(List.length_set ..).trans<|(JI (Xh h_u) (Xh h_u2)).trans Y) Y)<|sr 4 Y (.mref _ Y)<|sr 6 Y (.ptr _ _ _ Y)<|sd 12 Y Y<|sd 13 Y Y<|sd 14 Y Y sn) (.cons Y (roM D3)<|.cons Y (ZJ (fk := FK3) (fv := (osF 74 R74)) (m := by_2) tZ_165 (fun _=>.dat Y) fun _=>QY D74)<|.cons Y (ro1 (by exact Eq.trans (b := 132) Zl tZ_74.symm)<|rld Qz) .nil) Y Y⟩
      ·
       exact Zn<|⟨_, h, ES [some 0, some 1, some 2] (hhp := .cons Y (roM D3)<|.cons Y (ZJ (fk := FK3) (fv := (osF 74 R74)) (m := by_2) tZ_165 (fun _=>.dat Y) fun _=>QY D74)<|.cons Y (ro1 (by exact Eq.trans (b := 132) Zl tZ_74.symm)<|rld Qz) .nil)⟩
     ·
      replace h := elr h
      refine Zb5 (Ent.focusMk1 (e := 74) (R := R74) (m := by_2) (k := x.Number) (r := 1) Y tZ_165 (ZaA h_z) D74)<|Rq Y (ZfO (e1 := 74) (R := R74) (m := by_2) (k := x.Number) (ov Y) (ov Y) Qf Qk Y (fun _=>.b Y)<|Zw Za4 Y)<|Rq Y (Zaf (ov Y) Y Y Qd)<|R2 QD Y<|Zb5 (by exact Ent.absorbMs1 (e := 74) (R := R74) (m := by_2) (k := x.Number) (ys := z) (fk := FK3) (r := 1) (q := 3) (ZaA h_z) rfl tZ_165 rfl rfl rfl)<|Za<|K7 3 4 6 12 13 14 23 Y<|If h Y (fun h=>?_) fun h=>?_
      ·
       refine K6 3 4 6 12 13 14 Y<|Tr<|Rm Y<|Rq Y (Zaf (ov Y) Y Y Qq)<|Ra Y<|Za<|I1 (fun at_3=>⟨[(3, .own 0 order2.length), (4, .mref 1 1), (6, .ptr 2 1 0 0), (7, .int .i64 at_3), (12, .sl 74 (List.map R74 l)), (13, .int .i64 (l.length : Int)), (14, .int .i64 i)], [some ⟨3, List.map R3 order2⟩, some ⟨165, [[.mcon (List.map (QC FK3 (osF 74 R74)) by_2)]]⟩, some ⟨74, [(.int .i64 x.Number) :: ((List.map C47 x.Frame.toList) ++ (((List.map C3 x.States.toList) ++ ((.bool x.Sound) :: (.int .i64 x.Copies) :: (.bool x.Conflict) :: []))))]⟩]⟩) h (fun h=>?_) fun at_3 h=>?_
       ·
        refine Zk<|?_
        obtain ⟨r3, hl3, ho3⟩ := QP h
        refine L1 (fun at_4=>⟨[(3, .own 0 order2.length), (4, .mref 1 1), (6, .ptr 2 1 0 0), (7, .int .i64 at_4), (12, .sl 74 (List.map R74 l)), (13, .int .i64 (l.length : Int)), (14, .int .i64 i)], [some ⟨3, List.map R3 order2⟩, some ⟨165, [[.mcon (List.map (QC FK3 (osF 74 R74)) by_2)]]⟩, some ⟨74, [(.int .i64 x.Number) :: ((List.map C47 x.Frame.toList) ++ (((List.map C3 x.States.toList) ++ ((.bool x.Sound) :: (.int .i64 x.Copies) :: (.bool x.Conflict) :: []))))]⟩]⟩) hl3 (ES [some 0, some 1, some 2] (hhp := .cons Y (roM D3)<|.cons Y (ZJ (fk := FK3) (fv := (osF 74 R74)) (m := by_2) tZ_165 (fun _=>.dat Y) fun _=>QY D74)<|.cons Y (ro1 (by exact Eq.trans (b := 132) Zl tZ_74.symm)<|rld Qz) .nil)) fun n3 at_4 h=>?_
        unfold ZdR at h
        refine Zr<|Td md0<|D1 0 Zc Y<|D2 1 JW Y<|D1 2 Zc Y<|Dq 3 Y (.guarded ((decide (0 < at_4)) == true) Y Y Y Y fun h => Zc<|ov Y)<|Dq 4 Y (.guarded ((decide (0 < at_4)) == true) Y Y Y Y fun h => Zc<|ov Y)<|Dq 5 Y (.guarded ((decide (0 < at_4)) == true) Y Y Y Y fun h => ZcY (ow Y h) (ov Y) Y)<|bE h fun x4 h_x4 h=>Dq 6 Y (.guarded ((decide (0 < at_4)) == true) Y Y Y Y fun h => XQ (ow Y h) (ow Y h) Qq Y Y<|gdT h_x4 h)<|Dq 7 Y (.guarded ((decide (0 < at_4)) == true) Y Y Y Y fun h => ZaU (ow Y h) Y Y (gdT h_x4 h) tS3 Y)<|Dq 8 Y (.guarded ((decide (0 < at_4)) == true) Y Y Y Y fun h => Zd (ov Y) Y Y Qg)<|Dq 9 Y (.guarded ((decide (0 < at_4)) == true) Y Y Y Y fun h => Zi (ow Y h) Y Y Y tS3<|Zj at8)<|Dq 10 Y (.guarded ((decide (0 < at_4)) == true) Y Y Y Y fun h => JW (ow Y h)<|ow Y h)<|Dq 11 Y (QU (ov Y) fun hp=>ow Y<|gT hp)<|Dd<|K8 3 4 6 7 12 13 14 37 Y<|If h Y (fun h=>?_) fun h=>?_
        ·
         exact Zn<|Zk<|K7 3 4 6 7 12 13 14 Y<|Zu<|Rm Y<|R2 ZdH Y<|Ra Y<|Za<|⟨_, h, ES [some 0, some 1, some 2] (hhp := .cons Y (roM D3)<|.cons Y (ZJ (fk := FK3) (fv := (osF 74 R74)) (m := by_2) tZ_165 (fun _=>.dat Y) fun _=>QY D74)<|.cons Y (ro1 (by exact Eq.trans (b := 132) Zl tZ_74.symm)<|rld Qz) .nil)⟩
        ·
         refine ZL<|?_
         replace h := lx h ▸ ho3
         exact ⟨_, h, ES [some 0, some 1, some 2] (hhp := .cons Y (roM D3)<|.cons Y (ZJ (fk := FK3) (fv := (osF 74 R74)) (m := by_2) tZ_165 (fun _=>.dat Y) fun _=>QY D74)<|.cons Y (ro1 (by exact Eq.trans (b := 132) Zl tZ_74.symm)<|rld Qz) .nil)⟩
       ·
        exact Tr<|Rm Y<|R_q (.sl 3<|List.map R3 ([0] : List Int)) Y (Xv Qq (.cons (cvs (ov Y)<|ZU Y) Y (.cons (.b Y) .nil) .nil) Y Y)<|bE h fun l3 h_l3 h=>Rx Y (Zv (ov Y) (ZG (ov Y) tZ_3) Qq Y Y Y (fun _=>Zb Y) Y h_l3)<|Ra Y<|Za<|K7 3 4 6 7 12 13 14 Y<|Td md0<|D1 0 Zc Y<|D1 1 Zc Y<|D2 2 ZZ Y<|bE h fun u3 h_u3 h=>Dq 3 Y (Zjp (ov Y) Y Y Qq (oi<|ov Y) on h_u3)<|D1 4 Zc Y<|D1 5 Zc Y<|bE h fun u4 h_u4 h=>Dq 6 Y (Zjp (ov Y) Y Y Qq (oi<|ov Y) on h_u4)<|Do 7 Y (ZjK (g := C3) (ov Y) (ov Y) Y Y (fun _=>Y) (fun _=>Y) (fun _=>Y) Qq (Xh h_u3)<|Xh h_u4)<|Dd<|K7 3 4 6 7 12 13 14 Y<|Zu<|Rm Y<|Rm Y<|Rq Y (Zd (ov Y) Y Y Qg)<|Rq Y (Zi (ov Y) Y Y Y tS3<|Zj at8)<|bE h fun x5 h_x5 h=>Rq Y (XQ (ov Y) (ov Y) Qq Y ((JI (Xh h_u3) (Xh h_u4)).trans Y) h_x5)<|Rx Y (Zb3 (u' := x.Number) (ov Y) (ov Y) (Zg tS3) Y ((JI (Xh h_u3) (Xh h_u4)).trans Y) h_x5 Y (Zb Y) Y)<|Za<|⟨_, h, Ent.sel [some 0, some 1, some 2] (sr 3 Y (Zj1 (Eq.symm<|(List.length_set ..).trans<|(JI (Xh h_u3) (Xh h_u4)).trans Y) Y)<|sr 4 Y (.mref _ Y)<|sr 6 Y (.ptr _ _ _ Y)<|sd 12 Y Y<|sd 13 Y Y<|sd 14 Y Y sn) (.cons Y (roM D3)<|.cons Y (ZJ (fk := FK3) (fv := (osF 74 R74)) (m := by_2) tZ_165 (fun _=>.dat Y) fun _=>QY D74)<|.cons Y (ro1 (by exact Eq.trans (b := 132) Zl tZ_74.symm)<|rld Qz) .nil) Y Y⟩
      ·
       exact Zn<|⟨_, h, ES [some 0, some 1, some 2] (hhp := .cons Y (roM D3)<|.cons Y (ZJ (fk := FK3) (fv := (osF 74 R74)) (m := by_2) tZ_165 (fun _=>.dat Y) fun _=>QY D74)<|.cons Y (ro1 (by exact Eq.trans (b := 132) Zl tZ_74.symm)<|rld Qz) .nil)⟩
    ·
     refine bE h fun z2 h_z2 h=>?_
     rcases z2 with z2 | z2
     ·
      replace h := ell h
      refine J6 (cw := md0) (by kernel_rfl)<|D1 3 Zc Y<|Dq 4 Y (Zd (ov Y) Y Y Qg)<|Dq 5 Y (Zi (ov Y) Y Y Y tS3<|Zj at8)<|Dq 6 Y (ZfJ (e1 := 74) (R := R74) (m := by_2) (k := x.Number) (ZdW h_z2) (ov Y) (ov Y) Qf Qk Y (fun _=>.b Y)<|Zw Za4 Y)<|Dq 7 Y (Zy (ov Y) Y Y Y Qh (Zm<|Ze Zl) Zl (hns := Jd))<|Zjb 8 (.sl 74<|List.map R74 ([x] : List api_Rest)) Y (by kernel_rfl) Y Y (Xv Qd (.cons (cva<|ov Y) Zl (pwD Qz) .nil) Y Y)<|Zai 0 _ Y (by kernel_rfl) Y Y (fun hp'=>Zc<|ov Y)<|bE h fun l4 h_l4 h=>Dw 1 9 Y (Zd (ov Y) Y Y Qg) (X8 (r := 3) Y (ov Y) (ZG (ov Y) tZ_74) Qd Y h_l4) ?_ ?_
      ·
       refine Dw 2 9 Y (Zi (ov Y) Y Y Y tS3<|Zj at8) (X8 (r := 3) Y (ov Y) (ZG (ov Y) tZ_74) Qd Y h_l4) ?_ ?_
       ·
        exact Do 9 Y (X8 (r := 3) Y (ov Y) (ZG (ov Y) tZ_74) Qd Y h_l4)<|Do 10 Y (ZdL (e1 := 74) (R := R74) (m := by_2) (k := x.Number) (ov Y) (ov Y) (ov Y) Qf Qk Y fun _=>.b Y)<|Xy (by kernel_rfl) (Ent.absorbMk1 (e := 74) (R := R74) (m := by_2) (k := x.Number) (ys := l4) (fk := FK3) (r := 1) (q := 3) Y tZ_165 Y Y Y)<|⟨_, h, ES [some 0, some 1] (hhp := .cons Y (roM D3)<|.cons Y (ZJ (fk := FK3) (fv := (osF 74 R74)) (m := (Z0 kqI by_2 x.Number l4)) tZ_165 (fun _=>.dat Y) fun _=>QY D74) .nil)⟩
       ·
        exact Dq 2 Y (Zi (ov Y) Y Y Y tS3<|Zj at8)<|Do 10 Y (ZdL (e1 := 74) (R := R74) (m := by_2) (k := x.Number) (ov Y) (ov Y) (ov Y) Qf Qk Y fun _=>.b Y)<|Xy (by kernel_rfl) (Ent.absorbMk1 (e := 74) (R := R74) (m := by_2) (k := x.Number) (ys := l4) (fk := FK3) (r := 1) (q := 3) Y tZ_165 Y Y Y)<|⟨_, h, ES [some 0, some 1] (hhp := .cons Y (roM D3)<|.cons Y (ZJ (fk := FK3) (fv := (osF 74 R74)) (m := (Z0 kqI by_2 x.Number l4)) tZ_165 (fun _=>.dat Y) fun _=>QY D74) .nil)⟩
      ·
       exact Dq 1 Y (Zd (ov Y) Y Y Qg)<|Dq 2 Y (Zi (ov Y) Y Y Y tS3<|Zj at8)<|Do 10 Y (ZdL (e1 := 74) (R := R74) (m := by_2) (k := x.Number) (ov Y) (ov Y) (ov Y) Qf Qk Y fun _=>.b Y)<|Xy (by kernel_rfl) (Ent.absorbMk1 (e := 74) (R := R74) (m := by_2) (k := x.Number) (ys := l4) (fk := FK3) (r := 1) (q := 3) Y tZ_165 Y Y Y)<|⟨_, h, ES [some 0, some 1] (hhp := .cons Y (roM D3)<|.cons Y (ZJ (fk := FK3) (fv := (osF 74 R74)) (m := (Z0 kqI by_2 x.Number l4)) tZ_165 (fun _=>.dat Y) fun _=>QY D74) .nil)⟩
     ·
      replace h := elr h
      refine ZhW (Ent.focusMk1 (e := 74) (R := R74) (m := by_2) (k := x.Number) (r := 1) Y tZ_165 (ZaA h_z2) D74)<|J6 (cw := md0) (by kernel_rfl)<|D1 3 Zc Y<|Dq 4 Y (Zd (ov Y) Y Y Qg)<|Dq 5 Y (Zi (ov Y) Y Y Y tS3<|Zj at8)<|Dq 6 Y (ZfO (e1 := 74) (R := R74) (m := by_2) (k := x.Number) (ov Y) (ov Y) Qf Qk Y (fun _=>.b Y)<|Zw Za4 Y)<|Dq 7 Y (Zy (ov Y) Y Y Y Qh (Zm<|Ze Zl) Zl (hns := Jd))<|Zjb 8 (.sl 74<|List.map R74 ([x] : List api_Rest)) Y (by kernel_rfl) Y Y (Xv Qd (.cons (cva<|ov Y) Zl (pwD Qz) .nil) Y Y)<|Zai 0 _ Y (by kernel_rfl) Y Y (fun hp'=>Zc<|ov Y)<|bE h fun l5 h_l5 h=>Dw 1 9 Y (Zd (ov Y) Y Y Qg) (Zv (ov Y) (ZG (ov Y) tZ_74) Qd Y Y Y (fun x=>Zb<|E74 x) Y h_l5) ?_ ?_
      ·
       refine Dw 2 9 Y (Zi (ov Y) Y Y Y tS3<|Zj at8) (Zv (ov Y) (ZG (ov Y) tZ_74) Qd Y Y Y (fun x=>Zb<|E74 x) Y h_l5) ?_ ?_
       ·
        exact Do 9 Y (Zv (ov Y) (ZG (ov Y) tZ_74) Qd Y Y Y (fun x=>Zb<|E74 x) Y h_l5)<|Do 10 Y (ZdS (e1 := 74) (R := R74) (m := by_2) (k := x.Number) (ov Y) (ov Y) (ov Y) Qf Qk Y fun _=>.b Y)<|Xy (by kernel_rfl) (Ent.absorbMk1 (e := 74) (R := R74) (m := by_2) (k := x.Number) (ys := l5) (fk := FK3) (r := 1) (q := 3) Y tZ_165 Y Y Y)<|⟨_, h, ES [some 0, some 1] (hhp := .cons Y (roM D3)<|.cons Y (ZJ (fk := FK3) (fv := (osF 74 R74)) (m := (Z0 kqI by_2 x.Number l5)) tZ_165 (fun _=>.dat Y) fun _=>QY D74) .nil)⟩
       ·
        exact Dq 2 Y (Zi (ov Y) Y Y Y tS3<|Zj at8)<|Do 10 Y (ZdS (e1 := 74) (R := R74) (m := by_2) (k := x.Number) (ov Y) (ov Y) (ov Y) Qf Qk Y fun _=>.b Y)<|Xy (by kernel_rfl) (Ent.absorbMk1 (e := 74) (R := R74) (m := by_2) (k := x.Number) (ys := l5) (fk := FK3) (r := 1) (q := 3) Y tZ_165 Y Y Y)<|⟨_, h, ES [some 0, some 1] (hhp := .cons Y (roM D3)<|.cons Y (ZJ (fk := FK3) (fv := (osF 74 R74)) (m := (Z0 kqI by_2 x.Number l5)) tZ_165 (fun _=>.dat Y) fun _=>QY D74) .nil)⟩
      ·
       exact Dq 1 Y (Zd (ov Y) Y Y Qg)<|Dq 2 Y (Zi (ov Y) Y Y Y tS3<|Zj at8)<|Do 10 Y (ZdS (e1 := 74) (R := R74) (m := by_2) (k := x.Number) (ov Y) (ov Y) (ov Y) Qf Qk Y fun _=>.b Y)<|Xy (by kernel_rfl) (Ent.absorbMk1 (e := 74) (R := R74) (m := by_2) (k := x.Number) (ys := l5) (fk := FK3) (r := 1) (q := 3) Y tZ_165 Y Y Y)<|⟨_, h, ES [some 0, some 1] (hhp := .cons Y (roM D3)<|.cons Y (ZJ (fk := FK3) (fv := (osF 74 R74)) (m := (Z0 kqI by_2 x.Number l5)) tZ_165 (fun _=>.dat Y) fun _=>QY D74) .nil)⟩
   ·
    exact Zu<|R2 ZZ Y<|Rm Y<|Za<|⟨_, h, ES [some 0, some 1] (hhp := .cons Y (roM D3)<|.cons Y (ZJ (fk := FK3) (fv := (osF 74 R74)) (m := by_3) tZ_165 (fun _=>.dat Y) fun _=>QY D74) .nil)⟩
  ·
   refine ZL<|?_
   replace h := lx h ▸ ho1
   exact ⟨_, h, ES [some 0, some 1] (hhp := .cons Y (roM D3)<|.cons Y (ZJ (fk := FK3) (fv := (osF 74 R74)) (m := by_2) tZ_165 (fun _=>.dat Y) fun _=>QY D74) .nil)⟩
 ·
  refine Tr<|Ra Y<|Za<|I1 (fun out=>⟨[(8, .own 0 out.length)], [some ⟨74, List.map R74 out⟩]⟩) h (fun h=>?_) fun out h=>?_
  ·
   refine Tr<|Rm Y<|Rq Y (Zaf (ov Y) Y Y Qq)<|Rm Y<|Za<|Zk<|?_
   obtain ⟨r4, hl4, ho4⟩ := QP h
   refine L2 (fun out2 i2=>⟨[(4, .mref 0 1), (8, .own 1 out2.length), (67, .own 2 order.length), (68, .int .i64 (order.length : Int)), (69, .int .i64 i2)], [some ⟨165, [[.mcon (List.map (QC FK3 (osF 74 R74)) by_)]]⟩, some ⟨74, List.map R74 out2⟩, some ⟨3, List.map R3 order⟩]⟩) hl4 (ES [some 1, none, some 0] (hhp := .cons Y (ZJ (fk := FK3) (fv := (osF 74 R74)) (m := by_) tZ_165 (fun _=>.dat Y) fun _=>QY D74)<|.row 74<|.cons Y (roM D3) .nil)) fun n4 out2 i2 h=>?_
   unfold JP at h
   refine Tr<|R2 ZX Y<|Za<|Zr<|If h Y (fun h=>?_) fun h=>?_
   ·
    refine Zn<|Zr<|Zk<|K5 4 8 67 68 69 Y<|Tr<|bE h fun x6 h_x6 h=>Rq Y (XQ (ov Y) (ov Y) Qq Y Y h_x6)<|Rq Y (ZaU (ov Y) Y Y h_x6 tS3 Y)<|Ra Y<|Za<|K6 4 8 10 67 68 69 Y<|Zu<|Rm Y<|Rm Y<|Rm Y<|bE h fun z3 h_z3 h=>?_
    rcases z3 with z3 | z3
    ·
     replace h := ell h
     exact Rq Y (ZfJ (e1 := 74) (R := R74) (m := by_) (k := x6) (ZdW h_z3) (ov Y) (ov Y) Qf Qk Y (fun _=>.b Y)<|Zw Za4 Y)<|bE h fun y h_y h=>Rq Y (Zq (Zdz h_y)<|.cons (ov Y) (Dat.nils _) .nil)<|R_q (.sl 74<|List.map R74 ([y] : List api_Rest)) Y (Xv Qd (.cons (cva<|ov Y) Zl (pwD Qz) .nil) Y Y)<|bE h fun l6 h_l6 h=>Rx Y (Zv (ov Y) (ZG (ov Y) tZ_74) Qd Y Y Y (fun x=>Zb<|E74 x) Y h_l6)<|Ra Y<|Za<|K5 4 8 67 68 69 Y<|Zu<|R2 ZZ Y<|Rm Y<|Za<|⟨_, h, ES [some 0, some 1, some 2] (hhp := .cons Y (ZJ (fk := FK3) (fv := (osF 74 R74)) (m := by_) tZ_165 (fun _=>.dat Y) fun _=>QY D74)<|.cons Y (roM D74)<|.cons Y (roM D3) .nil)⟩
    ·
     replace h := elr h
     exact Zb5 (Ent.focusMk1 (e := 74) (R := R74) (m := by_) (k := x6) (r := 0) Y tZ_165 (ZaA h_z3) D74)<|Rq Y (ZfO (e1 := 74) (R := R74) (m := by_) (k := x6) (ov Y) (ov Y) Qf Qk Y (fun _=>.b Y)<|Zw Za4 Y)<|bE h fun y2 h_y2 h=>Rq Y (Zb7 (Zdz h_y2) (.agg<|faC .int<|faA (faV fun _ => .int)<|faA (faV fun _ => .int)<|faC .bool<|faC .int<|faC .bool faN)<|.cons (ov Y) (View.ownM Y Y D74) .nil)<|R_q (.sl 74<|List.map R74 ([y2] : List api_Rest)) Y (Xv Qd (.cons (cva<|ov Y) Zl (pwD Qz) .nil) Y Y)<|bE h fun l7 h_l7 h=>Rx Y (Zv (ov Y) (ZG (ov Y) tZ_74) Qd Y Y Y (fun x=>Zb<|E74 x) Y h_l7)<|Ra Y<|Zb5 (by exact Ent.absorbMs1 (e := 74) (R := R74) (m := by_) (k := x6) (ys := z3) (fk := FK3) (r := 0) (q := 3) (ZaA h_z3) rfl tZ_165 rfl rfl rfl)<|Za<|K5 4 8 67 68 69 Y<|Zu<|R2 ZZ Y<|Rm Y<|Za<|⟨_, h, ES [some 0, some 1, some 2] (hhp := .cons Y (ZJ (fk := FK3) (fv := (osF 74 R74)) (m := by_) tZ_165 (fun _=>.dat Y) fun _=>QY D74)<|.cons Y (roM D74)<|.cons Y (roM D3) .nil)⟩
   ·
    refine ZL<|?_
    replace h := lx h ▸ ho4
    exact ⟨_, h, ES [some 1]⟩
  ·
   refine Tr<|Rm Y<|Ra Y<|Za<|?_
   obtain rfl := rt h
   exact Zz<|Zmb [some 0] Y (.cons (.tmp Y) .nil) (.cons Y (roM D74) .nil) Y Y<|.own _ Y
end Go.Proofs.YthdiljjohpamnaaGreatDoorRR
