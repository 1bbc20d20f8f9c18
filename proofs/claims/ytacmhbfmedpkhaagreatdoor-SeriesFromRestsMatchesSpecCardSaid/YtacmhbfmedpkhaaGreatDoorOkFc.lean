/- A text of the proof: a verified executor of the program form, or the contracts of the functions that the law reaches. -/
import Derived.Test.YtacmhbfmedpkhaaGreatDoorOkFb
set_option linter.all false
namespace Go.Proofs.YtacmhbfmedpkhaaGreatDoor
open Go Go.Vx
set_option maxRecDepth 10000
set_option maxHeartbeats 1000000
set_option linter.unusedVariables false
theorem Zdd {p : api_Param} {r : layout_number} (h : Q1 p = some r) : Zbe r.encode ∧ Zbh r.decode := by
  have key : Zfo (fun r => Zbe r.encode ∧ Zbh r.decode) (Q1 p) := by
    unfold Q1
    repeat' (first | exact Zdn | with_reducible refine Zfx ?_ ?_ | with_reducible refine Zd1 fun _ _ => ?_ | with_reducible refine Zh7 ?_)
    all_goals first | exact Za7 ⟨((X0 (by assumption)).1), ((X0 (by assumption)).2)⟩ | exact Za7 ⟨((X5 (by assumption)).1), ((X5 (by assumption)).2)⟩ | exact Za7 ⟨((X4 (by assumption)).1), ((X4 (by assumption)).2)⟩ | exact Za7 ⟨((X1 (by assumption)).1), ((X1 (by assumption)).2)⟩ | exact Za7 ⟨((X3 (by assumption)).1), ((X3 (by assumption)).2)⟩ | exact Za7 ⟨((X2 (by assumption)).1), ((X2 (by assumption)).2)⟩
  exact key r h
theorem Zhl {p : api_Param} {raw : Int} {r : Int × Bool} (h : ZaP p raw = some r) :
 CSpec Tryz.prog gl0 95 [.agg [.str p.Name, .int .i64 p.Kind, .sl 121 (List.map Z9 p.Parts), .int .i64 p.First, .int .i64 p.Every, .int .i64 p.Times, .int .i64 p.Step, .sl 9 (List.map R9 p.Names)], .int .i64 raw] (.tuple [.int .i64 r.1, .bool r.2]) := by
 unfold ZaP at h
 replace h := ZE h
 refine So Tryz.func95 Y fun w0 A=>Tr<|Rq Y (Zv (cva<|ov Y) Y tZ_45 Y)<|Ra Y<|Ra Y<|Za<|K2 1 2 Y<|Tr<|Rq Y (Zh (ov Y) Q7 Y Y)<|bE h fun y h_y h=>Rq Y (Zl (ZgL h_y)<|.cons (ov Y) (.aggB Y) .nil)<|Rq Y (Zoh (ov Y) Zpo Y)<|Rm Y<|bE h fun y2 h_y2 h=>Rq Y (JZ (ov Y) (((Zdd h_y).2)).1 ((((Zdd h_y).2)).2 _ _ h_y2)<|.cons (ov Y) (.b Y) .nil)<|Rm Y<|Rq Y (Zr (ov Y) Y)<|Rq Y (Zr (ov Y) Y)<|Ra Y<|Ra Y<|Za<|Zj<|K2 6 7 Y<|Tr<|Rm Y<|R1 Z0 Y<|Za<|K2 6 17 Y<|If h Y (fun h=>?_) fun h=>?_
 ·
  refine K0<|Tr<|Ra Y<|Ra Y<|Za<|?_
  obtain rfl := rt h
  exact Zi (Zq Y (.two (rb Y)<|rb Y))
 ·
  refine Ze<|K1 6 Y<|Tr<|Rm Y<|Ra Y<|Ra Y<|Za<|?_
  obtain rfl := rt h
  exact Zi (Zq Y (.two (rb Y)<|rb Y))
theorem Zha {p : api_Param} {raw : Int} {r : Int × Bool} (h : Zch p raw = some r) :
 CSpec Tryz.prog gl0 66 [.agg [.str p.Name, .int .i64 p.Kind, .sl 121 (List.map Z9 p.Parts), .int .i64 p.First, .int .i64 p.Every, .int .i64 p.Times, .int .i64 p.Step, .sl 9 (List.map R9 p.Names)], .int .i64 raw] (.tuple [.int .i64 r.1, .bool r.2]) := by
 unfold Zch at h
 replace h := ZE h
 refine So Tryz.func66 Y fun w0 A=>Tr<|Rq Y (Zv (cva<|ov Y) Y tZ_45 Y)<|Ra Y<|Ra Y<|Za<|K4 1 2 4 5 Y<|Tr<|Rq Y (Zh (ov Y) Q7 Y Y)<|Rm Y<|bE h fun y h_y h=>Rq Y (Zl (Zhl h_y)<|.cons (ov Y) (.aggB Y)<|.cons (ov Y) (.b Y) .nil)<|Rq Y (Zr (ov Y) Y)<|Rq Y (Zr (ov Y) Y)<|Ra Y<|Ra Y<|Za<|?_
 obtain rfl := rt h
 exact Zi (Zq Y (.two (rb Y)<|rb Y))
theorem Zgz {m : api_Map} {p : api_Param} {c_ : api_Cell} {l : Vector api_Rest 16} {r : Int × Int} (h : J9 m p c_ l = some r) :
 CSpec Tryz.prog gl0 35 [.agg [.int .i64 m.Version, .sl 45 (List.map R45 m.Params)], .agg [.str p.Name, .int .i64 p.Kind, .sl 121 (List.map Z9 p.Parts), .int .i64 p.First, .int .i64 p.Every, .int .i64 p.Times, .int .i64 p.Step, .sl 9 (List.map R9 p.Names)], .agg [.int .i64 c_.Param, .int .i64 c_.Index, .int .i64 c_.Frame, .sl 115 (List.map R115 c_.Places)], .agg (l.toList.flatMap R56)] (.tuple [.int .i64 r.1, .int .i64 r.2]) := by
 unfold J9 at h
 replace h := ZE h
 refine So Tryz.func35 Y fun w0 A=>Tr<|Rq Y (Zv (cva<|ov Y) Y tZ_24 Y)<|Rq Y (Zv (cva<|ov Y) Y tZ_45 Y)<|Rq Y (Zv (cva<|ov Y) Y tZ_85 Y)<|Rq Y (Zv (cva<|ov Y) (Zim (fun x=>(D56 x).1.trans tZ_56) Y) tZ_80<|Zfb fun x => (D56 x).2)<|Ra Y<|Ra Y<|Za<|K4 4 5 6 7 Y<|Tr<|Ra Y<|Ra Y<|Ra Y<|Za<|I3 (fun least raw old=>⟨[(5, .rp [.str p.Name, .int .i64 p.Kind, .sl 121 (List.map Z9 p.Parts), .int .i64 p.First, .int .i64 p.Every, .int .i64 p.Times, .int .i64 p.Step, .sl 9 (List.map R9 p.Names)] 0), (10, .int .i64 least), (11, .int .i64 raw), (12, .bool old)], []⟩) h (fun h=>?_) fun least raw old h=>?_
 ·
  refine Tr<|Rq Y (Zc (ov Y) Zcr)<|Rq Y (Zb (ov Y) Zhy Y)<|Rl tZ_115 ZgN Y<|Rm Y<|Za<|Zf<|?_
  obtain ⟨r1, hl1, ho1⟩ := Z1 h
  refine L4 (fun least2 raw2 old2 i=>⟨[(4, .rp [.int .i64 m.Version, .sl 45 (List.map R45 m.Params)] 0), (5, .rp [.str p.Name, .int .i64 p.Kind, .sl 121 (List.map Z9 p.Parts), .int .i64 p.First, .int .i64 p.Every, .int .i64 p.Times, .int .i64 p.Step, .sl 9 (List.map R9 p.Names)] 0), (7, .rp (l.toList.flatMap R56) 0), (10, .int .i64 least2), (11, .int .i64 raw2), (12, .bool old2), (19, .sl 115 (List.map R115 c_.Places)), (20, .int .i64 (c_.Places.length : Int)), (21, .int .i64 i)], []⟩) hl1 (ES []) fun n1 least2 raw2 old2 i h=>?_
  unfold Qw at h
  refine Tr<|R2 Zw Y<|Za<|Zj<|If h Y (fun h=>?_) fun h=>?_
  ·
   exact Ze<|Zj<|Zf<|K9 4 5 7 10 11 12 19 20 21 Y<|Tr<|bE h fun x h_x h=>Rq Y (Zx (ov Y) (ov Y) ZgN h_x)<|Rq Y (Zh (ov Y) ZfC Y Y)<|Rx Y (Zt (row := [_, _, _, _]) 0 Y Zi5 Y tZ_115)<|Rx Y (Zo (ov Y) (ov Y) (Zk ZfC Y) Y Y Y (Nat.le_of_ble_eq_true Y) (Zd Y) Y)<|Za<|K10 4 5 7 10 11 12 14 19 20 21 Y<|Tr<|Rq Y (Zg (ov Y) Y Y Zhm)<|Rq Y (Zn (ov Y) Y Y Y tS3 Y)<|bE h fun x2 h_x2 h=>Rq Y (QN (ov Y) (ov Y) Zsa h_x2)<|Rq Y (Zh (ov Y) ZiZ (XA<|Xb (o := 0) (o' := (x.Frame.toNat * 132)) (Z2<|Zim (fun x=>(D56 x).1.trans tZ_56) Y)<|Zqq (fun x=>(D56 x).1.trans tZ_56) h_x2) ln0)<|Rx Y (Zt (row := (.int .i64 0) :: ((List.map C51 (Vector.replicate 64 0).toList) ++ (((List.map C3 (Vector.replicate 64 0).toList) ++ ((.bool false) :: (.int .i64 0) :: (.bool false) :: []))))) 1 Y Zsf (by kernel_rfl)<|by exact Eq.symm (Eq.trans (b := 132) ln0 tZ_56.symm))<|Rx Y (Zo (ov Y) (ov Y) (Zk ZiZ ln0) Y Y Y (ZkO (Z2 ln0) ln0) (Zd al1)<|Zkh<|Eq.trans ln0<|Eq.symm ln0)<|Za<|K11 4 5 7 10 11 12 14 15 19 20 21 Y<|Td md0<|D1 0 Zm Y<|Dq 1 Y (Zg (ov Y) Y Y Zf0)<|Dq 2 Y (Zn (ov Y) Y Y Y tS3 Y)<|Dq 3 Y (Zg (ov Y) Y Y ZgK)<|bE h fun x3 h_x3 h=>Dq 4 Y (Zjl (ov Y) (ov Y) Zme Y Y h_x3)<|Dq 5 Y (Zn (ov Y) Y Y Y tS3<|ZG<|Xb (o := 65) (o' := (x.Word.toNat * 1)) at5<|Xs h_x3)<|Dq 6 Y (Zg (ov Y) Y Y ZgK)<|bE h fun x4 h_x4 h=>Dq 7 Y (Zjl (ov Y) (ov Y) Zme Y Y h_x4)<|Dq 8 Y (Zn (ov Y) Y Y Y tS3<|ZG<|Xb (o := 65) (o' := ((Int.toNat 3) * 1)) at5<|Xs h_x4)<|Dq 9 Y (ZrD (ov Y) (ov Y) (ov Y) Y)<|D1 10 Z6 Y<|Dd<|K11 4 5 7 10 11 12 14 15 19 20 21 Y<|Tr<|Rm Y<|Rm Y<|Rq Y (.guarded (old2 == false) Y Y Y Y fun h => Zg (ov Y) Y Y Zd6)<|bE h fun x5 h_x5 h=>Rq Y (.guarded (old2 == false) Y Y Y Y fun h => Zjl (ow Y h) (ov Y) ZbL Y Y<|gdT h_x5 h)<|Rq Y (.guarded (old2 == false) Y Y Y Y fun h => Zn (ow Y h) Y Y Y Zbz<|ZG<|Xb (o := 1) (o' := ((Int.toNat 3) * 1)) at6<|Xs<|gdT h_x5 h)<|Rq Y (.guarded (old2 == false) Y Y Y Y fun h => Zcp (ow Y h)<|ov Y)<|Rq Y (.guarded (old2 == false) Y Y Y Y fun h => J2 (ow Y h) Zhs tI3 Y)<|Rq Y (.guarded (old2 == false) Y Y Y Y fun h => Zc (ov Y) ZkK)<|Rq Y (.guarded (old2 == false) Y Y Y Y fun h => Zb (ow Y h) tS3 Y)<|Rq Y (.guarded (old2 == false) Y Y Y Y fun h => QC (ow Y h)<|ow Y h)<|Rq Y (QB (ov Y) fun hp=>ow Y<|gF hp)<|Ra Y<|Za<|K11 4 5 7 10 11 12 14 15 19 20 21 Y<|ZgH (cw := md0) (by kernel_rfl)<|D1 0 Zm Y<|Dq 1 Y (Zg (ov Y) Y Y Zf3)<|Dq 2 Y (Zn (ov Y) Y Y Y tS3 Y)<|bE h fun q h_q h=>Dq 3 Y (ZaH (ov Y) (ov Y) h_q)<|Dq 4 Y (Zg (ov Y) Y Y Zf0)<|Dq 5 Y (Zn (ov Y) Y Y Y tS3 Y)<|Dq 6 Y (Zg (ov Y) Y Y Zd6)<|bE h fun x6 h_x6 h=>Dq 7 Y (Zjl (ov Y) (ov Y) ZbL Y Y h_x6)<|Dq 8 Y (Zn (ov Y) Y Y Y Zbz<|ZG<|Xb (o := 1) (o' := (x.Word.toNat * 1)) at6<|Xs h_x6)<|Dq 9 Y (J2 (ov Y) Zhs tI3 Y)<|Dq 10 Y (Zg (ov Y) Y Y Zg7)<|Dq 11 Y (Zn (ov Y) Y Y Y tS3 Y)<|bE h fun q2 h_q2 h=>Dq 12 Y (Zft (ov Y) (ov Y) h_q2)<|Dq 13 Y (Zg (ov Y) Y Y Zf3)<|Dq 14 Y (Zn (ov Y) Y Y Y tS3 Y)<|bE h fun q3 h_q3 h=>Dq 15 Y (ZaH (ov Y) (ov Y) h_q3)<|D2 16 ZaF Y<|D2 17 Zcp Y<|D2 18 Zl0 Y<|D1 19 Z6 Y<|Dd<|K9 4 5 7 10 11 12 19 20 21 Y<|Zs<|R2 ZB Y<|Rm Y<|Za<|⟨_, h, ES []⟩
  ·
   refine Zu<|?_
   replace h := lx h ▸ ho1
   exact ⟨_, h, ES []⟩
 ·
  refine Zj<|Tr<|Rm Y<|R2 Z4 Y<|Rm Y<|Rq Y (.guarded ((decide (least = 0)) == false) Y Y Y Y fun h => Zm<|ov Y)<|Rq Y (QB (ov Y) fun hp=>ow Y<|gF hp)<|Za<|K4 5 10 11 74 Y<|If h Y (fun h=>?_) fun h=>?_
  ·
   refine K0<|Tr<|Ra Y<|Ra Y<|Za<|?_
   obtain rfl := rt h
   exact Zi (Zq Y (.two (rb Y)<|rb Y))
  ·
   refine Ze<|K3 5 10 11 Y<|Tr<|Rq Y (Zh (ov Y) Q7 Y Y)<|Rm Y<|bE h fun y h_y h=>Rq Y (Zl (Zha h_y)<|.cons (ov Y) (.aggB Y)<|.cons (ov Y) (.b Y) .nil)<|Rm Y<|Rq Y (Zr (ov Y) Y)<|Rq Y (Zr (ov Y) Y)<|Ra Y<|Ra Y<|Za<|Zj<|K3 10 16 17 Y<|Tr<|Rm Y<|R1 Z0 Y<|Za<|K3 10 16 82 Y<|If h Y (fun h=>?_) fun h=>?_
   ·
    refine K0<|Tr<|Ra Y<|Ra Y<|Za<|?_
    obtain rfl := rt h
    exact Zi (Zq Y (.two (rb Y)<|rb Y))
   ·
    refine Ze<|K2 10 16 Y<|Td md0<|Zfy 0 _ Y (by kernel_rfl) Y Y (fun hp'=>Zm<|ov Y)<|Zfy 6 _ Y (by kernel_rfl) Y Y (fun hp'=>Zm<|ov Y)<|Zfy 8 _ Y (by kernel_rfl) Y Y (fun hp'=>Z6<|ov Y)<|Zlu 1 _ _ Y (by kernel_rfl) Y Y (fun _=>Ext.app) (fun h=>by cases h) (ZcC 0 Y Xl)<|Zmf [2, 3, 4] (by kernel_rfl)<|.w Y Y Y (fun h=>by cases h) (fun h=>by cases h) (QJ (m := ([] : List (Int × Int))) (fk := FK3) (fv := FV3) (k := 3) (v := 4) (m' := ([(3, 4)] : List (Int × Int))) (ov Y) (ov Y) (ov Y) Xl ZaD Y (fun _=>.b Y) Y) ?_<|.w Y Y Y (fun h=>by cases h) (fun h=>by cases h) (QJ (m := ([] : List (Int × Int))) (fk := FK3) (fv := FV3) (k := 2) (v := 3) (m' := ([(2, 3)] : List (Int × Int))) (ov Y) (ov Y) (ov Y) Xl ZaD Y (fun _=>.b Y) Y) ?_<|.w Y Y Y (fun h=>by cases h) (fun h=>by cases h) (QJ (m := ([] : List (Int × Int))) (fk := FK3) (fv := FV3) (k := 1) (v := 2) (m' := ([(1, 2)] : List (Int × Int))) (ov Y) (ov Y) (ov Y) Xl ZaD Y (fun _=>.b Y) Y) ?_ .nil
    ·
     refine ZmO 3 4 Y Y (by kernel_rfl) Y Y Y Y (fun h=>by cases h) (fun h=>by cases h) (fun h=>by cases h) (fun h=>by cases h) (QJ (m := ([(3, 4)] : List (Int × Int))) (fk := FK3) (fv := FV3) (k := 2) (v := 3) (m' := ([(3, 4), (2, 3)] : List (Int × Int))) (ov Y) (ov Y) (ov Y) Xl ZaD Y (fun _=>.b Y) Y) (QJ (m := ([(3, 4)] : List (Int × Int))) (fk := FK3) (fv := FV3) (k := 1) (v := 2) (m' := ([(3, 4), (1, 2)] : List (Int × Int))) (ov Y) (ov Y) (ov Y) Xl ZaD Y (fun _=>.b Y) Y) ?_ ?_
     ·
      refine Do 4 Y (QJ (m := ([(3, 4), (2, 3)] : List (Int × Int))) (fk := FK3) (fv := FV3) (k := 1) (v := 2) (m' := ([(3, 4), (2, 3), (1, 2)] : List (Int × Int))) (ov Y) (ov Y) (ov Y) Xl ZaD Y (fun _=>.b Y) Y)<|D1 5 Zm Y<|bE h fun o h_o h=>Dq 7 Y (ZdR (m := ([(3, 4), (2, 3), (1, 2)] : List (Int × Int))) (fk := FK3) (fv := FV3) (k := least) (z0 := 0) (ov Y) (ov Y) Xl ZaD Y (fun _=>.b Y) (QZ Zkt Y) (fun _ _=>Y)<|mgP (by decide) (by decide) h_o)<|D1 9 Z6 Y<|Dd<|?_
      obtain rfl := rt h
      exact Zi (Zq Y (.two (rb Y)<|rb Y))
     ·
      refine Do 3 Y (QJ (m := ([(3, 4), (1, 2)] : List (Int × Int))) (fk := FK3) (fv := FV3) (k := 2) (v := 3) (m' := ([(3, 4), (1, 2), (2, 3)] : List (Int × Int))) (ov Y) (ov Y) (ov Y) Xl ZaD Y (fun _=>.b Y) Y)<|D1 5 Zm Y<|bE h fun o h_o h=>Dq 7 Y (ZdR (m := ([(3, 4), (1, 2), (2, 3)] : List (Int × Int))) (fk := FK3) (fv := FV3) (k := least) (z0 := 0) (ov Y) (ov Y) Xl ZaD Y (fun _=>.b Y) (QZ Zkt Y) (fun _ _=>Y)<|mgP (by decide) (by decide) h_o)<|D1 9 Z6 Y<|Dd<|?_
      obtain rfl := rt h
      exact Zi (Zq Y (.two (rb Y)<|rb Y))
    ·
     refine ZmO 2 4 Y Y (by kernel_rfl) Y Y Y Y (fun h=>by cases h) (fun h=>by cases h) (fun h=>by cases h) (fun h=>by cases h) (QJ (m := ([(2, 3)] : List (Int × Int))) (fk := FK3) (fv := FV3) (k := 3) (v := 4) (m' := ([(2, 3), (3, 4)] : List (Int × Int))) (ov Y) (ov Y) (ov Y) Xl ZaD Y (fun _=>.b Y) Y) (QJ (m := ([(2, 3)] : List (Int × Int))) (fk := FK3) (fv := FV3) (k := 1) (v := 2) (m' := ([(2, 3), (1, 2)] : List (Int × Int))) (ov Y) (ov Y) (ov Y) Xl ZaD Y (fun _=>.b Y) Y) ?_ ?_
     ·
      refine Do 4 Y (QJ (m := ([(2, 3), (3, 4)] : List (Int × Int))) (fk := FK3) (fv := FV3) (k := 1) (v := 2) (m' := ([(2, 3), (3, 4), (1, 2)] : List (Int × Int))) (ov Y) (ov Y) (ov Y) Xl ZaD Y (fun _=>.b Y) Y)<|D1 5 Zm Y<|bE h fun o h_o h=>Dq 7 Y (ZdR (m := ([(2, 3), (3, 4), (1, 2)] : List (Int × Int))) (fk := FK3) (fv := FV3) (k := least) (z0 := 0) (ov Y) (ov Y) Xl ZaD Y (fun _=>.b Y) (QZ Zkt Y) (fun _ _=>Y)<|mgP (by decide) (by decide) h_o)<|D1 9 Z6 Y<|Dd<|?_
      obtain rfl := rt h
      exact Zi (Zq Y (.two (rb Y)<|rb Y))
     ·
      refine Do 2 Y (QJ (m := ([(2, 3), (1, 2)] : List (Int × Int))) (fk := FK3) (fv := FV3) (k := 3) (v := 4) (m' := ([(2, 3), (1, 2), (3, 4)] : List (Int × Int))) (ov Y) (ov Y) (ov Y) Xl ZaD Y (fun _=>.b Y) Y)<|D1 5 Zm Y<|bE h fun o h_o h=>Dq 7 Y (ZdR (m := ([(2, 3), (1, 2), (3, 4)] : List (Int × Int))) (fk := FK3) (fv := FV3) (k := least) (z0 := 0) (ov Y) (ov Y) Xl ZaD Y (fun _=>.b Y) (QZ Zkt Y) (fun _ _=>Y)<|mgP (by decide) (by decide) h_o)<|D1 9 Z6 Y<|Dd<|?_
      obtain rfl := rt h
      exact Zi (Zq Y (.two (rb Y)<|rb Y))
    ·
     refine ZmO 2 3 Y Y (by kernel_rfl) Y Y Y Y (fun h=>by cases h) (fun h=>by cases h) (fun h=>by cases h) (fun h=>by cases h) (QJ (m := ([(1, 2)] : List (Int × Int))) (fk := FK3) (fv := FV3) (k := 3) (v := 4) (m' := ([(1, 2), (3, 4)] : List (Int × Int))) (ov Y) (ov Y) (ov Y) Xl ZaD Y (fun _=>.b Y) Y) (QJ (m := ([(1, 2)] : List (Int × Int))) (fk := FK3) (fv := FV3) (k := 2) (v := 3) (m' := ([(1, 2), (2, 3)] : List (Int × Int))) (ov Y) (ov Y) (ov Y) Xl ZaD Y (fun _=>.b Y) Y) ?_ ?_
     ·
      refine Do 3 Y (QJ (m := ([(1, 2), (3, 4)] : List (Int × Int))) (fk := FK3) (fv := FV3) (k := 2) (v := 3) (m' := ([(1, 2), (3, 4), (2, 3)] : List (Int × Int))) (ov Y) (ov Y) (ov Y) Xl ZaD Y (fun _=>.b Y) Y)<|D1 5 Zm Y<|bE h fun o h_o h=>Dq 7 Y (ZdR (m := ([(1, 2), (3, 4), (2, 3)] : List (Int × Int))) (fk := FK3) (fv := FV3) (k := least) (z0 := 0) (ov Y) (ov Y) Xl ZaD Y (fun _=>.b Y) (QZ Zkt Y) (fun _ _=>Y)<|mgP (by decide) (by decide) h_o)<|D1 9 Z6 Y<|Dd<|?_
      obtain rfl := rt h
      exact Zi (Zq Y (.two (rb Y)<|rb Y))
     ·
      refine Do 2 Y (QJ (m := ([(1, 2), (2, 3)] : List (Int × Int))) (fk := FK3) (fv := FV3) (k := 3) (v := 4) (m' := ([(1, 2), (2, 3), (3, 4)] : List (Int × Int))) (ov Y) (ov Y) (ov Y) Xl ZaD Y (fun _=>.b Y) Y)<|D1 5 Zm Y<|bE h fun o h_o h=>Dq 7 Y (ZdR (m := ([(1, 2), (2, 3), (3, 4)] : List (Int × Int))) (fk := FK3) (fv := FV3) (k := least) (z0 := 0) (ov Y) (ov Y) Xl ZaD Y (fun _=>.b Y) (QZ Zkt Y) (fun _ _=>Y)<|mgP (by decide) (by decide) h_o)<|D1 9 Z6 Y<|Dd<|?_
      obtain rfl := rt h
      exact Zi (Zq Y (.two (rb Y)<|rb Y))
theorem ZeZ {m : api_Map} {p : api_Param} {cells : List api_Cell} {l : List api_Rest} {first : Int} {last : Int} {r : (List api_Sample)} (h : JG m p cells l first last = some r) :
 GSpec Tryz.prog gl0 15 [.agg [.int .i64 m.Version, .sl 45 (List.map R45 m.Params)], .agg [.str p.Name, .int .i64 p.Kind, .sl 121 (List.map Z9 p.Parts), .int .i64 p.First, .int .i64 p.Every, .int .i64 p.Times, .int .i64 p.Step, .sl 9 (List.map R9 p.Names)], .sl 85 (List.map R85 cells), .sl 56 (List.map R56 l), .int .i64 first, .int .i64 last] [] (.own 0 r.length) [some ⟨59, List.map R59 r⟩] := by
 unfold JG at h
 replace h := ZE h
 refine Jp (by kernel_rfl) Tryz.func15 Y Y<|?_
 intro w0 A W φ0
 refine Tr<|Rq Y (Zv (cva<|ov Y) Y tZ_24 Y)<|Rq Y (Zv (cva<|ov Y) Y tZ_45 Y)<|Ra Y<|Za<|K6 2 3 4 5 6 7 Y<|Tr<|Ra Y<|Za<|I1 (fun out=>⟨[(13, .own 0 out.length)], [some ⟨59, List.map R59 out⟩]⟩) h (fun h=>?_) fun out h=>?_
 ·
  refine Tr<|Rm Y<|Ra Y<|Za<|Zf<|?_
  obtain ⟨r1, hl1, ho1⟩ := Z1 h
  refine L3 (fun l2 out2 s=>⟨[(2, .sl 85 (List.map R85 cells)), (3, .sl 56 (List.map R56 l2)), (5, .int .i64 last), (6, .rp [.int .i64 m.Version, .sl 45 (List.map R45 m.Params)] 0), (7, .rp [.str p.Name, .int .i64 p.Kind, .sl 121 (List.map Z9 p.Parts), .int .i64 p.First, .int .i64 p.Every, .int .i64 p.Times, .int .i64 p.Step, .sl 9 (List.map R9 p.Names)] 0), (13, .own 0 out2.length), (14, .int .i64 s)], [some ⟨59, List.map R59 out2⟩]⟩) hl1 (ES [none]) fun n1 l2 out2 s h=>?_
  unfold QF at h
  refine Zj<|Tr<|Rm Y<|Rm Y<|R2 ZaZ Y<|Za<|K8 2 3 5 6 7 13 14 24 Y<|If h Y (fun h=>?_) fun h=>?_
  ·
   refine Ze<|I2 (fun l3 out3=>⟨[(2, .sl 85 (List.map R85 cells)), (3, .sl 56 (List.map R56 l3)), (5, .int .i64 last), (6, .rp [.int .i64 m.Version, .sl 45 (List.map R45 m.Params)] 0), (7, .rp [.str p.Name, .int .i64 p.Kind, .sl 121 (List.map Z9 p.Parts), .int .i64 p.First, .int .i64 p.Every, .int .i64 p.Times, .int .i64 p.Step, .sl 9 (List.map R9 p.Names)] 0), (13, .own 0 out3.length), (14, .int .i64 s)], [some ⟨59, List.map R59 out3⟩]⟩) h (fun h=>?_) fun l3 out3 h=>?_
   ·
    refine Zf<|K7 2 3 5 6 7 13 14 Y<|Tr<|Rx Y (Zt (row := ((Vector.replicate 16 (api_Rest.mk 0 (Vector.replicate 64 0) (Vector.replicate 64 0) false 0 false)).toList.flatMap R56)) 1 Y Zss (by kernel_rfl)<|by exact Eq.symm (Eq.trans (b := 2112) (Zim (fun x => (D56 x).1.trans tZ_56) rfl) tZ_80.symm))<|Za<|I2 (fun l4 rests=>⟨[(2, .sl 85 (List.map R85 cells)), (3, .sl 56 (List.map R56 l4)), (5, .int .i64 last), (6, .rp [.int .i64 m.Version, .sl 45 (List.map R45 m.Params)] 0), (7, .rp [.str p.Name, .int .i64 p.Kind, .sl 121 (List.map Z9 p.Parts), .int .i64 p.First, .int .i64 p.Every, .int .i64 p.Times, .int .i64 p.Step, .sl 9 (List.map R9 p.Names)] 0), (13, .own 0 out2.length), (14, .int .i64 s), (15, .ptr 1 1 0 0)], [some ⟨59, List.map R59 out2⟩, some ⟨80, [(rests.toList.flatMap R56)]⟩]⟩) h (fun h=>?_) fun l4 rests h=>?_
    ·
     refine Zf<|?_
     obtain ⟨r2, hl2, ho2⟩ := Z1 h
     refine L2 (fun l5 rests2=>⟨[(2, .sl 85 (List.map R85 cells)), (3, .sl 56 (List.map R56 l5)), (5, .int .i64 last), (6, .rp [.int .i64 m.Version, .sl 45 (List.map R45 m.Params)] 0), (7, .rp [.str p.Name, .int .i64 p.Kind, .sl 121 (List.map Z9 p.Parts), .int .i64 p.First, .int .i64 p.Every, .int .i64 p.Times, .int .i64 p.Step, .sl 9 (List.map R9 p.Names)] 0), (13, .own 0 out2.length), (14, .int .i64 s), (15, .ptr 1 1 0 0)], [some ⟨59, List.map R59 out2⟩, some ⟨80, [(rests2.toList.flatMap R56)]⟩]⟩) hl2 (ES [some 0, some 1] (hhp := .cons Y (roM D59)<|.cons Y (ro1 (by exact Eq.trans (b := 2112) (Zim (fun x => (D56 x).1.trans tZ_56) rfl) tZ_80.symm)<|rld<|Zfb fun x => (D56 x).2) .nil)) fun n2 l5 rests2 h=>?_
     unfold Qa at h
     refine Zj<|Tr<|Rm Y<|Rl tZ_56 ZaE Y<|R2 Qj Y<|Rm Y<|Rq Y (.guarded ((decide (0 < (l5.length : Int))) == true) Y Y Y Y fun h => Zm<|ov Y)<|bE h fun x h_x h=>Rq Y (.guarded ((decide (0 < (l5.length : Int))) == true) Y Y Y Y fun h => Zx (ow Y h) (ov Y) ZaE<|gdT h_x h)<|Rq Y (.guarded ((decide (0 < (l5.length : Int))) == true) Y Y Y Y fun h => Zc (ow Y h) JW)<|Rq Y (.guarded ((decide (0 < (l5.length : Int))) == true) Y Y Y Y fun h => Zb (ow Y h) tS3<|ZG at4)<|bE h fun q h_q h=>Rq Y (.guarded ((decide (0 < (l5.length : Int))) == true) Y Y Y Y fun h => Zcz (ow Y h) (ov Y)<|gdT h_q h)<|Rq Y (.guarded ((decide (0 < (l5.length : Int))) == true) Y Y Y Y fun h => Zm<|ov Y)<|Rq Y (.guarded ((decide (0 < (l5.length : Int))) == true) Y Y Y Y fun h => ZaZ (ow Y h)<|ow Y h)<|Rq Y (Ql (ov Y) fun hp=>ow Y<|gT hp)<|Za<|K9 2 3 5 6 7 13 14 15 38 Y<|If h Y (fun h=>?_) fun h=>?_
     ·
      refine Ze<|Zf<|Zj<|K8 2 3 5 6 7 13 14 15 Y<|Tr<|Rm Y<|bE h fun x2 h_x2 h=>Rq Y (Zx (ov Y) (ov Y) ZaE h_x2)<|Rq Y (Zc (ov Y) JW)<|Rq Y (Zb (ov Y) tS3<|ZG at4)<|bE h fun q2 h_q2 h=>Rq Y (Zcz (ov Y) (ov Y) h_q2)<|Rm Y<|R2 Z4 Y<|Za<|K9 2 3 5 6 7 13 14 15 45 Y<|If h Y (fun h=>?_) fun h=>?_
      ·
       exact K8 2 3 5 6 7 13 14 15 Y<|ZgH (cw := md0) (by kernel_rfl)<|D1 0 Zm Y<|bE h fun x3 h_x3 h=>Dq 1 Y (Zx (ov Y) (ov Y) ZaE h_x3)<|Dq 2 Y (Zc (ov Y) JW)<|Dq 3 Y (Zb (ov Y) tS3<|ZG at4)<|bE h fun q3 h_q3 h=>Dq 4 Y (ZaL (ov Y) (ov Y) h_q3)<|D1 5 Zm Y<|bE h fun x4 h_x4 h=>Dq 6 Y (Zx (ov Y) (ov Y) ZaE h_x4)<|Dq 7 Y (Zh (ov Y) ZiZ (XA<|Z2 ln0) ln0)<|bE h fun x5 h_x5 h=>Dq 8 Y (Zjl (ov Y) (ov Y) Zsa Y Y h_x5)<|Do 9 Y (Zo (ov Y) (ov Y) (Zk ZiZ ln0) Y Y Y (ZkO (Xb (o := 0) (o' := (q3.toNat * 132)) (Z2<|Zim (fun x=>(D56 x).1.trans tZ_56) Y)<|Zqq (fun x=>(D56 x).1.trans tZ_56) h_x5) ln0) (Zd al1)<|Zra<|Zq0 (fun x=>(D56 x).1.trans tZ_56) h_x5 (x := x4))<|Dd<|K8 2 3 5 6 7 13 14 15 Y<|Zs<|Rm Y<|bE h fun l6 h_l6 h=>Rq Y (ZbC (ov Y) ZaE (oi<|ov Y) on h_l6)<|Ra Y<|Za<|⟨_, h, ES [some 0, some 1] (hhp := .cons Y (roM D59)<|.cons Y (ro1 (by exact Eq.trans (b := 2112) (Zim (fun x => (D56 x).1.trans tZ_56) rfl) tZ_80.symm)<|rld<|Zfb fun x => (D56 x).2) .nil)⟩
      ·
       exact Ze<|K8 2 3 5 6 7 13 14 15 Y<|Zs<|Rm Y<|bE h fun l7 h_l7 h=>Rq Y (ZbC (ov Y) ZaE (oi<|ov Y) on h_l7)<|Ra Y<|Za<|⟨_, h, ES [some 0, some 1] (hhp := .cons Y (roM D59)<|.cons Y (ro1 (by exact Eq.trans (b := 2112) (Zim (fun x => (D56 x).1.trans tZ_56) rfl) tZ_80.symm)<|rld<|Zfb fun x => (D56 x).2) .nil)⟩
     ·
      refine Zu<|?_
      replace h := lx h ▸ ho2
      exact ⟨_, h, ES [some 0, some 1] (hhp := .cons Y (roM D59)<|.cons Y (ro1 (by exact Eq.trans (b := 2112) (Zim (fun x => (D56 x).1.trans tZ_56) rfl) tZ_80.symm)<|rld<|Zfb fun x => (D56 x).2) .nil)⟩
    ·
     refine Tr<|Rq Y (Zh (ov Y) Q7 Y Y)<|Rm Y<|Rm Y<|R2 Zck Y<|bE h fun y h_y h=>Rq Y (Zl (Ze7 h_y)<|.cons (ov Y) (.aggB Y)<|.cons (ov Y) (.b Y)<|.cons (ov Y) (.b Y) .nil)<|Ra Y<|Za<|K9 2 3 5 6 7 13 14 15 16 Y<|Tr<|Rm Y<|Rl tZ_85 Zbq Y<|Rm Y<|Za<|Zf<|?_
     obtain ⟨r3, hl3, ho3⟩ := Z1 h
     refine L2 (fun out4 i=>⟨[(2, .sl 85 (List.map R85 cells)), (3, .sl 56 (List.map R56 l4)), (5, .int .i64 last), (6, .rp [.int .i64 m.Version, .sl 45 (List.map R45 m.Params)] 0), (7, .rp [.str p.Name, .int .i64 p.Kind, .sl 121 (List.map Z9 p.Parts), .int .i64 p.First, .int .i64 p.Every, .int .i64 p.Times, .int .i64 p.Step, .sl 9 (List.map R9 p.Names)] 0), (13, .own 0 out4.length), (14, .int .i64 s), (15, .ptr 1 1 0 0), (16, .sl 3 (List.map R3 y)), (62, .sl 85 (List.map R85 cells)), (63, .int .i64 (cells.length : Int)), (64, .int .i64 i)], [some ⟨59, List.map R59 out4⟩, some ⟨80, [(rests.toList.flatMap R56)]⟩]⟩) hl3 (ES [some 0, some 1] (hhp := .cons Y (roM D59)<|.cons Y (ro1 (by exact Eq.trans (b := 2112) (Zim (fun x => (D56 x).1.trans tZ_56) rfl) tZ_80.symm)<|rld<|Zfb fun x => (D56 x).2) .nil)) fun n3 out4 i h=>?_
     unfold Q0 at h
     refine Tr<|R2 Zw Y<|Za<|Zj<|If h Y (fun h=>?_) fun h=>?_
     ·
      exact Ze<|Zj<|Zf<|K12 2 3 5 6 7 13 14 15 16 62 63 64 Y<|Tr<|Rm Y<|bE h fun x6 h_x6 h=>Rq Y (Zx (ov Y) (ov Y) Zbq h_x6)<|Rq Y (Zh (ov Y) Ze6 Y Y)<|Rx Y (Zt (row := [_, _, _, _]) 2 Y ZkN Y tZ_85)<|Ra Y<|Rx Y (Zo (ov Y) (ov Y) (Zk Ze6 Y) Y Y Y (Nat.le_of_ble_eq_true Y) (Zd Y) Y)<|Za<|JT (kc 2 Y<|kc 3 Y<|kc 5 Y<|kc 6 Y<|kc 7 Y<|kc 13 Y<|kc 14 Y<|kc 15 Y<|kc 16 Y<|kc 17 Y<|kc 18 Y<|kc 62 Y<|kc 63 Y<|kc 64 Y kn) Y<|Tr<|Rq Y (Zh (ov Y) Zf6 Y Y)<|Rq Y (Zh (ov Y) Q7 Y Y)<|Rq Y (ZL (ov Y) Y Y Y Ze6 Y Y)<|Rq Y (ZL (ov Y) Y Y Y Zsx (XA<|Z2<|Zim (fun x=>(D56 x).1.trans tZ_56) Y) (Zim (fun x=>(D56 x).1.trans tZ_56) Y) (hns := (Zm8 (Zfb fun x => (D56 x).2))))<|bE h fun y2 h_y2 h=>Rq Y (Zl (Zgz h_y2)<|.cons (ov Y) (.aggB Y)<|.cons (ov Y) (.aggB Y)<|.cons (ov Y) (.aggB Y)<|.cons (ov Y) (.aggB<|Zfb fun x => (D56 x).2) .nil)<|Rm Y<|Rq Y (Zr (ov Y) Y)<|Rq Y (Zr (ov Y) Y)<|Ra Y<|Ra Y<|Za<|JT (kc 2 Y<|kc 3 Y<|kc 5 Y<|kc 6 Y<|kc 7 Y<|kc 13 Y<|kc 14 Y<|kc 15 Y<|kc 16 Y<|kc 17 Y<|kc 19 Y<|kc 20 Y<|kc 62 Y<|kc 63 Y<|kc 64 Y kn) Y<|Zs<|Rm Y<|Rm Y<|Rm Y<|bE h fun x7 h_x7 h=>Rq Y (Zx (ov Y) (ov Y) Zea h_x7)<|Rq Y (Zb (ov Y) tS3 Y)<|Rm Y<|Rm Y<|Rq Y (ZA (ys := [_, _, _]) Zcl Zcn Zbi (.cons (cvs (ov Y)<|Zp Y)<|.cons (cvs (ov Y)<|Zp Y)<|.cons (cvs (ov Y)<|Zp Y) .nil) Y)<|R_q (.sl 59<|List.map R59 ([(api_Sample.mk x7 y2.1 y2.2)] : List api_Sample)) Y (JO QV (.cons (cva<|ov Y) Y (pwD Y) .nil) Y Y)<|bE h fun l8 h_l8 h=>Rx Y (Qf (ov Y) (Qp (ov Y) tZ_59) QV Y Y Y (fun _=>Zd Y) Y h_l8)<|Ra Y<|Za<|K12 2 3 5 6 7 13 14 15 16 62 63 64 Y<|Zs<|R2 ZB Y<|Rm Y<|Za<|⟨_, h, ES [some 0, some 1] (hhp := .cons Y (roM D59)<|.cons Y (ro1 (by exact Eq.trans (b := 2112) (Zim (fun x => (D56 x).1.trans tZ_56) rfl) tZ_80.symm)<|rld<|Zfb fun x => (D56 x).2) .nil)⟩
     ·
      refine Zu<|?_
      replace h := lx h ▸ ho3
      exact ⟨_, h, ES [some 0]⟩
   ·
    exact Zs<|Rm Y<|R2 ZB Y<|Ra Y<|Za<|⟨_, h, ES [some 0]⟩
  ·
   refine Zu<|?_
   replace h := lx h ▸ ho1
   exact ⟨_, h, ES [some 0]⟩
 ·
  refine Tr<|Rm Y<|Ra Y<|Za<|?_
  obtain rfl := rt h
  exact Zi<|Zig [some 0] Y (.cons (.tmp Y) .nil) (.cons Y (roM D59) .nil) Y Y<|.own _ Y
theorem Zgd {m : api_Map} {name : Str} {l : List api_Rest} {r : api_Series × Int} (h : JK m name l = some r) :
 CSpec Tryz.prog gl0 4 [.agg [.int .i64 m.Version, .sl 45 (List.map R45 m.Params)], .str name, .sl 56 (List.map R56 l)] (.tuple [.agg [.int .i64 r.1.Den, .sl 59 (List.map R59 r.1.Samples)], .int .i64 r.2]) := by
 unfold JK at h
 replace h := ZE h
 refine So Tryz.func4 Y fun w0 A=>Tr<|Rq Y (Zv (cva<|ov Y) Y tZ_24 Y)<|Rq Y (Zv (cvs (ov Y)<|Zp Y) Y tZ_9 Y)<|Rx Y (Zt (row := [_, _]) 0 Y X7 Y tZ_31)<|Ra Y<|Za<|Zj<|K4 2 3 4 6 Y<|Tr<|Rq Y (Zh (ov Y) Zf6 Y Y)<|bE h fun y h_y h=>Rq Y (Zl (Zia h_y)<|.cons (ov Y) (.aggB Y) .nil)<|Rm Y<|Rq Y (Zr (ov Y) Y)<|Rq Y (Zr (ov Y) Y)<|Ra Y<|Ra Y<|Za<|K5 2 3 4 6 9 Y<|Tr<|Rm Y<|R2 QC Y<|Za<|K6 2 3 4 6 9 24 Y<|If h Y (fun h=>?_) fun h=>?_
 ·
  refine K2 6 9 Y<|Tr<|Rq Y (ZA (ys := [_, _]) Jz JB X7 .nil Y)<|Rm Y<|Rx Y (Zo (ov Y) (ov Y) (Zk ZY Y) Y Y Y (Nat.le_of_ble_eq_true Y) (Zd Y) Y)<|Ra Y<|Za<|?_
  obtain rfl := rt h
  exact Zi (Zq Y (.two (.agg Y Y Y Y ZY Y Y<|.cons (Dat.view<|.b Y)<|.cons (View.nils 59) .nil)<|rb Y))
 ·
  refine Ze<|K4 2 3 4 6 Y<|Tr<|Rq Y (Zc (ov Y) ZaA)<|Rq Y (Zb (ov Y) Ze4 Y)<|Rq Y (Qz<|.cons (ov Y) .nil)<|bE h fun y2 h_y2 h=>Rq Y (Zl (Xc Y (fun z0 _ hz=>Ze1 hz) h_y2)<|.cons (ov Y) (.b Y)<|.cons (ov Y) (.fnC<|.cons (.b Y) .nil) .nil)<|Ra Y<|Za<|Zj<|K4 2 3 6 10 Y<|Tr<|Rm Y<|R2 Zw Y<|Za<|K5 2 3 6 10 32 Y<|If h Y (fun h=>?_) fun h=>?_
  ·
   refine K1 6 Y<|Tr<|Rq Y (ZA (ys := [_, _]) Jz JB X7 .nil Y)<|Rx Y (Zo (ov Y) (ov Y) (Zk ZY Y) Y Y Y (Nat.le_of_ble_eq_true Y) (Zd Y) Y)<|Ra Y<|Za<|?_
   obtain rfl := rt h
   exact Zi (Zq Y (.two (.agg Y Y Y Y ZY Y Y<|.cons (Dat.view<|.b Y)<|.cons (View.nils 59) .nil)<|rb Y))
  ·
   refine Ze<|Zj<|K4 2 3 6 10 Y<|Tr<|Rm Y<|bE h fun y3 h_y3 h=>Rq Y (Zl (Zfu h_y3)<|.cons (ov Y) (.b Y) .nil)<|Ra Y<|Za<|K5 2 3 6 10 11 Y<|Tr<|Rm Y<|R2 QC Y<|Za<|K6 2 3 6 10 11 37 Y<|If h Y (fun h=>?_) fun h=>?_
   ·
    refine K2 6 11 Y<|Tr<|Rq Y (ZA (ys := [_, _]) Jz JB X7 .nil Y)<|Rm Y<|Rx Y (Zo (ov Y) (ov Y) (Zk ZY Y) Y Y Y (Nat.le_of_ble_eq_true Y) (Zd Y) Y)<|Ra Y<|Za<|?_
    obtain rfl := rt h
    exact Zi (Zq Y (.two (.agg Y Y Y Y ZY Y Y<|.cons (Dat.view<|.b Y)<|.cons (View.nils 59) .nil)<|rb Y))
   ·
    refine Ze<|K4 2 3 6 10 Y<|Tr<|Rq Y (ZA (ys := [_, _]) Jz JB X7 (.cons (cvs (ov Y)<|Zp Y) .nil) Y)<|Rx Y (Zt (row := [_, _]) 1 Y X7 Y tZ_31)<|Rx Y (Zo (ov Y) (ov Y) (Zk ZY Y) Y Y Y (Nat.le_of_ble_eq_true Y) (Zd Y) Y)<|Za<|Zj<|K5 2 3 6 10 12 Y<|Tr<|Rm Y<|Rl tZ_56 ZaE Y<|R2 Z4 Y<|Za<|K6 2 3 6 10 12 43 Y<|If h Y (fun h=>?_) fun h=>?_
    ·
     refine K2 6 12 Y<|Tr<|Rq Y (ZL (ov Y) Y Y Y ZY Y Y)<|Rx Y (Zo (ov Y) (ov Y) (Zk ZY Y) Y Y Y (Nat.le_of_ble_eq_true Y) (Zd Y) Y)<|Ra Y<|Za<|?_
     obtain rfl := rt h
     exact Zi (Zq Y (.two (.agg Y Y Y Y ZY Y Y<|.cons (Dat.view<|.b Y)<|.cons (View.nils 59) .nil)<|rb Y))
    ·
     refine Ze<|K5 2 3 6 10 12 Y<|Tr<|Rq Y (Zc (ov Y) ZaA)<|Rq Y (Zb (ov Y) Ze4 Y)<|Rm Y<|bE h fun x h_x h=>Rq Y (Zx (ov Y) (ov Y) ZbX h_x)<|Rq Y (Zh (ov Y) Q7 Y Y)<|Rx Y (Zt (row := [_, _, _, _, _, _, _, _]) 2 Y Zju Y tZ_45)<|Rx Y (Zo (ov Y) (ov Y) (Zk Q7 Y) Y Y Y (Nat.le_of_ble_eq_true Y) (Zd Y) Y)<|Za<|K5 2 3 6 12 13 Y<|Tr<|Rq Y (ZL (ov Y) Y Y Y Q7 Y Y)<|R_q (.sl 45<|List.map R45 ([x] : List api_Param)) Y (JO ZbX (.cons (cva<|ov Y) Y (pwD Y) .nil) Y Y)<|Rq Y (ZA (ys := [_, _]) Zsh Zsj Zsp (.cons (cvs (ov Y)<|Zp Y) .nil) Y)<|bE h fun y4 h_y4 h=>Rq Y (Zl (Zh9 h_y4)<|.cons (ov Y) (.aggB Y) .nil)<|Rm Y<|Rq Y (Zr (ov Y) Y)<|Rq Y (Zr (ov Y) Y)<|Ra Y<|Ra Y<|Za<|K6 2 3 6 12 13 14 Y<|Td md0<|D1 0 Zm Y<|bE h fun x2 h_x2 h=>Dq 1 Y (Zx (ov Y) (ov Y) ZaE h_x2)<|Dq 2 Y (Zc (ov Y) JW)<|Dq 3 Y (Zb (ov Y) tS3<|ZG at4)<|bE h fun q h_q h=>Dq 4 Y (Zcz (ov Y) (ov Y) h_q)<|D1 5 Zm Y<|D1 6 Zm Y<|Dq 7 Y (Zhg (Qp (ov Y) tZ_56) ZaE<|Zdp _ _)<|D2 8 ZaF Y<|bE h fun x3 h_x3 h=>Dq 9 Y (Zx (ov Y) (ov Y) ZaE h_x3)<|Dq 10 Y (Zc (ov Y) JW)<|Dq 11 Y (Zb (ov Y) tS3<|ZG at4)<|bE h fun q2 h_q2 h=>Dq 12 Y (Zcz (ov Y) (ov Y) h_q2)<|D1 13 Z6 Y<|D1 14 Z6 Y<|Dd<|Zj<|K8 2 3 6 12 13 14 16 17 Y<|Tr<|Rm Y<|Rm Y<|R2 ZaF Y<|R2 ZB Y<|Rm Y<|Rl tZ_85 Zbq Y<|R2 Zck Y<|R2 ZB Y<|R2 Qj Y<|Za<|K9 2 3 6 12 13 14 16 17 78 Y<|If h Y (fun h=>?_) fun h=>?_
     ·
      refine K1 6 Y<|Tr<|Rq Y (ZA (ys := [_, _]) Jz JB X7 .nil Y)<|Rx Y (Zo (ov Y) (ov Y) (Zk ZY Y) Y Y Y (Nat.le_of_ble_eq_true Y) (Zd Y) Y)<|Ra Y<|Za<|?_
      obtain rfl := rt h
      exact Zi (Zq Y (.two (.agg Y Y Y Y ZY Y Y<|.cons (Dat.view<|.b Y)<|.cons (View.nils 59) .nil)<|rb Y))
     ·
      refine Ze<|K8 2 3 6 12 13 14 16 17 Y<|Tr<|Rq Y (Zh (ov Y) Zf6 Y Y)<|Rq Y (ZL (ov Y) Y Y Y Q7 Y Y)<|Rm Y<|Rm Y<|Rm Y<|Rm Y<|bE h fun y5 h_y5 h=>Rx Y (Qq [] (ZeZ h_y5) (.cons (ov Y) (XH<|rld Y)<|.cons (ov Y) (XH<|rld Y)<|.cons (ov Y) (.dat Y)<|.cons (ov Y) (.dat Y)<|.cons (ov Y) (.dat Y)<|.cons (ov Y) (.dat Y) .nil) .nil Y (.keep Y Y<|.keep Y Y<|.keep Y Y<|.lent 0 (.inr ⟨Nat.le_of_ble_eq_true Y, Y⟩) Y (roM D59) .nil) Y Y<|.own _<|.inr ⟨Nat.le_of_ble_eq_true Y, Y⟩)<|Rq Y (Zg (ov Y) Y Y Qb)<|Rx Y (Zo (ov Y) (ov Y) (ZO X6) Y Y Y (Nat.le_of_ble_eq_true Y) (Zd Y) Y)<|Za<|K3 6 12 17 Y<|Tr<|Rq Y (Zg (ov Y) Y Y Qb)<|Rq Y (Zn (ov Y) Y Y Y X6 Y)<|Rm Y<|R2 ZB Y<|R2 Zck Y<|Rq Y (ZA (ys := [_, _, _]) Zcl Zcn Zbi (.cons (cvs (ov Y)<|Zp Y) .nil) Y)<|R_q (.sl 59<|List.map R59 ([(api_Sample.mk (i64 ((i64 (q2 + 1)) * 1024)) 0 0)] : List api_Sample)) Y (JO QV (.cons (cva<|ov Y) Y (pwD Y) .nil) Y Y)<|bE h fun l2 h_l2 h=>Rx Y (Qf (ov Y) (Qp (ov Y) tZ_59) QV Y Y Y (fun _=>Zd Y) Y h_l2)<|Rq Y (Zg (ov Y) Y Y Qb)<|Rx Y (Zo (ov Y) (ov Y) (ZO X6) Y Y Y (Nat.le_of_ble_eq_true Y) (Zd Y) Y)<|Za<|K2 6 12 Y<|Tr<|Rq Y (ZL (ov Y) Y Y Y ZY Y Y)<|Rx Y (Zo (ov Y) (ov Y) (Zk ZY Y) Y Y Y (Nat.le_of_ble_eq_true Y) (Zd Y) Y)<|Ra Y<|Za<|?_
      obtain rfl := rt h
      exact Zi (Zq Y (.two (.agg Y Y Y Y ZY Y Y<|.cons (Dat.view<|.b Y)<|.cons (View.ownM Y Y D59) .nil)<|rb Y))
theorem Zho {i : Int} {r : Str} (h : ZaJ i = some r) :
 CSpec Tryz.prog gl0 147 [.int .i64 i] (.str r) := by
 unfold ZaJ at h
 replace h := ZE h
 refine So Tryz.func147 Y fun w0 A=>Tr<|Ra Y<|Za<|Zj<|K1 0 Y<|Tr<|Rm Y<|R2 Zw Y<|Za<|K2 0 4 Y<|If h Y (fun h=>?_) fun h=>?_
 ·
  refine K1 0 Y<|Tr<|Rm Y<|Rm Y<|R2 ZB Y<|bE h fun s h_s h=>Rq Y (Zh4 (ov Y) Zd0 (oi<|ov Y) (oi<|ov Y) h_s)<|Ra Y<|Za<|?_
  obtain rfl := rt h
  exact Zi (Zq Y (.one<|rb Y))
 ·
  refine Ze<|K1 0 Y<|Tr<|Rm Y<|R2 Zck Y<|Rm Y<|R2 Zck Y<|R2 ZB Y<|bE h fun s2 h_s2 h=>Rq Y (Zh4 (ov Y) Zd0 (oi<|ov Y) (oi<|ov Y) h_s2)<|Ra Y<|Za<|?_
  obtain rfl := rt h
  exact Zi (Zq Y (.one<|rb Y))
theorem ZkA {u r : Int} (h : Zen u = some r) : CSpec Tryz.prog gl0 148 [.int .u64 u] (.int .i64 r) :=
  ZjA (g := 1) (by kernel_rfl) (by kernel_rfl) (by simp [gl0]) (fun _ h1 h2 _ ht => Any.internal_strconv_numDigits Tryz.laysM284 _ h1 h2 _ ht) h
theorem Znm {v r : Vector Int 24} {n : Nat} {u : Int} (h : Zj2 v n u = some r) :
    GSpec Tryz.prog gl0 149 [.osl 0 1 (0 + Int.toNat 0) n, .int .u64 u] [some ⟨182, [(List.map C5 v.toList)]⟩] (.tuple []) [some ⟨182, [(List.map C5 r.toList)]⟩] :=
  Zo6 (by kernel_rfl) rfl tZ_182 (fun _ _ _ _ _ _ h1 h2 h3 h4 => Any.internal_strconv_formatBase10 Tryz.lays285 _ _ _ _ _ _ h1 h2 h3 h4) h
theorem ZeF {dst_ : List Int} {i : Int} {base : Int} {r : (List Int)} (h : XD dst_ i base = some r) :
 GSpec Tryz.prog gl0 116 [.own 0 dst_.length, .int .u64 i, .int .i64 base] [some ⟨5, List.map R5 dst_⟩] (.own 0 r.length) [some ⟨5, List.map R5 r⟩] := by
 unfold XD at h
 replace h := ZE h
 refine Jp (by kernel_rfl) Tryz.func116 Y Y<|?_
 intro w0 A W φ0
 refine Tr<|Ra Y<|Za<|Zj<|K3 0 1 2 Y<|Tr<|Rm Y<|R2 Z4 Y<|Za<|K4 0 1 2 10 Y<|If h Y (fun h=>?_) fun h=>?_
 ·
  refine Zj<|K2 0 1 Y<|Tr<|Rm Y<|R2 Zw Y<|Za<|K3 0 1 12 Y<|If h Y (fun h=>?_) fun h=>?_
  ·
   refine K2 0 1 Y<|Tr<|Rm Y<|Rm Y<|Rq Y (J2 (ov Y) Zqs tI3 Y)<|bE h fun y h_y h=>Rq Y (Zl (Zho h_y)<|.cons (ov Y) (.b Y) .nil)<|bE h fun l h_l h=>Rx Y (ZkS (f := R5) (ov Y) (ov Y) Zd0 Zmk Y Y (fun _=>Y) Y h_l)<|Ra Y<|Za<|?_
   obtain rfl := rt h
   exact Zi<|Zig [some 0] Y (.cons (.tmp Y) .nil) (.cons Y (roM D5) .nil) Y Y<|.own _ Y
  ·
   refine Ze<|K2 0 1 Y<|Tr<|Rx Y (Zt (row := (List.map C5 (Vector.replicate 24 0).toList)) 1 Y ZrN Y tZ_182)<|Za<|Tr<|Rm Y<|bE h fun y2 h_y2 h=>Rq Y (Zl (ZkA h_y2)<|.cons (ov Y) (.b Y) .nil)<|Ra Y<|Za<|K4 0 1 7 8 Y<|Tr<|Rm Y<|bE h fun l2 h_l2 h=>Rq Y (Zna (ov Y) ZqD Y Y on (oi<|ov Y) h_l2)<|Rm Y<|bE h fun y3 h_y3 h=>Rx Y (Qq [1] (Znm h_y3) (.cons (ov Y) (.osl _ _ _ Y)<|.cons (ov Y) (.dat Y) .nil) (.cons Y (ro1 (by exact Eq.trans (b := 24) arL tZ_182.symm)<|rld<|arD fun _ => Y) .nil) Y (.keep Y Y<|.lent 0 (.inl Y) Y (ro1 (by exact Eq.trans (b := 24) arL tZ_182.symm)<|rld<|arD fun _ => Y) .nil) Y Y<|Zga<|rld Y)<|Za<|K3 0 7 8 Y<|Tr<|Rm Y<|Rm Y<|bE h fun l3 h_l3 h=>Rq Y (Zna (ov Y) ZqD Y Y on (oi<|ov Y) h_l3)<|bE h fun l4 h_l4 h=>bE h fun l5 h_l5 h=>Rx Y (Zds (f := R5) (ov Y) (ZpI (f := C5) (ov Y) h_l4 Y Y) Zmk Y Y (fun _=>Zd Y) Y h_l5)<|Ra Y<|Za<|?_
   obtain rfl := rt h
   exact Zi<|Zig [some 0] Y (.cons (.tmp Y) .nil) (.cons Y (roM D5) .nil) Y Y<|.own _ Y
 ·
  exact Ze<|(Zqn h).elim
theorem Ze0 {dst_ : List Int} {i : Int} {base : Int} {r : (List Int)} (h : JU dst_ i base = some r) :
 GSpec Tryz.prog gl0 96 [.own 0 dst_.length, .int .i64 i, .int .i64 base] [some ⟨5, List.map R5 dst_⟩] (.own 0 r.length) [some ⟨5, List.map R5 r⟩] := by
 unfold JU at h
 replace h := ZE h
 refine Jp (by kernel_rfl) Tryz.func96 Y Y<|?_
 intro w0 A W φ0
 refine Tr<|Ra Y<|Za<|K3 0 1 2 Y<|Tr<|Rm Y<|Rq Y (J2 (ov Y) tI2 Zqs Y)<|Ra Y<|Za<|I2 (fun o u=>⟨[(0, .own 0 o.length), (2, .int .i64 base), (7, .int .u64 u)], [some ⟨5, List.map R5 o⟩]⟩) h (fun h=>?_) fun o u h=>?_
 ·
  refine K4 0 1 2 7 Y<|Tr<|Rm Y<|R2 Zw Y<|Za<|K4 0 2 7 11 Y<|If h Y (fun h=>?_) fun h=>?_
  ·
   exact K3 0 2 7 Y<|Tr<|Rm Y<|R_q (.sl 5<|List.map R5 ([45] : List Int)) Y (JO Zmk (.cons (cvs (ov Y)<|Zp Y) Y (.cons (.b Y) .nil) .nil) Y Y)<|bE h fun l h_l h=>Rx Y (Qf (ov Y) (Qp (ov Y) tZ_5) Zmk Y Y Y (fun _=>Zd Y) Y h_l)<|Ra Y<|Za<|K3 0 2 7 Y<|Zs<|Rm Y<|Rq Y (ZqB (ov Y) Y)<|Ra Y<|Za<|⟨_, h, ES [some 0]⟩
  ·
   exact Ze<|⟨_, h, ES [some 0]⟩
 ·
  refine Tr<|Rm Y<|Rm Y<|Rm Y<|bE h fun y h_y h=>Rx Y (Qq [0] (ZeF h_y) (.cons (ov Y) (.own _ Y)<|.cons (ov Y) (.dat Y)<|.cons (ov Y) (.dat Y) .nil) (.cons Y (roM D5) .nil) Y (.lent 0 (.inl Y) Y (roM D5) .nil) Y Y<|.own _<|.inl Y)<|Ra Y<|Za<|?_
  obtain rfl := rt h
  exact Zi<|Zig [some 0] Y (.cons (.tmp Y) .nil) (.cons Y (roM D5) .nil) Y Y<|.own _ Y
theorem ZeA {dst_ : List Int} {i : Int} {base : Int} {r : (List Int)} (h : Jn dst_ i base = some r) :
 GSpec Tryz.prog gl0 67 [.own 0 dst_.length, .int .i64 i, .int .i64 base] [some ⟨5, List.map R5 dst_⟩] (.own 0 r.length) [some ⟨5, List.map R5 r⟩] := by
 unfold Jn at h
 replace h := ZE h
 refine Jp (by kernel_rfl) Tryz.func67 Y Y<|?_
 intro w0 A W φ0
 refine Tr<|Ra Y<|Za<|Tr<|Rm Y<|Rm Y<|Rm Y<|bE h fun y h_y h=>Rx Y (Qq [0] (Ze0 h_y) (.cons (ov Y) (.own _ Y)<|.cons (ov Y) (.dat Y)<|.cons (ov Y) (.dat Y) .nil) (.cons Y (roM D5) .nil) Y (.lent 0 (.inl Y) Y (roM D5) .nil) Y Y<|.own _<|.inl Y)<|Ra Y<|Za<|?_
 obtain rfl := rt h
 exact Zi<|Zig [some 0] Y (.cons (.tmp Y) .nil) (.cons Y (roM D5) .nil) Y Y<|.own _ Y
theorem Jk {k : ref0_Ink} {n : Int} {r : ref0_Ink} (h : XK k n = some r) :
 GSpec Tryz.prog gl0 36 [.ptr 0 1 0 0, .int .i64 n] [some ⟨63, [[.own 1 k.out.length]]⟩, some ⟨5, List.map R5 k.out⟩] (.tuple []) [some ⟨63, [[.own 2 r.out.length]]⟩, none, some ⟨5, List.map R5 r.out⟩] := by
 unfold XK at h
 replace h := ZE h
 refine Jp (by kernel_rfl) Tryz.func36 Y Y<|?_
 intro w0 A W φ0
 refine Zh0 (Ent.sel [some 0, some 1, some 1] (sr 0 Y (.ptr (r' := 0) _ _ _ Y)<|sd 1 Y Y sn) (.cons Y (ro1 (by exact tZ_63.symm)<|rlc (.own (r' := 2) _ Y) rln)<|.dead<|.cons Y (roM D5) .nil) Y Y)<|Tr<|Rm Y<|Rm Y<|Rq Y (ZcZ (ov Y) Y Y)<|Rq Y (Zg (ov Y) Y Y Zjj)<|Rq Y (Zn (ov Y) Y Y Y Zog Y)<|Rm Y<|bE h fun y h_y h=>Rx Y (Qq [2] (ZeA h_y) (.cons (ov Y) (.own _ Y)<|.cons (ov Y) (.dat Y)<|.cons (ov Y) (.dat Y) .nil) (.cons Y (roM D5) .nil) Y (.keep Y Y<|.none<|.lent 0 (.inl Y) Y (roM D5) .nil) Y Y<|.own _<|.inl Y)<|Rq Y (ZcZ (ov Y) Y Y)<|Rq Y (Zg (ov Y) Y Y Zjj)<|Rx Y (Zo (ov Y) (ov Y) (ZO Zog) Y Y Y (Nat.le_of_ble_eq_true Y) (Zd Y) Y)<|Za<|K1 0 Y<|Zs<|Rm Y<|Rm Y<|Rq Y (ZcZ (ov Y) Y Y)<|Rq Y (Zg (ov Y) Y Y Zjj)<|Rq Y (Zn (ov Y) Y Y Y Zog Y)<|R_q (.sl 5<|List.map R5 ([32] : List Int)) Y (JO Zmk (.cons (cvs (ov Y)<|Zp Y) Y (.cons (.b Y) .nil) .nil) Y Y)<|bE h fun l h_l h=>Rx Y (Qf (ov Y) (Qp (ov Y) tZ_5) Zmk Y Y Y (fun _=>Zd Y) Y h_l)<|Rq Y (ZcZ (ov Y) Y Y)<|Rq Y (Zg (ov Y) Y Y Zjj)<|Rx Y (Zo (ov Y) (ov Y) (ZO Zog) Y Y Y (Nat.le_of_ble_eq_true Y) (Zd Y) Y)<|Za<|?_
 obtain rfl := rt h
 exact ZlV [some 0, some 1, some 2] Y .nil (.cons Y (ro1 (by exact tZ_63.symm)<|rlc (.own _ Y) rln)<|.dead<|.cons Y (roM D5) .nil) Y Y<|Zga rln
theorem ZgJ {k : ref0_Ink} {l : List Int} {r : ref0_Ink} (h : Zbn k l = some r) :
 GSpec Tryz.prog gl0 68 [.ptr 0 1 0 0, .sl 3 (List.map R3 l)] [some ⟨63, [[.own 1 k.out.length]]⟩, some ⟨5, List.map R5 k.out⟩] (.tuple []) [some ⟨63, [[.own 2 r.out.length]]⟩, none, some ⟨5, List.map R5 r.out⟩] := by
 unfold Zbn at h
 replace h := ZE h
 refine Jp (by kernel_rfl) Tryz.func68 Y Y<|?_
 intro w0 A W φ0
 refine Zh0 (Ent.sel [some 0, some 1, some 1] (sr 0 Y (.ptr (r' := 0) _ _ _ Y)<|sd 1 Y Y sn) (.cons Y (ro1 (by exact tZ_63.symm)<|rlc (.own (r' := 2) _ Y) rln)<|.dead<|.cons Y (roM D5) .nil) Y Y)<|Tr<|Rm Y<|Rm Y<|Rl tZ_3 Zea Y<|bE h fun y h_y h=>Rx Y (Qq [0, 2] (Jk h_y) (.cons (ov Y) (.ptr _ _ _ Y)<|.cons (ov Y) (.dat Y) .nil) (.cons Y (ro1 (by exact tZ_63.symm)<|rlc (.own _ Y) rln)<|.cons Y (roM D5) .nil) Y (.lent 0 (.inl Y) Y (ro1 (by exact tZ_63.symm)<|rlc (.own _<|.inr ⟨Nat.le_of_ble_eq_true Y, Y⟩) rln)<|.none<|.none<|.lent 2 (.inr ⟨Nat.le_of_ble_eq_true Y, Y⟩) Y (roM D5) .nil) Y Y<|Zga<|rld Y)<|Za<|K2 0 1 Y<|Tr<|Ra Y<|Za<|Zf<|?_
 obtain ⟨r1, hl1, ho1⟩ := Z1 h
 refine L2 (fun out i=>⟨[(0, .ptr 0 1 0 0), (1, .sl 3 (List.map R3 l)), (4, .int .i64 i)], [some ⟨63, [[.own 2 out.length]]⟩, none, some ⟨5, List.map R5 out⟩]⟩) hl1 (ES [some 0, some 1, some 3]) fun n1 out i h=>?_
 unfold Za0 at h
 refine Zj<|Tr<|Rm Y<|Rm Y<|Rl tZ_3 Zea Y<|R2 Zw Y<|Za<|K4 0 1 4 12 Y<|If h Y (fun h=>?_) fun h=>?_
 ·
  exact Ze<|Zj<|Zf<|K3 0 1 4 Y<|Zs<|Rm Y<|Rm Y<|Rm Y<|bE h fun x h_x h=>Rq Y (Zx (ov Y) (ov Y) Zea h_x)<|Rq Y (Zb (ov Y) tS3 Y)<|bE h fun y2 h_y2 h=>Rx Y (Qq [0, 2] (Jk h_y2) (.cons (ov Y) (.ptr _ _ _ Y)<|.cons (ov Y) (.dat Y) .nil) (.cons Y (ro1 (by exact tZ_63.symm)<|rlc (.own _ Y) rln)<|.cons Y (roM D5) .nil) Y (.lent 0 (.inl Y) Y (ro1 (by exact tZ_63.symm)<|rlc (.own _<|.inr ⟨Nat.le_of_ble_eq_true Y, Y⟩) rln)<|.none<|.none<|.lent 2 (.inr ⟨Nat.le_of_ble_eq_true Y, Y⟩) Y (roM D5) .nil) Y Y<|Zga<|rld Y)<|Za<|K3 0 1 4 Y<|Zs<|Rm Y<|R2 ZB Y<|Ra Y<|Za<|⟨_, h, ES [some 0, some 1, some 3]⟩
 ·
  refine Zu<|?_
  replace h := lx h ▸ ho1
  obtain rfl := rt h
  exact ZlV [some 0, some 1, some 2] Y .nil (.cons Y (ro1 (by exact tZ_63.symm)<|rlc (.own _ Y) rln)<|.dead<|.cons Y (roM D5) .nil) Y Y<|Zga rln
theorem Zfa {k : ref0_Ink} {x : api_Sample} {r : ref0_Ink} (h : Zab k x = some r) :
 GSpec Tryz.prog gl0 37 [.ptr 0 1 0 0, .agg [.int .i64 x.At, .int .i64 x.N, .int .i64 x.Mark]] [some ⟨63, [[.own 1 k.out.length]]⟩, some ⟨5, List.map R5 k.out⟩] (.tuple []) [some ⟨63, [[.own 2 r.out.length]]⟩, none, some ⟨5, List.map R5 r.out⟩] := by
 unfold Zab at h
 replace h := ZE h
 refine Jp (by kernel_rfl) Tryz.func37 Y Y<|?_
 intro w0 A W φ0
 refine Zh0 (Ent.sel [some 0, some 1, some 1] (sr 0 Y (.ptr (r' := 0) _ _ _ Y)<|sr 1 Y (XH<|rld Y) sn) (.cons Y (ro1 (by exact tZ_63.symm)<|rlc (.own (r' := 2) _ Y) rln)<|.dead<|.cons Y (roM D5) .nil) Y Y)<|Tr<|Rq Y (Zv (cva<|ov Y) Y tZ_59 Y)<|Za<|K2 0 3 Y<|Zs<|Rm Y<|Rq Y (Zc (ov Y) Zaz)<|Rq Y (Zb (ov Y) tS3 Y)<|Rq Y (Zc (ov Y) Zbg)<|Rq Y (Zb (ov Y) tS3 Y)<|Rq Y (Zc (ov Y) Qy)<|Rq Y (Zb (ov Y) tS3 Y)<|R_q (.sl 3<|List.map R3 ([x.At, x.N, x.Mark] : List Int)) Y (JO Zea (.cons (cvs (ov Y)<|Zp Y) Y (.cons (.b Y) .nil)<|.cons (cvs (ov Y)<|Zp Y) Y (.cons (.b Y) .nil)<|.cons (cvs (ov Y)<|Zp Y) Y (.cons (.b Y) .nil) .nil) Y Y)<|bE h fun y h_y h=>Rx Y (Qq [0, 2] (ZgJ h_y) (.cons (ov Y) (.ptr _ _ _ Y)<|.cons (ov Y) (.dat Y) .nil) (.cons Y (ro1 (by exact tZ_63.symm)<|rlc (.own _ Y) rln)<|.cons Y (roM D5) .nil) Y (.lent 0 (.inl Y) Y (ro1 (by exact tZ_63.symm)<|rlc (.own _<|.inr ⟨Nat.le_of_ble_eq_true Y, Y⟩) rln)<|.none<|.none<|.lent 2 (.inr ⟨Nat.le_of_ble_eq_true Y, Y⟩) Y (roM D5) .nil) Y Y<|Zga<|rld Y)<|Za<|?_
 obtain rfl := rt h
 exact ZlV [some 0, some 1, some 3] Y .nil (.cons Y (ro1 (by exact tZ_63.symm)<|rlc (.own _ Y) rln)<|.dead<|.cons Y (roM D5) .nil) Y Y<|Zga rln
theorem ZfO {k : ref0_Ink} {s : api_Series} {r : ref0_Ink} (h : J8 k s = some r) :
 GSpec Tryz.prog gl0 16 [.ptr 0 1 0 0, .agg [.int .i64 s.Den, .sl 59 (List.map R59 s.Samples)]] [some ⟨63, [[.own 1 k.out.length]]⟩, some ⟨5, List.map R5 k.out⟩] (.tuple []) [some ⟨63, [[.own 2 r.out.length]]⟩, none, some ⟨5, List.map R5 r.out⟩] := by
 unfold J8 at h
 replace h := ZE h
 refine Jp (by kernel_rfl) Tryz.func16 Y Y<|?_
 intro w0 A W φ0
 refine Zh0 (Ent.sel [some 0, some 1, some 1] (sr 0 Y (.ptr (r' := 0) _ _ _ Y)<|sr 1 Y (XH<|rld Y) sn) (.cons Y (ro1 (by exact tZ_63.symm)<|rlc (.own (r' := 2) _ Y) rln)<|.dead<|.cons Y (roM D5) .nil) Y Y)<|Tr<|Rq Y (Zv (cva<|ov Y) Y tZ_31 Y)<|Za<|K2 0 3 Y<|Tr<|Rm Y<|Rq Y (Zc (ov Y) ZiB)<|Rq Y (Zb (ov Y) tS3 Y)<|bE h fun y h_y h=>Rx Y (Qq [0, 2] (Jk h_y) (.cons (ov Y) (.ptr _ _ _ Y)<|.cons (ov Y) (.dat Y) .nil) (.cons Y (ro1 (by exact tZ_63.symm)<|rlc (.own _ Y) rln)<|.cons Y (roM D5) .nil) Y (.lent 0 (.inl Y) Y (ro1 (by exact tZ_63.symm)<|rlc (.own _<|.inr ⟨Nat.le_of_ble_eq_true Y, Y⟩) rln)<|.none<|.none<|.lent 2 (.inr ⟨Nat.le_of_ble_eq_true Y, Y⟩) Y (roM D5) .nil) Y Y<|Zga<|rld Y)<|Za<|K2 0 3 Y<|Tr<|Rm Y<|Rq Y (Zc (ov Y) Qb)<|Rq Y (Zb (ov Y) X6 Y)<|Rl tZ_59 QV Y<|bE h fun y2 h_y2 h=>Rx Y (Qq [0, 3] (Jk h_y2) (.cons (ov Y) (.ptr _ _ _ Y)<|.cons (ov Y) (.dat Y) .nil) (.cons Y (ro1 (by exact tZ_63.symm)<|rlc (.own _ Y) rln)<|.cons Y (roM D5) .nil) Y (.lent 0 (.inl Y) Y (ro1 (by exact tZ_63.symm)<|rlc (.own _<|.inr ⟨Nat.le_of_ble_eq_true Y, Y⟩) rln)<|.none<|.none<|.none<|.lent 2 (.inr ⟨Nat.le_of_ble_eq_true Y, Y⟩) Y (roM D5) .nil) Y Y<|Zga<|rld Y)<|Za<|K2 0 3 Y<|Tr<|Ra Y<|Za<|Zf<|?_
 obtain ⟨r1, hl1, ho1⟩ := Z1 h
 refine L2 (fun out i=>⟨[(0, .ptr 0 1 0 0), (3, .rp [.int .i64 s.Den, .sl 59 (List.map R59 s.Samples)] 0), (4, .int .i64 i)], [some ⟨63, [[.own 2 out.length]]⟩, none, some ⟨5, List.map R5 out⟩]⟩) hl1 (ES [some 0, some 1, some 4]) fun n1 out i h=>?_
 unfold J7 at h
 refine Zj<|Tr<|Rm Y<|Rq Y (Zc (ov Y) Qb)<|Rq Y (Zb (ov Y) X6 Y)<|Rl tZ_59 QV Y<|R2 Zw Y<|Za<|K4 0 3 4 18 Y<|If h Y (fun h=>?_) fun h=>?_
 ·
  exact Ze<|Zj<|Zf<|K3 0 3 4 Y<|Zs<|Rm Y<|Rq Y (Zc (ov Y) Qb)<|Rq Y (Zb (ov Y) X6 Y)<|Rm Y<|bE h fun x h_x h=>Rq Y (Zx (ov Y) (ov Y) QV h_x)<|Rq Y (Zh (ov Y) Xn Y Y)<|bE h fun y3 h_y3 h=>Rx Y (Qq [0, 2] (Zfa h_y3) (.cons (ov Y) (.ptr _ _ _ Y)<|.cons (ov Y) (XH<|rld Y) .nil) (.cons Y (ro1 (by exact tZ_63.symm)<|rlc (.own _ Y) rln)<|.cons Y (roM D5) .nil) Y (.lent 0 (.inl Y) Y (ro1 (by exact tZ_63.symm)<|rlc (.own _<|.inr ⟨Nat.le_of_ble_eq_true Y, Y⟩) rln)<|.none<|.none<|.lent 2 (.inr ⟨Nat.le_of_ble_eq_true Y, Y⟩) Y (roM D5) .nil) Y Y<|Zga<|rld Y)<|Za<|K3 0 3 4 Y<|Zs<|Rm Y<|R2 ZB Y<|Ra Y<|Za<|⟨_, h, ES [some 0, some 1, some 3]⟩
 ·
  refine Zu<|?_
  replace h := lx h ▸ ho1
  obtain rfl := rt h
  exact ZlV [some 0, some 1, some 2] Y .nil (.cons Y (ro1 (by exact tZ_63.symm)<|rlc (.own _ Y) rln)<|.dead<|.cons Y (roM D5) .nil) Y Y<|Zga rln
theorem Zf8 {k : ref0_Ink} {e : Int} {r : ref0_Ink} (h : Zcg k e = some r) :
 GSpec Tryz.prog gl0 17 [.ptr 0 1 0 0, .int .i64 e] [some ⟨63, [[.own 1 k.out.length]]⟩, some ⟨5, List.map R5 k.out⟩] (.tuple []) [some ⟨63, [[.own 2 r.out.length]]⟩, none, some ⟨5, List.map R5 r.out⟩] := by
 unfold Zcg at h
 replace h := ZE h
 refine Jp (by kernel_rfl) Tryz.func17 Y Y<|?_
 intro w0 A W φ0
 refine Zh0 (Ent.sel [some 0, some 1, some 1] (sr 0 Y (.ptr (r' := 0) _ _ _ Y)<|sd 1 Y Y sn) (.cons Y (ro1 (by exact tZ_63.symm)<|rlc (.own (r' := 2) _ Y) rln)<|.dead<|.cons Y (roM D5) .nil) Y Y)<|Zs<|Rm Y<|Rm Y<|bE h fun y h_y h=>Rx Y (Qq [0, 2] (Jk h_y) (.cons (ov Y) (.ptr _ _ _ Y)<|.cons (ov Y) (.dat Y) .nil) (.cons Y (ro1 (by exact tZ_63.symm)<|rlc (.own _ Y) rln)<|.cons Y (roM D5) .nil) Y (.lent 0 (.inl Y) Y (ro1 (by exact tZ_63.symm)<|rlc (.own _<|.inr ⟨Nat.le_of_ble_eq_true Y, Y⟩) rln)<|.none<|.none<|.lent 2 (.inr ⟨Nat.le_of_ble_eq_true Y, Y⟩) Y (roM D5) .nil) Y Y<|Zga<|rld Y)<|Za<|?_
 obtain rfl := rt h
 exact ZlV [some 0, some 1, some 3] Y .nil (.cons Y (ro1 (by exact tZ_63.symm)<|rlc (.own _ Y) rln)<|.dead<|.cons Y (roM D5) .nil) Y Y<|Zga rln
theorem Zgr {k : ref0_Ink} {r : Str} (h : ZcG k = some r) :
 GSpec Tryz.prog gl0 18 [.ptr 0 1 0 0] [some ⟨63, [[.own 1 k.out.length]]⟩, some ⟨5, List.map R5 k.out⟩] (.str r) [some ⟨63, [[.own 2 k.out.length]]⟩, none, some ⟨5, List.map R5 k.out⟩] := by
 unfold ZcG at h
 replace h := ZE h
 refine Jp (by kernel_rfl) Tryz.func18 Y Y<|?_
 intro w0 A W φ0
 refine Zh0 (Ent.sel [some 0, some 1, some 1] (sr 0 Y (.ptr (r' := 0) _ _ _ Y) sn) (.cons Y (ro1 (by exact tZ_63.symm)<|rlc (.own (r' := 2) _ Y) rln)<|.dead<|.cons Y (roM D5) .nil) Y Y)<|Tr<|Ra Y<|Za<|Tr<|Rm Y<|Rq Y (ZcZ (ov Y) Y Y)<|Rq Y (Zg (ov Y) Y Y Zjj)<|Rq Y (Zn (ov Y) Y Y Y Zog Y)<|Rq Y (ZpR (f := R5) (ZpP (o := ⟨5, List.map R5 k.out⟩) (ov Y) Y (List.length_map ..) tZ_5) (fun _=>Y) Zmk Zd0 Zst)<|Ra Y<|Za<|?_
 obtain rfl := rt h
 exact Zi<|Zig [some 0, some 1, some 2] Y (.cons (.tmp Y) .nil) (.cons Y (ro1 (by exact tZ_63.symm)<|rlc (.own _ Y) rln)<|.dead<|.cons Y (roM D5) .nil) Y Y<|.dat Y
theorem Zdl {s : api_Series} {e : Int} {r : Str} (h : ZbV s e = some r) :
 CSpec Tryz.prog gl0 5 [.agg [.int .i64 s.Den, .sl 59 (List.map R59 s.Samples)], .int .i64 e] (.str r) := by
 unfold ZbV at h
 replace h := ZE h
 refine So Tryz.func5 Y fun w0 A=>Tr<|Rq Y (Zv (cva<|ov Y) Y tZ_31 Y)<|Ra Y<|Za<|K2 1 2 Y<|Tr<|Rq Y (ZA (ys := [_]) Zr5 ZrP ZsD .nil Y)<|Rx Y (ZrR 0 Y (ov Y) Zsy Y)<|Ra Y<|Za<|K3 1 2 5 Y<|Tr<|Rm Y<|Rq Y (Zh (ov Y) ZY Y Y)<|bE h fun y h_y h=>ZgW (Ent.sel [some 0, none] (sd 1 Y Y<|sd 2 Y Y<|sr 5 Y (.ptr (r' := 0) _ _ _ Y)<|sr 8 Y (.ptr (r' := 0) _ _ _ Y)<|sr 9 Y (XH<|rld Y) sn) (.cons Y (ro1 (by exact tZ_63.symm)<|rlc (.row (r' := 1) Y) rln)<|.row 5 .nil) Y Y)<|Rx Y (Qq [0, 1] (ZfO h_y) (.cons (ov Y) (.ptr _ _ _ Y)<|.cons (ov Y) (XH<|rld Y) .nil) (.cons Y (ro1 (by exact tZ_63.symm)<|rlc (.own _ Y) rln)<|.cons Y roE .nil) Y (.lent 0 (.inl Y) Y (ro1 (by exact tZ_63.symm)<|rlc (.own _<|.inr ⟨Nat.le_of_ble_eq_true Y, Y⟩) rln)<|.none<|.lent 2 (.inr ⟨Nat.le_of_ble_eq_true Y, Y⟩) Y (roM D5) .nil) Y Y<|Zga<|rld Y)<|Za<|K2 1 5 Y<|Tr<|Rm Y<|Rm Y<|bE h fun y2 h_y2 h=>Rx Y (Qq [0, 2] (Zf8 h_y2) (.cons (ov Y) (.ptr _ _ _ Y)<|.cons (ov Y) (.dat Y) .nil) (.cons Y (ro1 (by exact tZ_63.symm)<|rlc (.own _ Y) rln)<|.cons Y (roM D5) .nil) Y (.lent 0 (.inl Y) Y (ro1 (by exact tZ_63.symm)<|rlc (.own _<|.inr ⟨Nat.le_of_ble_eq_true Y, Y⟩) rln)<|.none<|.none<|.lent 2 (.inr ⟨Nat.le_of_ble_eq_true Y, Y⟩) Y (roM D5) .nil) Y Y<|Zga<|rld Y)<|Za<|K1 5 Y<|Tr<|Rm Y<|bE h fun y3 h_y3 h=>Rx Y (Qq [0, 3] (Zgr h_y3) (.cons (ov Y) (.ptr _ _ _ Y) .nil) (.cons Y (ro1 (by exact tZ_63.symm)<|rlc (.own _ Y) rln)<|.cons Y (roM D5) .nil) Y (.lent 0 (.inl Y) Y (ro1 (by exact tZ_63.symm)<|rlc (.own _<|.inr ⟨Nat.le_of_ble_eq_true Y, Y⟩) rln)<|.none<|.none<|.none<|.lent 2 (.inr ⟨Nat.le_of_ble_eq_true Y, Y⟩) Y (roM D5) .nil) Y Y<|.dat Y)<|Ra Y<|Za<|?_
 obtain rfl := rt h
 exact Zi (Zq Y (.one<|rb Y))
theorem QL {n : Int} {low : Int} {high : Int} {r : Bool} (h : QD n low high = some r) :
 CSpec Tryz.prog gl0 38 [.int .i64 n, .int .i64 low, .int .i64 high] (.bool r) := by
 unfold QD at h
 replace h := ZE h
 refine So Tryz.func38 Y fun w0 A=>Tr<|Ra Y<|Za<|Tr<|Rm Y<|Rm Y<|R2 Zw Y<|Rm Y<|Rq Y (.guarded ((decide (n < low)) == false) Y Y Y Y fun h => Zm<|ov Y)<|Rq Y (.guarded ((decide (n < low)) == false) Y Y Y Y fun h => Zm<|ov Y)<|Rq Y (.guarded ((decide (n < low)) == false) Y Y Y Y fun h => Qj (ow Y h)<|ow Y h)<|Rq Y (QB (ov Y) fun hp=>ow Y<|gF hp)<|Ra Y<|Za<|?_
 obtain rfl := rt h
 exact Zi (Zq Y (.one<|rb Y))
theorem ZfD {s : Str} {r : Bool} (h : ZbT s = some r) :
 CSpec Tryz.prog gl0 69 [.str s] (.bool r) := by
 unfold ZbT at h
 replace h := ZE h
 refine So Tryz.func69 Y fun w0 A=>Tr<|Ra Y<|Za<|J0 (fun j => (.inr j)) ⟨[(0, .str s)], []⟩ h (fun h=>?_) fun h=>?_
 ·
  refine K1 0 Y<|Tr<|Ra Y<|Za<|Zf<|?_
  obtain ⟨r1, hl1, ho1⟩ := Z1 h
  refine L1 (fun i=>⟨[(0, .str s), (3, .int .i64 i)], []⟩) hl1 (ES []) fun n1 i h=>?_
  unfold JM at h
  refine Zj<|Tr<|Rm Y<|Rm Y<|Rq Y (Zfl (ov Y) Zd0 Y)<|R2 Zw Y<|Za<|K3 0 3 8 Y<|If h Y (fun h=>?_) fun h=>?_
  ·
   refine Ze<|Zj<|Zf<|K2 0 3 Y<|Tr<|Rm Y<|Rm Y<|bE h fun b h_b h=>Rq Y (Zfj (ov Y) (ov Y) Zd0 h_b)<|Ra Y<|Za<|K3 0 3 4 Y<|Tr<|Rm Y<|R2 JP Y<|Rm Y<|Rq Y (.guarded ((decide (97 ≤ b)) == true) Y Y Y Y fun h => Zm<|ov Y)<|Rq Y (.guarded ((decide (97 ≤ b)) == true) Y Y Y Y fun h => ZaZ (ow Y h)<|ov Y)<|Rq Y (Ql (ov Y) fun hp=>ow Y<|gT hp)<|Rm Y<|Rq Y (.guarded (((decide (97 ≤ b)) && (decide (b ≤ 122))) == false) Y Y Y Y fun h => Zm<|ov Y)<|Rq Y (.guarded (((decide (97 ≤ b)) && (decide (b ≤ 122))) == false) Y Y Y Y fun h => Qj (ow Y h)<|ov Y)<|Rq Y (.guarded (((decide (97 ≤ b)) && (decide (b ≤ 122))) == false) Y Y Y Y fun h => Zm<|ow Y h)<|Rq Y (.guarded2 ((((decide (97 ≤ b)) && (decide (b ≤ 122))) == false) && ((decide (0 < i)) == true)) Y Y Y Y fun h => Zm<|ov Y)<|Rq Y (.guarded2 ((((decide (97 ≤ b)) && (decide (b ≤ 122))) == false) && ((decide (0 < i)) == true)) Y Y Y Y fun h => JP (ow Y h)<|ov Y)<|Rq Y (.guarded2 ((((decide (97 ≤ b)) && (decide (b ≤ 122))) == false) && ((decide (0 < i)) == true)) Y Y Y Y fun h => Zm<|ow Y h)<|Rq Y (.guarded2 (((((decide (97 ≤ b)) && (decide (b ≤ 122))) == false) && ((decide (0 < i)) == true)) && ((decide (48 ≤ b)) == true)) Y Y Y Y fun h => Zm<|ov Y)<|Rq Y (.guarded2 (((((decide (97 ≤ b)) && (decide (b ≤ 122))) == false) && ((decide (0 < i)) == true)) && ((decide (48 ≤ b)) == true)) Y Y Y Y fun h => ZaZ (ow Y h)<|ov Y)<|Rq Y (.guarded2 ((((decide (97 ≤ b)) && (decide (b ≤ 122))) == false) && ((decide (0 < i)) == true)) Y Y Y Y fun h => Ql (ow Y h) fun hp=>ow Y<|gA h<|gT hp)<|Rq Y (.guarded2 ((((decide (97 ≤ b)) && (decide (b ≤ 122))) == false) && ((decide (0 < i)) == true)) Y Y Y Y fun h => Zm<|ow Y h)<|Rq Y (.guarded2 (((((decide (97 ≤ b)) && (decide (b ≤ 122))) == false) && ((decide (0 < i)) == true)) && (((decide (48 ≤ b)) && (decide (b ≤ 57))) == false)) Y Y Y Y fun h => Zm<|ov Y)<|Rq Y (.guarded2 (((((decide (97 ≤ b)) && (decide (b ≤ 122))) == false) && ((decide (0 < i)) == true)) && (((decide (48 ≤ b)) && (decide (b ≤ 57))) == false)) Y Y Y Y fun h => Z4 (ow Y h)<|ov Y)<|Rq Y (.guarded2 ((((decide (97 ≤ b)) && (decide (b ≤ 122))) == false) && ((decide (0 < i)) == true)) Y Y Y Y fun h => QB (ow Y h) fun hp=>ow Y<|gA h<|gF hp)<|Rq Y (.guarded (((decide (97 ≤ b)) && (decide (b ≤ 122))) == false) Y Y Y Y fun h => Ql (ow Y h) fun hp=>ow Y<|gA h<|gT hp)<|Rq Y (QB (ov Y) fun hp=>ow Y<|gF hp)<|R1 Z0 Y<|Za<|K3 0 3 36 Y<|If h Y (fun h=>?_) fun h=>?_
   ·
    refine K0<|Tr<|Ra Y<|Za<|?_
    replace h := lx h ▸ ho1
    obtain rfl := rt h
    exact Zi (Zq Y (.one<|rb Y))
   ·
    exact Ze<|K2 0 3 Y<|Zs<|Rm Y<|R2 ZB Y<|Ra Y<|Za<|⟨_, h, ES []⟩
  ·
   refine Zu<|?_
   replace h := lx h ▸ ho1
   exact ⟨_, h, ES []⟩
 ·
  replace h := elr h
  replace h := t0i h
  refine Tr<|Rm Y<|Rq Y (Zfl (ov Y) Zd0 Y)<|R2 JP Y<|Rm Y<|Rq Y (.guarded ((decide (1 ≤ (s.length : Int))) == true) Y Y Y Y fun h => Zm<|ov Y)<|Rq Y (.guarded ((decide (1 ≤ (s.length : Int))) == true) Y Y Y Y fun h => Zfl (ow Y h) Zd0 Y)<|Rq Y (.guarded ((decide (1 ≤ (s.length : Int))) == true) Y Y Y Y fun h => ZaZ (ow Y h)<|ov Y)<|Rq Y (Ql (ov Y) fun hp=>ow Y<|gT hp)<|Ra Y<|Za<|?_
  obtain rfl := rt h
  exact Zi (Zq Y (.one<|rb Y))
theorem Zdk {p : api_Param} {r : Int} (h : Zcy p = some r) :
 CSpec Tryz.prog gl0 97 [.agg [.str p.Name, .int .i64 p.Kind, .sl 121 (List.map Z9 p.Parts), .int .i64 p.First, .int .i64 p.Every, .int .i64 p.Times, .int .i64 p.Step, .sl 9 (List.map R9 p.Names)]] (.int .i64 r) := by
 unfold Zcy at h
 replace h := ZE h
 refine So Tryz.func97 Y fun w0 A=>Tr<|Rq Y (Zv (cva<|ov Y) Y tZ_45 Y)<|Ra Y<|Za<|K1 1 Y<|Tr<|Ra Y<|Za<|I1 (fun n=>⟨[(3, .int .i64 n)], []⟩) h (fun h=>?_) fun n h=>?_
 ·
  refine Tr<|Rq Y (Zc (ov Y) Zce)<|Rq Y (Zb (ov Y) Zhr Y)<|Rl tZ_121 Zdh Y<|Rm Y<|Za<|Zf<|?_
  obtain ⟨r1, hl1, ho1⟩ := Z1 h
  refine L2 (fun n2 i=>⟨[(3, .int .i64 n2), (7, .sl 121 (List.map Z9 p.Parts)), (8, .int .i64 (p.Parts.length : Int)), (9, .int .i64 i)], []⟩) hl1 (ES []) fun n1 n2 i h=>?_
  unfold Zhq at h
  refine Tr<|R2 Zw Y<|Za<|Zj<|If h Y (fun h=>?_) fun h=>?_
  ·
   exact Ze<|Zj<|Zf<|K4 3 7 8 9 Y<|Tr<|bE h fun x h_x h=>Rq Y (Zx (ov Y) (ov Y) Zdh h_x)<|Rq Y (Zh (ov Y) ZbN Y Y)<|Rx Y (Zt (row := [_, _, _, _]) 0 Y Zhj Y tZ_121)<|Rx Y (Zo (ov Y) (ov Y) (Zk ZbN Y) Y Y Y (Nat.le_of_ble_eq_true Y) (Zd Y) Y)<|Za<|K5 3 5 7 8 9 Y<|Zs<|Rm Y<|Rq Y (Zg (ov Y) Y Y Zf2)<|Rq Y (Zn (ov Y) Y Y Y tS3 Y)<|R2 ZB Y<|Ra Y<|Za<|K4 3 7 8 9 Y<|Zs<|R2 ZB Y<|Rm Y<|Za<|⟨_, h, ES []⟩
  ·
   refine Zu<|?_
   replace h := lx h ▸ ho1
   exact ⟨_, h, ES []⟩
 ·
  refine Tr<|Rm Y<|Ra Y<|Za<|?_
  obtain rfl := rt h
  exact Zi (Zq Y (.one<|rb Y))
theorem ZgE {p : api_Param} {r : Int} (h : Zaa p = some r) :
 CSpec Tryz.prog gl0 70 [.agg [.str p.Name, .int .i64 p.Kind, .sl 121 (List.map Z9 p.Parts), .int .i64 p.First, .int .i64 p.Every, .int .i64 p.Times, .int .i64 p.Step, .sl 9 (List.map R9 p.Names)]] (.int .i64 r) := by
 unfold Zaa at h
 replace h := ZE h
 refine So Tryz.func70 Y fun w0 A=>Tr<|Rq Y (Zv (cva<|ov Y) Y tZ_45 Y)<|Ra Y<|Za<|Zj<|K1 1 Y<|Tr<|Rq Y (Zc (ov Y) Zce)<|Rq Y (Zb (ov Y) Zhr Y)<|Rl tZ_121 Zdh Y<|R2 Z4 Y<|Za<|K2 1 8 Y<|If h Y (fun h=>?_) fun h=>?_
 ·
  refine K0<|Tr<|Ra Y<|Za<|?_
  obtain rfl := rt h
  exact Zi (Zq Y (.one<|rb Y))
 ·
  refine Ze<|Zj<|K1 1 Y<|Tr<|Rq Y (Zc (ov Y) Zce)<|Rq Y (Zb (ov Y) Zhr Y)<|Rl tZ_121 Zdh Y<|R2 Qj Y<|Za<|K2 1 12 Y<|If h Y (fun h=>?_) fun h=>?_
  ·
   refine K0<|Tr<|Ra Y<|Za<|?_
   obtain rfl := rt h
   exact Zi (Zq Y (.one<|rb Y))
  ·
   refine Ze<|J0 (fun j => (.inr j)) ⟨[(1, .rp [.str p.Name, .int .i64 p.Kind, .sl 121 (List.map Z9 p.Parts), .int .i64 p.First, .int .i64 p.Every, .int .i64 p.Times, .int .i64 p.Step, .sl 9 (List.map R9 p.Names)] 0)], []⟩ h (fun h=>?_) fun h=>?_
   ·
    refine K1 1 Y<|Tr<|Rq Y (Zc (ov Y) Zce)<|Rq Y (Zb (ov Y) Zhr Y)<|Rl tZ_121 Zdh Y<|Rm Y<|Za<|Zf<|?_
    obtain ⟨r1, hl1, ho1⟩ := Z1 h
    refine L1 (fun i=>⟨[(1, .rp [.str p.Name, .int .i64 p.Kind, .sl 121 (List.map Z9 p.Parts), .int .i64 p.First, .int .i64 p.Every, .int .i64 p.Times, .int .i64 p.Step, .sl 9 (List.map R9 p.Names)] 0), (14, .sl 121 (List.map Z9 p.Parts)), (15, .int .i64 (p.Parts.length : Int)), (16, .int .i64 i)], []⟩) hl1 (ES []) fun n1 i h=>?_
    unfold JY at h
    refine Tr<|R2 Zw Y<|Za<|Zj<|If h Y (fun h=>?_) fun h=>?_
    ·
     refine Ze<|Zj<|Zf<|K4 1 14 15 16 Y<|Tr<|bE h fun x h_x h=>Rq Y (Zx (ov Y) (ov Y) Zdh h_x)<|Rq Y (Zh (ov Y) ZbN Y Y)<|Rx Y (Zt (row := [_, _, _, _]) 0 Y Zhj Y tZ_121)<|Rx Y (Zo (ov Y) (ov Y) (Zk ZbN Y) Y Y Y (Nat.le_of_ble_eq_true Y) (Zd Y) Y)<|Za<|K5 1 4 14 15 16 Y<|Tr<|Rq Y (Zg (ov Y) Y Y Zf5)<|Rq Y (Zn (ov Y) Y Y Y tS3 Y)<|bE h fun y h_y h=>Rq Y (Zl (QL h_y)<|.cons (ov Y) (.b Y)<|.cons (ov Y) (.b Y)<|.cons (ov Y) (.b Y) .nil)<|Rm Y<|Rq Y (.guarded (y == false) Y Y Y Y fun h => Zg (ov Y) Y Y ZfQ)<|Rq Y (.guarded (y == false) Y Y Y Y fun h => Zn (ow Y h) Y Y Y tS3 Y)<|bE h fun y2 h_y2 h=>Rq Y (.guarded (y == false) Y Y Y Y fun h => Zl (QL<|gdT h_y2 h)<|.cons (ow Y h) (.b Y)<|.cons (ov Y) (.b Y)<|.cons (ov Y) (.b Y) .nil)<|Rq Y (QB (ov Y) fun hp=>ow Y<|gF hp)<|Rm Y<|Rq Y (.guarded ((y || y2) == false) Y Y Y Y fun h => Zg (ov Y) Y Y ZfR)<|Rq Y (.guarded ((y || y2) == false) Y Y Y Y fun h => Zn (ow Y h) Y Y Y tS3 Y)<|bE h fun y3 h_y3 h=>Rq Y (.guarded ((y || y2) == false) Y Y Y Y fun h => Zl (QL<|gdT h_y3 h)<|.cons (ow Y h) (.b Y)<|.cons (ov Y) (.b Y)<|.cons (ov Y) (.b Y) .nil)<|Rq Y (QB (ov Y) fun hp=>ow Y<|gF hp)<|Rm Y<|Rq Y (.guarded (((y || y2) || y3) == false) Y Y Y Y fun h => Zg (ov Y) Y Y Zf2)<|Rq Y (.guarded (((y || y2) || y3) == false) Y Y Y Y fun h => Zn (ow Y h) Y Y Y tS3 Y)<|Rq Y (.guarded (((y || y2) || y3) == false) Y Y Y Y fun h => Zg (ov Y) Y Y ZfR)<|Rq Y (.guarded (((y || y2) || y3) == false) Y Y Y Y fun h => Zn (ow Y h) Y Y Y tS3 Y)<|Rq Y (.guarded (((y || y2) || y3) == false) Y Y Y Y fun h => ZfJ (ov Y) (ow Y h) Y)<|bE h fun y4 h_y4 h=>Rq Y (.guarded (((y || y2) || y3) == false) Y Y Y Y fun h => Zl (QL<|gdT h_y4 h)<|.cons (ow Y h) (.b Y)<|.cons (ov Y) (.b Y)<|.cons (ow Y h) (.b Y) .nil)<|Rq Y (QB (ov Y) fun hp=>ow Y<|gF hp)<|Za<|K5 1 14 15 16 40 Y<|If h Y (fun h=>?_) fun h=>?_
     ·
      refine K0<|Tr<|Ra Y<|Za<|?_
      replace h := lx h ▸ ho1
      obtain rfl := rt h
      exact Zi (Zq Y (.one<|rb Y))
     ·
      exact Ze<|K4 1 14 15 16 Y<|Zs<|R2 ZB Y<|Rm Y<|Za<|⟨_, h, ES []⟩
    ·
     refine Zu<|?_
     replace h := lx h ▸ ho1
     exact ⟨_, h, ES []⟩
   ·
    replace h := elr h
    replace h := t0i h
    refine Zj<|Tr<|Rq Y (Zh (ov Y) Q7 Y Y)<|bE h fun y5 h_y5 h=>Rq Y (Zl (Zdk h_y5)<|.cons (ov Y) (.aggB Y) .nil)<|R2 Qj Y<|Za<|K1 44 Y<|If h Y (fun h=>?_) fun h=>?_
    ·
     refine K0<|Tr<|Ra Y<|Za<|?_
     obtain rfl := rt h
     exact Zi (Zq Y (.one<|rb Y))
    ·
     refine Ze<|K0<|Tr<|Ra Y<|Za<|?_
     obtain rfl := rt h
     exact Zi (Zq Y (.one<|rb Y))
theorem ZgI {p : api_Param} {r : Int} (h : Zae p = some r) :
 CSpec Tryz.prog gl0 71 [.agg [.str p.Name, .int .i64 p.Kind, .sl 121 (List.map Z9 p.Parts), .int .i64 p.First, .int .i64 p.Every, .int .i64 p.Times, .int .i64 p.Step, .sl 9 (List.map R9 p.Names)]] (.int .i64 r) := by
 unfold Zae at h
 replace h := ZE h
 refine So Tryz.func71 Y fun w0 A=>Tr<|Rq Y (Zv (cva<|ov Y) Y tZ_45 Y)<|Ra Y<|Za<|J0 (fun j => (.inr j)) ⟨[(1, .rp [.str p.Name, .int .i64 p.Kind, .sl 121 (List.map Z9 p.Parts), .int .i64 p.First, .int .i64 p.Every, .int .i64 p.Times, .int .i64 p.Step, .sl 9 (List.map R9 p.Names)] 0)], []⟩ h (fun h=>?_) fun h=>?_
 ·
  refine K1 1 Y<|Tr<|Rq Y (Zc (ov Y) ZhI)<|Rq Y (Zb (ov Y) tS3 Y)<|Za<|Zf<|Zj<|K2 1 6 Y<|Tr<|R2 Z4 Y<|Ra Y<|Za<|K3 1 6 7 Y<|Zo4 h Y (fun b7 h=>?_) fun b7 h=>?_
  ·
   refine Ze<|K2 1 7 Y<|If h Y (fun h=>?_) fun h=>?_
   ·
    exact Ze<|⟨_, h, ES []⟩
   ·
    refine K0<|Tr<|Ra Y<|Za<|?_
    obtain rfl := rt h
    exact Zi (Zq Y (.one<|rb Y))
  ·
   refine Tr<|R2 Z4 Y<|Ra Y<|Za<|K3 1 6 7 Y<|Zo4 h Y (fun b7 h=>?_) fun b7 h=>?_
   ·
    refine Ze<|K2 1 7 Y<|If h Y (fun h=>?_) fun h=>?_
    ·
     exact Ze<|⟨_, h, ES []⟩
    ·
     refine K0<|Tr<|Ra Y<|Za<|?_
     obtain rfl := rt h
     exact Zi (Zq Y (.one<|rb Y))
   ·
    refine Tr<|R2 Z4 Y<|Ra Y<|Za<|K3 1 6 7 Y<|Zo4 h Y (fun b7 h=>?_) fun b7 h=>?_
    ·
     refine Ze<|K2 1 7 Y<|If h Y (fun h=>?_) fun h=>?_
     ·
      exact Ze<|⟨_, h, ES []⟩
     ·
      refine K0<|Tr<|Ra Y<|Za<|?_
      obtain rfl := rt h
      exact Zi (Zq Y (.one<|rb Y))
    ·
     refine Tr<|R2 Z4 Y<|Ra Y<|Za<|K3 1 6 7 Y<|Zo4 h Y (fun b7 h=>?_) fun b7 h=>?_
     ·
      refine Ze<|K2 1 7 Y<|If h Y (fun h=>?_) fun h=>?_
      ·
       exact Ze<|⟨_, h, ES []⟩
      ·
       refine K0<|Tr<|Ra Y<|Za<|?_
       obtain rfl := rt h
       exact Zi (Zq Y (.one<|rb Y))
     ·
      refine Zs<|R2 Z4 Y<|Ra Y<|Za<|K2 1 7 Y<|If h Y (fun h=>?_) fun h=>?_
      ·
       exact Ze<|⟨_, h, ES []⟩
      ·
       refine K0<|Tr<|Ra Y<|Za<|?_
       obtain rfl := rt h
       exact Zi (Zq Y (.one<|rb Y))
 ·
  replace h := elr h
  replace h := t0i h
  refine Zj<|Tr<|Rq Y (Zc (ov Y) Zkx)<|Rq Y (Zb (ov Y) tS3 Y)<|Rq Y (Zc (ov Y) ZhI)<|Rq Y (Zb (ov Y) tS3 Y)<|R2 ZaF Y<|bE h fun y h_y h=>Rq Y (Zl (QL h_y)<|.cons (ov Y) (.b Y)<|.cons (ov Y) (.b Y)<|.cons (ov Y) (.b Y) .nil)<|Rm Y<|Rq Y (.guarded (y == false) Y Y Y Y fun h => Zc (ov Y) ZcE)<|Rq Y (.guarded (y == false) Y Y Y Y fun h => Zb (ow Y h) tS3 Y)<|bE h fun y2 h_y2 h=>Rq Y (.guarded (y == false) Y Y Y Y fun h => Zl (QL<|gdT h_y2 h)<|.cons (ow Y h) (.b Y)<|.cons (ov Y) (.b Y)<|.cons (ov Y) (.b Y) .nil)<|Rq Y (QB (ov Y) fun hp=>ow Y<|gF hp)<|Rm Y<|Rq Y (.guarded ((y || y2) == false) Y Y Y Y fun h => Zc (ov Y) Zd7)<|Rq Y (.guarded ((y || y2) == false) Y Y Y Y fun h => Zb (ow Y h) tS3 Y)<|Rq Y (.guarded ((y || y2) == false) Y Y Y Y fun h => Zw (ow Y h)<|ov Y)<|Rq Y (QB (ov Y) fun hp=>ow Y<|gF hp)<|Rm Y<|Rq Y (.guarded (((y || y2) || (decide (p.Step < 0))) == false) Y Y Y Y fun h => Zc (ov Y) Zd7)<|Rq Y (.guarded (((y || y2) || (decide (p.Step < 0))) == false) Y Y Y Y fun h => Zb (ow Y h) tS3 Y)<|Rq Y (.guarded (((y || y2) || (decide (p.Step < 0))) == false) Y Y Y Y fun h => Z4 (ow Y h)<|ov Y)<|Rq Y (.guarded (((y || y2) || (decide (p.Step < 0))) == false) Y Y Y Y fun h => Zc (ov Y) ZcE)<|Rq Y (.guarded (((y || y2) || (decide (p.Step < 0))) == false) Y Y Y Y fun h => Zb (ow Y h) tS3 Y)<|Rq Y (.guarded (((y || y2) || (decide (p.Step < 0))) == false) Y Y Y Y fun h => Z4 (ow Y h)<|ov Y)<|Rq Y (.guarded (((y || y2) || (decide (p.Step < 0))) == false) Y Y Y Y fun h => Ziy .neq (by simp) (ow Y h) (ow Y h) tB4)<|Rq Y (QB (ov Y) fun hp=>ow Y<|gF hp)<|Za<|K2 1 37 Y<|If h Y (fun h=>?_) fun h=>?_
  ·
   refine K0<|Tr<|Ra Y<|Za<|?_
   obtain rfl := rt h
   exact Zi (Zq Y (.one<|rb Y))
  ·
   refine Ze<|J0 (fun j => (.inr j)) ⟨[], []⟩ h (fun h=>?_) fun h=>?_
   ·
    refine K1 1 Y<|Tr<|Rq Y (Zc (ov Y) Zce)<|Rq Y (Zb (ov Y) Zhr Y)<|Rl tZ_121 Zdh Y<|Rm Y<|Za<|Zf<|?_
    obtain ⟨r1, hl1, ho1⟩ := Z1 h
    refine L1 (fun i=>⟨[(1, .rp [.str p.Name, .int .i64 p.Kind, .sl 121 (List.map Z9 p.Parts), .int .i64 p.First, .int .i64 p.Every, .int .i64 p.Times, .int .i64 p.Step, .sl 9 (List.map R9 p.Names)] 0), (39, .sl 121 (List.map Z9 p.Parts)), (40, .int .i64 (p.Parts.length : Int)), (41, .int .i64 i)], []⟩) hl1 (ES []) fun n1 i h=>?_
    unfold XW at h
    refine Tr<|R2 Zw Y<|Za<|Zj<|If h Y (fun h=>?_) fun h=>?_
    ·
     refine Ze<|Zj<|Zf<|K4 1 39 40 41 Y<|Tr<|bE h fun x h_x h=>Rq Y (Zx (ov Y) (ov Y) Zdh h_x)<|Rq Y (Zh (ov Y) ZbN Y Y)<|Rx Y (Zt (row := [_, _, _, _]) 0 Y Zhj Y tZ_121)<|Rx Y (Zo (ov Y) (ov Y) (Zk ZbN Y) Y Y Y (Nat.le_of_ble_eq_true Y) (Zd Y) Y)<|Za<|K5 1 4 39 40 41 Y<|Tr<|Rq Y (Zc (ov Y) ZcE)<|Rq Y (Zb (ov Y) tS3 Y)<|R2 Qj Y<|Rm Y<|Rq Y (.guarded ((decide (1 < p.Times)) == true) Y Y Y Y fun h => Zc (ov Y) Zd7)<|Rq Y (.guarded ((decide (1 < p.Times)) == true) Y Y Y Y fun h => Zb (ow Y h) tS3 Y)<|Rq Y (.guarded ((decide (1 < p.Times)) == true) Y Y Y Y fun h => Qj (ow Y h)<|ov Y)<|Rq Y (Ql (ov Y) fun hp=>ow Y<|gT hp)<|Rm Y<|Rq Y (.guarded (((decide (1 < p.Times)) && (decide (57 < p.Step))) == false) Y Y Y Y fun h => Zg (ov Y) Y Y ZfQ)<|Rq Y (.guarded (((decide (1 < p.Times)) && (decide (57 < p.Step))) == false) Y Y Y Y fun h => Zn (ow Y h) Y Y Y tS3 Y)<|Rq Y (.guarded (((decide (1 < p.Times)) && (decide (57 < p.Step))) == false) Y Y Y Y fun h => Zc (ov Y) ZcE)<|Rq Y (.guarded (((decide (1 < p.Times)) && (decide (57 < p.Step))) == false) Y Y Y Y fun h => Zb (ow Y h) tS3 Y)<|Rq Y (.guarded (((decide (1 < p.Times)) && (decide (57 < p.Step))) == false) Y Y Y Y fun h => ZfJ (ow Y h) (ov Y) Y)<|Rq Y (.guarded (((decide (1 < p.Times)) && (decide (57 < p.Step))) == false) Y Y Y Y fun h => Zc (ov Y) Zd7)<|Rq Y (.guarded (((decide (1 < p.Times)) && (decide (57 < p.Step))) == false) Y Y Y Y fun h => Zb (ow Y h) tS3 Y)<|Rq Y (.guarded (((decide (1 < p.Times)) && (decide (57 < p.Step))) == false) Y Y Y Y fun h => Zm7 (ow Y h) (ow Y h) Y)<|Rq Y (.guarded (((decide (1 < p.Times)) && (decide (57 < p.Step))) == false) Y Y Y Y fun h => Zjq (ow Y h) (ow Y h) Y)<|Rq Y (.guarded (((decide (1 < p.Times)) && (decide (57 < p.Step))) == false) Y Y Y Y fun h => Qj (ow Y h)<|ov Y)<|Rq Y (QB (ov Y) fun hp=>ow Y<|gF hp)<|Za<|K5 1 39 40 41 64 Y<|If h Y (fun h=>?_) fun h=>?_
     ·
      refine K0<|Tr<|Ra Y<|Za<|?_
      replace h := lx h ▸ ho1
      obtain rfl := rt h
      exact Zi (Zq Y (.one<|rb Y))
     ·
      exact Ze<|K4 1 39 40 41 Y<|Zs<|R2 ZB Y<|Rm Y<|Za<|⟨_, h, ES []⟩
    ·
     refine Zu<|?_
     replace h := lx h ▸ ho1
     exact ⟨_, h, ES []⟩
   ·
    replace h := elr h
    replace h := t0i h
    refine Tr<|Ra Y<|Za<|?_
    obtain rfl := rt h
    exact Zi (Zq Y (.one<|rb Y))
theorem Zhi {p : api_Param} {r : Int} (h : ZaX p = some r) :
 CSpec Tryz.prog gl0 72 [.agg [.str p.Name, .int .i64 p.Kind, .sl 121 (List.map Z9 p.Parts), .int .i64 p.First, .int .i64 p.Every, .int .i64 p.Times, .int .i64 p.Step, .sl 9 (List.map R9 p.Names)]] (.int .i64 r) := by
 unfold ZaX at h
 replace h := ZE h
 refine So Tryz.func72 Y fun w0 A=>Tr<|Rq Y (Zv (cva<|ov Y) Y tZ_45 Y)<|Ra Y<|Za<|K1 1 Y<|Tr<|Rq Y (Zh (ov Y) Q7 Y Y)<|bE h fun y h_y h=>Rq Y (Zl (Zdk h_y)<|.cons (ov Y) (.aggB Y) .nil)<|Ra Y<|Za<|Zj<|K2 1 3 Y<|Tr<|Rq Y (Zc (ov Y) ZbZ)<|Rq Y (Zb (ov Y) tS3 Y)<|R2 Z4 Y<|Rm Y<|Rq Y (.guarded ((decide (p.Kind = 4)) == true) Y Y Y Y fun h => Zm<|ov Y)<|bE h fun q h_q h=>Rq Y (.guarded ((decide (p.Kind = 4)) == true) Y Y Y Y fun h => ZaL (ow Y h) (ov Y)<|gdT h_q h)<|Rq Y (.guarded ((decide (p.Kind = 4)) == true) Y Y Y Y fun h => QC (ow Y h)<|ov Y)<|Rq Y (Ql (ov Y) fun hp=>ow Y<|gT hp)<|Rm Y<|Rq Y (.guarded (((decide (p.Kind = 4)) && (!decide (q = 0))) == false) Y Y Y Y fun h => Zc (ov Y) ZbZ)<|Rq Y (.guarded (((decide (p.Kind = 4)) && (!decide (q = 0))) == false) Y Y Y Y fun h => Zb (ow Y h) tS3 Y)<|Rq Y (.guarded (((decide (p.Kind = 4)) && (!decide (q = 0))) == false) Y Y Y Y fun h => Z4 (ow Y h)<|ov Y)<|Rq Y (.guarded (((decide (p.Kind = 4)) && (!decide (q = 0))) == false) Y Y Y Y fun h => Zm<|ow Y h)<|Rq Y (.guarded2 ((((decide (p.Kind = 4)) && (!decide (q = 0))) == false) && ((decide (p.Kind = 5)) == true)) Y Y Y Y fun h => Zm<|ov Y)<|Rq Y (.guarded2 ((((decide (p.Kind = 4)) && (!decide (q = 0))) == false) && ((decide (p.Kind = 5)) == true)) Y Y Y Y fun h => QC (ow Y h)<|ov Y)<|Rq Y (.guarded (((decide (p.Kind = 4)) && (!decide (q = 0))) == false) Y Y Y Y fun h => Ql (ow Y h) fun hp=>ow Y<|gA h<|gT hp)<|Rq Y (QB (ov Y) fun hp=>ow Y<|gF hp)<|Rm Y<|Rq Y (.guarded ((((decide (p.Kind = 4)) && (!decide (q = 0))) || ((decide (p.Kind = 5)) && (!decide (y = 1)))) == false) Y Y Y Y fun h => Zc (ov Y) ZbZ)<|Rq Y (.guarded ((((decide (p.Kind = 4)) && (!decide (q = 0))) || ((decide (p.Kind = 5)) && (!decide (y = 1)))) == false) Y Y Y Y fun h => Zb (ow Y h) tS3 Y)<|Rq Y (.guarded ((((decide (p.Kind = 4)) && (!decide (q = 0))) || ((decide (p.Kind = 5)) && (!decide (y = 1)))) == false) Y Y Y Y fun h => Z4 (ow Y h)<|ov Y)<|Rq Y (.guarded ((((decide (p.Kind = 4)) && (!decide (q = 0))) || ((decide (p.Kind = 5)) && (!decide (y = 1)))) == false) Y Y Y Y fun h => Zm<|ow Y h)<|Rq Y (.guarded2 (((((decide (p.Kind = 4)) && (!decide (q = 0))) || ((decide (p.Kind = 5)) && (!decide (y = 1)))) == false) && ((decide (p.Kind = 2)) == false)) Y Y Y Y fun h => Zc (ov Y) ZbZ)<|Rq Y (.guarded2 (((((decide (p.Kind = 4)) && (!decide (q = 0))) || ((decide (p.Kind = 5)) && (!decide (y = 1)))) == false) && ((decide (p.Kind = 2)) == false)) Y Y Y Y fun h => Zb (ow Y h) tS3 Y)<|Rq Y (.guarded2 (((((decide (p.Kind = 4)) && (!decide (q = 0))) || ((decide (p.Kind = 5)) && (!decide (y = 1)))) == false) && ((decide (p.Kind = 2)) == false)) Y Y Y Y fun h => Z4 (ow Y h)<|ov Y)<|Rq Y (.guarded ((((decide (p.Kind = 4)) && (!decide (q = 0))) || ((decide (p.Kind = 5)) && (!decide (y = 1)))) == false) Y Y Y Y fun h => QB (ow Y h) fun hp=>ow Y<|gA h<|gF hp)<|Rq Y (.guarded ((((decide (p.Kind = 4)) && (!decide (q = 0))) || ((decide (p.Kind = 5)) && (!decide (y = 1)))) == false) Y Y Y Y fun h => Zm<|ow Y h)<|Rq Y (.guarded2 (((((decide (p.Kind = 4)) && (!decide (q = 0))) || ((decide (p.Kind = 5)) && (!decide (y = 1)))) == false) && (((decide (p.Kind = 2)) || (decide (p.Kind = 3))) == true)) Y Y Y Y fun h => Zm<|ov Y)<|Rq Y (.guarded2 (((((decide (p.Kind = 4)) && (!decide (q = 0))) || ((decide (p.Kind = 5)) && (!decide (y = 1)))) == false) && (((decide (p.Kind = 2)) || (decide (p.Kind = 3))) == true)) Y Y Y Y fun h => Z4 (ow Y h)<|ov Y)<|Rq Y (.guarded ((((decide (p.Kind = 4)) && (!decide (q = 0))) || ((decide (p.Kind = 5)) && (!decide (y = 1)))) == false) Y Y Y Y fun h => Ql (ow Y h) fun hp=>ow Y<|gA h<|gT hp)<|Rq Y (QB (ov Y) fun hp=>ow Y<|gF hp)<|Za<|K3 1 3 40 Y<|If h Y (fun h=>?_) fun h=>?_
 ·
  refine K0<|Tr<|Ra Y<|Za<|?_
  obtain rfl := rt h
  exact Zi (Zq Y (.one<|rb Y))
 ·
  refine Ze<|Zj<|K2 1 3 Y<|Tr<|Rq Y (Zc (ov Y) ZbZ)<|Rq Y (Zb (ov Y) tS3 Y)<|R2 QC Y<|Za<|K3 1 3 43 Y<|If h Y (fun h=>?_) fun h=>?_
  ·
   refine Zj<|K1 1 Y<|Tr<|Rq Y (Zc (ov Y) Zb1)<|Rq Y (Zb (ov Y) Zg0 Y)<|Rl tZ_9 Zeh Y<|R2 Qj Y<|Za<|K1 47 Y<|If h Y (fun h=>?_) fun h=>?_
   ·
    refine K0<|Tr<|Ra Y<|Za<|?_
    obtain rfl := rt h
    exact Zi (Zq Y (.one<|rb Y))
   ·
    refine Ze<|K0<|Tr<|Ra Y<|Za<|?_
    obtain rfl := rt h
    exact Zi (Zq Y (.one<|rb Y))
  ·
   refine Ze<|Zj<|K2 1 3 Y<|Tr<|Rq Y (Zc (ov Y) Zb1)<|Rq Y (Zb (ov Y) Zg0 Y)<|Rl tZ_9 Zeh Y<|R2 Z4 Y<|Za<|K3 1 3 51 Y<|If h Y (fun h=>?_) fun h=>?_
   ·
    refine K0<|Tr<|Ra Y<|Za<|?_
    obtain rfl := rt h
    exact Zi (Zq Y (.one<|rb Y))
   ·
    refine Ze<|Zj<|K2 1 3 Y<|Td md0<|Dq 0 Y (Zc (ov Y) Zb1)<|Dq 1 Y (Zb (ov Y) Zg0 Y)<|Dq 2 Y (Zhg (Qp (ov Y) tZ_9) Zeh<|Zdp _ _)<|D2 3 Qj Y<|D1 4 Zm Y<|Dq 5 Y (.guarded ((decide (64 < (p.Names.length : Int))) == false) Y Y Y Y fun h => Zc (ov Y) Zb1)<|Dq 6 Y (.guarded ((decide (64 < (p.Names.length : Int))) == false) Y Y Y Y fun h => Zb (ow Y h) Zg0 Y)<|Dq 7 Y (.guarded ((decide (64 < (p.Names.length : Int))) == false) Y Y Y Y fun h => Zhg (Qp (ow Y h) tZ_9) Zeh<|Zdp _ _)<|Dq 8 Y (.guarded ((decide (64 < (p.Names.length : Int))) == false) Y Y Y Y fun h => Zm<|ov Y)<|bE h fun q2 h_q2 h=>Dq 9 Y (.guarded ((decide (64 < (p.Names.length : Int))) == false) Y Y Y Y fun h => ZaH (ov Y) (ow Y h)<|gdT h_q2 h)<|Dq 10 Y (.guarded ((decide (64 < (p.Names.length : Int))) == false) Y Y Y Y fun h => Qj (ow Y h)<|ow Y h)<|Dq 11 Y (QB (ov Y) fun hp=>ow Y<|gF hp)<|Dd<|K2 1 63 Y<|If h Y (fun h=>?_) fun h=>?_
    ·
     refine K0<|Tr<|Ra Y<|Za<|?_
     obtain rfl := rt h
     exact Zi (Zq Y (.one<|rb Y))
    ·
     refine Ze<|J0 (fun j => (.inr j)) ⟨[], []⟩ h (fun h=>?_) fun h=>?_
     ·
      refine K1 1 Y<|Tr<|Rq Y (Zc (ov Y) Zb1)<|Rq Y (Zb (ov Y) Zg0 Y)<|Rl tZ_9 Zeh Y<|Rm Y<|Za<|Zf<|?_
      obtain ⟨r1, hl1, ho1⟩ := Z1 h
      refine L1 (fun i=>⟨[(1, .rp [.str p.Name, .int .i64 p.Kind, .sl 121 (List.map Z9 p.Parts), .int .i64 p.First, .int .i64 p.Every, .int .i64 p.Times, .int .i64 p.Step, .sl 9 (List.map R9 p.Names)] 0), (65, .sl 9 (List.map R9 p.Names)), (66, .int .i64 (p.Names.length : Int)), (67, .int .i64 i)], []⟩) hl1 (ES []) fun n1 i h=>?_
      unfold Ji at h
      refine Tr<|R2 Zw Y<|Za<|Zj<|If h Y (fun h=>?_) fun h=>?_
      ·
       refine Ze<|J0 (fun j => (.inr j)) ⟨[(1, .rp [.str p.Name, .int .i64 p.Kind, .sl 121 (List.map Z9 p.Parts), .int .i64 p.First, .int .i64 p.Every, .int .i64 p.Times, .int .i64 p.Step, .sl 9 (List.map R9 p.Names)] 0), (65, .sl 9 (List.map R9 p.Names)), (66, .int .i64 (p.Names.length : Int)), (67, .int .i64 i)], []⟩ h (fun h=>?_) fun h=>?_
       ·
        refine Zf<|K4 1 65 66 67 Y<|Tr<|Rm Y<|bE h fun x h_x h=>Rq Y (Zx (ov Y) (ov Y) Zeh h_x)<|Rq Y (Zb (ov Y) tS9 Y)<|Ra Y<|Ra Y<|Za<|Zj<|K6 1 4 5 65 66 67 Y<|Tr<|Rm Y<|bE h fun y2 h_y2 h=>Rq Y (Zl (ZfD h_y2)<|.cons (ov Y) (.b Y) .nil)<|R1 Z0 Y<|Za<|K7 1 4 5 65 66 67 74 Y<|If h Y (fun h=>?_) fun h=>?_
        ·
         refine K0<|Tr<|Ra Y<|Za<|?_
         replace h := lx h ▸ ho1
         obtain rfl := rt h
         exact Zi (Zq Y (.one<|rb Y))
        ·
         refine Ze<|K6 1 4 5 65 66 67 Y<|Tr<|Rq Y (Zc (ov Y) Zb1)<|Rq Y (Zb (ov Y) Zg0 Y)<|Rm Y<|bE h fun l h_l h=>Rq Y (ZbC (ov Y) Zeh on (oi<|ov Y) h_l)<|Rl tZ_9 Zeh Y<|Rm Y<|Za<|Zf<|?_
         obtain ⟨r2, hl2, ho2⟩ := Z1 h
         refine L1 (fun i2=>⟨[(1, .rp [.str p.Name, .int .i64 p.Kind, .sl 121 (List.map Z9 p.Parts), .int .i64 p.First, .int .i64 p.Every, .int .i64 p.Times, .int .i64 p.Step, .sl 9 (List.map R9 p.Names)] 0), (5, .str x), (65, .sl 9 (List.map R9 p.Names)), (66, .int .i64 (p.Names.length : Int)), (67, .int .i64 i), (78, .sl 9 (List.map R9 l)), (79, .int .i64 (l.length : Int)), (80, .int .i64 i2)], []⟩) hl2 (ES []) fun n2 i2 h=>?_
         unfold Jl at h
         refine Tr<|R2 Zw Y<|Za<|Zj<|If h Y (fun h=>?_) fun h=>?_
         ·
          refine Ze<|Zj<|Zf<|K8 1 5 65 66 67 78 79 80 Y<|Tr<|bE h fun x2 h_x2 h=>Rq Y (Zx (ov Y) (ov Y) Zeh h_x2)<|Rq Y (Zb (ov Y) tS9 Y)<|Ra Y<|Za<|K9 1 5 7 65 66 67 78 79 80 Y<|Tr<|Rm Y<|Rm Y<|R2 ZdG Y<|Za<|K9 1 5 65 66 67 78 79 80 86 Y<|If h Y (fun h=>?_) fun h=>?_
          ·
           refine K0<|Tr<|Ra Y<|Za<|?_
           replace h := lx h ▸ ho2
           replace h := lx h ▸ ho1
           obtain rfl := rt h
           exact Zi (Zq Y (.one<|rb Y))
          ·
           exact Ze<|K8 1 5 65 66 67 78 79 80 Y<|Zs<|R2 ZB Y<|Rm Y<|Za<|⟨_, h, ES []⟩
         ·
          refine Zu<|?_
          replace h := lx h ▸ ho2
          exact ⟨_, h, ES []⟩
       ·
        replace h := elr h
        replace h := t0i h
        exact Zs<|R2 ZB Y<|Rm Y<|Za<|⟨_, h, ES []⟩
      ·
       refine Zu<|?_
       replace h := lx h ▸ ho1
       exact ⟨_, h, ES []⟩
     ·
      replace h := elr h
      replace h := t0i h
      refine Tr<|Ra Y<|Za<|?_
      obtain rfl := rt h
      exact Zi (Zq Y (.one<|rb Y))
end Go.Proofs.YtacmhbfmedpkhaaGreatDoor
