/- A text of the proof: a verified executor of the program form, or the contracts of the functions that the law reaches. -/
import Derived.Test.YtdacciininlfmaaGreatDoorOkTb
set_option linter.all false
namespace Go.Proofs.YtdacciininlfmaaGreatDoor
open Go Go.Vx
set_option maxRecDepth 10000
set_option maxHeartbeats 1000000
set_option linter.unusedVariables false
theorem XS {c0 : Int} {r : layout_number} (h : Xn c0 = some r) : Zcp r.encode ∧ Zcr r.decode := by
  have key : ZeX (fun r => Zcp r.encode ∧ Zcr r.decode) (Xn c0) := by
    unfold Xn
    repeat' (first | exact Zcx | with_reducible refine Zep ?_ ?_ | with_reducible refine Zdc fun _ _ => ?_ | with_reducible refine Zhk ?_)
    all_goals first | exact ZaM ⟨⟨rfl, fun z0 _ hz => ZdU hz⟩, ⟨rfl, fun z0 _ hz => ZdS hz⟩⟩
  exact key r h
theorem Zd3 {v : Int} {r : Int} (h : Xy v = some r) :
 CSpec Tryz.prog gl0 68 [.int .i64 v] (.int .i64 r) := by
 unfold Xy at h
 replace h := ZS h
 refine So Tryz.func68 Y fun w0 A=>Tr<|Ra Y<|Za<|K1 0 Y<|Tr<|Ra Y<|Za<|I1 (fun raw=>⟨[(3, .int .i64 raw)], []⟩) h (fun h=>?_) fun raw h=>?_
 ·
  refine Tr<|Ra Y<|Za<|Zf<|?_
  obtain ⟨r1, hl1, ho1⟩ := Qg h
  refine L3 (fun v2 raw2 shift=>⟨[(0, .int .i64 v2), (3, .int .i64 raw2), (4, .int .i64 shift)], []⟩) hl1 (ES []) fun n1 v2 raw2 shift h=>?_
  unfold Z3 at h
  refine Zj<|Tr<|Rm Y<|R2 Qq Y<|Za<|K4 0 3 4 6 Y<|If h Y (fun h=>?_) fun h=>?_
  ·
   exact Ze<|Zj<|Zf<|K3 0 3 4 Y<|Tr<|Rm Y<|Rm Y<|bE h fun q h_q h=>Rq Y (ZcH (ov Y) (ov Y) h_q)<|Rm Y<|bE h fun q2 h_q2 h=>Rq Y (ZcK (ov Y) (ov Y) h_q2)<|R2 Zjf Y<|Ra Y<|Za<|K3 0 3 4 Y<|Zs<|Rm Y<|bE h fun q3 h_q3 h=>Rq Y (Ze1 (ov Y) (ov Y) h_q3)<|Ra Y<|Za<|K3 0 3 4 Y<|Zs<|Rm Y<|R2 ZT Y<|Ra Y<|Za<|⟨_, h, ES []⟩
  ·
   refine Zu<|?_
   replace h := lx h ▸ ho1
   exact ⟨_, h, ES []⟩
 ·
  refine Tr<|Rm Y<|Ra Y<|Za<|?_
  obtain rfl := rt h
  exact Zg (Zp Y (.one<|rb Y))
theorem Zgx {raw : Int} {r : Int × Bool} (h : Zaq raw = some r) :
 CSpec Tryz.prog gl0 69 [.int .i64 raw] (.tuple [.int .i64 r.1, .bool r.2]) := by
 unfold Zaq at h
 replace h := ZS h
 refine So Tryz.func69 Y fun w0 A=>Tr<|Ra Y<|Ra Y<|Za<|K1 0 Y<|Tr<|Ra Y<|Ra Y<|Za<|I2 (fun v ok=>⟨[(4, .int .i64 v), (5, .bool ok)], []⟩) h (fun h=>?_) fun v ok h=>?_
 ·
  refine Tr<|Ra Y<|Za<|Zf<|?_
  obtain ⟨r1, hl1, ho1⟩ := Qg h
  refine L3 (fun v2 ok2 shift=>⟨[(0, .int .i64 raw), (4, .int .i64 v2), (5, .bool ok2), (6, .int .i64 shift)], []⟩) hl1 (ES []) fun n1 v2 ok2 shift h=>?_
  unfold X9 at h
  refine Zj<|Tr<|Rm Y<|R2 ZaX Y<|Za<|K5 0 4 5 6 9 Y<|If h Y (fun h=>?_) fun h=>?_
  ·
   exact Ze<|Zj<|Zf<|K4 0 4 5 6 Y<|Tr<|Rm Y<|Rm Y<|bE h fun q h_q h=>Rq Y (ZfF (ov Y) (ov Y) h_q)<|R2 Zcj Y<|Ra Y<|Za<|K5 0 4 5 6 7 Y<|Zs<|Rm Y<|R2 ZfQ Y<|Rm Y<|R2 ZT Y<|Rm Y<|Rm Y<|Rq Y (.guarded (ok2 == true) Y Y Y Y fun h => Zh<|ov Y)<|Rq Y (.guarded (ok2 == true) Y Y Y Y fun h => ZA (ow Y h)<|ov Y)<|Rq Y (QC (ov Y) fun hp=>ow Y<|gT hp)<|Ra Y<|Ra Y<|Za<|K4 0 4 5 6 Y<|Zs<|Rm Y<|R2 ZaI Y<|Ra Y<|Za<|⟨_, h, ES []⟩
  ·
   refine Zu<|?_
   replace h := lx h ▸ ho1
   exact ⟨_, h, ES []⟩
 ·
  refine Tr<|Rm Y<|Rm Y<|Ra Y<|Ra Y<|Za<|?_
  obtain rfl := rt h
  exact Zg (Zp Y (.two (rb Y)<|rb Y))
theorem ZeN {c0 : Int} {r : layout_number} (h : QO c0 = some r) :
 CSpec Tryz.prog gl0 67 [.rp [.int .i64 c0] 0] (.agg [.int .i64 r.low, .int .i64 r.high, .fn r.encode.f r.encode.c, .fn r.decode.f r.decode.c]) := by
 unfold QO at h
 replace h := ZS h
 refine So Tryz.func67 Y fun w0 A=>Tr<|Rx Y (Zr (row := [_, _, _, _]) 0 Y Zgo Y tZ_77)<|Za<|Tr<|Ra Y<|Za<|I1 (fun high=>⟨[(1, .ptr 0 1 0 0), (2, .int .i64 high)], [some ⟨77, [[.int .i64 0, .int .i64 0, .lit .nilFunc, .lit .nilFunc]]⟩]⟩) h (fun h=>?_) fun high h=>?_
 ·
  refine Tr<|Rq Y (Zb (ov Y) tS3 Y)<|bE h fun q h_q h=>Rq Y (Ze1 (ov Y) (ov Y) h_q)<|Rm Y<|Za<|Zf<|?_
  obtain ⟨r1, hl1, ho1⟩ := Qg h
  refine L2 (fun high2 i=>⟨[(1, .ptr 0 1 0 0), (2, .int .i64 high2), (4, .int .i64 q), (5, .int .i64 i)], [some ⟨77, [[.int .i64 0, .int .i64 0, .lit .nilFunc, .lit .nilFunc]]⟩]⟩) hl1 (ES [some 0]) fun n1 high2 i h=>?_
  unfold Zao at h
  refine Tr<|R2 ZA Y<|Za<|Zj<|If h Y (fun h=>?_) fun h=>?_
  ·
   exact Ze<|Zj<|Zf<|K4 1 2 4 5 Y<|Zs<|Rm Y<|R2 ZfQ Y<|Ra Y<|Za<|K4 1 2 4 5 Y<|Zs<|R2 ZT Y<|Rm Y<|Za<|⟨_, h, ES [some 0]⟩
  ·
   refine Zu<|?_
   replace h := lx h ▸ ho1
   exact ⟨_, h, ES [some 0]⟩
 ·
  refine Tr<|Rm Y<|R2 ZaI Y<|Rq Y (Qz (ys := [_, _, _, _]) ZlK ZlW Zgo (.cons (cvs (ov Y)<|Zt Y)<|.cons (cvs (ov Y)<|Zt Y)<|.cons (cvs (ov Y)<|Zt Y)<|.cons (cvs (ov Y)<|Zt Y) .nil) Y)<|Rx Y (Zo (ov Y) (ov Y) (Zm ZbP Y) Y Y Y (Nat.le_of_ble_eq_true Y) (Zd Y) Y)<|Za<|?_
  obtain rfl := rt h
  exact Zg (Zp Y (.one<|.agg Y Y Y Y ZbP Y Y<|.cons (Dat.view<|.b Y)<|.cons (Dat.view<|.b Y)<|.cons (Dat.view .fn)<|.cons (Dat.view .fn) .nil))
theorem XU {c0 : Int} {r : layout_number} (h : QO c0 = some r) : Zcp r.encode ∧ Zcr r.decode := by
  have key : ZeX (fun r => Zcp r.encode ∧ Zcr r.decode) (QO c0) := by
    unfold QO
    repeat' (first | exact Zcx | with_reducible refine Zep ?_ ?_ | with_reducible refine Zdc fun _ _ => ?_ | with_reducible refine Zhk ?_)
    all_goals first | exact ZaM ⟨⟨rfl, fun z0 _ hz => Zd3 hz⟩, ⟨rfl, fun z0 _ hz => Zgx hz⟩⟩
  exact key r h
theorem Za8 {p : api_Param} {r : layout_number} (h : Qo p = some r) :
 CSpec Tryz.prog gl0 23 [.agg [.str p.Name, .int .i64 p.Kind, .sl 128 (List.map Z2 p.Parts), .int .i64 p.First, .int .i64 p.Every, .int .i64 p.Times, .int .i64 p.Step, .sl 9 (List.map R9 p.Names)]] (.agg [.int .i64 r.low, .int .i64 r.high, .fn r.encode.f r.encode.c, .fn r.decode.f r.decode.c]) := by
 unfold Qo at h
 replace h := ZS h
 refine So Tryz.func23 Y fun w0 A=>Tr<|Rq Y (ZD (cva<|ov Y) Y tZ_41 Y)<|Rx Y (Zr (row := [_, _, _, _]) 0 Y Zgo Y tZ_77)<|Za<|K2 1 2 Y<|Tr<|Rq Y (Zi (ov Y) QW Y Y)<|bE h fun y h_y h=>Rq Y (Zl (ZaD h_y)<|.cons (ov Y) (.aggB Y) .nil)<|Rx Y (Zr (row := [_]) 1 Y tZ3 Y tZ_3)<|Rx Y (Zo (ov Y) (ov Y) (ZL tS3) Y Y Y (Nat.le_of_ble_eq_true Y) (Zd Y) Y)<|Za<|K3 1 2 3 Y<|Tr<|Rq Y (Zn (ov Y) Y Y Y tS3 Y)<|R2 ZaI Y<|bE h fun q h_q h=>Rq Y (ZcK (ov Y) (ov Y) h_q)<|Rx Y (Zr (row := [_]) 2 Y tZ3 Y tZ_3)<|Rx Y (Zo (ov Y) (ov Y) (ZL tS3) Y Y Y (Nat.le_of_ble_eq_true Y) (Zd Y) Y)<|Za<|K4 1 2 3 4 Y<|Tr<|Rx Y (Zr (row := [_]) 3 Y Zsf Y tZ_74)<|Rx Y (Zo (ov Y) (ov Y) (ZL Zqx) Y Y Y (Nat.le_of_ble_eq_true Y) (Zd Y) Y)<|Za<|Tr<|Zfy (Ent.sel [some 0, some 1, some 2, none] (sd 1 Y Y<|sr 2 Y (.ptr (r' := 0) _ _ _ Y)<|sr 3 Y (.ptr (r' := 1) _ _ _ Y)<|sr 4 Y (.ptr (r' := 2) _ _ _ Y)<|sr 5 Y (.frp ⟨Y, ⟨_, Y⟩, Y, Y⟩) sn) (.cons Y (ro1 (by exact tZ_77.symm)<|rld Y)<|.cons Y (ro1 (by exact tZ_3.symm)<|rld Y)<|.cons Y (ro1 (by exact tZ_3.symm)<|rld Y)<|.row 74 .nil) Y Y)<|Rq Y (Qk<|.cons (ov Y) .nil)<|Rx Y (Zr (row := [_]) 4 Y ZrA Y tZ_113)<|Rx Y (Zo (ov Y) (ov Y) (ZL Zms) Y Y Y (Nat.le_of_ble_eq_true Y) (Zd Y) Y)<|Za<|K5 1 2 3 4 6 Y<|Tr<|Rx Y (ZcE 5 Y Zb1)<|Zfy (Ent.sel [some 0, some 1, some 2, some 3, none, some 5] (sd 1 Y Y<|sr 2 Y (.ptr (r' := 0) _ _ _ Y)<|sr 3 Y (.ptr (r' := 1) _ _ _ Y)<|sr 4 Y (.ptr (r' := 2) _ _ _ Y)<|sr 6 Y (.frp ⟨Y, ⟨_, Y⟩, Y, Y⟩)<|sr 14 Y (.mref (r' := 5) _ Y) sn) (.cons Y (ro1 (by exact tZ_77.symm)<|rld Y)<|.cons Y (ro1 (by exact tZ_3.symm)<|rld Y)<|.cons Y (ro1 (by exact tZ_3.symm)<|rld Y)<|.cons Y roE<|.row 113<|.cons Y (Zlr (fk := FK3) (m := ([] : List (Int × AV))) tZ_115 (fun _=>.dat Y) Y) .nil) Y Y)<|Zfy (Ent.sel [some 0, some 1, none, some 3, some 4, some 5] (sd 1 Y Y<|sr 2 Y (.ptr (r' := 0) _ _ _ Y)<|sr 3 Y (.ptr (r' := 1) _ _ _ Y)<|sr 4 Y (.frp ⟨Y, ⟨_, Y⟩, Y, Y⟩)<|sd 6 Y Y<|sr 14 Y (.mref (r' := 5) _ Y) sn) (.cons Y (ro1 (by exact tZ_77.symm)<|rld Y)<|.cons Y (ro1 (by exact tZ_3.symm)<|rld Y)<|.row 3<|.cons Y roE<|.cons Y roE<|.cons Y (Zlr (fk := FK3) (m := ([] : List (Int × AV))) tZ_115 (fun _=>.dat Y) Y) .nil) Y Y)<|Rq Y (Qk<|.cons (ov Y)<|.cons (ov Y) .nil)<|Rx Y (Qx (m := ([] : List (Int × AV))) (fk := FK3) (fv := id) (k := 1) (v := .fn 58 [.rp [.fn 56 [.rp [.fn 55 []] 0]] 0, .rp [.int .i64 q] 0]) (m' := ([(1, .fn 58 [.rp [.fn 56 [.rp [.fn 55 []] 0]] 0, .rp [.int .i64 q] 0])] : List (Int × AV))) (ov Y) (ov Y) (ov Y) Zb1 ZaS Y (fun _=>.b Y) Y)<|Rq Y (Qk<|.cons (ov Y) .nil)<|Rx Y (Qx (m := ([(1, .fn 58 [.rp [.fn 56 [.rp [.fn 55 []] 0]] 0, .rp [.int .i64 q] 0])] : List (Int × AV))) (fk := FK3) (fv := id) (k := 5) (v := .fn 59 [.rp [.fn 56 [.rp [.fn 55 []] 0]] 0]) (m' := ([(1, .fn 58 [.rp [.fn 56 [.rp [.fn 55 []] 0]] 0, .rp [.int .i64 q] 0]), (5, .fn 59 [.rp [.fn 56 [.rp [.fn 55 []] 0]] 0])] : List (Int × AV))) (ov Y) (ov Y) (ov Y) Zb1 ZaS Y (fun _=>.b Y) Y)<|Rq Y (Qk<|.cons (ov Y)<|.cons (ov Y) .nil)<|Rx Y (Qx (m := ([(1, .fn 58 [.rp [.fn 56 [.rp [.fn 55 []] 0]] 0, .rp [.int .i64 q] 0]), (5, .fn 59 [.rp [.fn 56 [.rp [.fn 55 []] 0]] 0])] : List (Int × AV))) (fk := FK3) (fv := id) (k := 6) (v := .fn 60 [.rp [.fn 56 [.rp [.fn 55 []] 0]] 0, .rp [.str p.Name, .int .i64 p.Kind, .sl 128 (List.map Z2 p.Parts), .int .i64 p.First, .int .i64 p.Every, .int .i64 p.Times, .int .i64 p.Step, .sl 9 (List.map R9 p.Names)] 0]) (m' := ([(1, .fn 58 [.rp [.fn 56 [.rp [.fn 55 []] 0]] 0, .rp [.int .i64 q] 0]), (5, .fn 59 [.rp [.fn 56 [.rp [.fn 55 []] 0]] 0]), (6, .fn 60 [.rp [.fn 56 [.rp [.fn 55 []] 0]] 0, .rp [.str p.Name, .int .i64 p.Kind, .sl 128 (List.map Z2 p.Parts), .int .i64 p.First, .int .i64 p.Every, .int .i64 p.Times, .int .i64 p.Step, .sl 9 (List.map R9 p.Names)] 0])] : List (Int × AV))) (ov Y) (ov Y) (ov Y) Zb1 ZaS Y (fun _=>.b Y) Y)<|Rq Y (Qk<|.cons (ov Y) .nil)<|Rx Y (Qx (m := ([(1, .fn 58 [.rp [.fn 56 [.rp [.fn 55 []] 0]] 0, .rp [.int .i64 q] 0]), (5, .fn 59 [.rp [.fn 56 [.rp [.fn 55 []] 0]] 0]), (6, .fn 60 [.rp [.fn 56 [.rp [.fn 55 []] 0]] 0, .rp [.str p.Name, .int .i64 p.Kind, .sl 128 (List.map Z2 p.Parts), .int .i64 p.First, .int .i64 p.Every, .int .i64 p.Times, .int .i64 p.Step, .sl 9 (List.map R9 p.Names)] 0])] : List (Int × AV))) (fk := FK3) (fv := id) (k := 2) (v := .fn 61 [.rp [.int .i64 q] 0]) (m' := ([(1, .fn 58 [.rp [.fn 56 [.rp [.fn 55 []] 0]] 0, .rp [.int .i64 q] 0]), (5, .fn 59 [.rp [.fn 56 [.rp [.fn 55 []] 0]] 0]), (6, .fn 60 [.rp [.fn 56 [.rp [.fn 55 []] 0]] 0, .rp [.str p.Name, .int .i64 p.Kind, .sl 128 (List.map Z2 p.Parts), .int .i64 p.First, .int .i64 p.Every, .int .i64 p.Times, .int .i64 p.Step, .sl 9 (List.map R9 p.Names)] 0]), (2, .fn 61 [.rp [.int .i64 q] 0])] : List (Int × AV))) (ov Y) (ov Y) (ov Y) Zb1 ZaS Y (fun _=>.b Y) Y)<|Rq Y (Qk<|.cons (ov Y) .nil)<|Rx Y (Qx (m := ([(1, .fn 58 [.rp [.fn 56 [.rp [.fn 55 []] 0]] 0, .rp [.int .i64 q] 0]), (5, .fn 59 [.rp [.fn 56 [.rp [.fn 55 []] 0]] 0]), (6, .fn 60 [.rp [.fn 56 [.rp [.fn 55 []] 0]] 0, .rp [.str p.Name, .int .i64 p.Kind, .sl 128 (List.map Z2 p.Parts), .int .i64 p.First, .int .i64 p.Every, .int .i64 p.Times, .int .i64 p.Step, .sl 9 (List.map R9 p.Names)] 0]), (2, .fn 61 [.rp [.int .i64 q] 0])] : List (Int × AV))) (fk := FK3) (fv := id) (k := 3) (v := .fn 64 [.rp [.int .i64 q] 0]) (m' := ([(1, .fn 58 [.rp [.fn 56 [.rp [.fn 55 []] 0]] 0, .rp [.int .i64 q] 0]), (5, .fn 59 [.rp [.fn 56 [.rp [.fn 55 []] 0]] 0]), (6, .fn 60 [.rp [.fn 56 [.rp [.fn 55 []] 0]] 0, .rp [.str p.Name, .int .i64 p.Kind, .sl 128 (List.map Z2 p.Parts), .int .i64 p.First, .int .i64 p.Every, .int .i64 p.Times, .int .i64 p.Step, .sl 9 (List.map R9 p.Names)] 0]), (2, .fn 61 [.rp [.int .i64 q] 0]), (3, .fn 64 [.rp [.int .i64 q] 0])] : List (Int × AV))) (ov Y) (ov Y) (ov Y) Zb1 ZaS Y (fun _=>.b Y) Y)<|Zfy (Ent.sel [some 0, none, some 2, some 3, some 4, some 5] (sd 1 Y Y<|sr 2 Y (.ptr (r' := 0) _ _ _ Y)<|sr 3 Y (.frp ⟨Y, ⟨_, Y⟩, Y, Y⟩)<|sd 4 Y Y<|sd 6 Y Y<|sr 14 Y (.mref (r' := 5) _ Y)<|sr 15 Y (rFn<|rlc (.dat Y)<|rlc (.dat Y) rln)<|sr 16 Y (rFn<|rlc (.dat Y) rln)<|sr 17 Y (rFn<|rlc (.dat Y)<|rlc (.dat Y) rln)<|sr 18 Y (rFn<|rlc (.dat Y) rln)<|sr 19 Y (rFn<|rlc (.dat Y) rln) sn) (.cons Y (ro1 (by exact tZ_77.symm)<|rld Y)<|.row 3<|.cons Y roE<|.cons Y roE<|.cons Y roE<|.cons Y (Zlr (fk := FK3) (m := ([(1, .fn 58 [.rp [.fn 56 [.rp [.fn 55 []] 0]] 0, .rp [.int .i64 q] 0]), (5, .fn 59 [.rp [.fn 56 [.rp [.fn 55 []] 0]] 0]), (6, .fn 60 [.rp [.fn 56 [.rp [.fn 55 []] 0]] 0, .rp [.str p.Name, .int .i64 p.Kind, .sl 128 (List.map Z2 p.Parts), .int .i64 p.First, .int .i64 p.Every, .int .i64 p.Times, .int .i64 p.Step, .sl 9 (List.map R9 p.Names)] 0]), (2, .fn 61 [.rp [.int .i64 q] 0]), (3, .fn 64 [.rp [.int .i64 q] 0])] : List (Int × AV))) tZ_115 (fun _=>.dat Y) Y) .nil) Y Y)<|Rq Y (Qk<|.cons (ov Y) .nil)<|Rx Y (Qx (m := ([(1, .fn 58 [.rp [.fn 56 [.rp [.fn 55 []] 0]] 0, .rp [.int .i64 q] 0]), (5, .fn 59 [.rp [.fn 56 [.rp [.fn 55 []] 0]] 0]), (6, .fn 60 [.rp [.fn 56 [.rp [.fn 55 []] 0]] 0, .rp [.str p.Name, .int .i64 p.Kind, .sl 128 (List.map Z2 p.Parts), .int .i64 p.First, .int .i64 p.Every, .int .i64 p.Times, .int .i64 p.Step, .sl 9 (List.map R9 p.Names)] 0]), (2, .fn 61 [.rp [.int .i64 q] 0]), (3, .fn 64 [.rp [.int .i64 q] 0])] : List (Int × AV))) (fk := FK3) (fv := id) (k := 4) (v := .fn 67 [.rp [.int .i64 y] 0]) (m' := ([(1, .fn 58 [.rp [.fn 56 [.rp [.fn 55 []] 0]] 0, .rp [.int .i64 q] 0]), (5, .fn 59 [.rp [.fn 56 [.rp [.fn 55 []] 0]] 0]), (6, .fn 60 [.rp [.fn 56 [.rp [.fn 55 []] 0]] 0, .rp [.str p.Name, .int .i64 p.Kind, .sl 128 (List.map Z2 p.Parts), .int .i64 p.First, .int .i64 p.Every, .int .i64 p.Times, .int .i64 p.Step, .sl 9 (List.map R9 p.Names)] 0]), (2, .fn 61 [.rp [.int .i64 q] 0]), (3, .fn 64 [.rp [.int .i64 q] 0]), (4, .fn 67 [.rp [.int .i64 y] 0])] : List (Int × AV))) (ov Y) (ov Y) (ov Y) Zb1 ZaS Y (fun _=>.b Y) Y)<|Rm Y<|Ra Y<|Za<|K3 1 2 7 Y<|Tr<|Rm Y<|Rq Y (Zc (ov Y) ZbZ)<|Rq Y (Zb (ov Y) tS3 Y)<|?_
 rcases ifR h with ⟨hk3_0, h⟩ | ⟨hk3_0, h⟩
 ·
  refine Rq Y (ZdM (m := ([(1, .fn 58 [.rp [.fn 56 [.rp [.fn 55 []] 0]] 0, .rp [.int .i64 q] 0]), (5, .fn 59 [.rp [.fn 56 [.rp [.fn 55 []] 0]] 0]), (6, .fn 60 [.rp [.fn 56 [.rp [.fn 55 []] 0]] 0, .rp [.str p.Name, .int .i64 p.Kind, .sl 128 (List.map Z2 p.Parts), .int .i64 p.First, .int .i64 p.Every, .int .i64 p.Times, .int .i64 p.Step, .sl 9 (List.map R9 p.Names)] 0]), (2, .fn 61 [.rp [.int .i64 q] 0]), (3, .fn 64 [.rp [.int .i64 q] 0]), (4, .fn 67 [.rp [.int .i64 y] 0])] : List (Int × AV))) (fk := FK3) (fv := id) (k := p.Kind) (z0 := .lit .nilFunc) (ov Y) (ov Y) Zb1 ZaS Y (fun _=>.b Y) (Xt Zhf Y) (nsD Y)<|lkS<|mgT hk3_0)<|bE h fun y2 h_y2 h=>Rq Y (Zam (ov Y) Y (ZeF h_y2) .nil)<|Rx Y (Zo (ov Y) (ov Y) (Zm ZbP Y) Y Y Y (Nat.le_of_ble_eq_true Y) (Zd Y) Y)<|Za<|?_
  obtain rfl := rt h
  exact Zg (Zp Y (.one<|.agg Y Y Y Y ZbP Y Y<|.cons (Dat.view<|.b Y)<|.cons (Dat.view<|.b Y)<|.cons (Dat.view<|Dat.fnC<|.refl fun x hx => .b<|List.all_eq_true.1 (((XT h_y2).1)).1 x hx)<|.cons (Dat.view<|Dat.fnC<|.refl fun x hx => .b<|List.all_eq_true.1 (((XT h_y2).2)).1 x hx) .nil))
 ·
  rcases ifR h with ⟨hk3_1, h⟩ | ⟨hk3_1, h⟩
  ·
   refine Rq Y (ZdM (m := ([(1, .fn 58 [.rp [.fn 56 [.rp [.fn 55 []] 0]] 0, .rp [.int .i64 q] 0]), (5, .fn 59 [.rp [.fn 56 [.rp [.fn 55 []] 0]] 0]), (6, .fn 60 [.rp [.fn 56 [.rp [.fn 55 []] 0]] 0, .rp [.str p.Name, .int .i64 p.Kind, .sl 128 (List.map Z2 p.Parts), .int .i64 p.First, .int .i64 p.Every, .int .i64 p.Times, .int .i64 p.Step, .sl 9 (List.map R9 p.Names)] 0]), (2, .fn 61 [.rp [.int .i64 q] 0]), (3, .fn 64 [.rp [.int .i64 q] 0]), (4, .fn 67 [.rp [.int .i64 y] 0])] : List (Int × AV))) (fk := FK3) (fv := id) (k := p.Kind) (z0 := .lit .nilFunc) (ov Y) (ov Y) Zb1 ZaS Y (fun _=>.b Y) (Xt Zhf Y) (nsD Y)<|lkS<|mgF hk3_0<|mgT hk3_1)<|bE h fun y3 h_y3 h=>Rq Y (Zam (ov Y) Y (Zek h_y3) .nil)<|Rx Y (Zo (ov Y) (ov Y) (Zm ZbP Y) Y Y Y (Nat.le_of_ble_eq_true Y) (Zd Y) Y)<|Za<|?_
   obtain rfl := rt h
   exact Zg (Zp Y (.one<|.agg Y Y Y Y ZbP Y Y<|.cons (Dat.view<|.b Y)<|.cons (Dat.view<|.b Y)<|.cons (Dat.view<|Dat.fnC<|.refl fun x hx => .b<|List.all_eq_true.1 (((XV h_y3).1)).1 x hx)<|.cons (Dat.view<|Dat.fnC<|.refl fun x hx => .b<|List.all_eq_true.1 (((XV h_y3).2)).1 x hx) .nil))
  ·
   rcases ifR h with ⟨hk3_2, h⟩ | ⟨hk3_2, h⟩
   ·
    refine Rq Y (ZdM (m := ([(1, .fn 58 [.rp [.fn 56 [.rp [.fn 55 []] 0]] 0, .rp [.int .i64 q] 0]), (5, .fn 59 [.rp [.fn 56 [.rp [.fn 55 []] 0]] 0]), (6, .fn 60 [.rp [.fn 56 [.rp [.fn 55 []] 0]] 0, .rp [.str p.Name, .int .i64 p.Kind, .sl 128 (List.map Z2 p.Parts), .int .i64 p.First, .int .i64 p.Every, .int .i64 p.Times, .int .i64 p.Step, .sl 9 (List.map R9 p.Names)] 0]), (2, .fn 61 [.rp [.int .i64 q] 0]), (3, .fn 64 [.rp [.int .i64 q] 0]), (4, .fn 67 [.rp [.int .i64 y] 0])] : List (Int × AV))) (fk := FK3) (fv := id) (k := p.Kind) (z0 := .lit .nilFunc) (ov Y) (ov Y) Zb1 ZaS Y (fun _=>.b Y) (Xt Zhf Y) (nsD Y)<|lkS<|mgF hk3_0<|mgF hk3_1<|mgT hk3_2)<|bE h fun y4 h_y4 h=>Rq Y (Zam (ov Y) Y (Zev h_y4) .nil)<|Rx Y (Zo (ov Y) (ov Y) (Zm ZbP Y) Y Y Y (Nat.le_of_ble_eq_true Y) (Zd Y) Y)<|Za<|?_
    obtain rfl := rt h
    exact Zg (Zp Y (.one<|.agg Y Y Y Y ZbP Y Y<|.cons (Dat.view<|.b Y)<|.cons (Dat.view<|.b Y)<|.cons (Dat.view<|Dat.fnC<|.refl fun x hx => .b<|List.all_eq_true.1 (((XR h_y4).1)).1 x hx)<|.cons (Dat.view<|Dat.fnC<|.refl fun x hx => .b<|List.all_eq_true.1 (((XR h_y4).2)).1 x hx) .nil))
   ·
    rcases ifR h with ⟨hk3_3, h⟩ | ⟨hk3_3, h⟩
    ·
     refine Rq Y (ZdM (m := ([(1, .fn 58 [.rp [.fn 56 [.rp [.fn 55 []] 0]] 0, .rp [.int .i64 q] 0]), (5, .fn 59 [.rp [.fn 56 [.rp [.fn 55 []] 0]] 0]), (6, .fn 60 [.rp [.fn 56 [.rp [.fn 55 []] 0]] 0, .rp [.str p.Name, .int .i64 p.Kind, .sl 128 (List.map Z2 p.Parts), .int .i64 p.First, .int .i64 p.Every, .int .i64 p.Times, .int .i64 p.Step, .sl 9 (List.map R9 p.Names)] 0]), (2, .fn 61 [.rp [.int .i64 q] 0]), (3, .fn 64 [.rp [.int .i64 q] 0]), (4, .fn 67 [.rp [.int .i64 y] 0])] : List (Int × AV))) (fk := FK3) (fv := id) (k := p.Kind) (z0 := .lit .nilFunc) (ov Y) (ov Y) Zb1 ZaS Y (fun _=>.b Y) (Xt Zhf Y) (nsD Y)<|lkS<|mgF hk3_0<|mgF hk3_1<|mgF hk3_2<|mgT hk3_3)<|bE h fun y5 h_y5 h=>Rq Y (Zam (ov Y) Y (ZeP h_y5) .nil)<|Rx Y (Zo (ov Y) (ov Y) (Zm ZbP Y) Y Y Y (Nat.le_of_ble_eq_true Y) (Zd Y) Y)<|Za<|?_
     obtain rfl := rt h
     exact Zg (Zp Y (.one<|.agg Y Y Y Y ZbP Y Y<|.cons (Dat.view<|.b Y)<|.cons (Dat.view<|.b Y)<|.cons (Dat.view<|Dat.fnC<|.refl fun x hx => .b<|List.all_eq_true.1 (((XW h_y5).1)).1 x hx)<|.cons (Dat.view<|Dat.fnC<|.refl fun x hx => .b<|List.all_eq_true.1 (((XW h_y5).2)).1 x hx) .nil))
    ·
     rcases ifR h with ⟨hk3_4, h⟩ | ⟨hk3_4, h⟩
     ·
      refine Rq Y (ZdM (m := ([(1, .fn 58 [.rp [.fn 56 [.rp [.fn 55 []] 0]] 0, .rp [.int .i64 q] 0]), (5, .fn 59 [.rp [.fn 56 [.rp [.fn 55 []] 0]] 0]), (6, .fn 60 [.rp [.fn 56 [.rp [.fn 55 []] 0]] 0, .rp [.str p.Name, .int .i64 p.Kind, .sl 128 (List.map Z2 p.Parts), .int .i64 p.First, .int .i64 p.Every, .int .i64 p.Times, .int .i64 p.Step, .sl 9 (List.map R9 p.Names)] 0]), (2, .fn 61 [.rp [.int .i64 q] 0]), (3, .fn 64 [.rp [.int .i64 q] 0]), (4, .fn 67 [.rp [.int .i64 y] 0])] : List (Int × AV))) (fk := FK3) (fv := id) (k := p.Kind) (z0 := .lit .nilFunc) (ov Y) (ov Y) Zb1 ZaS Y (fun _=>.b Y) (Xt Zhf Y) (nsD Y)<|lkS<|mgF hk3_0<|mgF hk3_1<|mgF hk3_2<|mgF hk3_3<|mgT hk3_4)<|bE h fun y6 h_y6 h=>Rq Y (Zam (ov Y) Y (Zeo h_y6) .nil)<|Rx Y (Zo (ov Y) (ov Y) (Zm ZbP Y) Y Y Y (Nat.le_of_ble_eq_true Y) (Zd Y) Y)<|Za<|?_
      obtain rfl := rt h
      exact Zg (Zp Y (.one<|.agg Y Y Y Y ZbP Y Y<|.cons (Dat.view<|.b Y)<|.cons (Dat.view<|.b Y)<|.cons (Dat.view<|Dat.fnC<|.refl fun x hx => .b<|List.all_eq_true.1 (((XS h_y6).1)).1 x hx)<|.cons (Dat.view<|Dat.fnC<|.refl fun x hx => .b<|List.all_eq_true.1 (((XS h_y6).2)).1 x hx) .nil))
     ·
      rcases ifR h with ⟨hk3_5, h⟩ | ⟨hk3_5, h⟩
      ·
       refine Rq Y (ZdM (m := ([(1, .fn 58 [.rp [.fn 56 [.rp [.fn 55 []] 0]] 0, .rp [.int .i64 q] 0]), (5, .fn 59 [.rp [.fn 56 [.rp [.fn 55 []] 0]] 0]), (6, .fn 60 [.rp [.fn 56 [.rp [.fn 55 []] 0]] 0, .rp [.str p.Name, .int .i64 p.Kind, .sl 128 (List.map Z2 p.Parts), .int .i64 p.First, .int .i64 p.Every, .int .i64 p.Times, .int .i64 p.Step, .sl 9 (List.map R9 p.Names)] 0]), (2, .fn 61 [.rp [.int .i64 q] 0]), (3, .fn 64 [.rp [.int .i64 q] 0]), (4, .fn 67 [.rp [.int .i64 y] 0])] : List (Int × AV))) (fk := FK3) (fv := id) (k := p.Kind) (z0 := .lit .nilFunc) (ov Y) (ov Y) Zb1 ZaS Y (fun _=>.b Y) (Xt Zhf Y) (nsD Y)<|lkS<|mgF hk3_0<|mgF hk3_1<|mgF hk3_2<|mgF hk3_3<|mgF hk3_4<|mgT hk3_5)<|bE h fun y7 h_y7 h=>Rq Y (Zam (ov Y) Y (ZeN h_y7) .nil)<|Rx Y (Zo (ov Y) (ov Y) (Zm ZbP Y) Y Y Y (Nat.le_of_ble_eq_true Y) (Zd Y) Y)<|Za<|?_
       obtain rfl := rt h
       exact Zg (Zp Y (.one<|.agg Y Y Y Y ZbP Y Y<|.cons (Dat.view<|.b Y)<|.cons (Dat.view<|.b Y)<|.cons (Dat.view<|Dat.fnC<|.refl fun x hx => .b<|List.all_eq_true.1 (((XU h_y7).1)).1 x hx)<|.cons (Dat.view<|Dat.fnC<|.refl fun x hx => .b<|List.all_eq_true.1 (((XU h_y7).2)).1 x hx) .nil))
      ·
       exact (ZrW h).elim
theorem Jn {p : api_Param} {r : layout_number} (h : Qo p = some r) : Zcp r.encode ∧ Zcr r.decode := by
  have key : ZeX (fun r => Zcp r.encode ∧ Zcr r.decode) (Qo p) := by
    unfold Qo
    repeat' (first | exact Zcx | with_reducible refine Zep ?_ ?_ | with_reducible refine Zdc fun _ _ => ?_ | with_reducible refine Zhk ?_)
    all_goals first | exact ZaM ⟨((XT (by assumption)).1), ((XT (by assumption)).2)⟩ | exact ZaM ⟨((XV (by assumption)).1), ((XV (by assumption)).2)⟩ | exact ZaM ⟨((XR (by assumption)).1), ((XR (by assumption)).2)⟩ | exact ZaM ⟨((XW (by assumption)).1), ((XW (by assumption)).2)⟩ | exact ZaM ⟨((XS (by assumption)).1), ((XS (by assumption)).2)⟩ | exact ZaM ⟨((XU (by assumption)).1), ((XU (by assumption)).2)⟩
  exact key r h
theorem Zd9 {p : api_Param} {r : Int × Int × Int} (h : ZaE p = some r) :
 CSpec Tryz.prog gl0 9 [.agg [.str p.Name, .int .i64 p.Kind, .sl 128 (List.map Z2 p.Parts), .int .i64 p.First, .int .i64 p.Every, .int .i64 p.Times, .int .i64 p.Step, .sl 9 (List.map R9 p.Names)]] (.tuple [.int .i64 r.1, .int .i64 r.2.1, .int .i64 r.2.2]) := by
 unfold ZaE at h
 replace h := ZS h
 refine So Tryz.func9 Y fun w0 A=>Tr<|Rq Y (ZD (cva<|ov Y) Y tZ_41 Y)<|Ra Y<|Ra Y<|Ra Y<|Za<|Zj<|K1 1 Y<|Tr<|Rq Y (Zi (ov Y) QW Y Y)<|bE h fun y h_y h=>Rq Y (Zl (Zcb h_y)<|.cons (ov Y) (.aggB Y) .nil)<|Ra Y<|Za<|K2 1 5 Y<|Tr<|Rm Y<|R2 Z4 Y<|Za<|K3 1 5 10 Y<|If h Y (fun h=>?_) fun h=>?_
 ·
  refine K1 5 Y<|Tr<|Rm Y<|Ra Y<|Ra Y<|Ra Y<|Za<|?_
  obtain rfl := rt h
  exact Zg (Zp Y (.three (rb Y) (rb Y)<|rb Y))
 ·
  refine Ze<|K1 1 Y<|Tr<|Rq Y (Zi (ov Y) QW Y Y)<|bE h fun y2 h_y2 h=>Rq Y (Zl (Za8 h_y2)<|.cons (ov Y) (.aggB Y) .nil)<|Rx Y (Zr (row := [_, _, _, _]) 0 Y Zgo Y tZ_77)<|Rx Y (Zo (ov Y) (ov Y) (Zm ZbP Y) Y Y Y (Nat.le_of_ble_eq_true Y) (Zd Y) Y)<|Za<|K1 6 Y<|Td md0<|Dq 0 Y (Zk (ov Y) Y Y Zox)<|Dq 1 Y (Zn (ov Y) Y Y Y tS3 Y)<|Dq 2 Y (Zk (ov Y) Y Y Zov)<|Dq 3 Y (Zn (ov Y) Y Y Y tS3 Y)<|D1 4 Zy Y<|D1 5 Zy Y<|D1 6 Zy Y<|Dd<|?_
  obtain rfl := rt h
  exact Zg (Zp Y (.three (rb Y) (rb Y)<|rb Y))
theorem ZG {n : Int} {low : Int} {high : Int} {r : Bool} (h : ZF n low high = some r) :
 CSpec Tryz.prog gl0 25 [.int .i64 n, .int .i64 low, .int .i64 high] (.bool r) := by
 unfold ZF at h
 replace h := ZS h
 refine So Tryz.func25 Y fun w0 A=>Tr<|Ra Y<|Za<|Tr<|Rm Y<|Rm Y<|R2 ZaX Y<|Rm Y<|Rq Y (.guarded ((decide (low ≤ n)) == true) Y Y Y Y fun h => Zh<|ov Y)<|Rq Y (.guarded ((decide (low ≤ n)) == true) Y Y Y Y fun h => Zh<|ov Y)<|Rq Y (.guarded ((decide (low ≤ n)) == true) Y Y Y Y fun h => ZbO (ow Y h)<|ow Y h)<|Rq Y (QC (ov Y) fun hp=>ow Y<|gT hp)<|Ra Y<|Za<|?_
 obtain rfl := rt h
 exact Zg (Zp Y (.one<|rb Y))
theorem ZaF {l : api_Line} {v : Int} {r : Int} (h : QL l v = some r) :
 CSpec Tryz.prog gl0 29 [.agg [.int .i64 l.From, .int .i64 l.To, .int .i64 l.A_, .int .i64 l.B], .int .i64 v] (.int .i64 r) := by
 unfold QL at h
 replace h := ZS h
 refine So Tryz.func29 Y fun w0 A=>Tr<|Rq Y (ZD (cva<|ov Y) Y tZ_72 Y)<|Ra Y<|Za<|K3 1 2 4 Y<|Tr<|Rq Y (Zc (ov Y) ZbV)<|Rq Y (Zb (ov Y) tS3 Y)<|Rm Y<|R2 ZfQ Y<|Rq Y (Zc (ov Y) ZcM)<|Rq Y (Zb (ov Y) tS3 Y)<|R2 ZT Y<|Ra Y<|Za<|?_
 obtain rfl := rt h
 exact Zg (Zp Y (.one<|rb Y))
theorem XL {c_ : api_Calibration} {r : Int} (h : Z0 c_ = some r) :
 CSpec Tryz.prog gl0 24 [.agg [.int .i64 c_.Den, .sl 72 (List.map R72 c_.Lines), .int .i64 c_.Low, .int .i64 c_.High]] (.int .i64 r) := by
 unfold Z0 at h
 replace h := ZS h
 refine So Tryz.func24 Y fun w0 A=>Tr<|Rq Y (ZD (cva<|ov Y) Y tZ_27 Y)<|Ra Y<|Za<|Zj<|Zf<|K1 1 Y<|Tr<|Rq Y (Zc (ov Y) Zlg)<|Rq Y (Zb (ov Y) tS3 Y)<|bE h fun y h_y h=>Rq Y (Zl (ZG h_y)<|.cons (ov Y) (.b Y)<|.cons (ov Y) (.b Y)<|.cons (ov Y) (.b Y) .nil)<|R1 Qa Y<|Ra Y<|Za<|K2 1 7 Y<|If h Y (fun h=>?_) fun h=>?_
 ·
  refine K0<|Tr<|Ra Y<|Za<|?_
  obtain rfl := rt h
  exact Zg (Zp Y (.one<|rb Y))
 ·
  refine K1 1 Y<|Tr<|Rq Y (Zc (ov Y) ZbB)<|Rq Y (Zb (ov Y) ZgG Y)<|Rl tZ_72 Zej Y<|R2 Qb Y<|Ra Y<|Za<|K2 1 12 Y<|If h Y (fun h=>?_) fun h=>?_
  ·
   refine K0<|Tr<|Ra Y<|Za<|?_
   obtain rfl := rt h
   exact Zg (Zp Y (.one<|rb Y))
  ·
   refine K1 1 Y<|Tr<|Rq Y (Zc (ov Y) ZbB)<|Rq Y (Zb (ov Y) ZgG Y)<|Rl tZ_72 Zej Y<|R2 Qq Y<|Ra Y<|Za<|K2 1 17 Y<|If h Y (fun h=>?_) fun h=>?_
   ·
    refine K0<|Tr<|Ra Y<|Za<|?_
    obtain rfl := rt h
    exact Zg (Zp Y (.one<|rb Y))
   ·
    refine Ze<|J0 (fun j => (.inr j)) ⟨[(1, .rp [.int .i64 c_.Den, .sl 72 (List.map R72 c_.Lines), .int .i64 c_.Low, .int .i64 c_.High] 0)], []⟩ h (fun h=>?_) fun h=>?_
    ·
     refine K1 1 Y<|Tr<|Rq Y (Zc (ov Y) ZbB)<|Rq Y (Zb (ov Y) ZgG Y)<|Rl tZ_72 Zej Y<|Rm Y<|Za<|Zf<|?_
     obtain ⟨r1, hl1, ho1⟩ := Qg h
     refine L1 (fun i=>⟨[(1, .rp [.int .i64 c_.Den, .sl 72 (List.map R72 c_.Lines), .int .i64 c_.Low, .int .i64 c_.High] 0), (23, .sl 72 (List.map R72 c_.Lines)), (24, .int .i64 (c_.Lines.length : Int)), (25, .int .i64 i)], []⟩) hl1 (ES []) fun n1 i h=>?_
     unfold ZQ at h
     refine Tr<|R2 ZA Y<|Za<|Zj<|If h Y (fun h=>?_) fun h=>?_
     ·
      refine Ze<|Zj<|Zf<|K4 1 23 24 25 Y<|Tr<|Rm Y<|bE h fun x h_x h=>Rq Y (Zx (ov Y) (ov Y) Zej h_x)<|Rq Y (Zi (ov Y) Ze2 Y Y)<|Rx Y (Zr (row := [_, _, _, _]) 0 Y ZmM Y tZ_72)<|Ra Y<|Rx Y (Zo (ov Y) (ov Y) (Zm Ze2 Y) Y Y Y (Nat.le_of_ble_eq_true Y) (Zd Y) Y)<|Za<|Zj<|K6 1 3 4 23 24 25 Y<|Tr<|Rq Y (Zk (ov Y) Y Y Zdh)<|Rq Y (Zn (ov Y) Y Y Y tS3 Y)<|bE h fun y2 h_y2 h=>Rq Y (Zl (ZG h_y2)<|.cons (ov Y) (.b Y)<|.cons (ov Y) (.b Y)<|.cons (ov Y) (.b Y) .nil)<|R1 Qa Y<|Rm Y<|Rq Y (.guarded ((!y2) == false) Y Y Y Y fun h => Zk (ov Y) Y Y Zde)<|Rq Y (.guarded ((!y2) == false) Y Y Y Y fun h => Zn (ow Y h) Y Y Y tS3 Y)<|bE h fun y3 h_y3 h=>Rq Y (.guarded ((!y2) == false) Y Y Y Y fun h => Zl (ZG<|gdT h_y3 h)<|.cons (ow Y h) (.b Y)<|.cons (ov Y) (.b Y)<|.cons (ov Y) (.b Y) .nil)<|Rq Y (.guarded ((!y2) == false) Y Y Y Y fun h => Qa<|ow Y h)<|Rq Y (Qi (ov Y) fun hp=>ow Y<|gF hp)<|Rm Y<|Rq Y (.guarded (((!y2) || (!y3)) == false) Y Y Y Y fun h => Zk (ov Y) Y Y Zdh)<|Rq Y (.guarded (((!y2) || (!y3)) == false) Y Y Y Y fun h => Zn (ow Y h) Y Y Y tS3 Y)<|Rq Y (.guarded (((!y2) || (!y3)) == false) Y Y Y Y fun h => Zk (ov Y) Y Y Zde)<|Rq Y (.guarded (((!y2) || (!y3)) == false) Y Y Y Y fun h => Zn (ow Y h) Y Y Y tS3 Y)<|Rq Y (.guarded (((!y2) || (!y3)) == false) Y Y Y Y fun h => Qq (ow Y h)<|ow Y h)<|Rq Y (Qi (ov Y) fun hp=>ow Y<|gF hp)<|Rm Y<|Rq Y (.guarded ((((!y2) || (!y3)) || (decide (x.To < x.From))) == false) Y Y Y Y fun h => Zk (ov Y) Y Y ZbV)<|Rq Y (.guarded ((((!y2) || (!y3)) || (decide (x.To < x.From))) == false) Y Y Y Y fun h => Zn (ow Y h) Y Y Y tS3 Y)<|bE h fun y4 h_y4 h=>Rq Y (.guarded ((((!y2) || (!y3)) || (decide (x.To < x.From))) == false) Y Y Y Y fun h => Zl (ZG<|gdT h_y4 h)<|.cons (ow Y h) (.b Y)<|.cons (ov Y) (.b Y)<|.cons (ov Y) (.b Y) .nil)<|Rq Y (.guarded ((((!y2) || (!y3)) || (decide (x.To < x.From))) == false) Y Y Y Y fun h => Qa<|ow Y h)<|Rq Y (Qi (ov Y) fun hp=>ow Y<|gF hp)<|Rm Y<|Rq Y (.guarded (((((!y2) || (!y3)) || (decide (x.To < x.From))) || (!y4)) == false) Y Y Y Y fun h => Zk (ov Y) Y Y ZcM)<|Rq Y (.guarded (((((!y2) || (!y3)) || (decide (x.To < x.From))) || (!y4)) == false) Y Y Y Y fun h => Zn (ow Y h) Y Y Y tS3 Y)<|bE h fun y5 h_y5 h=>Rq Y (.guarded (((((!y2) || (!y3)) || (decide (x.To < x.From))) || (!y4)) == false) Y Y Y Y fun h => Zl (ZG<|gdT h_y5 h)<|.cons (ow Y h) (.b Y)<|.cons (ov Y) (.b Y)<|.cons (ov Y) (.b Y) .nil)<|Rq Y (.guarded (((((!y2) || (!y3)) || (decide (x.To < x.From))) || (!y4)) == false) Y Y Y Y fun h => Qa<|ow Y h)<|Rq Y (Qi (ov Y) fun hp=>ow Y<|gF hp)<|Za<|K7 1 3 4 23 24 25 58 Y<|If h Y (fun h=>?_) fun h=>?_
      ·
       refine K0<|Tr<|Ra Y<|Za<|?_
       replace h := lx h ▸ ho1
       obtain rfl := rt h
       exact Zg (Zp Y (.one<|rb Y))
      ·
       refine Ze<|K6 1 3 4 23 24 25 Y<|Td md0<|D1 0 Zh Y<|D2 1 Qq Y<|D1 2 Zh Y<|Dq 3 Y (.guarded ((decide (0 < i)) == true) Y Y Y Y fun h => Zk (ov Y) Y Y Zdh)<|Dq 4 Y (.guarded ((decide (0 < i)) == true) Y Y Y Y fun h => Zn (ow Y h) Y Y Y tS3 Y)<|Dq 5 Y (.guarded ((decide (0 < i)) == true) Y Y Y Y fun h => Zc (ov Y) ZbB)<|Dq 6 Y (.guarded ((decide (0 < i)) == true) Y Y Y Y fun h => Zb (ow Y h) ZgG Y)<|Dq 7 Y (.guarded ((decide (0 < i)) == true) Y Y Y Y fun h => Zh<|ov Y)<|Dq 8 Y (.guarded ((decide (0 < i)) == true) Y Y Y Y fun h => ZfB (ow Y h) (ov Y) Y)<|bE h fun x2 h_x2 h=>Dq 9 Y (.guarded ((decide (0 < i)) == true) Y Y Y Y fun h => Zx (ow Y h) (ow Y h) Zej<|gdT h_x2 h)<|Dq 10 Y (.guarded ((decide (0 < i)) == true) Y Y Y Y fun h => Zc (ow Y h) Zde)<|Dq 11 Y (.guarded ((decide (0 < i)) == true) Y Y Y Y fun h => Zb (ow Y h) tS3 Y)<|Dq 12 Y (.guarded ((decide (0 < i)) == true) Y Y Y Y fun h => ZbO (ow Y h)<|ow Y h)<|Dq 13 Y (QC (ov Y) fun hp=>ow Y<|gT hp)<|Dd<|K5 1 23 24 25 72 Y<|If h Y (fun h=>?_) fun h=>?_
       ·
        refine K0<|Tr<|Ra Y<|Za<|?_
        replace h := lx h ▸ ho1
        obtain rfl := rt h
        exact Zg (Zp Y (.one<|rb Y))
       ·
        exact Ze<|K4 1 23 24 25 Y<|Zs<|R2 ZT Y<|Rm Y<|Za<|⟨_, h, ES []⟩
     ·
      refine Zu<|?_
      replace h := lx h ▸ ho1
      exact ⟨(), h, ES []⟩
    ·
     replace h := elr h
     replace h := t0i h
     refine J0 (fun j => (.inr j)) ⟨[(1, .rp [.int .i64 c_.Den, .sl 72 (List.map R72 c_.Lines), .int .i64 c_.Low, .int .i64 c_.High] 0)], []⟩ h (fun h=>?_) fun h=>?_
     ·
      refine Tr<|Rq Y (Zc (ov Y) ZbB)<|Rq Y (Zb (ov Y) ZgG Y)<|Rl tZ_72 Zej Y<|Rm Y<|Za<|Zf<|?_
      obtain ⟨r2, hl2, ho2⟩ := Qg h
      refine L1 (fun i2=>⟨[(1, .rp [.int .i64 c_.Den, .sl 72 (List.map R72 c_.Lines), .int .i64 c_.Low, .int .i64 c_.High] 0), (75, .sl 72 (List.map R72 c_.Lines)), (76, .int .i64 (c_.Lines.length : Int)), (77, .int .i64 i2)], []⟩) hl2 (ES []) fun n2 i2 h=>?_
      unfold ZP at h
      refine Tr<|R2 ZA Y<|Za<|Zj<|If h Y (fun h=>?_) fun h=>?_
      ·
       refine Ze<|Zj<|Zf<|K4 1 75 76 77 Y<|Tr<|bE h fun x3 h_x3 h=>Rq Y (Zx (ov Y) (ov Y) Zej h_x3)<|Rq Y (Zi (ov Y) Ze2 Y Y)<|Rx Y (Zr (row := [_, _, _, _]) 0 Y ZmM Y tZ_72)<|Rx Y (Zo (ov Y) (ov Y) (Zm Ze2 Y) Y Y Y (Nat.le_of_ble_eq_true Y) (Zd Y) Y)<|Za<|K5 1 6 75 76 77 Y<|Tr<|Rq Y (ZK (ov Y) Y Y Y Ze2 Y Y)<|Rq Y (Zk (ov Y) Y Y Zdh)<|Rq Y (Zn (ov Y) Y Y Y tS3 Y)<|bE h fun y6 h_y6 h=>Rq Y (Zl (ZaF h_y6)<|.cons (ov Y) (.aggB Y)<|.cons (ov Y) (.b Y) .nil)<|bE h fun y7 h_y7 h=>Rq Y (Zl (ZG h_y7)<|.cons (ov Y) (.b Y)<|.cons (ov Y) (.b Y)<|.cons (ov Y) (.b Y) .nil)<|R1 Qa Y<|Rm Y<|Rq Y (.guarded ((!y7) == false) Y Y Y Y fun h => ZK (ov Y) Y Y Y Ze2 Y Y)<|Rq Y (.guarded ((!y7) == false) Y Y Y Y fun h => Zk (ov Y) Y Y Zde)<|Rq Y (.guarded ((!y7) == false) Y Y Y Y fun h => Zn (ow Y h) Y Y Y tS3 Y)<|bE h fun y8 h_y8 h=>Rq Y (.guarded ((!y7) == false) Y Y Y Y fun h => Zl (ZaF<|gdT h_y8 h)<|.cons (ow Y h) (.aggB Y)<|.cons (ow Y h) (.b Y) .nil)<|bE h fun y9 h_y9 h=>Rq Y (.guarded ((!y7) == false) Y Y Y Y fun h => Zl (ZG<|gdT h_y9 h)<|.cons (ow Y h) (.b Y)<|.cons (ov Y) (.b Y)<|.cons (ov Y) (.b Y) .nil)<|Rq Y (.guarded ((!y7) == false) Y Y Y Y fun h => Qa<|ow Y h)<|Rq Y (Qi (ov Y) fun hp=>ow Y<|gF hp)<|Za<|K5 1 75 76 77 94 Y<|If h Y (fun h=>?_) fun h=>?_
       ·
        refine K0<|Tr<|Ra Y<|Za<|?_
        replace h := lx h ▸ ho2
        obtain rfl := rt h
        exact Zg (Zp Y (.one<|rb Y))
       ·
        exact Ze<|K4 1 75 76 77 Y<|Zs<|R2 ZT Y<|Rm Y<|Za<|⟨_, h, ES []⟩
      ·
       refine Zu<|?_
       replace h := lx h ▸ ho2
       exact ⟨(), h, ES []⟩
     ·
      replace h := elr h
      replace h := t0i h
      refine Zj<|Tr<|Rq Y (Zc (ov Y) Zez)<|Rq Y (Zb (ov Y) tS3 Y)<|bE h fun y10 h_y10 h=>Rq Y (Zl (ZG h_y10)<|.cons (ov Y) (.b Y)<|.cons (ov Y) (.b Y)<|.cons (ov Y) (.b Y) .nil)<|R1 Qa Y<|Rm Y<|Rq Y (.guarded ((!y10) == false) Y Y Y Y fun h => Zc (ov Y) ZeA)<|Rq Y (.guarded ((!y10) == false) Y Y Y Y fun h => Zb (ow Y h) tS3 Y)<|bE h fun y11 h_y11 h=>Rq Y (.guarded ((!y10) == false) Y Y Y Y fun h => Zl (ZG<|gdT h_y11 h)<|.cons (ow Y h) (.b Y)<|.cons (ov Y) (.b Y)<|.cons (ov Y) (.b Y) .nil)<|Rq Y (.guarded ((!y10) == false) Y Y Y Y fun h => Qa<|ow Y h)<|Rq Y (Qi (ov Y) fun hp=>ow Y<|gF hp)<|Rm Y<|Rq Y (.guarded (((!y10) || (!y11)) == false) Y Y Y Y fun h => Zc (ov Y) Zez)<|Rq Y (.guarded (((!y10) || (!y11)) == false) Y Y Y Y fun h => Zb (ow Y h) tS3 Y)<|Rq Y (.guarded (((!y10) || (!y11)) == false) Y Y Y Y fun h => Zc (ov Y) ZeA)<|Rq Y (.guarded (((!y10) || (!y11)) == false) Y Y Y Y fun h => Zb (ow Y h) tS3 Y)<|Rq Y (.guarded (((!y10) || (!y11)) == false) Y Y Y Y fun h => Qq (ow Y h)<|ow Y h)<|Rq Y (Qi (ov Y) fun hp=>ow Y<|gF hp)<|Za<|K1 112 Y<|If h Y (fun h=>?_) fun h=>?_
      ·
       refine K0<|Tr<|Ra Y<|Za<|?_
       obtain rfl := rt h
       exact Zg (Zp Y (.one<|rb Y))
      ·
       refine Ze<|K0<|Tr<|Ra Y<|Za<|?_
       obtain rfl := rt h
       exact Zg (Zp Y (.one<|rb Y))
theorem JV {a : Int} {b : Int} {r : Int} (h : Xa a b = some r) :
 CSpec Tryz.prog gl0 27 [.int .i64 a, .int .i64 b] (.int .i64 r) := by
 unfold Xa at h
 replace h := ZS h
 refine So Tryz.func27 Y fun w0 A=>Tr<|Ra Y<|Za<|K2 0 1 Y<|Tr<|Rm Y<|Rm Y<|bE h fun q h_q h=>Rq Y (Ze1 (ov Y) (ov Y) h_q)<|Ra Y<|Za<|Zj<|K3 0 1 5 Y<|Tr<|Rm Y<|Rm Y<|bE h fun q2 h_q2 h=>Rq Y (ZcH (ov Y) (ov Y) h_q2)<|R2 Z4 Y<|Rm Y<|Rq Y (.guarded ((!decide (q2 = 0)) == true) Y Y Y Y fun h => Zh<|ov Y)<|Rq Y (.guarded ((!decide (q2 = 0)) == true) Y Y Y Y fun h => ZA (ow Y h)<|ov Y)<|Rq Y (.guarded ((!decide (q2 = 0)) == true) Y Y Y Y fun h => Zh<|ov Y)<|Rq Y (.guarded ((!decide (q2 = 0)) == true) Y Y Y Y fun h => ZA (ow Y h)<|ov Y)<|Rq Y (.guarded ((!decide (q2 = 0)) == true) Y Y Y Y fun h => Zgp .neq (by simp) (ow Y h) (ow Y h) tB4)<|Rq Y (QC (ov Y) fun hp=>ow Y<|gT hp)<|Za<|K2 5 19 Y<|If h Y (fun h=>?_) fun h=>?_
 ·
  refine K1 5 Y<|Zs<|Rm Y<|R2 ZaI Y<|Ra Y<|Za<|K1 5 Y<|Tr<|Rm Y<|Ra Y<|Za<|?_
  obtain rfl := rt h
  exact Zg (Zp Y (.one<|rb Y))
 ·
  refine Ze<|K1 5 Y<|Tr<|Rm Y<|Ra Y<|Za<|?_
  obtain rfl := rt h
  exact Zg (Zp Y (.one<|rb Y))
theorem ZfD {c_ : api_Calibration} {l : api_Line} {r : Int × Int × Bool} (h : JZ c_ l = some r) :
 CSpec Tryz.prog gl0 26 [.agg [.int .i64 c_.Den, .sl 72 (List.map R72 c_.Lines), .int .i64 c_.Low, .int .i64 c_.High], .agg [.int .i64 l.From, .int .i64 l.To, .int .i64 l.A_, .int .i64 l.B]] (.tuple [.int .i64 r.1, .int .i64 r.2.1, .bool r.2.2]) := by
 unfold JZ at h
 replace h := ZS h
 refine So Tryz.func26 Y fun w0 A=>Tr<|Rq Y (ZD (cva<|ov Y) Y tZ_27 Y)<|Rq Y (ZD (cva<|ov Y) Y tZ_72 Y)<|Ra Y<|Ra Y<|Ra Y<|Za<|K4 2 3 4 5 Y<|Td md0<|Dq 0 Y (Zc (ov Y) Zdh)<|Dq 1 Y (Zb (ov Y) tS3 Y)<|Dq 2 Y (Zc (ov Y) Zde)<|Dq 3 Y (Zb (ov Y) tS3 Y)<|D1 4 Zy Y<|D1 5 Zy Y<|Dd<|J2 (fun j => (.inr j)) (fun low high=>⟨[(4, .int .i64 low), (5, .int .i64 high)], []⟩) h (fun h=>?_) fun low high h=>?_
 ·
  refine Zf<|K4 2 3 4 5 Y<|Tr<|Rq Y (Zc (ov Y) ZbV)<|Rq Y (Zb (ov Y) tS3 Y)<|R2 Qb Y<|Ra Y<|Za<|K5 2 3 4 5 34 Y<|If h Y (fun h=>?_) fun h=>?_
  ·
   refine K4 2 3 4 5 Y<|Tr<|Rm Y<|Rm Y<|Rq Y (Zc (ov Y) ZcM)<|Rq Y (Zb (ov Y) tS3 Y)<|Rq Y (Zc (ov Y) Zez)<|Rq Y (Zb (ov Y) tS3 Y)<|Rq Y (Zc (ov Y) ZeA)<|Rq Y (Zb (ov Y) tS3 Y)<|bE h fun y h_y h=>Rq Y (Zl (ZG h_y)<|.cons (ov Y) (.b Y)<|.cons (ov Y) (.b Y)<|.cons (ov Y) (.b Y) .nil)<|Ra Y<|Ra Y<|Ra Y<|Za<|?_
   obtain rfl := rt h
   exact Zg (Zp Y (.three (rb Y) (rb Y)<|rb Y))
  ·
   refine K4 2 3 4 5 Y<|Tr<|Rq Y (Zc (ov Y) ZbV)<|Rq Y (Zb (ov Y) tS3 Y)<|R2 Qq Y<|Ra Y<|Za<|K5 2 3 4 5 47 Y<|If h Y (fun h=>?_) fun h=>?_
   ·
    exact K4 2 3 4 5 Y<|Zdm (cw := md0) (by kernel_rfl)<|D1 0 Zh Y<|Dq 1 Y (Zc (ov Y) ZcM)<|Dq 2 Y (Zb (ov Y) tS3 Y)<|Dq 3 Y (Zc (ov Y) Zez)<|Dq 4 Y (Zb (ov Y) tS3 Y)<|D2 5 ZaI Y<|Dq 6 Y (Zc (ov Y) ZbV)<|Dq 7 Y (Zb (ov Y) tS3 Y)<|bE h fun y2 h_y2 h=>Dq 8 Y (Zl (JV h_y2)<|.cons (ov Y) (.b Y)<|.cons (ov Y) (.b Y) .nil)<|Dq 9 Y (Zi5 (ov Y) Y)<|Dq 10 Y (Zgh (ov Y) (ov Y) Y)<|D1 11 Zh Y<|Dq 12 Y (Zc (ov Y) ZeA)<|Dq 13 Y (Zb (ov Y) tS3 Y)<|Dq 14 Y (Zc (ov Y) ZcM)<|Dq 15 Y (Zb (ov Y) tS3 Y)<|D2 16 ZaI Y<|Dq 17 Y (Zc (ov Y) ZbV)<|Dq 18 Y (Zb (ov Y) tS3 Y)<|bE h fun y3 h_y3 h=>Dq 19 Y (Zl (JV h_y3)<|.cons (ov Y) (.b Y)<|.cons (ov Y) (.b Y) .nil)<|Dq 20 Y (Zkm (ov Y) (ov Y) Y)<|D1 21 Zy Y<|D1 22 Zy Y<|Dd<|⟨_, h, ES []⟩
   ·
    exact K4 2 3 4 5 Y<|Zdm (cw := md0) (by kernel_rfl)<|D1 0 Zh Y<|Dq 1 Y (Zc (ov Y) ZeA)<|Dq 2 Y (Zb (ov Y) tS3 Y)<|Dq 3 Y (Zc (ov Y) ZcM)<|Dq 4 Y (Zb (ov Y) tS3 Y)<|D2 5 ZaI Y<|Dq 6 Y (Zc (ov Y) ZbV)<|Dq 7 Y (Zb (ov Y) tS3 Y)<|Dq 8 Y (Zi5 (ov Y) Y)<|bE h fun y4 h_y4 h=>Dq 9 Y (Zl (JV h_y4)<|.cons (ov Y) (.b Y)<|.cons (ov Y) (.b Y) .nil)<|Dq 10 Y (Zi5 (ov Y) Y)<|Dq 11 Y (Zgh (ov Y) (ov Y) Y)<|D1 12 Zh Y<|Dq 13 Y (Zc (ov Y) ZcM)<|Dq 14 Y (Zb (ov Y) tS3 Y)<|Dq 15 Y (Zc (ov Y) Zez)<|Dq 16 Y (Zb (ov Y) tS3 Y)<|D2 17 ZaI Y<|Dq 18 Y (Zc (ov Y) ZbV)<|Dq 19 Y (Zb (ov Y) tS3 Y)<|Dq 20 Y (Zi5 (ov Y) Y)<|bE h fun y5 h_y5 h=>Dq 21 Y (Zl (JV h_y5)<|.cons (ov Y) (.b Y)<|.cons (ov Y) (.b Y) .nil)<|Dq 22 Y (Zkm (ov Y) (ov Y) Y)<|D1 23 Zy Y<|D1 24 Zy Y<|Dd<|⟨_, h, ES []⟩
 ·
  replace h := elr h
  replace h := t2i h
  refine Tr<|Rm Y<|Rm Y<|Rm Y<|Rm Y<|R2 ZbO Y<|Ra Y<|Ra Y<|Ra Y<|Za<|?_
  obtain rfl := rt h
  exact Zg (Zp Y (.three (rb Y) (rb Y)<|rb Y))
theorem ZiA {n : Int} {r : Int} (h : Zc4 n = some r) :
 CSpec Tryz.prog gl0 28 [.int .i64 n] (.int .i64 r) := by
 unfold Zc4 at h
 replace h := ZS h
 refine So Tryz.func28 Y fun w0 A=>Tr<|Ra Y<|Za<|Tr<|Rm Y<|Rm Y<|Rq Y (Zi5 (ov Y) Y)<|Rq Y (Zgh (ov Y) (ov Y) Y)<|Ra Y<|Za<|?_
 obtain rfl := rt h
 exact Zg (Zp Y (.one<|rb Y))
theorem Zc5 {c_ : api_Calibration} {n : Int} {r : Int × Int} (h : series_Nearest c_ n = some r) :
 CSpec Tryz.prog gl0 10 [.agg [.int .i64 c_.Den, .sl 72 (List.map R72 c_.Lines), .int .i64 c_.Low, .int .i64 c_.High], .int .i64 n] (.tuple [.int .i64 r.1, .int .i64 r.2]) := by
 unfold series_Nearest at h
 replace h := ZS h
 refine So Tryz.func10 Y fun w0 A=>Tr<|Rq Y (ZD (cva<|ov Y) Y tZ_27 Y)<|Ra Y<|Ra Y<|Za<|Zj<|K2 1 2 Y<|Tr<|Rq Y (Zi (ov Y) ZgH Y Y)<|bE h fun y h_y h=>Rq Y (Zl (XL h_y)<|.cons (ov Y) (.aggB Y) .nil)<|Ra Y<|Za<|K3 1 2 6 Y<|Tr<|Rm Y<|R2 Z4 Y<|Za<|K4 1 2 6 21 Y<|If h Y (fun h=>?_) fun h=>?_
 ·
  refine K1 6 Y<|Tr<|Rm Y<|Ra Y<|Ra Y<|Za<|?_
  obtain rfl := rt h
  exact Zg (Zp Y (.two (rb Y)<|rb Y))
 ·
  refine Ze<|Zj<|K2 1 2 Y<|Tr<|Rm Y<|bE h fun y2 h_y2 h=>Rq Y (Zl (ZG h_y2)<|.cons (ov Y) (.b Y)<|.cons (ov Y) (.b Y)<|.cons (ov Y) (.b Y) .nil)<|R1 Qa Y<|Za<|K3 1 2 25 Y<|If h Y (fun h=>?_) fun h=>?_
  ·
   refine K0<|Tr<|Ra Y<|Ra Y<|Za<|?_
   obtain rfl := rt h
   exact Zg (Zp Y (.two (rb Y)<|rb Y))
  ·
   refine Ze<|K2 1 2 Y<|Tr<|Ra Y<|Ra Y<|Za<|I2 (fun best least=>⟨[(7, .int .i64 best), (8, .int .i64 least)], []⟩) h (fun h=>?_) fun best least h=>?_
   ·
    refine Tr<|Rq Y (Zc (ov Y) ZbB)<|Rq Y (Zb (ov Y) ZgG Y)<|Rl tZ_72 Zej Y<|Rm Y<|Za<|Zf<|?_
    obtain ⟨r1, hl1, ho1⟩ := Qg h
    refine L3 (fun best2 least2 i=>⟨[(1, .int .i64 n), (2, .rp [.int .i64 c_.Den, .sl 72 (List.map R72 c_.Lines), .int .i64 c_.Low, .int .i64 c_.High] 0), (7, .int .i64 best2), (8, .int .i64 least2), (27, .sl 72 (List.map R72 c_.Lines)), (28, .int .i64 (c_.Lines.length : Int)), (29, .int .i64 i)], []⟩) hl1 (ES []) fun n1 best2 least2 i h=>?_
    unfold Xs at h
    refine Tr<|R2 ZA Y<|Za<|Zj<|If h Y (fun h=>?_) fun h=>?_
    ·
     refine Ze<|I2 (fun best3 least3=>⟨[(1, .int .i64 n), (2, .rp [.int .i64 c_.Den, .sl 72 (List.map R72 c_.Lines), .int .i64 c_.Low, .int .i64 c_.High] 0), (7, .int .i64 best3), (8, .int .i64 least3), (27, .sl 72 (List.map R72 c_.Lines)), (28, .int .i64 (c_.Lines.length : Int)), (29, .int .i64 i)], []⟩) h (fun h=>?_) fun best3 least3 h=>?_
     ·
      refine Zf<|K7 1 2 7 8 27 28 29 Y<|Tr<|bE h fun x h_x h=>Rq Y (Zx (ov Y) (ov Y) Zej h_x)<|Rq Y (Zi (ov Y) Ze2 Y Y)<|Rx Y (Zr (row := [_, _, _, _]) 0 Y ZmM Y tZ_72)<|Rx Y (Zo (ov Y) (ov Y) (Zm Ze2 Y) Y Y Y (Nat.le_of_ble_eq_true Y) (Zd Y) Y)<|Za<|K8 1 2 7 8 10 27 28 29 Y<|Tr<|Rq Y (Zi (ov Y) ZgH Y Y)<|Rq Y (ZK (ov Y) Y Y Y Ze2 Y Y)<|bE h fun y3 h_y3 h=>Rq Y (Zl (ZfD h_y3)<|.cons (ov Y) (.aggB Y)<|.cons (ov Y) (.aggB Y) .nil)<|Rm Y<|Rq Y (Zq (ov Y) Y)<|Rq Y (Zq (ov Y) Y)<|Rq Y (Zq (ov Y) Y)<|Ra Y<|Ra Y<|Ra Y<|Za<|Zj<|K11 1 2 7 8 10 11 12 13 27 28 29 Y<|Tr<|Rm Y<|R1 Qa Y<|Za<|K11 1 2 7 8 10 11 12 27 28 29 41 Y<|If h Y (fun h=>?_) fun h=>?_
      ·
       exact Zu<|⟨_, h, ES []⟩
      ·
       refine Ze<|K10 1 2 7 8 10 11 12 27 28 29 Y<|Tr<|Rm Y<|Ra Y<|Za<|I1 (fun at_=>⟨[(1, .int .i64 n), (2, .rp [.int .i64 c_.Den, .sl 72 (List.map R72 c_.Lines), .int .i64 c_.Low, .int .i64 c_.High] 0), (7, .int .i64 best2), (8, .int .i64 least2), (10, .ptr 0 1 0 0), (11, .int .i64 y3.1), (12, .int .i64 y3.2.1), (14, .int .i64 at_), (27, .sl 72 (List.map R72 c_.Lines)), (28, .int .i64 (c_.Lines.length : Int)), (29, .int .i64 i)], [some ⟨72, [[.int .i64 x.From, .int .i64 x.To, .int .i64 x.A_, .int .i64 x.B]]⟩]⟩) h (fun h=>?_) fun at_ h=>?_
       ·
        refine K11 1 2 7 8 10 11 12 14 27 28 29 Y<|Tr<|Rq Y (Zk (ov Y) Y Y ZbV)<|Rq Y (Zn (ov Y) Y Y Y tS3 Y)<|R2 Z4 Y<|Za<|K12 1 2 7 8 10 11 12 14 27 28 29 45 Y<|If h Y (fun h=>?_) fun h=>?_
        ·
         exact K11 1 2 7 8 10 11 12 14 27 28 29 Y<|Zs<|Rm Y<|Rq Y (Zk (ov Y) Y Y ZcM)<|Rq Y (Zn (ov Y) Y Y Y tS3 Y)<|R2 ZaI Y<|Rq Y (Zk (ov Y) Y Y ZbV)<|Rq Y (Zn (ov Y) Y Y Y tS3 Y)<|bE h fun y4 h_y4 h=>Rq Y (Zl (JV h_y4)<|.cons (ov Y) (.b Y)<|.cons (ov Y) (.b Y) .nil)<|Ra Y<|Za<|⟨_, h, ES [some 0]⟩
        ·
         exact Ze<|⟨_, h, ES [some 0]⟩
       ·
        refine Tr<|Rm Y<|Rm Y<|Rq Y (Zgh (ov Y) (ov Y) Y)<|Rm Y<|Rq Y (Zkm (ov Y) (ov Y) Y)<|Rm Y<|R2 ZT Y<|Rm Y<|Rq Y (Zgh (ov Y) (ov Y) Y)<|Rm Y<|Rq Y (Zkm (ov Y) (ov Y) Y)<|R_q (.agg<|List.map C3 (#v[(min (max at_ y3.1) y3.2.1), (min (max (i64 (at_ + 1)) y3.1) y3.2.1)] : Vector Int 2).toList) Y (Zey (ys := [_, _]) Zr0 Zsc (.cons (cvs (ov Y)<|Zt Y)<|.cons (cvs (ov Y)<|Zt Y) .nil) Y)<|Rm Y<|Za<|Zf<|?_
        obtain ⟨r2, hl2, ho2⟩ := Qg h
        refine L3 (fun best4 least4 i2=>⟨[(1, .int .i64 n), (2, .rp [.int .i64 c_.Den, .sl 72 (List.map R72 c_.Lines), .int .i64 c_.Low, .int .i64 c_.High] 0), (7, .int .i64 best4), (8, .int .i64 least4), (10, .ptr 0 1 0 0), (27, .sl 72 (List.map R72 c_.Lines)), (28, .int .i64 (c_.Lines.length : Int)), (29, .int .i64 i), (64, .agg (List.map C3 (#v[(min (max at_ y3.1) y3.2.1), (min (max (i64 (at_ + 1)) y3.1) y3.2.1)] : Vector Int 2).toList)), (65, .int .i64 i2)], [some ⟨72, [[.int .i64 x.From, .int .i64 x.To, .int .i64 x.A_, .int .i64 x.B]]⟩]⟩) hl2 (ES [some 0]) fun n2 best4 least4 i2 h=>?_
        unfold QM at h
        refine Tr<|R2 ZA Y<|Za<|Zj<|If h Y (fun h=>?_) fun h=>?_
        ·
         refine Ze<|Zj<|Zf<|K10 1 2 7 8 10 27 28 29 64 65 Y<|Tr<|bE h fun x2 h_x2 h=>Rq Y (Zjg (ov Y) (ov Y) Zr0 tS3 h_x2)<|Ra Y<|Za<|K11 1 2 7 8 10 16 27 28 29 64 65 Y<|Tr<|Rq Y (ZK (ov Y) Y Y Y Ze2 Y Y)<|Rm Y<|bE h fun y5 h_y5 h=>Rq Y (Zl (ZaF h_y5)<|.cons (ov Y) (.aggB Y)<|.cons (ov Y) (.b Y) .nil)<|Rm Y<|R2 ZaI Y<|bE h fun y6 h_y6 h=>Rq Y (Zl (ZiA h_y6)<|.cons (ov Y) (.b Y) .nil)<|Ra Y<|Za<|K12 1 2 7 8 10 16 17 27 28 29 64 65 Y<|Tr<|Rm Y<|R2 ZA Y<|Rm Y<|Rq Y (.guarded ((decide (least4 < 0)) == false) Y Y Y Y fun h => Zh<|ov Y)<|Rq Y (.guarded ((decide (least4 < 0)) == false) Y Y Y Y fun h => Zh<|ov Y)<|Rq Y (.guarded ((decide (least4 < 0)) == false) Y Y Y Y fun h => ZA (ow Y h)<|ow Y h)<|Rq Y (Qi (ov Y) fun hp=>ow Y<|gF hp)<|Za<|Qf (kc 1 Y<|kc 2 Y<|kc 7 Y<|kc 8 Y<|kc 10 Y<|kc 16 Y<|kc 17 Y<|kc 27 Y<|kc 28 Y<|kc 29 Y<|kc 64 Y<|kc 65 Y<|kc 80 Y kn) Y<|If h Y (fun h=>?_) fun h=>?_
         ·
          exact K12 1 2 7 8 10 16 17 27 28 29 64 65 Y<|Zs<|Rm Y<|Rm Y<|Ra Y<|Ra Y<|Za<|K10 1 2 7 8 10 27 28 29 64 65 Y<|Zs<|R2 ZT Y<|Rm Y<|Za<|⟨_, h, ES [some 0]⟩
         ·
          exact Ze<|K10 1 2 7 8 10 27 28 29 64 65 Y<|Zs<|R2 ZT Y<|Rm Y<|Za<|⟨_, h, ES [some 0]⟩
        ·
         refine Zu<|?_
         replace h := lx h ▸ ho2
         exact ⟨_, h, ES []⟩
     ·
      exact Zs<|R2 ZT Y<|Rm Y<|Za<|⟨_, h, ES []⟩
    ·
     refine Zu<|?_
     replace h := lx h ▸ ho1
     exact ⟨_, h, ES []⟩
   ·
    refine Zj<|Tr<|Rm Y<|R2 ZA Y<|Za<|K2 7 86 Y<|If h Y (fun h=>?_) fun h=>?_
    ·
     refine K0<|Tr<|Ra Y<|Ra Y<|Za<|?_
     obtain rfl := rt h
     exact Zg (Zp Y (.two (rb Y)<|rb Y))
    ·
     refine Ze<|K1 7 Y<|Tr<|Rm Y<|Ra Y<|Ra Y<|Za<|?_
     obtain rfl := rt h
     exact Zg (Zp Y (.two (rb Y)<|rb Y))
theorem Zip {m : api_Map} {l : List Int} {r : (Vector (List Int) 16) × Int} (h : Zca m l = some r) :
 CSpec Tryz.prog gl0 30 [.agg [.int .i64 m.Version, .sl 41 (List.map R41 m.Params)], .sl 3 (List.map R3 l)] (.tuple [.agg (List.map C28 r.1.toList), .int .i64 r.2]) := by
 unfold Zca at h
 replace h := ZS h
 refine So Tryz.func30 Y fun w0 A=>Tr<|Rq Y (ZD (cva<|ov Y) Y tZ_24 Y)<|Rx Y (Zr (row := [_, _, _, _, _, _, _, _, _, _, _, _, _, _, _, _]) 0 Y ZpE Y tZ_84)<|Ra Y<|Za<|K3 1 2 4 Y<|Tr<|Rx Y (Zr (row := [_, _, _, _, _, _, _, _, _, _, _, _, _, _, _, _]) 1 Y ZpE Y tZ_84)<|Rx Y (Zr (row := [_, _, _, _, _, _, _, _, _, _, _, _, _, _, _, _]) 2 Y ZpE Y tZ_84)<|Za<|Zj<|Tr<|Rq Y (Zi (ov Y) Zfk Y Y)<|bE h fun y h_y h=>Rq Y (Zl (Zci h_y)<|.cons (ov Y) (.aggB Y) .nil)<|Rm Y<|Rq Y (Zq (ov Y) Y)<|Rq Y (Zq (ov Y) Y)<|Ra Y<|Ra Y<|Za<|K6 1 2 4 6 7 9 Y<|Tr<|Rm Y<|R2 Z4 Y<|Za<|K7 1 2 4 6 7 9 25 Y<|If h Y (fun h=>?_) fun h=>?_
 ·
  refine K3 4 7 9 Y<|Tr<|Rq Y (ZK (ov Y) Y Y Y ZgO Y Y)<|Rm Y<|Rx Y (Zo (ov Y) (ov Y) (Zm ZgO Y) Y Y Y (Nat.le_of_ble_eq_true Y) (Zd Y) Y)<|Ra Y<|Za<|?_
  obtain rfl := rt h
  exact Zg (Zp Y (.two (.agg Y Y Y Y ZgO Y Y<|pwZ (m := 16) (f := C28) Y Y)<|rb Y))
 ·
  refine Ze<|K5 1 2 4 6 7 Y<|Tr<|Rq Y (Zi (ov Y) Zfk Y Y)<|bE h fun y2 h_y2 h=>Rq Y (Zl (Zd8 h_y2)<|.cons (ov Y) (.aggB Y) .nil)<|Ra Y<|Za<|Zj<|K6 1 2 4 6 7 10 Y<|Tr<|Rm Y<|Rl tZ_3 XX Y<|Rm Y<|Rl tZ_44 Za7 Y<|R2 Z4 Y<|Za<|K7 1 2 4 6 7 10 34 Y<|If h Y (fun h=>?_) fun h=>?_
  ·
   refine K2 4 7 Y<|Tr<|Rq Y (ZK (ov Y) Y Y Y ZgO Y Y)<|Rx Y (Zo (ov Y) (ov Y) (Zm ZgO Y) Y Y Y (Nat.le_of_ble_eq_true Y) (Zd Y) Y)<|Ra Y<|Za<|?_
   obtain rfl := rt h
   exact Zg (Zp Y (.two (.agg Y Y Y Y ZgO Y Y<|pwZ (m := 16) (f := C28) Y Y)<|rb Y))
  ·
   refine Ze<|I1 (fun out=>⟨[(1, .sl 3 (List.map R3 l)), (2, .rp [.int .i64 m.Version, .sl 41 (List.map R41 m.Params)] 0), (4, .ptr 0 1 0 0), (6, .ptr 1 1 0 0), (7, .ptr 2 1 0 0), (10, .sl 44 (List.map R44 y2))], [some ⟨84, [[.nils, .nils, .nils, .nils, .nils, .nils, .nils, .nils, .nils, .nils, .nils, .nils, .nils, .nils, .nils, .nils]]⟩, some ⟨84, [(List.map (osF 3 R3) out.toList)]⟩, some ⟨84, [[.nils, .nils, .nils, .nils, .nils, .nils, .nils, .nils, .nils, .nils, .nils, .nils, .nils, .nils, .nils, .nils]]⟩]⟩) h (fun h=>?_) fun out h=>?_
   ·
    refine K6 1 2 4 6 7 10 Y<|Tr<|Rm Y<|Za<|Zf<|?_
    obtain ⟨r1, hl1, ho1⟩ := Qg h
    refine L2 (fun out2 i=>⟨[(1, .sl 3 (List.map R3 l)), (2, .rp [.int .i64 m.Version, .sl 41 (List.map R41 m.Params)] 0), (4, .ptr 0 1 0 0), (6, .ptr 1 1 0 0), (7, .ptr 2 1 0 0), (10, .sl 44 (List.map R44 y2)), (36, .int .i64 i)], [some ⟨84, [[.nils, .nils, .nils, .nils, .nils, .nils, .nils, .nils, .nils, .nils, .nils, .nils, .nils, .nils, .nils, .nils]]⟩, some ⟨84, [(List.map (osF 3 R3) out2.toList)]⟩, some ⟨84, [[.nils, .nils, .nils, .nils, .nils, .nils, .nils, .nils, .nils, .nils, .nils, .nils, .nils, .nils, .nils, .nils]]⟩]⟩) hl1 (ES [some 0, some 1, some 2] (hhp := .cons Y (ZeG (by exact tZ_84.symm) Y)<|.cons Y (Zr7 Y tZ_84)<|.cons Y (ZeG (by exact tZ_84.symm) Y) .nil)) fun n1 out2 i h=>?_
    unfold Zau at h
    refine Tr<|R2 ZA Y<|Za<|Zj<|If h Y (fun h=>?_) fun h=>?_
    ·
     exact Ze<|Zj<|Zf<|K7 1 2 4 6 7 10 36 Y<|Tr<|Rm Y<|Ra Y<|Za<|K8 1 2 4 6 7 10 11 36 Y<|Tr<|Rm Y<|bE h fun l2 h_l2 h=>Rx Y (ZlZ [none] (r := 3) (f := R3) (z0 := 0) Y (ov Y) (ov Y) XX Y tZ3 Y Y h_l2)<|bE h fun x h_x h=>Rq Y (XM (ov Y) (ov Y) Zpc Y Y h_x)<|Rx Y (Zo (ov Y) (ov Y) (ZL Zo9) Y Y Y (arB h_x) (Zd Y)<|Zrf h_x)<|Zfy (Ent.absorbA (r := 1) (q := 3) Y h_x Y Y Y)<|Za<|K8 1 2 4 6 7 10 11 36 Y<|bE h fun l3 h_l3 h=>Zl9 (Ent.focusA (r := 1) Y h_l3 D3)<|Zdm (cw := md0) (by kernel_rfl)<|D1 0 Zh Y<|bE h fun x2 h_x2 h=>Dq 1 Y (XM (ov Y) (ov Y) Zpc Y Y h_x2)<|Dq 2 Y (Zn (ov Y) Y Y Y Zo9<|Znt h_l3)<|Dq 3 Y (Zc (ov Y) ZjY)<|Dq 4 Y (Zb (ov Y) tS3 Y)<|bE h fun x3 h_x3 h=>Dq 5 Y (Zdq (ov Y) (ov Y) XX Y Y h_x3)<|Do 6 Y (Zen (u' := m.Version) (ov Y) (ov Y) (ZL tS3) Y Y h_x3 Y (Zd Y) Y)<|Zmt (by kernel_rfl) (Ent.absorbA (r := 1) (q := 4) Y h_l3 Y ((List.length_set ..).trans Y) Y)<|K7 1 2 4 6 7 10 36 Y<|Zs<|R2 ZT Y<|Rm Y<|Za<|⟨_, h, ES [some 0, some 1, some 2] (hhp := .cons Y (ZeG (by exact tZ_84.symm) Y)<|.cons Y (Zj8 tZ_84 D3)<|.cons Y (ZeG (by exact tZ_84.symm) Y) .nil)⟩
    ·
     refine Zu<|?_
     replace h := lx h ▸ ho1
     exact ⟨_, h, ES [some 0, some 1, some 2] (hhp := .cons Y (ZeG (by exact tZ_84.symm) Y)<|.cons Y (Zj8 tZ_84 D3)<|.cons Y (ZeG (by exact tZ_84.symm) Y) .nil)⟩
   ·
    refine J1 (fun j => (.inr j)) (fun out3=>⟨[(4, .ptr 0 1 0 0), (6, .ptr 1 1 0 0)], [some ⟨84, [[.nils, .nils, .nils, .nils, .nils, .nils, .nils, .nils, .nils, .nils, .nils, .nils, .nils, .nils, .nils, .nils]]⟩, some ⟨84, [(List.map (osF 3 R3) out3.toList)]⟩]⟩) h (fun h=>?_) fun out3 h=>?_
    ·
     refine Tr<|Rm Y<|Rl tZ_44 Za7 Y<|Rm Y<|Za<|Zf<|?_
     obtain ⟨r2, hl2, ho2⟩ := Qg h
     refine L2 (fun out4 i2=>⟨[(1, .sl 3 (List.map R3 l)), (2, .rp [.int .i64 m.Version, .sl 41 (List.map R41 m.Params)] 0), (4, .ptr 0 1 0 0), (6, .ptr 1 1 0 0), (7, .ptr 2 1 0 0), (49, .sl 44 (List.map R44 y2)), (50, .int .i64 (y2.length : Int)), (51, .int .i64 i2)], [some ⟨84, [[.nils, .nils, .nils, .nils, .nils, .nils, .nils, .nils, .nils, .nils, .nils, .nils, .nils, .nils, .nils, .nils]]⟩, some ⟨84, [(List.map (osF 3 R3) out4.toList)]⟩, some ⟨84, [[.nils, .nils, .nils, .nils, .nils, .nils, .nils, .nils, .nils, .nils, .nils, .nils, .nils, .nils, .nils, .nils]]⟩]⟩) hl2 (ES [some 0, some 1, some 2] (hhp := .cons Y (ZeG (by exact tZ_84.symm) Y)<|.cons Y (Zj8 tZ_84 D3)<|.cons Y (ZeG (by exact tZ_84.symm) Y) .nil)) fun n2 out4 i2 h=>?_
     unfold Jz at h
     refine Tr<|R2 ZA Y<|Za<|Zj<|If h Y (fun h=>?_) fun h=>?_
     ·
      refine Ze<|J1 (fun j => (.inr j)) (fun out5=>⟨[(1, .sl 3 (List.map R3 l)), (2, .rp [.int .i64 m.Version, .sl 41 (List.map R41 m.Params)] 0), (4, .ptr 0 1 0 0), (6, .ptr 1 1 0 0), (7, .ptr 2 1 0 0), (49, .sl 44 (List.map R44 y2)), (50, .int .i64 (y2.length : Int)), (51, .int .i64 i2)], [some ⟨84, [[.nils, .nils, .nils, .nils, .nils, .nils, .nils, .nils, .nils, .nils, .nils, .nils, .nils, .nils, .nils, .nils]]⟩, some ⟨84, [(List.map (osF 3 R3) out5.toList)]⟩, some ⟨84, [[.nils, .nils, .nils, .nils, .nils, .nils, .nils, .nils, .nils, .nils, .nils, .nils, .nils, .nils, .nils, .nils]]⟩]⟩) h (fun h=>?_) fun out5 h=>?_
      ·
       refine Zf<|K8 1 2 4 6 7 49 50 51 Y<|Tr<|Rm Y<|bE h fun x4 h_x4 h=>Rq Y (Zx (ov Y) (ov Y) Za7 h_x4)<|Rq Y (Zi (ov Y) Zeu Y Y)<|Rx Y (Zr (row := [_, _, _, _]) 3 Y ZiO Y tZ_44)<|Ra Y<|Rx Y (Zo (ov Y) (ov Y) (Zm Zeu Y) Y Y Y (Nat.le_of_ble_eq_true Y) (Zd Y) Y)<|Za<|K10 1 2 4 6 7 12 13 49 50 51 Y<|Tr<|Rq Y (Zc (ov Y) Jp)<|Rq Y (Zb (ov Y) ZdK Y)<|Rq Y (Zk (ov Y) Y Y Zjy)<|Rq Y (Zn (ov Y) Y Y Y tS3 Y)<|bE h fun x5 h_x5 h=>Rq Y (Zx (ov Y) (ov Y) ZaT h_x5)<|Rq Y (Zi (ov Y) QW Y Y)<|bE h fun y3 h_y3 h=>Rq Y (Zl (Za8 h_y3)<|.cons (ov Y) (.aggB Y) .nil)<|Rx Y (Zr (row := [_, _, _, _]) 4 Y Zgo Y tZ_77)<|Rx Y (Zo (ov Y) (ov Y) (Zm ZbP Y) Y Y Y (Nat.le_of_ble_eq_true Y) (Zd Y) Y)<|Za<|Zj<|K11 1 2 4 6 7 12 13 14 49 50 51 Y<|Td md0<|D1 0 Zh Y<|D1 1 Zh Y<|bE h fun x6 h_x6 h=>Dq 2 Y (Zx (ov Y) (ov Y) XX h_x6)<|Dq 3 Y (Zb (ov Y) tS3 Y)<|Dq 4 Y (Zk (ov Y) Y Y Zox)<|Dq 5 Y (Zn (ov Y) Y Y Y tS3 Y)<|Dq 6 Y (Zk (ov Y) Y Y Zov)<|Dq 7 Y (Zn (ov Y) Y Y Y tS3 Y)<|bE h fun y4 h_y4 h=>Dq 8 Y (Zl (Qh h_y4)<|.cons (ov Y) (.b Y)<|.cons (ov Y) (.b Y)<|.cons (ov Y) (.b Y) .nil)<|D1 9 Qa Y<|Dd<|K12 1 2 4 6 7 12 13 14 49 50 51 72 Y<|If h Y (fun h=>?_) fun h=>?_
       ·
        refine K2 4 7 Y<|Tr<|Rq Y (ZK (ov Y) Y Y Y ZgO Y Y)<|Rx Y (Zo (ov Y) (ov Y) (Zm ZgO Y) Y Y Y (Nat.le_of_ble_eq_true Y) (Zd Y) Y)<|Ra Y<|Za<|?_
        replace h := lx h ▸ ho2
        obtain rfl := rt h
        exact Zg (Zp Y (.two (.agg Y Y Y Y ZgO Y Y<|pwZ (m := 16) (f := C28) Y Y)<|rb Y))
       ·
        refine Ze<|K11 1 2 4 6 7 12 13 14 49 50 51 Y<|Td md0<|Dq 0 Y (Zk (ov Y) Y Y ZqU)<|Dq 1 Y (Zn (ov Y) Y Y Y Zqx Y)<|D1 2 Zh Y<|D1 3 Zh Y<|bE h fun x7 h_x7 h=>Dq 4 Y (Zx (ov Y) (ov Y) XX h_x7)<|Dq 5 Y (Zb (ov Y) tS3 Y)<|bE h fun y5 h_y5 h=>Dq 6 Y (Zam (ov Y) (((Jn h_y3).1)).1 ((((Jn h_y3).1)).2 _ _ h_y5)<|.cons (ov Y) (.b Y) .nil)<|Dq 7 Y (Zc (ov Y) Jp)<|Dq 8 Y (Zb (ov Y) ZdK Y)<|Dq 9 Y (Zk (ov Y) Y Y Zjy)<|Dq 10 Y (Zn (ov Y) Y Y Y tS3 Y)<|bE h fun x8 h_x8 h=>Dq 11 Y (Zx (ov Y) (ov Y) ZaT h_x8)<|Dq 12 Y (Zi (ov Y) QW Y Y)<|bE h fun y6 h_y6 h=>Dq 13 Y (Zl (ZaD h_y6)<|.cons (ov Y) (.aggB Y) .nil)<|D1 14 Zy Y<|D1 15 Zy Y<|Dd<|K11 1 2 4 6 7 13 15 16 49 50 51 Y<|Tr<|Rq Y (Zk (ov Y) Y Y ZdW)<|Rq Y (Zn (ov Y) Y Y Y Zjz Y)<|Rl tZ_117 ZhC Y<|Rm Y<|Za<|Zf<|?_
        obtain ⟨r3, hl3, ho3⟩ := bnd h
        refine L3 (fun out6 left i3=>⟨[(1, .sl 3 (List.map R3 l)), (2, .rp [.int .i64 m.Version, .sl 41 (List.map R41 m.Params)] 0), (4, .ptr 0 1 0 0), (6, .ptr 1 1 0 0), (7, .ptr 2 1 0 0), (15, .int .i64 y5), (16, .int .i64 left), (49, .sl 44 (List.map R44 y2)), (50, .int .i64 (y2.length : Int)), (51, .int .i64 i2), (89, .sl 117 (List.map R117 x4.Places)), (90, .int .i64 (x4.Places.length : Int)), (91, .int .i64 i3)], [some ⟨84, [[.nils, .nils, .nils, .nils, .nils, .nils, .nils, .nils, .nils, .nils, .nils, .nils, .nils, .nils, .nils, .nils]]⟩, some ⟨84, [(List.map (osF 3 R3) out6.toList)]⟩, some ⟨84, [[.nils, .nils, .nils, .nils, .nils, .nils, .nils, .nils, .nils, .nils, .nils, .nils, .nils, .nils, .nils, .nils]]⟩]⟩) hl3 (ES [some 0, some 1, some 2] (hhp := .cons Y (ZeG (by exact tZ_84.symm) Y)<|.cons Y (Zj8 tZ_84 D3)<|.cons Y (ZeG (by exact tZ_84.symm) Y) .nil)) fun n3 out6 left i3 h=>?_
        unfold Zap at h
        refine Tr<|R2 ZA Y<|Za<|Zj<|If h Y (fun h=>?_) fun h=>?_
        ·
         exact Ze<|Zj<|Zf<|Qf (kc 1 Y<|kc 2 Y<|kc 4 Y<|kc 6 Y<|kc 7 Y<|kc 15 Y<|kc 16 Y<|kc 49 Y<|kc 50 Y<|kc 51 Y<|kc 89 Y<|kc 90 Y<|kc 91 Y kn) Y<|Tr<|bE h fun x9 h_x9 h=>Rq Y (Zx (ov Y) (ov Y) ZhC h_x9)<|Rq Y (Zi (ov Y) Zeq Y Y)<|Rx Y (Zr (row := [_, _, _, _]) 3 Y Zh1 Y tZ_117)<|Rx Y (Zo (ov Y) (ov Y) (Zm Zeq Y) Y Y Y (Nat.le_of_ble_eq_true Y) (Zd Y) Y)<|Za<|Qf (kc 1 Y<|kc 2 Y<|kc 4 Y<|kc 6 Y<|kc 7 Y<|kc 15 Y<|kc 16 Y<|kc 18 Y<|kc 49 Y<|kc 50 Y<|kc 51 Y<|kc 89 Y<|kc 90 Y<|kc 91 Y kn) Y<|Tr<|Rm Y<|Rq Y (Zk (ov Y) Y Y Ze8)<|Rq Y (Zn (ov Y) Y Y Y tS3 Y)<|R2 ZaI Y<|Ra Y<|Za<|Qf (kc 1 Y<|kc 2 Y<|kc 4 Y<|kc 6 Y<|kc 7 Y<|kc 15 Y<|kc 16 Y<|kc 18 Y<|kc 49 Y<|kc 50 Y<|kc 51 Y<|kc 89 Y<|kc 90 Y<|kc 91 Y kn) Y<|bE h fun l4 h_l4 h=>Zl9 (Ent.focusA (r := 1) Y h_l4 D3)<|Zdm (cw := md0) (by kernel_rfl)<|Dq 0 Y (Zk (ov Y) Y Y ZhU)<|Dq 1 Y (Zn (ov Y) Y Y Y tS3 Y)<|bE h fun x10 h_x10 h=>Dq 2 Y (XM (ov Y) (ov Y) Zpc Y Y h_x10)<|Dq 3 Y (Zn (ov Y) Y Y Y Zo9<|Znt h_l4)<|Dq 4 Y (Zk (ov Y) Y Y ZgJ)<|Dq 5 Y (Zn (ov Y) Y Y Y tS3 Y)<|D2 6 ZaI Y<|bE h fun x11 h_x11 h=>Dq 7 Y (Zdq (ov Y) (ov Y) XX Y Y h_x11)<|Dq 8 Y (Ziz (ov Y) Y Y h_x11 tS3 Y)<|D1 9 Zh Y<|D1 10 Zh Y<|bE h fun q h_q h=>Dq 11 Y (ZfF (ov Y) (ov Y) h_q)<|Dq 12 Y (Zk (ov Y) Y Y Ze8)<|Dq 13 Y (Zn (ov Y) Y Y Y tS3 Y)<|bE h fun q2 h_q2 h=>Dq 14 Y (ZcK (ov Y) (ov Y) h_q2)<|D2 15 ZaI Y<|D2 16 Zcj Y<|Dq 17 Y (Zk (ov Y) Y Y Zgc)<|Dq 18 Y (Zn (ov Y) Y Y Y tS3 Y)<|bE h fun q3 h_q3 h=>Dq 19 Y (ZcK (ov Y) (ov Y) h_q3)<|D2 20 Zjf Y<|bE h fun x12 h_x12 h=>Dq 21 Y (Zdq (ov Y) (ov Y) XX Y Y h_x12)<|Do 22 Y (Zen (u' := (bor .i64 x11 q3)) (ov Y) (ov Y) (ZL tS3) Y Y h_x12 Y (Zd Y) Y)<|Zmt (by kernel_rfl) (Ent.absorbA (r := 1) (q := 4) Y h_l4 Y ((List.length_set ..).trans Y) Y)<|Qf (kc 1 Y<|kc 2 Y<|kc 4 Y<|kc 6 Y<|kc 7 Y<|kc 15 Y<|kc 16 Y<|kc 49 Y<|kc 50 Y<|kc 51 Y<|kc 89 Y<|kc 90 Y<|kc 91 Y kn) Y<|Zs<|R2 ZT Y<|Rm Y<|Za<|⟨_, h, ES [some 0, some 1, some 2] (hhp := .cons Y (ZeG (by exact tZ_84.symm) Y)<|.cons Y (Zj8 tZ_84 D3)<|.cons Y (ZeG (by exact tZ_84.symm) Y) .nil)⟩
        ·
         refine Zu<|?_
         replace h := lx h ▸ ho3
         exact ⟨_, h, ES [some 0, some 1, some 2] (hhp := .cons Y (ZeG (by exact tZ_84.symm) Y)<|.cons Y (Zj8 tZ_84 D3)<|.cons Y (ZeG (by exact tZ_84.symm) Y) .nil)⟩
      ·
       replace h := elr h
       replace h := t1i h
       exact Zs<|R2 ZT Y<|Rm Y<|Za<|⟨_, h, ES [some 0, some 1, some 2] (hhp := .cons Y (ZeG (by exact tZ_84.symm) Y)<|.cons Y (Zj8 tZ_84 D3)<|.cons Y (ZeG (by exact tZ_84.symm) Y) .nil)⟩
     ·
      refine Zu<|?_
      replace h := lx h ▸ ho2
      exact ⟨_, h, ES [some 0, some 1] (hhp := .cons Y (ZeG (by exact tZ_84.symm) Y)<|.cons Y (Zj8 tZ_84 D3) .nil)⟩
    ·
     replace h := elr h
     replace h := t1i h
     refine Tr<|Zfy (Ent.meltA (r := 1) (f := C28) Y tZ_84 (fun _=>Y) D3)<|Rq Y (ZK (ov Y) Y Y Y ZgO arW arL)<|Rx Y (Zo (ov Y) (ov Y) (Zm ZgO arL) Y Y Y (JD (ZC Y) arL) (Zd<|arC fun _ => Y)<|Jl<|Eq.trans Y<|Eq.symm arL)<|Ra Y<|Za<|?_
     obtain rfl := rt h
     exact Zg (Zp Y (.two (.agg Y Y Y Y ZgO (QD<|ZC arL) arL (pwB<|arD fun _ => Y) (hns := (nsM fun _ => Y)))<|rb Y))
theorem ZhB {m : api_Map} {first : Int} {l : List Int} {r : (Vector (Vector Int 64) 16) × Int} (h : Zbp m first l = some r) :
 CSpec Tryz.prog gl0 11 [.agg [.int .i64 m.Version, .sl 41 (List.map R41 m.Params)], .int .i64 first, .sl 3 (List.map R3 l)] (.tuple [.agg (r.1.toList.flatMap R49), .int .i64 r.2]) := by
 unfold Zbp at h
 replace h := ZS h
 refine So Tryz.func11 Y fun w0 A=>Tr<|Rq Y (ZD (cva<|ov Y) Y tZ_24 Y)<|Rx Y (Zr (row := ((Vector.replicate 16 (Vector.replicate 64 0)).toList.flatMap R49)) 0 Y ZqC (by kernel_rfl)<|by exact Eq.symm (Eq.trans (b := 1024) (Qs (fun x => (D49 x).1.trans tZ_49) rfl) tZ_50.symm))<|Ra Y<|Za<|K4 1 2 3 6 Y<|Tr<|Rx Y (Zr (row := ((Vector.replicate 16 (Vector.replicate 64 0)).toList.flatMap R49)) 1 Y ZqC (by kernel_rfl)<|by exact Eq.symm (Eq.trans (b := 1024) (Qs (fun x => (D49 x).1.trans tZ_49) rfl) tZ_50.symm))<|Za<|Tr<|Rq Y (Zi (ov Y) Zfk Y Y)<|Rm Y<|bE h fun y h_y h=>Rq Y (Zl (Zip h_y)<|.cons (ov Y) (.aggB Y)<|.cons (ov Y) (.b Y) .nil)<|Rm Y<|Rq Y (Zq (ov Y) Y)<|Rq Y (Zq (ov Y) Y)<|Rx Y (Zr (row := [_, _, _, _, _, _, _, _, _, _, _, _, _, _, _, _]) 2 Y ZpE Y tZ_84)<|Rx Y (Zo (ov Y) (ov Y) (Zm ZgO arL) Y Y Y (JD (ZC Y) arL) (Zd<|arC fun _ => Y)<|Jl<|Eq.trans Y<|Eq.symm arL)<|Ra Y<|Za<|Zj<|Zf<|K5 1 6 8 9 10 Y<|Tr<|Rm Y<|R2 Z4 Y<|Ra Y<|Za<|K6 1 6 8 9 10 18 Y<|If h Y (fun h=>?_) fun h=>?_
 ·
  refine K3 6 8 10 Y<|Tr<|Rq Y (ZK (ov Y) Y Y Y Zgb (QD<|ZC<|Qs (fun x=>(D49 x).1.trans tZ_49) Y) (Qs (fun x=>(D49 x).1.trans tZ_49) Y) (hns := (Zbs (JR fun x => (D49 x).2))))<|Rm Y<|Rx Y (Zo (ov Y) (ov Y) (Zm Zgb<|Qs (fun x=>(D49 x).1.trans tZ_49) Y) Y Y Y (JD (ZC<|Qs (fun x=>(D49 x).1.trans tZ_49) Y)<|Qs (fun x=>(D49 x).1.trans tZ_49) Y) (Zd<|Znp E49)<|Jl<|Eq.trans (Qs (fun x=>(D49 x).1.trans tZ_49) Y)<|Eq.symm<|Qs (fun x=>(D49 x).1.trans tZ_49) Y)<|Ra Y<|Za<|?_
  obtain rfl := rt h
  exact Zg (Zp Y (.two (.agg Y Y Y Y Zgb (QD<|ZC<|Qs (fun x=>(D49 x).1.trans tZ_49) Y) (Qs (fun x=>(D49 x).1.trans tZ_49) Y) (pwB<|JR fun x => (D49 x).2) (hns := (Zbs (JR fun x => (D49 x).2))))<|rb Y))
 ·
  refine K4 1 6 8 9 Y<|Tr<|Rm Y<|bE h fun y2 h_y2 h=>Rq Y (Zl (Qh h_y2)<|.cons (ov Y) (.b Y)<|.cons (ov Y) (.b Y)<|.cons (ov Y) (.b Y) .nil)<|R1 Qa Y<|Ra Y<|Za<|K5 1 6 8 9 23 Y<|If h Y (fun h=>?_) fun h=>?_
  ·
   refine K2 6 8 Y<|Tr<|Rq Y (ZK (ov Y) Y Y Y Zgb (QD<|ZC<|Qs (fun x=>(D49 x).1.trans tZ_49) Y) (Qs (fun x=>(D49 x).1.trans tZ_49) Y) (hns := (Zbs (JR fun x => (D49 x).2))))<|Rx Y (Zo (ov Y) (ov Y) (Zm Zgb<|Qs (fun x=>(D49 x).1.trans tZ_49) Y) Y Y Y (JD (ZC<|Qs (fun x=>(D49 x).1.trans tZ_49) Y)<|Qs (fun x=>(D49 x).1.trans tZ_49) Y) (Zd<|Znp E49)<|Jl<|Eq.trans (Qs (fun x=>(D49 x).1.trans tZ_49) Y)<|Eq.symm<|Qs (fun x=>(D49 x).1.trans tZ_49) Y)<|Ra Y<|Za<|?_
   obtain rfl := rt h
   exact Zg (Zp Y (.two (.agg Y Y Y Y Zgb (QD<|ZC<|Qs (fun x=>(D49 x).1.trans tZ_49) Y) (Qs (fun x=>(D49 x).1.trans tZ_49) Y) (pwB<|JR fun x => (D49 x).2) (hns := (Zbs (JR fun x => (D49 x).2))))<|rb Y))
  ·
   refine K4 1 6 8 9 Y<|Tr<|Rm Y<|bE h fun q h_q h=>Rq Y (ZcH (ov Y) (ov Y) h_q)<|R2 Z4 Y<|Ra Y<|Za<|K5 1 6 8 9 28 Y<|If h Y (fun h=>?_) fun h=>?_
   ·
    refine K2 6 8 Y<|Tr<|Rq Y (ZK (ov Y) Y Y Y Zgb (QD<|ZC<|Qs (fun x=>(D49 x).1.trans tZ_49) Y) (Qs (fun x=>(D49 x).1.trans tZ_49) Y) (hns := (Zbs (JR fun x => (D49 x).2))))<|Rx Y (Zo (ov Y) (ov Y) (Zm Zgb<|Qs (fun x=>(D49 x).1.trans tZ_49) Y) Y Y Y (JD (ZC<|Qs (fun x=>(D49 x).1.trans tZ_49) Y)<|Qs (fun x=>(D49 x).1.trans tZ_49) Y) (Zd<|Znp E49)<|Jl<|Eq.trans (Qs (fun x=>(D49 x).1.trans tZ_49) Y)<|Eq.symm<|Qs (fun x=>(D49 x).1.trans tZ_49) Y)<|Ra Y<|Za<|?_
    obtain rfl := rt h
    exact Zg (Zp Y (.two (.agg Y Y Y Y Zgb (QD<|ZC<|Qs (fun x=>(D49 x).1.trans tZ_49) Y) (Qs (fun x=>(D49 x).1.trans tZ_49) Y) (pwB<|JR fun x => (D49 x).2) (hns := (Zbs (JR fun x => (D49 x).2))))<|rb Y))
   ·
    refine Ze<|I1 (fun out=>⟨[(6, .ptr 0 1 0 0), (8, .ptr 1 1 0 0)], [some ⟨50, [((Vector.replicate 16 (Vector.replicate 64 0)).toList.flatMap R49)]⟩, some ⟨50, [(out.toList.flatMap R49)]⟩]⟩) h (fun h=>?_) fun out h=>?_
    ·
     refine K4 1 6 8 9 Y<|Tr<|Rm Y<|Za<|Zf<|?_
     obtain ⟨r1, hl1, ho1⟩ := Qg h
     refine L2 (fun out2 i=>⟨[(1, .int .i64 first), (6, .ptr 0 1 0 0), (8, .ptr 1 1 0 0), (9, .ptr 2 1 0 0), (33, .int .i64 i)], [some ⟨50, [((Vector.replicate 16 (Vector.replicate 64 0)).toList.flatMap R49)]⟩, some ⟨50, [(out2.toList.flatMap R49)]⟩, some ⟨84, [(List.map C28 y.1.toList)]⟩]⟩) hl1 (ES [some 0, some 1, some 2] (hhp := .cons Y (ro1 (by exact Eq.trans (b := 1024) (Qs (fun x => (D49 x).1.trans tZ_49) rfl) tZ_50.symm)<|rld<|JR fun x => (D49 x).2)<|.cons Y (ro1 (by exact Eq.trans (b := 1024) (Qs (fun x => (D49 x).1.trans tZ_49) rfl) tZ_50.symm)<|rld<|JR fun x => (D49 x).2)<|.cons Y (ro1 (by exact Eq.trans (b := 16) arL tZ_84.symm)<|rld<|arD fun _ => Y) .nil)) fun n1 out2 i h=>?_
     unfold X0 at h
     refine Tr<|R2 ZA Y<|Za<|Zj<|If h Y (fun h=>?_) fun h=>?_
     ·
      exact Ze<|Zj<|Zf<|K5 1 6 8 9 33 Y<|Tr<|Rm Y<|Ra Y<|Za<|K6 1 6 8 9 11 33 Y<|Zs<|Rm Y<|Rm Y<|Rm Y<|R2 ZT Y<|Rm Y<|bE h fun x h_x h=>Rq Y (XM (ov Y) (ov Y) Zpc Y Y h_x)<|Rq Y (Zn (ov Y) Y Y Y Zo9<|Z9<|XY (o := 0) (o' := (i.toNat * 1)) (ZC arL)<|Jt h_x)<|bE h fun y3 h_y3 h=>Rq Y (Zl (Zf7 h_y3)<|.cons (ov Y) (.b Y)<|.cons (ov Y) (.b Y) .nil)<|Rm Y<|Rq Y (Zq (ov Y) Y)<|Rq Y (Zq (ov Y) Y)<|bE h fun x2 h_x2 h=>Rq Y (XM (ov Y) (ov Y) ZrP Y Y h_x2)<|Rx Y (Zo (ov Y) (ov Y) (Zm ZfY arL) Y Y Y (JD (XY (o := 0) (o' := (i.toNat * 64)) (ZC<|Qs (fun x=>(D49 x).1.trans tZ_49) Y)<|Zl1 (fun x=>(D49 x).1.trans tZ_49) h_x2) arL) (Zd<|arC fun _ => Y)<|Znf<|Znc (fun x=>(D49 x).1.trans tZ_49) h_x2 (x := y3.1))<|Za<|K5 1 6 8 9 33 Y<|Zs<|R2 ZT Y<|Rm Y<|Za<|⟨_, h, ES [some 0, some 1, some 2] (hhp := .cons Y (ro1 (by exact Eq.trans (b := 1024) (Qs (fun x => (D49 x).1.trans tZ_49) rfl) tZ_50.symm)<|rld<|JR fun x => (D49 x).2)<|.cons Y (ro1 (by exact Eq.trans (b := 1024) (Qs (fun x => (D49 x).1.trans tZ_49) rfl) tZ_50.symm)<|rld<|JR fun x => (D49 x).2)<|.cons Y (ro1 (by exact Eq.trans (b := 16) arL tZ_84.symm)<|rld<|arD fun _ => Y) .nil)⟩
     ·
      refine Zu<|?_
      replace h := lx h ▸ ho1
      exact ⟨_, h, ES [some 0, some 1] (hhp := .cons Y (ro1 (by exact Eq.trans (b := 1024) (Qs (fun x => (D49 x).1.trans tZ_49) rfl) tZ_50.symm)<|rld<|JR fun x => (D49 x).2)<|.cons Y (ro1 (by exact Eq.trans (b := 1024) (Qs (fun x => (D49 x).1.trans tZ_49) rfl) tZ_50.symm)<|rld<|JR fun x => (D49 x).2) .nil)⟩
    ·
     refine Tr<|Rq Y (ZK (ov Y) Y Y Y Zgb (QD<|ZC<|Qs (fun x=>(D49 x).1.trans tZ_49) Y) (Qs (fun x=>(D49 x).1.trans tZ_49) Y) (hns := (Zbs (JR fun x => (D49 x).2))))<|Rx Y (Zo (ov Y) (ov Y) (Zm Zgb<|Qs (fun x=>(D49 x).1.trans tZ_49) Y) Y Y Y (JD (ZC<|Qs (fun x=>(D49 x).1.trans tZ_49) Y)<|Qs (fun x=>(D49 x).1.trans tZ_49) Y) (Zd<|Znp E49)<|Jl<|Eq.trans (Qs (fun x=>(D49 x).1.trans tZ_49) Y)<|Eq.symm<|Qs (fun x=>(D49 x).1.trans tZ_49) Y)<|Ra Y<|Za<|?_
     obtain rfl := rt h
     exact Zg (Zp Y (.two (.agg Y Y Y Y Zgb (QD<|ZC<|Qs (fun x=>(D49 x).1.trans tZ_49) Y) (Qs (fun x=>(D49 x).1.trans tZ_49) Y) (pwB<|JR fun x => (D49 x).2) (hns := (Zbs (JR fun x => (D49 x).2))))<|rb Y))
theorem ZiM {l : Vector (Vector Int 64) 16} {first : Int} {without : List Int} {r : (List api_Rest)} (h : ZcJ l first without = some r) :
 CSpec Tryz.prog gl0 13 [.agg (l.toList.flatMap R49), .int .i64 first, .sl 3 (List.map R3 without)] (.sl 92 (List.map R92 r)) := by
 unfold ZcJ at h
 replace h := ZS h
 refine So Tryz.func13 Y fun w0 A=>Tr<|Rq Y (ZD (cva<|ov Y) (Qs (fun x=>(D49 x).1.trans tZ_49) Y) tZ_50<|JR fun x => (D49 x).2)<|Ra Y<|Za<|K3 1 2 3 Y<|Tr<|Ra Y<|Za<|I1 (fun out=>⟨[(7, .own 0 out.length)], [some ⟨92, List.map R92 out⟩]⟩) h (fun h=>?_) fun out h=>?_
 ·
  refine Tr<|Ra Y<|Za<|Zf<|?_
  obtain ⟨r1, hl1, ho1⟩ := Qg h
  refine L2 (fun out2 i=>⟨[(1, .int .i64 first), (2, .sl 3 (List.map R3 without)), (3, .rp (l.toList.flatMap R49) 0), (7, .own 0 out2.length), (8, .int .i64 i)], [some ⟨92, List.map R92 out2⟩]⟩) hl1 (ES [none]) fun n1 out2 i h=>?_
  unfold Zad at h
  refine Zj<|Tr<|Rm Y<|R2 ZA Y<|Za<|K6 1 2 3 7 8 14 Y<|If h Y (fun h=>?_) fun h=>?_
  ·
   refine Ze<|Zj<|Zf<|K5 1 2 3 7 8 Y<|Tr<|Ra Y<|Za<|I1 (fun gone=>⟨[(1, .int .i64 first), (2, .sl 3 (List.map R3 without)), (3, .rp (l.toList.flatMap R49) 0), (7, .own 0 out2.length), (8, .int .i64 i), (9, .bool gone)], [some ⟨92, List.map R92 out2⟩]⟩) h (fun h=>?_) fun gone h=>?_
   ·
    refine Tr<|Ra Y<|Za<|Zf<|?_
    obtain ⟨r2, hl2, ho2⟩ := Qg h
    refine L2 (fun gone2 k=>⟨[(1, .int .i64 first), (2, .sl 3 (List.map R3 without)), (3, .rp (l.toList.flatMap R49) 0), (7, .own 0 out2.length), (8, .int .i64 i), (9, .bool gone2), (10, .int .i64 k)], [some ⟨92, List.map R92 out2⟩]⟩) hl2 (ES [some 0]) fun n2 gone2 k h=>?_
    unfold Zac at h
    refine Zj<|Tr<|Rm Y<|Rm Y<|Rl tZ_3 XX Y<|R2 ZA Y<|Za<|K8 1 2 3 7 8 9 10 20 Y<|If h Y (fun h=>?_) fun h=>?_
    ·
     exact Ze<|Zj<|Zf<|K7 1 2 3 7 8 9 10 Y<|Zs<|Rm Y<|Rm Y<|Rq Y (.guarded (gone2 == false) Y Y Y Y fun h => Zh<|ov Y)<|Rq Y (.guarded (gone2 == false) Y Y Y Y fun h => Zh<|ov Y)<|bE h fun x h_x h=>Rq Y (.guarded (gone2 == false) Y Y Y Y fun h => Zx (ow Y h) (ow Y h) XX<|gdT h_x h)<|Rq Y (.guarded (gone2 == false) Y Y Y Y fun h => Zb (ow Y h) tS3 Y)<|Rq Y (.guarded (gone2 == false) Y Y Y Y fun h => Zh<|ov Y)<|Rq Y (.guarded (gone2 == false) Y Y Y Y fun h => Qb (ow Y h)<|ow Y h)<|Rq Y (Qi (ov Y) fun hp=>ow Y<|gF hp)<|Ra Y<|Za<|K7 1 2 3 7 8 9 10 Y<|Zs<|Rm Y<|R2 ZT Y<|Ra Y<|Za<|⟨_, h, ES [some 0]⟩
    ·
     refine Zu<|?_
     replace h := lx h ▸ ho2
     exact ⟨_, h, ES [some 0]⟩
   ·
    refine Zj<|Tr<|Rm Y<|Za<|K6 1 2 3 7 8 32 Y<|If h Y (fun h=>?_) fun h=>?_
    ·
     exact Zu<|K5 1 2 3 7 8 Y<|Zs<|Rm Y<|R2 ZT Y<|Ra Y<|Za<|⟨_, h, ES [some 0]⟩
    ·
     refine Ze<|K5 1 2 3 7 8 Y<|Tr<|Rm Y<|Rm Y<|R2 ZT Y<|Rm Y<|bE h fun x2 h_x2 h=>Rq Y (Zai (ov Y) (ov Y) ZrP h_x2)<|Rq Y (Zi (ov Y) ZfY (QD<|XY (o := 0) (o' := (i.toNat * 64)) (ZC<|Qs (fun x=>(D49 x).1.trans tZ_49) Y)<|Zl1 (fun x=>(D49 x).1.trans tZ_49) h_x2) arL)<|Rq Y (Zn9 (zr := (.int .i64 0) :: ((List.map C47 (Vector.replicate 64 0).toList) ++ (((List.map C3 (Vector.replicate 64 0).toList) ++ ((.bool false) :: (.int .i64 0) :: (.bool false) :: []))))) ZrO Zru ZpS (by kernel_rfl) (.cons (cvs (ov Y)<|Zt Y)<|.cons (cva<|ov Y)<|.cons (cvs (ov Y)<|Zt Y)<|.cons (cvs (ov Y)<|Zt Y) .nil)<|ZhV Y Y at1 pt2<|ZhV Y arL at3 pt4<|ZhV Y Y at5 pt6<|ZhV Y Y at7 pt8 ZqZ)<|Rx Y (Zr (row := (.int .i64 0) :: ((List.map C47 (Vector.replicate 64 0).toList) ++ (((List.map C3 (Vector.replicate 64 0).toList) ++ ((.bool false) :: (.int .i64 0) :: (.bool false) :: []))))) 1 Y ZpS (by kernel_rfl)<|by exact Eq.symm (Eq.trans (b := 132) ln9 tZ_92.symm))<|Rx Y (Zo (ov Y) (ov Y) (Zm ZhI ln9) Y Y Y (JD (ZC ln9) ln9) (Zd ZnJ)<|Jl<|Eq.trans ln9<|Eq.symm ln9)<|Za<|I1 (fun States=>⟨[(1, .int .i64 first), (2, .sl 3 (List.map R3 without)), (3, .rp (l.toList.flatMap R49) 0), (7, .own 0 out2.length), (8, .int .i64 i), (11, .ptr 1 1 0 0)], [some ⟨92, List.map R92 out2⟩, some ⟨92, [(.int .i64 (i64 (first + i))) :: ((List.map C47 x2.toList) ++ (((List.map C3 States.toList) ++ ((.bool true) :: (.int .i64 1) :: (.bool false) :: []))))]⟩]⟩) h (fun h=>?_) fun States h=>?_
     ·
      refine K6 1 2 3 7 8 11 Y<|Tr<|Ra Y<|Za<|Zf<|?_
      obtain ⟨r3, hl3, ho3⟩ := Qg h
      refine L2 (fun States2 w=>⟨[(1, .int .i64 first), (2, .sl 3 (List.map R3 without)), (3, .rp (l.toList.flatMap R49) 0), (7, .own 0 out2.length), (8, .int .i64 i), (11, .ptr 1 1 0 0), (12, .int .i64 w)], [some ⟨92, List.map R92 out2⟩, some ⟨92, [(.int .i64 (i64 (first + i))) :: ((List.map C47 x2.toList) ++ (((List.map C3 States2.toList) ++ ((.bool true) :: (.int .i64 1) :: (.bool false) :: []))))]⟩]⟩) hl3 (ES [some 0, some 1]) fun n3 States2 w h=>?_
      unfold Zag at h
      refine Zj<|Tr<|Rm Y<|R2 ZA Y<|Za<|K8 1 2 3 7 8 11 12 41 Y<|If h Y (fun h=>?_) fun h=>?_
      ·
       exact Ze<|Zj<|Zf<|K7 1 2 3 7 8 11 12 Y<|Zs<|Rm Y<|Rq Y (Zk (ov Y) Y Y Zg4)<|bE h fun x3 h_x3 h=>Rq Y (XM (ov Y) (ov Y) ZmV Y Y h_x3)<|Rx Y (Zo (ov Y) (ov Y) (ZL tS3) Y Y Y (JD (XY (o := 65) (o' := (w.toNat * 1)) Zlm<|Jt h_x3) Y) (Zd Y)<|ZpW (o := 65) (o' := (w.toNat * 1)) Zlm (Jt h_x3) Y (Zqn h_x3 (x := 3)) Zsb)<|Za<|K7 1 2 3 7 8 11 12 Y<|Zs<|Rm Y<|R2 ZT Y<|Ra Y<|Za<|⟨_, h, ES [some 0, some 1]⟩
      ·
       refine Zu<|?_
       replace h := lx h ▸ ho3
       exact ⟨_, h, ES [some 0, some 1]⟩
     ·
      exact Zs<|Rm Y<|Rq Y (ZK (ov Y) Y Y Y ZhI (QD<|ZC ln9) ln9 (hns := ZrC))<|R_q (.sl 92<|List.map R92 ([(api_Rest.mk (i64 (first + i)) x2 States true 1 false)] : List api_Rest)) Y (Zc2 ZdX (.cons (cva<|ov Y) ln9 (pwD ZjC) .nil) Y Y)<|bE h fun l2 h_l2 h=>Rx Y (XH (ov Y) (Xe (ov Y) tZ_92) ZdX Y Y Y (fun x=>Zd<|E92 x) Y h_l2)<|Ra Y<|Za<|K5 1 2 3 7 8 Y<|Zs<|Rm Y<|R2 ZT Y<|Ra Y<|Za<|⟨_, h, ES [some 0]⟩
  ·
   refine Zu<|?_
   replace h := lx h ▸ ho1
   exact ⟨_, h, ES [some 0]⟩
 ·
  refine Tr<|Rm Y<|Ra Y<|Za<|?_
  obtain rfl := rt h
  exact Zg (Zp Y (.one<|.tmp Y<|View.ownM Y Y D92))
theorem Zhz {m : api_Map} {r : Int × Int} (h : Zbt m = some r) :
 CSpec Tryz.prog gl0 32 [.agg [.int .i64 m.Version, .sl 41 (List.map R41 m.Params)]] (.tuple [.int .i64 r.1, .int .i64 r.2]) := by
 unfold Zbt at h
 replace h := ZS h
 refine So Tryz.func32 Y fun w0 A=>Tr<|Rq Y (ZD (cva<|ov Y) Y tZ_24 Y)<|Ra Y<|Ra Y<|Za<|K1 1 Y<|Tr<|Rq Y (Zi (ov Y) Zfk Y Y)<|bE h fun y h_y h=>Rq Y (Zl (Zci h_y)<|.cons (ov Y) (.aggB Y) .nil)<|Rm Y<|Rq Y (Zq (ov Y) Y)<|Rq Y (Zq (ov Y) Y)<|Ra Y<|Ra Y<|Za<|K2 4 5 Y<|Tr<|Rm Y<|Rq Y (Zgh (ov Y) (ov Y) Y)<|Rm Y<|Ra Y<|Ra Y<|Za<|?_
 obtain rfl := rt h
 exact Zg (Zp Y (.two (rb Y)<|rb Y))
theorem Zeh {p : api_Param} {c0 : Str} {r : Bool} (h : QE p c0 = some r) :
 CSpec Tryz.prog gl0 34 [.agg [.str p.Name, .int .i64 p.Kind, .sl 128 (List.map Z2 p.Parts), .int .i64 p.First, .int .i64 p.Every, .int .i64 p.Times, .int .i64 p.Step, .sl 9 (List.map R9 p.Names)], .rp [.str c0] 0] (.bool r) := by
 unfold QE at h
 replace h := ZS h
 refine So Tryz.func34 Y fun w0 A=>Tr<|Rq Y (ZD (cva<|ov Y) Y tZ_41 Y)<|Ra Y<|Za<|K3 1 2 3 Y<|Tr<|Rq Y (Zc (ov Y) ZeS)<|Rq Y (Zb (ov Y) tS9 Y)<|Rq Y (Zb (ov Y) tS9 Y)<|R2 ZdA Y<|Ra Y<|Za<|?_
 obtain rfl := rt h
 exact Zg (Zp Y (.one<|rb Y))
theorem Zdb {n : Int} {low : Int} {high : Int} {r : Bool} (h : Jv n low high = some r) :
 CSpec Tryz.prog gl0 91 [.int .i64 n, .int .i64 low, .int .i64 high] (.bool r) := by
 unfold Jv at h
 replace h := ZS h
 refine So Tryz.func91 Y fun w0 A=>Tr<|Ra Y<|Za<|Tr<|Rm Y<|Rm Y<|R2 ZaX Y<|Rm Y<|Rq Y (.guarded ((decide (low ≤ n)) == true) Y Y Y Y fun h => Zh<|ov Y)<|Rq Y (.guarded ((decide (low ≤ n)) == true) Y Y Y Y fun h => Zh<|ov Y)<|Rq Y (.guarded ((decide (low ≤ n)) == true) Y Y Y Y fun h => ZbO (ow Y h)<|ow Y h)<|Rq Y (QC (ov Y) fun hp=>ow Y<|gT hp)<|Ra Y<|Za<|?_
 obtain rfl := rt h
 exact Zg (Zp Y (.one<|rb Y))
theorem ZhG {f : Vector Int 64} {r : Int × Bool} (h : Zbu f = some r) :
 CSpec Tryz.prog gl0 103 [.agg (List.map C47 f.toList)] (.tuple [.int .i64 r.1, .bool r.2]) := by
 unfold Zbu at h
 replace h := ZS h
 refine So Tryz.func103 Y fun w0 A=>Tr<|Rq Y (ZD (cva<|ov Y) arL tZ_49<|arD fun _ => Y)<|Ra Y<|Ra Y<|Za<|Zj<|K1 1 Y<|Tr<|bE h fun x h_x h=>Rq Y (Zai (ov Y) (ov Y) Zbd h_x)<|Rq Y (Zb (ov Y) Zbe<|Z9<|XY (o := 0) (o' := ((Int.toNat 1) * 1)) (ZC arL)<|Jt h_x)<|bE h fun y h_y h=>Rq Y (Zl (Zct h_y)<|.cons (ov Y) (.b Y) .nil)<|R1 Qa Y<|Rm Y<|bE h fun x2 h_x2 h=>Rq Y (.guarded ((!y) == false) Y Y Y Y fun h => Zai (ov Y) (ov Y) Zbd<|gdT h_x2 h)<|Rq Y (.guarded ((!y) == false) Y Y Y Y fun h => Zb (ow Y h) Zbe<|Z9<|XY (o := 0) (o' := ((Int.toNat 2) * 1)) (ZC arL)<|Jt<|gdT h_x2 h)<|bE h fun y2 h_y2 h=>Rq Y (.guarded ((!y) == false) Y Y Y Y fun h => Zl (Zct<|gdT h_y2 h)<|.cons (ow Y h) (.b Y) .nil)<|Rq Y (.guarded ((!y) == false) Y Y Y Y fun h => Qa<|ow Y h)<|Rq Y (Qi (ov Y) fun hp=>ow Y<|gF hp)<|Za<|K2 1 13 Y<|If h Y (fun h=>?_) fun h=>?_
 ·
  refine K0<|Tr<|Ra Y<|Ra Y<|Za<|?_
  obtain rfl := rt h
  exact Zg (Zp Y (.two (rb Y)<|rb Y))
 ·
  refine Ze<|K1 1 Y<|Tr<|bE h fun y3 h_y3 h=>Rq Y (Zl (ZbI h_y3)<|.cons (ov Y) (.b Y) .nil)<|Ra Y<|Ra Y<|Za<|?_
  obtain rfl := rt h
  exact Zg (Zp Y (.two (rb Y)<|rb Y))
theorem ZiJ {f : Vector Int 64} {r : Bool} (h : ZcS f = some r) :
 CSpec Tryz.prog gl0 112 [.rp (List.map C47 f.toList) 0] (.bool r) := by
 unfold ZcS at h
 replace h := ZS h
 refine So Tryz.func112 Y fun w0 A=>Tr<|Ra Y<|Za<|J0 (fun j => (.inr j)) ⟨[], []⟩ h (fun h=>?_) fun h=>?_
 ·
  refine K1 0 Y<|Tr<|Rm Y<|Za<|Zf<|?_
  obtain ⟨r1, hl1, ho1⟩ := Qg h
  refine L1 (fun i=>⟨[(0, .rp (List.map C47 f.toList) 0), (4, .int .i64 i)], []⟩) hl1 (ES []) fun n1 i h=>?_
  unfold ZaU at h
  refine Tr<|R2 ZA Y<|Za<|Zj<|If h Y (fun h=>?_) fun h=>?_
  ·
   refine Ze<|Zj<|Zf<|K2 0 4 Y<|Tr<|Rm Y<|Ra Y<|Za<|K3 0 3 4 Y<|Tr<|Rm Y<|Rm Y<|R1 XC Y<|bE h fun x h_x h=>Rq Y (Zai (ov Y) (ov Y) Zbd h_x)<|Rq Y (Zb (ov Y) Zbe<|Z9<|XY (o := 0) (o' := (i.toNat * 1)) (ZC arL)<|Jt h_x)<|R2 Qq Y<|Za<|K3 0 4 12 Y<|If h Y (fun h=>?_) fun h=>?_
   ·
    refine K0<|Tr<|Ra Y<|Za<|?_
    replace h := lx h ▸ ho1
    obtain rfl := rt h
    exact Zg (Zp Y (.one<|rb Y))
   ·
    exact Ze<|K2 0 4 Y<|Zs<|R2 ZT Y<|Rm Y<|Za<|⟨_, h, ES []⟩
  ·
   refine Zu<|?_
   replace h := lx h ▸ ho1
   exact ⟨(), h, ES []⟩
 ·
  replace h := elr h
  replace h := t0i h
  refine Tr<|Ra Y<|Za<|?_
  obtain rfl := rt h
  exact Zg (Zp Y (.one<|rb Y))
theorem Zix {f : Vector Int 64} {r : Bool} (h : Zcc f = some r) :
 CSpec Tryz.prog gl0 110 [.rp (List.map C47 f.toList) 0] (.bool r) := by
 unfold Zcc at h
 replace h := ZS h
 refine So Tryz.func110 Y fun w0 A=>Tr<|Ra Y<|Za<|Zj<|K1 0 Y<|Td md0<|D1 0 Zh Y<|bE h fun y h_y h=>Dq 1 Y (Zl (ZiJ h_y)<|.cons (ov Y) (.b Y) .nil)<|D1 2 Zh Y<|Dq 3 Y (.guarded (y == false) Y Y Y Y fun h => Zh<|ov Y)<|Dq 4 Y (.guarded (y == false) Y Y Y Y fun h => XC<|ow Y h)<|bE h fun x h_x h=>Dq 5 Y (.guarded (y == false) Y Y Y Y fun h => Zai (ow Y h) (ov Y) Zbd<|gdT h_x h)<|Dq 6 Y (.guarded (y == false) Y Y Y Y fun h => Zb (ow Y h) Zbe<|Z9<|XY (o := 0) (o' := ((Int.toNat 0) * 1)) (ZC arL)<|Jt<|gdT h_x h)<|Dq 7 Y (.guarded (y == false) Y Y Y Y fun h => Zh<|ov Y)<|bE h fun y2 h_y2 h=>Dq 8 Y (.guarded (y == false) Y Y Y Y fun h => Zl (ZbI<|gdT h_y2 h)<|.cons (ow Y h) (.b Y) .nil)<|bE h fun q h_q h=>Dq 9 Y (.guarded (y == false) Y Y Y Y fun h => ZcH (ow Y h) (ov Y)<|gdT h_q h)<|bE h fun x2 h_x2 h=>Dq 10 Y (.guarded (y == false) Y Y Y Y fun h => Zai (og (v := gv_frame_syncs) (k := .u16) (f := C47) (by simp [gl0]) fun _=>Y) (ow Y h) ZpY<|gdT h_x2 h)<|Dq 11 Y (.guarded (y == false) Y Y Y Y fun h => Zb (ow Y h) Zbe<|Z9<|XY (o := 0) (o' := (q.toNat * 1)) (ZC arL)<|Jt<|gdT h_x2 h)<|Dq 12 Y (.guarded (y == false) Y Y Y Y fun h => Z4 (ow Y h)<|ow Y h)<|Dq 13 Y (Qi (ov Y) fun hp=>ow Y<|gF hp)<|D1 14 Zh Y<|Dq 15 Y (.guarded ((y || (!decide (x = x2))) == false) Y Y Y Y fun h => Zh<|ov Y)<|Dq 16 Y (.guarded ((y || (!decide (x = x2))) == false) Y Y Y Y fun h => XC<|ow Y h)<|bE h fun x3 h_x3 h=>Dq 17 Y (.guarded ((y || (!decide (x = x2))) == false) Y Y Y Y fun h => Zai (ow Y h) (ov Y) Zbd<|gdT h_x3 h)<|Dq 18 Y (.guarded ((y || (!decide (x = x2))) == false) Y Y Y Y fun h => Zb (ow Y h) Zbe<|Z9<|XY (o := 0) (o' := ((Int.toNat 61) * 1)) (ZC arL)<|Jt<|gdT h_x3 h)<|bE h fun y3 h_y3 h=>Dq 19 Y (.guarded ((y || (!decide (x = x2))) == false) Y Y Y Y fun h => Zl (J6<|gdT h_y3 h)<|.cons (ow Y h) (.b Y) .nil)<|Dq 20 Y (.guarded ((y || (!decide (x = x2))) == false) Y Y Y Y fun h => Zh<|ov Y)<|bE h fun y4 h_y4 h=>Dq 21 Y (.guarded ((y || (!decide (x = x2))) == false) Y Y Y Y fun h => Zl (ZeQ<|gdT h_y4 h)<|.cons (ow Y h) (.b Y) .nil)<|Dq 22 Y (.guarded ((y || (!decide (x = x2))) == false) Y Y Y Y fun h => Z4 (ow Y h)<|ow Y h)<|Dq 23 Y (Qi (ov Y) fun hp=>ow Y<|gF hp)<|Dd<|K2 0 27 Y<|If h Y (fun h=>?_) fun h=>?_
 ·
  refine K0<|Tr<|Ra Y<|Za<|?_
  obtain rfl := rt h
  exact Zg (Zp Y (.one<|rb Y))
 ·
  refine Ze<|J0 (fun j => (.inr j)) ⟨[(0, .rp (List.map C47 f.toList) 0)], []⟩ h (fun h=>?_) fun h=>?_
  ·
   refine K1 0 Y<|Tr<|Ra Y<|Za<|Zf<|?_
   obtain ⟨r1, hl1, ho1⟩ := Qg h
   refine L1 (fun i=>⟨[(0, .rp (List.map C47 f.toList) 0), (3, .int .i64 i)], []⟩) hl1 (ES []) fun n1 i h=>?_
   unfold ZaB at h
   refine Zj<|Tr<|Rm Y<|R2 ZA Y<|Za<|K3 0 3 29 Y<|If h Y (fun h=>?_) fun h=>?_
   ·
    refine Ze<|Zj<|Zf<|K2 0 3 Y<|Tr<|Rm Y<|Rm Y<|R1 XC Y<|bE h fun x4 h_x4 h=>Rq Y (Zai (ov Y) (ov Y) Zbd h_x4)<|Rq Y (Zb (ov Y) Zbe<|Z9<|XY (o := 0) (o' := (i.toNat * 1)) (ZC arL)<|Jt h_x4)<|bE h fun y5 h_y5 h=>Rq Y (Zl (Zct h_y5)<|.cons (ov Y) (.b Y) .nil)<|R1 Qa Y<|Za<|K3 0 3 38 Y<|If h Y (fun h=>?_) fun h=>?_
    ·
     refine K0<|Tr<|Ra Y<|Za<|?_
     replace h := lx h ▸ ho1
     obtain rfl := rt h
     exact Zg (Zp Y (.one<|rb Y))
    ·
     exact Ze<|K2 0 3 Y<|Zs<|Rm Y<|R2 ZT Y<|Ra Y<|Za<|⟨_, h, ES []⟩
   ·
    refine Zu<|?_
    replace h := lx h ▸ ho1
    exact ⟨(), h, ES []⟩
  ·
   replace h := elr h
   replace h := t0i h
   refine Td md0<|D1 0 Zh Y<|D1 1 XC Y<|bE h fun x5 h_x5 h=>Dq 2 Y (Zai (ov Y) (ov Y) Zbd h_x5)<|Dq 3 Y (Zb (ov Y) Zbe<|Z9<|XY (o := 0) (o' := ((Int.toNat 62) * 1)) (ZC arL)<|Jt h_x5)<|bE h fun y6 h_y6 h=>Dq 4 Y (Zl (J6 h_y6)<|.cons (ov Y) (.b Y) .nil)<|bE h fun q2 h_q2 h=>Dq 5 Y (ZcK (ov Y) (ov Y) h_q2)<|D1 6 Zh Y<|D1 7 XC Y<|bE h fun x6 h_x6 h=>Dq 8 Y (Zai (ov Y) (ov Y) Zbd h_x6)<|Dq 9 Y (Zb (ov Y) Zbe<|Z9<|XY (o := 0) (o' := ((Int.toNat 63) * 1)) (ZC arL)<|Jt h_x6)<|bE h fun y7 h_y7 h=>Dq 10 Y (Zl (J6 h_y7)<|.cons (ov Y) (.b Y) .nil)<|D2 11 Zjf Y<|D1 12 Zh Y<|bE h fun y8 h_y8 h=>Dq 13 Y (Zl (ZdH h_y8)<|.cons (ov Y) (.b Y) .nil)<|D2 14 Qb Y<|D1 15 Zy Y<|Dd<|?_
   obtain rfl := rt h
   exact Zg (Zp Y (.one<|rb Y))
theorem ZiI {f : Vector Int 64} {r : Bool} (h : Zb6 f = some r) :
 CSpec Tryz.prog gl0 104 [.agg (List.map C47 f.toList)] (.bool r) := by
 unfold Zb6 at h
 replace h := ZS h
 refine So Tryz.func104 Y fun w0 A=>Tr<|Rq Y (ZD (cva<|ov Y) arL tZ_49<|arD fun _ => Y)<|Ra Y<|Za<|K2 1 2 Y<|Tr<|bE h fun y h_y h=>Rq Y (Zl (Zix h_y)<|.cons (ov Y) (.b Y) .nil)<|Ra Y<|Za<|?_
 obtain rfl := rt h
 exact Zg (Zp Y (.one<|rb Y))
theorem Zf1 {f : Vector Int 64} {number : Int} {r : Bool} (h : X3 f number = some r) :
 CSpec Tryz.prog gl0 92 [.agg (List.map C47 f.toList), .int .i64 number] (.bool r) := by
 unfold X3 at h
 replace h := ZS h
 refine So Tryz.func92 Y fun w0 A=>Tr<|Rq Y (ZD (cva<|ov Y) arL tZ_49<|arD fun _ => Y)<|Ra Y<|Za<|K2 1 2 Y<|Tr<|Rq Y (Zi (ov Y) ZfY (QD<|ZC arL) arL)<|bE h fun y h_y h=>Rq Y (Zl (ZhG h_y)<|.cons (ov Y) (.aggB<|arD fun _ => Y) .nil)<|Rm Y<|Rq Y (Zq (ov Y) Y)<|Rq Y (Zq (ov Y) Y)<|Ra Y<|Ra Y<|Za<|K3 1 2 5 Y<|Tr<|Rq Y (Zi (ov Y) ZfY (QD<|ZC arL) arL)<|bE h fun y2 h_y2 h=>Rq Y (Zl (ZiI h_y2)<|.cons (ov Y) (.aggB<|arD fun _ => Y) .nil)<|Rm Y<|Rq Y (.guarded (y2 == true) Y Y Y Y fun h => Zh<|ov Y)<|Rq Y (.guarded (y2 == true) Y Y Y Y fun h => Zh<|ov Y)<|Rq Y (.guarded (y2 == true) Y Y Y Y fun h => Qb (ow Y h)<|ow Y h)<|Rq Y (QC (ov Y) fun hp=>ow Y<|gT hp)<|Ra Y<|Za<|?_
 obtain rfl := rt h
 exact Zg (Zp Y (.one<|rb Y))
theorem Zcz {s : List Int} {f : Int → Option Bool} {r : Int} {f_f : FuncId} {f_c : List AV} (f_d : f_c.all datB = true) (f_h : ∀ (z0 : Int) z, f z0 = some z → CSpec Tryz.prog gl0 f_f ([.int .i64 z0] ++ f_c) (.bool z)) (h : Q9 s f = some r) :
 CSpec Tryz.prog gl0 111 [.sl 3 (List.map R3 s), .fn f_f f_c] (.int .i64 r) := by
 unfold Q9 at h
 replace h := ZS h
 refine So Tryz.func111 Y fun w0 A=>Tr<|Ra Y<|Za<|J0 (fun j => (.inr j)) ⟨[], []⟩ h (fun h=>?_) fun h=>?_
 ·
  refine K2 0 1 Y<|Tr<|Rm Y<|Rl tZ_3 XX Y<|Rm Y<|Za<|Zf<|?_
  obtain ⟨r1, hl1, ho1⟩ := Qg h
  refine L1 (fun i=>⟨[(0, .sl 3 (List.map R3 s)), (1, .fn f_f f_c), (7, .int .i64 (s.length : Int)), (8, .int .i64 i)], []⟩) hl1 (ES []<|sd 0 Y Y<|sr 1 Y (rFn<|rld f_d)<|sd 7 Y Y<|sd 8 Y Y sn) fun n1 i h=>?_
  unfold Z7 at h
  refine Tr<|R2 ZA Y<|Za<|Zj<|If h Y (fun h=>?_) fun h=>?_
  ·
   refine Ze<|Zj<|Zf<|K4 0 1 7 8 Y<|Tr<|Rm Y<|Ra Y<|Za<|K5 0 1 5 7 8 Y<|Tr<|Rm Y<|Rm Y<|Rm Y<|bE h fun x h_x h=>Rq Y (Zx (ov Y) (ov Y) XX h_x)<|Rq Y (Zb (ov Y) tS3 Y)<|bE h fun y h_y h=>Rq Y (Zam (ov Y) f_d (f_h _ _ h_y)<|.cons (ov Y) (.b Y) .nil)<|Za<|K6 0 1 5 7 8 16 Y<|If h Y (fun h=>?_) fun h=>?_
   ·
    refine K1 5 Y<|Tr<|Rm Y<|Ra Y<|Za<|?_
    replace h := lx h ▸ ho1
    obtain rfl := rt h
    exact Zg (Zp Y (.one<|rb Y))
   ·
    exact Ze<|K4 0 1 7 8 Y<|Zs<|R2 ZT Y<|Rm Y<|Za<|⟨_, h, ES []<|sd 0 Y Y<|sr 1 Y (rFn<|rld f_d)<|sd 7 Y Y<|sd 8 Y Y sn⟩
  ·
   refine Zu<|?_
   replace h := lx h ▸ ho1
   exact ⟨(), h, ES []⟩
 ·
  replace h := elr h
  replace h := t0i h
  refine Tr<|Ra Y<|Za<|?_
  obtain rfl := rt h
  exact Zg (Zp Y (.one<|rb Y))
theorem Jw {s : List Int} {f : Int → Option Bool} {r : Bool} {f_f : FuncId} {f_c : List AV} (f_d : f_c.all datB = true) (f_h : ∀ (z0 : Int) z, f z0 = some z → CSpec Tryz.prog gl0 f_f ([.int .i64 z0] ++ f_c) (.bool z)) (h : Z8 s f = some r) :
 CSpec Tryz.prog gl0 105 [.sl 3 (List.map R3 s), .fn f_f f_c] (.bool r) := by
 unfold Z8 at h
 replace h := ZS h
 refine So Tryz.func105 Y fun w0 A=>Tr<|Ra Y<|Za<|Tr<|Rm Y<|Rm Y<|bE h fun y h_y h=>Rq Y (Zl (Zcz f_d f_h h_y)<|.cons (ov Y) (.b Y)<|.cons (ov Y) (Dat.fnC<|.refl fun x hx => .b<|List.all_eq_true.1 f_d x hx) .nil)<|R2 ZaX Y<|Ra Y<|Za<|?_
 obtain rfl := rt h
 exact Zg (Zp Y (.one<|rb Y))
theorem Zgj {s : Int} {c0 : Int} {c1 : Int} {r : Bool} (h : Zbw s c0 c1 = some r) :
 CSpec Tryz.prog gl0 106 [.int .i64 s, .rp [.int .i64 c0] 0, .rp [.int .i64 c1] 0] (.bool r) := by
 unfold Zbw at h
 replace h := ZS h
 refine So Tryz.func106 Y fun w0 A=>Tr<|Ra Y<|Za<|Tr<|Rm Y<|Rq Y (Zb (ov Y) tS3 Y)<|R2 Qb Y<|Rm Y<|Rq Y (.guarded ((decide (s = c0)) == false) Y Y Y Y fun h => Zh<|ov Y)<|Rq Y (.guarded ((decide (s = c0)) == false) Y Y Y Y fun h => Zb (ov Y) tS3 Y)<|Rq Y (.guarded ((decide (s = c0)) == false) Y Y Y Y fun h => Qb (ow Y h)<|ow Y h)<|Rq Y (Qi (ov Y) fun hp=>ow Y<|gF hp)<|Ra Y<|Za<|?_
 obtain rfl := rt h
 exact Zg (Zp Y (.one<|rb Y))
theorem Zd7 {r_ : api_Rest} {a : Int} {b : Int} {r : Bool} (h : ZaK r_ a b = some r) :
 CSpec Tryz.prog gl0 93 [.agg ((.int .i64 r_.Number) :: ((List.map C47 r_.Frame.toList) ++ (((List.map C3 r_.States.toList) ++ ((.bool r_.Sound) :: (.int .i64 r_.Copies) :: (.bool r_.Conflict) :: []))))), .int .i64 a, .int .i64 b] (.bool r) := by
 unfold ZaK at h
 replace h := ZS h
 refine So Tryz.func93 Y fun w0 A=>Tr<|Rq Y (ZD (cva<|ov Y) ln9 tZ_92 ZjC)<|Rq Y (ZD (cvs (ov Y)<|Zt Y) Y tZ_3 Y)<|Rq Y (ZD (cvs (ov Y)<|Zt Y) Y tZ_3 Y)<|Ra Y<|Za<|K4 3 4 5 6 Y<|Tr<|Rq Y (Zc (ov Y) Zg4)<|bE h fun l h_l h=>Rq Y (Zqg (f := C3) (ov Y) ZmV tZ_3 Zlm Y on on h_l)<|Rq Y (Qk<|.cons (ov Y)<|.cons (ov Y) .nil)<|bE h fun y h_y h=>Rq Y (Zl (Jw Y (fun z0 _ hz=>Zgj hz) h_y)<|.cons (ov Y) (.b Y)<|.cons (ov Y) (.fnC<|.cons (.b Y)<|.cons (.b Y) .nil) .nil)<|Ra Y<|Za<|?_
 obtain rfl := rt h
 exact Zg (Zp Y (.one<|rb Y))
theorem Zg1 {s : Int} {c0 : Int} {r : Bool} (h : Zb4 s c0 = some r) :
 CSpec Tryz.prog gl0 107 [.int .i64 s, .rp [.int .i64 c0] 0] (.bool r) := by
 unfold Zb4 at h
 replace h := ZS h
 refine So Tryz.func107 Y fun w0 A=>Tr<|Ra Y<|Za<|Tr<|Rm Y<|Rq Y (Zb (ov Y) tS3 Y)<|R2 Z4 Y<|Ra Y<|Za<|?_
 obtain rfl := rt h
 exact Zg (Zp Y (.one<|rb Y))
theorem Zih {r_ : api_Rest} {state : Int} {r : Bool} (h : Zb8 r_ state = some r) :
 CSpec Tryz.prog gl0 94 [.agg ((.int .i64 r_.Number) :: ((List.map C47 r_.Frame.toList) ++ (((List.map C3 r_.States.toList) ++ ((.bool r_.Sound) :: (.int .i64 r_.Copies) :: (.bool r_.Conflict) :: []))))), .int .i64 state] (.bool r) := by
 unfold Zb8 at h
 replace h := ZS h
 refine So Tryz.func94 Y fun w0 A=>Tr<|Rq Y (ZD (cva<|ov Y) ln9 tZ_92 ZjC)<|Rq Y (ZD (cvs (ov Y)<|Zt Y) Y tZ_3 Y)<|Ra Y<|Za<|K3 2 3 4 Y<|Tr<|Rq Y (Zc (ov Y) Zg4)<|bE h fun l h_l h=>Rq Y (Zqg (f := C3) (ov Y) ZmV tZ_3 Zlm Y on on h_l)<|Rq Y (Qk<|.cons (ov Y) .nil)<|bE h fun y h_y h=>Rq Y (Zl (Jw Y (fun z0 _ hz=>Zg1 hz) h_y)<|.cons (ov Y) (.b Y)<|.cons (ov Y) (.fnC<|.cons (.b Y) .nil) .nil)<|R1 Qa Y<|Ra Y<|Za<|?_
 obtain rfl := rt h
 exact Zg (Zp Y (.one<|rb Y))
theorem ZeK {r_ : api_Rest} {r : Int} (h : X7 r_ = some r) :
 CSpec Tryz.prog gl0 70 [.agg ((.int .i64 r_.Number) :: ((List.map C47 r_.Frame.toList) ++ (((List.map C3 r_.States.toList) ++ ((.bool r_.Sound) :: (.int .i64 r_.Copies) :: (.bool r_.Conflict) :: [])))))] (.int .i64 r) := by
 unfold X7 at h
 replace h := ZS h
 refine So Tryz.func70 Y fun w0 A=>Tr<|Rq Y (ZD (cva<|ov Y) ln9 tZ_92 ZjC)<|Ra Y<|Za<|Zj<|K1 1 Y<|Tr<|Rq Y (Zc (ov Y) Zd0)<|Rq Y (Zb (ov Y) tS3<|Z9 at1)<|bE h fun y h_y h=>Rq Y (Zl (Zdb h_y)<|.cons (ov Y) (.b Y)<|.cons (ov Y) (.b Y)<|.cons (ov Y) (.b Y) .nil)<|R1 Qa Y<|Za<|K2 1 8 Y<|If h Y (fun h=>?_) fun h=>?_
 ·
  refine K0<|Tr<|Ra Y<|Za<|?_
  obtain rfl := rt h
  exact Zg (Zp Y (.one<|rb Y))
 ·
  refine Ze<|J0 (fun j => (.inr j)) ⟨[(1, .rp ((.int .i64 r_.Number) :: ((List.map C47 r_.Frame.toList) ++ (((List.map C3 r_.States.toList) ++ ((.bool r_.Sound) :: (.int .i64 r_.Copies) :: (.bool r_.Conflict) :: []))))) 0)], []⟩ h (fun h=>?_) fun h=>?_
  ·
   refine K1 1 Y<|Tr<|Rq Y (Zc (ov Y) Zg4)<|Rq Y (Zi (ov Y) Zsm (QD Zlm) arL)<|Rm Y<|Za<|Zf<|?_
   obtain ⟨r1, hl1, ho1⟩ := Qg h
   refine L1 (fun i=>⟨[(1, .rp ((.int .i64 r_.Number) :: ((List.map C47 r_.Frame.toList) ++ (((List.map C3 r_.States.toList) ++ ((.bool r_.Sound) :: (.int .i64 r_.Copies) :: (.bool r_.Conflict) :: []))))) 0), (10, .agg (List.map C3 r_.States.toList)), (11, .int .i64 i)], []⟩) hl1 (ES []) fun n1 i h=>?_
   unfold Ql at h
   refine Tr<|R2 ZA Y<|Za<|Zj<|If h Y (fun h=>?_) fun h=>?_
   ·
    refine Ze<|Zj<|Zf<|K3 1 10 11 Y<|Tr<|Rm Y<|bE h fun x h_x h=>Rq Y (Zjg (ov Y) (ov Y) ZmV tS3 h_x)<|Ra Y<|Ra Y<|Za<|Zj<|K5 1 3 4 10 11 Y<|Tr<|Rm Y<|bE h fun y2 h_y2 h=>Rq Y (Zl (Zdb h_y2)<|.cons (ov Y) (.b Y)<|.cons (ov Y) (.b Y)<|.cons (ov Y) (.b Y) .nil)<|R1 Qa Y<|Za<|K6 1 3 4 10 11 17 Y<|If h Y (fun h=>?_) fun h=>?_
    ·
     refine K0<|Tr<|Ra Y<|Za<|?_
     replace h := lx h ▸ ho1
     obtain rfl := rt h
     exact Zg (Zp Y (.one<|rb Y))
    ·
     refine Ze<|K5 1 3 4 10 11 Y<|Tr<|Rm Y<|R2 Qb Y<|Rm Y<|Rq Y (.guarded ((decide (x = 0)) == true) Y Y Y Y fun h => Zh<|ov Y)<|Rq Y (.guarded ((decide (x = 0)) == true) Y Y Y Y fun h => Zc (ov Y) Ziq)<|bE h fun x2 h_x2 h=>Rq Y (.guarded ((decide (x = 0)) == true) Y Y Y Y fun h => Zai (ow Y h) (ow Y h) Zbd<|gdT h_x2 h)<|Rq Y (.guarded ((decide (x = 0)) == true) Y Y Y Y fun h => Zb (ow Y h) Zbe<|Z9<|XY (o := 1) (o' := (i.toNat * 1)) at3<|Jt<|gdT h_x2 h)<|Rq Y (.guarded ((decide (x = 0)) == true) Y Y Y Y fun h => Z4 (ow Y h)<|ov Y)<|Rq Y (QC (ov Y) fun hp=>ow Y<|gT hp)<|Rm Y<|Rq Y (.guarded (((decide (x = 0)) && (!decide (x2 = 0))) == false) Y Y Y Y fun h => Zh<|ov Y)<|Rq Y (.guarded (((decide (x = 0)) && (!decide (x2 = 0))) == false) Y Y Y Y fun h => Zc (ov Y) Ziq)<|bE h fun x3 h_x3 h=>Rq Y (.guarded (((decide (x = 0)) && (!decide (x2 = 0))) == false) Y Y Y Y fun h => Zai (ow Y h) (ow Y h) Zbd<|gdT h_x3 h)<|Rq Y (.guarded (((decide (x = 0)) && (!decide (x2 = 0))) == false) Y Y Y Y fun h => Zb (ow Y h) Zbe<|Z9<|XY (o := 1) (o' := (i.toNat * 1)) at3<|Jt<|gdT h_x3 h)<|Rq Y (.guarded (((decide (x = 0)) && (!decide (x2 = 0))) == false) Y Y Y Y fun h => Qq (ow Y h)<|ov Y)<|Rq Y (Qi (ov Y) fun hp=>ow Y<|gF hp)<|Za<|K4 1 10 11 33 Y<|If h Y (fun h=>?_) fun h=>?_
     ·
      refine K0<|Tr<|Ra Y<|Za<|?_
      replace h := lx h ▸ ho1
      obtain rfl := rt h
      exact Zg (Zp Y (.one<|rb Y))
     ·
      exact Ze<|K3 1 10 11 Y<|Zs<|R2 ZT Y<|Rm Y<|Za<|⟨_, h, ES []⟩
   ·
    refine Zu<|?_
    replace h := lx h ▸ ho1
    exact ⟨(), h, ES []⟩
  ·
   replace h := elr h
   replace h := t0i h
   refine Zj<|Zf<|Tr<|Rq Y (Zc (ov Y) ZjF)<|Rq Y (Zb (ov Y) tS4<|Z9 at5)<|Rm Y<|Rq Y (.guarded (r_.Sound == true) Y Y Y Y fun h => Zc (ov Y) Ziq)<|Rq Y (.guarded (r_.Sound == true) Y Y Y Y fun h => Zi (ow Y h) ZfY (QD at3) arL)<|Rq Y (.guarded (r_.Sound == true) Y Y Y Y fun h => Zc (ov Y) Zd0)<|Rq Y (.guarded (r_.Sound == true) Y Y Y Y fun h => Zb (ow Y h) tS3<|Z9 at1)<|bE h fun y3 h_y3 h=>Rq Y (.guarded (r_.Sound == true) Y Y Y Y fun h => Zl (Zf1<|gdT h_y3 h)<|.cons (ow Y h) (.aggB<|arD fun _ => Y)<|.cons (ow Y h) (.b Y) .nil)<|Rq Y (.guarded (r_.Sound == true) Y Y Y Y fun h => Qa<|ow Y h)<|Rq Y (.guarded (r_.Sound == true) Y Y Y Y fun h => Zh<|ow Y h)<|Rq Y (.guarded2 ((r_.Sound == true) && ((!y3) == false)) Y Y Y Y fun h => Zi (ov Y) ZhI (QD<|ZC ln9) ln9)<|bE h fun y4 h_y4 h=>Rq Y (.guarded2 ((r_.Sound == true) && ((!y3) == false)) Y Y Y Y fun h => Zl (Zd7<|gdT h_y4 h)<|.cons (ow Y h) (.aggB ZjC)<|.cons (ov Y) (.b Y)<|.cons (ov Y) (.b Y) .nil)<|Rq Y (.guarded (r_.Sound == true) Y Y Y Y fun h => Qi (ow Y h) fun hp=>ow Y<|gA h<|gF hp)<|Rq Y (QC (ov Y) fun hp=>ow Y<|gT hp)<|Ra Y<|Za<|K2 1 35 Y<|If h Y (fun h=>?_) fun h=>?_
   ·
    refine K0<|Tr<|Ra Y<|Za<|?_
    obtain rfl := rt h
    exact Zg (Zp Y (.one<|rb Y))
   ·
    refine K1 1 Y<|Tr<|Rq Y (Zc (ov Y) ZjF)<|Rq Y (Zb (ov Y) tS4<|Z9 at5)<|R1 Qa Y<|Rm Y<|Rq Y (.guarded ((!r_.Sound) == true) Y Y Y Y fun h => Zi (ov Y) ZhI (QD<|ZC ln9) ln9)<|bE h fun y5 h_y5 h=>Rq Y (.guarded ((!r_.Sound) == true) Y Y Y Y fun h => Zl (Zd7<|gdT h_y5 h)<|.cons (ow Y h) (.aggB ZjC)<|.cons (ov Y) (.b Y)<|.cons (ov Y) (.b Y) .nil)<|Rq Y (QC (ov Y) fun hp=>ow Y<|gT hp)<|Ra Y<|Za<|K2 1 50 Y<|If h Y (fun h=>?_) fun h=>?_
    ·
     refine K0<|Tr<|Ra Y<|Za<|?_
     obtain rfl := rt h
     exact Zg (Zp Y (.one<|rb Y))
    ·
     refine K1 1 Y<|Tr<|Rq Y (Zc (ov Y) ZnR)<|Rq Y (Zb (ov Y) tS3<|Z9 at7)<|R2 ZA Y<|Rm Y<|Rq Y (.guarded ((decide (r_.Copies < 0)) == false) Y Y Y Y fun h => Zc (ov Y) ZnR)<|Rq Y (.guarded ((decide (r_.Copies < 0)) == false) Y Y Y Y fun h => Zb (ow Y h) tS3<|Z9 at7)<|Rq Y (.guarded ((decide (r_.Copies < 0)) == false) Y Y Y Y fun h => Qb (ow Y h)<|ov Y)<|Rq Y (.guarded ((decide (r_.Copies < 0)) == false) Y Y Y Y fun h => Zh<|ow Y h)<|Rq Y (.guarded2 (((decide (r_.Copies < 0)) == false) && ((decide (r_.Copies = 0)) == true)) Y Y Y Y fun h => Zc (ov Y) ZjF)<|Rq Y (.guarded2 (((decide (r_.Copies < 0)) == false) && ((decide (r_.Copies = 0)) == true)) Y Y Y Y fun h => Zb (ow Y h) tS4<|Z9 at5)<|Rq Y (.guarded ((decide (r_.Copies < 0)) == false) Y Y Y Y fun h => QC (ow Y h) fun hp=>ow Y<|gA h<|gT hp)<|Rq Y (.guarded ((decide (r_.Copies < 0)) == false) Y Y Y Y fun h => Zh<|ow Y h)<|Rq Y (.guarded2 (((decide (r_.Copies < 0)) == false) && (((decide (r_.Copies = 0)) && r_.Sound) == true)) Y Y Y Y fun h => Zi (ov Y) ZhI (QD<|ZC ln9) ln9)<|bE h fun y6 h_y6 h=>Rq Y (.guarded2 (((decide (r_.Copies < 0)) == false) && (((decide (r_.Copies = 0)) && r_.Sound) == true)) Y Y Y Y fun h => Zl (Zih<|gdT h_y6 h)<|.cons (ow Y h) (.aggB ZjC)<|.cons (ov Y) (.b Y) .nil)<|Rq Y (.guarded ((decide (r_.Copies < 0)) == false) Y Y Y Y fun h => QC (ow Y h) fun hp=>ow Y<|gA h<|gT hp)<|Rq Y (Qi (ov Y) fun hp=>ow Y<|gF hp)<|Ra Y<|Za<|K2 1 58 Y<|If h Y (fun h=>?_) fun h=>?_
     ·
      refine K0<|Tr<|Ra Y<|Za<|?_
      obtain rfl := rt h
      exact Zg (Zp Y (.one<|rb Y))
     ·
      refine K1 1 Y<|Tr<|Rq Y (Zc (ov Y) Zrp)<|Rq Y (Zb (ov Y) tS4<|Z9 Zsn)<|Rm Y<|Rq Y (.guarded (r_.Conflict == true) Y Y Y Y fun h => Zc (ov Y) ZjF)<|Rq Y (.guarded (r_.Conflict == true) Y Y Y Y fun h => Zb (ow Y h) tS4<|Z9 at5)<|Rq Y (QC (ov Y) fun hp=>ow Y<|gT hp)<|Ra Y<|Za<|K1 75 Y<|If h Y (fun h=>?_) fun h=>?_
      ·
       refine K0<|Tr<|Ra Y<|Za<|?_
       obtain rfl := rt h
       exact Zg (Zp Y (.one<|rb Y))
      ·
       refine Ze<|K0<|Tr<|Ra Y<|Za<|?_
       obtain rfl := rt h
       exact Zg (Zp Y (.one<|rb Y))
end Go.Proofs.YtdacciininlfmaaGreatDoor
