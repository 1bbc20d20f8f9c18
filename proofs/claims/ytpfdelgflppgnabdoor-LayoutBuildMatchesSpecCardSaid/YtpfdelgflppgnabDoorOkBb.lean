/- A text of the proof: a verified executor of the program form, or the contracts of the functions that the law reaches. -/
import Derived.Test.YtpfdelgflppgnabDoorOkBa
set_option linter.all false
namespace Go.Proofs.YtpfdelgflppgnabDoor
open Go Go.Vx
set_option maxRecDepth 10000
set_option maxHeartbeats 1000000
set_option linter.unusedVariables false
theorem ZdN {v : Int} {r : Int} (h : Xg v = some r) :
 CSpec Tryd.prog gl0 49 [.int .i64 v] (.int .i64 r) := by
 unfold Xg at h
 replace h := Z0 h
 refine So Tryd.func49 Y fun w0 A=>Tr<|Ra Y<|Za<|K1 0 Y<|Tr<|Ra Y<|Za<|I1 (fun raw=>⟨[(3, .int .i64 raw)], []⟩) h (fun h=>?_) fun raw h=>?_
 ·
  refine Tr<|Ra Y<|Za<|Zd<|?_
  obtain ⟨r1, hl1, ho1⟩ := Qt h
  refine L3 (fun v2 raw2 shift=>⟨[(0, .int .i64 v2), (3, .int .i64 raw2), (4, .int .i64 shift)], []⟩) hl1 (ES []) fun n1 v2 raw2 shift h=>?_
  unfold ZV at h
  refine Zh<|Tr<|Rm Y<|R2 X0 Y<|Za<|K4 0 3 4 6 Y<|If h Y (fun h=>?_) fun h=>?_
  ·
   exact Ze<|Zh<|Zd<|K3 0 3 4 Y<|Tr<|Rm Y<|Rm Y<|bE h fun q h_q h=>Rq Y (Je (ov Y) (ov Y) h_q)<|Rm Y<|bE h fun q2 h_q2 h=>Rq Y (Jb (ov Y) (ov Y) h_q2)<|R2 ZjV Y<|Ra Y<|Za<|K3 0 3 4 Y<|Zt<|Rm Y<|bE h fun q3 h_q3 h=>Rq Y (ZeB (ov Y) (ov Y) h_q3)<|Ra Y<|Za<|K3 0 3 4 Y<|Zt<|Rm Y<|R2 ZT Y<|Ra Y<|Za<|⟨_, h, ES []⟩
  ·
   refine Zz<|?_
   replace h := lx h ▸ ho1
   exact ⟨_, h, ES []⟩
 ·
  refine Tr<|Rm Y<|Ra Y<|Za<|?_
  obtain rfl := rt h
  exact Zi (Zn Y (.one<|rb Y))
theorem ZfF {raw : Int} {r : Int × Bool} (h : JZ raw = some r) :
 CSpec Tryd.prog gl0 50 [.int .i64 raw] (.tuple [.int .i64 r.1, .bool r.2]) := by
 unfold JZ at h
 replace h := Z0 h
 refine So Tryd.func50 Y fun w0 A=>Tr<|Ra Y<|Ra Y<|Za<|K1 0 Y<|Tr<|Ra Y<|Ra Y<|Za<|I2 (fun v ok=>⟨[(4, .int .i64 v), (5, .bool ok)], []⟩) h (fun h=>?_) fun v ok h=>?_
 ·
  refine Tr<|Ra Y<|Za<|Zd<|?_
  obtain ⟨r1, hl1, ho1⟩ := Qt h
  refine L3 (fun v2 ok2 shift=>⟨[(0, .int .i64 raw), (4, .int .i64 v2), (5, .bool ok2), (6, .int .i64 shift)], []⟩) hl1 (ES []) fun n1 v2 ok2 shift h=>?_
  unfold XR at h
  refine Zh<|Tr<|Rm Y<|R2 ZbG Y<|Za<|K5 0 4 5 6 9 Y<|If h Y (fun h=>?_) fun h=>?_
  ·
   exact Ze<|Zh<|Zd<|K4 0 4 5 6 Y<|Tr<|Rm Y<|Rm Y<|bE h fun q h_q h=>Rq Y (ZdH (ov Y) (ov Y) h_q)<|R2 Zck Y<|Ra Y<|Za<|K5 0 4 5 6 7 Y<|Zt<|Rm Y<|R2 ZhK Y<|Rm Y<|R2 ZT Y<|Rm Y<|Rm Y<|Rq Y (.guarded (ok2 == true) Y Y Y Y fun h => Zr<|ov Y)<|Rq Y (.guarded (ok2 == true) Y Y Y Y fun h => ZH (ow Y h)<|ov Y)<|Rq Y (JW (ov Y) fun hp=>ow Y<|gT hp)<|Ra Y<|Ra Y<|Za<|K4 0 4 5 6 Y<|Zt<|Rm Y<|R2 JV Y<|Ra Y<|Za<|⟨_, h, ES []⟩
  ·
   refine Zz<|?_
   replace h := lx h ▸ ho1
   exact ⟨_, h, ES []⟩
 ·
  refine Tr<|Rm Y<|Rm Y<|Ra Y<|Ra Y<|Za<|?_
  obtain rfl := rt h
  exact Zi (Zn Y (.two (rb Y)<|rb Y))
theorem Zed {c0 : Int} {r : layout_number} (h : QI c0 = some r) :
 CSpec Tryd.prog gl0 48 [.rp [.int .i64 c0] 0] (.agg [.int .i64 r.low, .int .i64 r.high, .fn r.encode.f r.encode.c, .fn r.decode.f r.decode.c]) := by
 unfold QI at h
 replace h := Z0 h
 refine So Tryd.func48 Y fun w0 A=>Tr<|Rx Y (Zq (row := [_, _, _, _]) 0 Y Zgc Y tZ_62)<|Za<|Tr<|Ra Y<|Za<|I1 (fun high=>⟨[(1, .ptr 0 1 0 0), (2, .int .i64 high)], [some ⟨62, [[.int .i64 0, .int .i64 0, .lit .nilFunc, .lit .nilFunc]]⟩]⟩) h (fun h=>?_) fun high h=>?_
 ·
  refine Tr<|Rq Y (Zb (ov Y) tS3 Y)<|bE h fun q h_q h=>Rq Y (ZeB (ov Y) (ov Y) h_q)<|Rm Y<|Za<|Zd<|?_
  obtain ⟨r1, hl1, ho1⟩ := Qt h
  refine L2 (fun high2 i=>⟨[(1, .ptr 0 1 0 0), (2, .int .i64 high2), (4, .int .i64 q), (5, .int .i64 i)], [some ⟨62, [[.int .i64 0, .int .i64 0, .lit .nilFunc, .lit .nilFunc]]⟩]⟩) hl1 (ES [some 0]) fun n1 high2 i h=>?_
  unfold J3 at h
  refine Tr<|R2 ZH Y<|Za<|Zh<|If h Y (fun h=>?_) fun h=>?_
  ·
   exact Ze<|Zh<|Zd<|K4 1 2 4 5 Y<|Zt<|Rm Y<|R2 ZhK Y<|Ra Y<|Za<|K4 1 2 4 5 Y<|Zt<|R2 ZT Y<|Rm Y<|Za<|⟨_, h, ES [some 0]⟩
  ·
   refine Zz<|?_
   replace h := lx h ▸ ho1
   exact ⟨_, h, ES [some 0]⟩
 ·
  refine Tr<|Rm Y<|R2 JV Y<|Rq Y (JP (ys := [_, _, _, _]) ZkJ ZkB Zgc (.cons (cvs (ov Y)<|Zs Y)<|.cons (cvs (ov Y)<|Zs Y)<|.cons (cvs (ov Y)<|Zs Y)<|.cons (cvs (ov Y)<|Zs Y) .nil) Y)<|Rx Y (Zj (ov Y) (ov Y) (Zg ZbM Y) Y Y Y (Nat.le_of_ble_eq_true Y) (Zc Y) Y)<|Za<|?_
  obtain rfl := rt h
  exact Zi (Zn Y (.one<|.agg Y Y Y Y ZbM Y Y<|.cons (Dat.view<|.b Y)<|.cons (Dat.view<|.b Y)<|.cons (Dat.view .fn)<|.cons (Dat.view .fn) .nil))
theorem XC {c0 : Int} {r : layout_number} (h : QI c0 = some r) : Zcr r.encode ∧ Zcq r.decode := by
  have key : Zep (fun r => Zcr r.encode ∧ Zcq r.decode) (QI c0) := by
    unfold QI
    repeat' (first | exact Zcy | with_reducible refine Zee ?_ ?_ | with_reducible refine ZcQ fun _ _ => ?_ | with_reducible refine ZgQ ?_)
    all_goals first | exact Zaf ⟨⟨rfl, fun z0 _ hz => ZdN hz⟩, ⟨rfl, fun z0 _ hz => ZfF hz⟩⟩
  exact key r h
theorem ZcI {p : api_Param} {r : layout_number} (h : Qb p = some r) :
 CSpec Tryd.prog gl0 16 [.agg [.str p.Name, .int .i64 p.Kind, .sl 42 (List.map R42 p.Parts), .int .i64 p.First, .int .i64 p.Every, .int .i64 p.Times, .int .i64 p.Step, .sl 9 (List.map R9 p.Names)]] (.agg [.int .i64 r.low, .int .i64 r.high, .fn r.encode.f r.encode.c, .fn r.decode.f r.decode.c]) := by
 unfold Qb at h
 replace h := Z0 h
 refine So Tryd.func16 Y fun w0 A=>Tr<|Rq Y (Qa (cva<|ov Y) Y tZ_46 Y)<|Rx Y (Zq (row := [_, _, _, _]) 0 Y Zgc Y tZ_62)<|Za<|K2 1 2 Y<|Tr<|Rq Y (Zk (ov Y) Q5 Y Y)<|bE h fun y h_y h=>Rq Y (Zl (Zah h_y)<|.cons (ov Y) (.aggB Y) .nil)<|Rx Y (Zq (row := [_]) 1 Y tZ3 Y tZ_3)<|Rx Y (Zj (ov Y) (ov Y) (ZA tS3) Y Y Y (Nat.le_of_ble_eq_true Y) (Zc Y) Y)<|Za<|K3 1 2 3 Y<|Tr<|Rq Y (Zm (ov Y) Y Y Y tS3 Y)<|R2 JV Y<|bE h fun q h_q h=>Rq Y (Jb (ov Y) (ov Y) h_q)<|Rx Y (Zq (row := [_]) 2 Y tZ3 Y tZ_3)<|Rx Y (Zj (ov Y) (ov Y) (ZA tS3) Y Y Y (Nat.le_of_ble_eq_true Y) (Zc Y) Y)<|Za<|K4 1 2 3 4 Y<|Tr<|Rx Y (Zq (row := [_]) 3 Y Zpw Y tZ_59)<|Rx Y (Zj (ov Y) (ov Y) (ZA Zoq) Y Y Y (Nat.le_of_ble_eq_true Y) (Zc Y) Y)<|Za<|Tr<|ZdP (Ent.sel [some 0, some 1, some 2, none] (sd 1 Y Y<|sr 2 Y (.ptr (r' := 0) _ _ _ Y)<|sr 3 Y (.ptr (r' := 1) _ _ _ Y)<|sr 4 Y (.ptr (r' := 2) _ _ _ Y)<|sr 5 Y (.frp ⟨Y, ⟨_, Y⟩, Y, Y⟩) sn) (.cons Y (ro1 (by exact tZ_62.symm)<|rld Y)<|.cons Y (ro1 (by exact tZ_3.symm)<|rld Y)<|.cons Y (ro1 (by exact tZ_3.symm)<|rld Y)<|.row 59 .nil) Y Y)<|Rq Y (QD<|.cons (ov Y) .nil)<|Rx Y (Zq (row := [_]) 4 Y Zpv Y tZ_86)<|Rx Y (Zj (ov Y) (ov Y) (ZA Znm) Y Y Y (Nat.le_of_ble_eq_true Y) (Zc Y) Y)<|Za<|K5 1 2 3 4 6 Y<|Tr<|Rx Y (Zdm 5 Y Zdc)<|ZdP (Ent.sel [some 0, some 1, some 2, some 3, none, some 5] (sd 1 Y Y<|sr 2 Y (.ptr (r' := 0) _ _ _ Y)<|sr 3 Y (.ptr (r' := 1) _ _ _ Y)<|sr 4 Y (.ptr (r' := 2) _ _ _ Y)<|sr 6 Y (.frp ⟨Y, ⟨_, Y⟩, Y, Y⟩)<|sr 14 Y (.mref (r' := 5) _ Y) sn) (.cons Y (ro1 (by exact tZ_62.symm)<|rld Y)<|.cons Y (ro1 (by exact tZ_3.symm)<|rld Y)<|.cons Y (ro1 (by exact tZ_3.symm)<|rld Y)<|.cons Y roE<|.row 86<|.cons Y (Zke (fk := FK3) (m := ([] : List (Int × AV))) tZ_88 (fun _=>.dat Y) Y) .nil) Y Y)<|ZdP (Ent.sel [some 0, some 1, none, some 3, some 4, some 5] (sd 1 Y Y<|sr 2 Y (.ptr (r' := 0) _ _ _ Y)<|sr 3 Y (.ptr (r' := 1) _ _ _ Y)<|sr 4 Y (.frp ⟨Y, ⟨_, Y⟩, Y, Y⟩)<|sd 6 Y Y<|sr 14 Y (.mref (r' := 5) _ Y) sn) (.cons Y (ro1 (by exact tZ_62.symm)<|rld Y)<|.cons Y (ro1 (by exact tZ_3.symm)<|rld Y)<|.row 3<|.cons Y roE<|.cons Y roE<|.cons Y (Zke (fk := FK3) (m := ([] : List (Int × AV))) tZ_88 (fun _=>.dat Y) Y) .nil) Y Y)<|Rq Y (QD<|.cons (ov Y)<|.cons (ov Y) .nil)<|Rx Y (Zdq (m := ([] : List (Int × AV))) (fk := FK3) (fv := id) (k := 1) (v := .fn 39 [.rp [.fn 37 [.rp [.fn 36 []] 0]] 0, .rp [.int .i64 q] 0]) (m' := ([(1, .fn 39 [.rp [.fn 37 [.rp [.fn 36 []] 0]] 0, .rp [.int .i64 q] 0])] : List (Int × AV))) (ov Y) (ov Y) (ov Y) Zdc ZgT Y (fun _=>.b Y) Y)<|Rq Y (QD<|.cons (ov Y) .nil)<|Rx Y (Zdq (m := ([(1, .fn 39 [.rp [.fn 37 [.rp [.fn 36 []] 0]] 0, .rp [.int .i64 q] 0])] : List (Int × AV))) (fk := FK3) (fv := id) (k := 5) (v := .fn 40 [.rp [.fn 37 [.rp [.fn 36 []] 0]] 0]) (m' := ([(1, .fn 39 [.rp [.fn 37 [.rp [.fn 36 []] 0]] 0, .rp [.int .i64 q] 0]), (5, .fn 40 [.rp [.fn 37 [.rp [.fn 36 []] 0]] 0])] : List (Int × AV))) (ov Y) (ov Y) (ov Y) Zdc ZgT Y (fun _=>.b Y) Y)<|Rq Y (QD<|.cons (ov Y)<|.cons (ov Y) .nil)<|Rx Y (Zdq (m := ([(1, .fn 39 [.rp [.fn 37 [.rp [.fn 36 []] 0]] 0, .rp [.int .i64 q] 0]), (5, .fn 40 [.rp [.fn 37 [.rp [.fn 36 []] 0]] 0])] : List (Int × AV))) (fk := FK3) (fv := id) (k := 6) (v := .fn 41 [.rp [.fn 37 [.rp [.fn 36 []] 0]] 0, .rp [.str p.Name, .int .i64 p.Kind, .sl 42 (List.map R42 p.Parts), .int .i64 p.First, .int .i64 p.Every, .int .i64 p.Times, .int .i64 p.Step, .sl 9 (List.map R9 p.Names)] 0]) (m' := ([(1, .fn 39 [.rp [.fn 37 [.rp [.fn 36 []] 0]] 0, .rp [.int .i64 q] 0]), (5, .fn 40 [.rp [.fn 37 [.rp [.fn 36 []] 0]] 0]), (6, .fn 41 [.rp [.fn 37 [.rp [.fn 36 []] 0]] 0, .rp [.str p.Name, .int .i64 p.Kind, .sl 42 (List.map R42 p.Parts), .int .i64 p.First, .int .i64 p.Every, .int .i64 p.Times, .int .i64 p.Step, .sl 9 (List.map R9 p.Names)] 0])] : List (Int × AV))) (ov Y) (ov Y) (ov Y) Zdc ZgT Y (fun _=>.b Y) Y)<|Rq Y (QD<|.cons (ov Y) .nil)<|Rx Y (Zdq (m := ([(1, .fn 39 [.rp [.fn 37 [.rp [.fn 36 []] 0]] 0, .rp [.int .i64 q] 0]), (5, .fn 40 [.rp [.fn 37 [.rp [.fn 36 []] 0]] 0]), (6, .fn 41 [.rp [.fn 37 [.rp [.fn 36 []] 0]] 0, .rp [.str p.Name, .int .i64 p.Kind, .sl 42 (List.map R42 p.Parts), .int .i64 p.First, .int .i64 p.Every, .int .i64 p.Times, .int .i64 p.Step, .sl 9 (List.map R9 p.Names)] 0])] : List (Int × AV))) (fk := FK3) (fv := id) (k := 2) (v := .fn 42 [.rp [.int .i64 q] 0]) (m' := ([(1, .fn 39 [.rp [.fn 37 [.rp [.fn 36 []] 0]] 0, .rp [.int .i64 q] 0]), (5, .fn 40 [.rp [.fn 37 [.rp [.fn 36 []] 0]] 0]), (6, .fn 41 [.rp [.fn 37 [.rp [.fn 36 []] 0]] 0, .rp [.str p.Name, .int .i64 p.Kind, .sl 42 (List.map R42 p.Parts), .int .i64 p.First, .int .i64 p.Every, .int .i64 p.Times, .int .i64 p.Step, .sl 9 (List.map R9 p.Names)] 0]), (2, .fn 42 [.rp [.int .i64 q] 0])] : List (Int × AV))) (ov Y) (ov Y) (ov Y) Zdc ZgT Y (fun _=>.b Y) Y)<|Rq Y (QD<|.cons (ov Y) .nil)<|Rx Y (Zdq (m := ([(1, .fn 39 [.rp [.fn 37 [.rp [.fn 36 []] 0]] 0, .rp [.int .i64 q] 0]), (5, .fn 40 [.rp [.fn 37 [.rp [.fn 36 []] 0]] 0]), (6, .fn 41 [.rp [.fn 37 [.rp [.fn 36 []] 0]] 0, .rp [.str p.Name, .int .i64 p.Kind, .sl 42 (List.map R42 p.Parts), .int .i64 p.First, .int .i64 p.Every, .int .i64 p.Times, .int .i64 p.Step, .sl 9 (List.map R9 p.Names)] 0]), (2, .fn 42 [.rp [.int .i64 q] 0])] : List (Int × AV))) (fk := FK3) (fv := id) (k := 3) (v := .fn 45 [.rp [.int .i64 q] 0]) (m' := ([(1, .fn 39 [.rp [.fn 37 [.rp [.fn 36 []] 0]] 0, .rp [.int .i64 q] 0]), (5, .fn 40 [.rp [.fn 37 [.rp [.fn 36 []] 0]] 0]), (6, .fn 41 [.rp [.fn 37 [.rp [.fn 36 []] 0]] 0, .rp [.str p.Name, .int .i64 p.Kind, .sl 42 (List.map R42 p.Parts), .int .i64 p.First, .int .i64 p.Every, .int .i64 p.Times, .int .i64 p.Step, .sl 9 (List.map R9 p.Names)] 0]), (2, .fn 42 [.rp [.int .i64 q] 0]), (3, .fn 45 [.rp [.int .i64 q] 0])] : List (Int × AV))) (ov Y) (ov Y) (ov Y) Zdc ZgT Y (fun _=>.b Y) Y)<|ZdP (Ent.sel [some 0, none, some 2, some 3, some 4, some 5] (sd 1 Y Y<|sr 2 Y (.ptr (r' := 0) _ _ _ Y)<|sr 3 Y (.frp ⟨Y, ⟨_, Y⟩, Y, Y⟩)<|sd 4 Y Y<|sd 6 Y Y<|sr 14 Y (.mref (r' := 5) _ Y)<|sr 15 Y (rFn<|rlc (.dat Y)<|rlc (.dat Y) rln)<|sr 16 Y (rFn<|rlc (.dat Y) rln)<|sr 17 Y (rFn<|rlc (.dat Y)<|rlc (.dat Y) rln)<|sr 18 Y (rFn<|rlc (.dat Y) rln)<|sr 19 Y (rFn<|rlc (.dat Y) rln) sn) (.cons Y (ro1 (by exact tZ_62.symm)<|rld Y)<|.row 3<|.cons Y roE<|.cons Y roE<|.cons Y roE<|.cons Y (Zke (fk := FK3) (m := ([(1, .fn 39 [.rp [.fn 37 [.rp [.fn 36 []] 0]] 0, .rp [.int .i64 q] 0]), (5, .fn 40 [.rp [.fn 37 [.rp [.fn 36 []] 0]] 0]), (6, .fn 41 [.rp [.fn 37 [.rp [.fn 36 []] 0]] 0, .rp [.str p.Name, .int .i64 p.Kind, .sl 42 (List.map R42 p.Parts), .int .i64 p.First, .int .i64 p.Every, .int .i64 p.Times, .int .i64 p.Step, .sl 9 (List.map R9 p.Names)] 0]), (2, .fn 42 [.rp [.int .i64 q] 0]), (3, .fn 45 [.rp [.int .i64 q] 0])] : List (Int × AV))) tZ_88 (fun _=>.dat Y) Y) .nil) Y Y)<|Rq Y (QD<|.cons (ov Y) .nil)<|Rx Y (Zdq (m := ([(1, .fn 39 [.rp [.fn 37 [.rp [.fn 36 []] 0]] 0, .rp [.int .i64 q] 0]), (5, .fn 40 [.rp [.fn 37 [.rp [.fn 36 []] 0]] 0]), (6, .fn 41 [.rp [.fn 37 [.rp [.fn 36 []] 0]] 0, .rp [.str p.Name, .int .i64 p.Kind, .sl 42 (List.map R42 p.Parts), .int .i64 p.First, .int .i64 p.Every, .int .i64 p.Times, .int .i64 p.Step, .sl 9 (List.map R9 p.Names)] 0]), (2, .fn 42 [.rp [.int .i64 q] 0]), (3, .fn 45 [.rp [.int .i64 q] 0])] : List (Int × AV))) (fk := FK3) (fv := id) (k := 4) (v := .fn 48 [.rp [.int .i64 y] 0]) (m' := ([(1, .fn 39 [.rp [.fn 37 [.rp [.fn 36 []] 0]] 0, .rp [.int .i64 q] 0]), (5, .fn 40 [.rp [.fn 37 [.rp [.fn 36 []] 0]] 0]), (6, .fn 41 [.rp [.fn 37 [.rp [.fn 36 []] 0]] 0, .rp [.str p.Name, .int .i64 p.Kind, .sl 42 (List.map R42 p.Parts), .int .i64 p.First, .int .i64 p.Every, .int .i64 p.Times, .int .i64 p.Step, .sl 9 (List.map R9 p.Names)] 0]), (2, .fn 42 [.rp [.int .i64 q] 0]), (3, .fn 45 [.rp [.int .i64 q] 0]), (4, .fn 48 [.rp [.int .i64 y] 0])] : List (Int × AV))) (ov Y) (ov Y) (ov Y) Zdc ZgT Y (fun _=>.b Y) Y)<|Rm Y<|Ra Y<|Za<|K3 1 2 7 Y<|Tr<|Rm Y<|Rq Y (Zf (ov Y) ZaY)<|Rq Y (Zb (ov Y) tS3 Y)<|?_
 rcases ifR h with ⟨hk3_0, h⟩ | ⟨hk3_0, h⟩
 ·
  refine Rq Y (ZhF (m := ([(1, .fn 39 [.rp [.fn 37 [.rp [.fn 36 []] 0]] 0, .rp [.int .i64 q] 0]), (5, .fn 40 [.rp [.fn 37 [.rp [.fn 36 []] 0]] 0]), (6, .fn 41 [.rp [.fn 37 [.rp [.fn 36 []] 0]] 0, .rp [.str p.Name, .int .i64 p.Kind, .sl 42 (List.map R42 p.Parts), .int .i64 p.First, .int .i64 p.Every, .int .i64 p.Times, .int .i64 p.Step, .sl 9 (List.map R9 p.Names)] 0]), (2, .fn 42 [.rp [.int .i64 q] 0]), (3, .fn 45 [.rp [.int .i64 q] 0]), (4, .fn 48 [.rp [.int .i64 y] 0])] : List (Int × AV))) (fk := FK3) (fv := id) (k := p.Kind) (z0 := .lit .nilFunc) (ov Y) (ov Y) Zdc ZgT Y (fun _=>.b Y) (Za6 Zij Y) (nsD Y)<|lkS<|mgT hk3_0)<|bE h fun y2 h_y2 h=>Rq Y (JL (ov Y) Y (ZeH h_y2) .nil)<|Rx Y (Zj (ov Y) (ov Y) (Zg ZbM Y) Y Y Y (Nat.le_of_ble_eq_true Y) (Zc Y) Y)<|Za<|?_
  obtain rfl := rt h
  exact Zi (Zn Y (.one<|.agg Y Y Y Y ZbM Y Y<|.cons (Dat.view<|.b Y)<|.cons (Dat.view<|.b Y)<|.cons (Dat.view<|Dat.fnC<|.refl fun x hx => .b<|List.all_eq_true.1 (((XD h_y2).1)).1 x hx)<|.cons (Dat.view<|Dat.fnC<|.refl fun x hx => .b<|List.all_eq_true.1 (((XD h_y2).2)).1 x hx) .nil))
 ·
  rcases ifR h with ⟨hk3_1, h⟩ | ⟨hk3_1, h⟩
  ·
   refine Rq Y (ZhF (m := ([(1, .fn 39 [.rp [.fn 37 [.rp [.fn 36 []] 0]] 0, .rp [.int .i64 q] 0]), (5, .fn 40 [.rp [.fn 37 [.rp [.fn 36 []] 0]] 0]), (6, .fn 41 [.rp [.fn 37 [.rp [.fn 36 []] 0]] 0, .rp [.str p.Name, .int .i64 p.Kind, .sl 42 (List.map R42 p.Parts), .int .i64 p.First, .int .i64 p.Every, .int .i64 p.Times, .int .i64 p.Step, .sl 9 (List.map R9 p.Names)] 0]), (2, .fn 42 [.rp [.int .i64 q] 0]), (3, .fn 45 [.rp [.int .i64 q] 0]), (4, .fn 48 [.rp [.int .i64 y] 0])] : List (Int × AV))) (fk := FK3) (fv := id) (k := p.Kind) (z0 := .lit .nilFunc) (ov Y) (ov Y) Zdc ZgT Y (fun _=>.b Y) (Za6 Zij Y) (nsD Y)<|lkS<|mgF hk3_0<|mgT hk3_1)<|bE h fun y3 h_y3 h=>Rq Y (JL (ov Y) Y (Zex h_y3) .nil)<|Rx Y (Zj (ov Y) (ov Y) (Zg ZbM Y) Y Y Y (Nat.le_of_ble_eq_true Y) (Zc Y) Y)<|Za<|?_
   obtain rfl := rt h
   exact Zi (Zn Y (.one<|.agg Y Y Y Y ZbM Y Y<|.cons (Dat.view<|.b Y)<|.cons (Dat.view<|.b Y)<|.cons (Dat.view<|Dat.fnC<|.refl fun x hx => .b<|List.all_eq_true.1 (((XE h_y3).1)).1 x hx)<|.cons (Dat.view<|Dat.fnC<|.refl fun x hx => .b<|List.all_eq_true.1 (((XE h_y3).2)).1 x hx) .nil))
  ·
   rcases ifR h with ⟨hk3_2, h⟩ | ⟨hk3_2, h⟩
   ·
    refine Rq Y (ZhF (m := ([(1, .fn 39 [.rp [.fn 37 [.rp [.fn 36 []] 0]] 0, .rp [.int .i64 q] 0]), (5, .fn 40 [.rp [.fn 37 [.rp [.fn 36 []] 0]] 0]), (6, .fn 41 [.rp [.fn 37 [.rp [.fn 36 []] 0]] 0, .rp [.str p.Name, .int .i64 p.Kind, .sl 42 (List.map R42 p.Parts), .int .i64 p.First, .int .i64 p.Every, .int .i64 p.Times, .int .i64 p.Step, .sl 9 (List.map R9 p.Names)] 0]), (2, .fn 42 [.rp [.int .i64 q] 0]), (3, .fn 45 [.rp [.int .i64 q] 0]), (4, .fn 48 [.rp [.int .i64 y] 0])] : List (Int × AV))) (fk := FK3) (fv := id) (k := p.Kind) (z0 := .lit .nilFunc) (ov Y) (ov Y) Zdc ZgT Y (fun _=>.b Y) (Za6 Zij Y) (nsD Y)<|lkS<|mgF hk3_0<|mgF hk3_1<|mgT hk3_2)<|bE h fun y4 h_y4 h=>Rq Y (JL (ov Y) Y (ZeF h_y4) .nil)<|Rx Y (Zj (ov Y) (ov Y) (Zg ZbM Y) Y Y Y (Nat.le_of_ble_eq_true Y) (Zc Y) Y)<|Za<|?_
    obtain rfl := rt h
    exact Zi (Zn Y (.one<|.agg Y Y Y Y ZbM Y Y<|.cons (Dat.view<|.b Y)<|.cons (Dat.view<|.b Y)<|.cons (Dat.view<|Dat.fnC<|.refl fun x hx => .b<|List.all_eq_true.1 (((XB h_y4).1)).1 x hx)<|.cons (Dat.view<|Dat.fnC<|.refl fun x hx => .b<|List.all_eq_true.1 (((XB h_y4).2)).1 x hx) .nil))
   ·
    rcases ifR h with ⟨hk3_3, h⟩ | ⟨hk3_3, h⟩
    ·
     refine Rq Y (ZhF (m := ([(1, .fn 39 [.rp [.fn 37 [.rp [.fn 36 []] 0]] 0, .rp [.int .i64 q] 0]), (5, .fn 40 [.rp [.fn 37 [.rp [.fn 36 []] 0]] 0]), (6, .fn 41 [.rp [.fn 37 [.rp [.fn 36 []] 0]] 0, .rp [.str p.Name, .int .i64 p.Kind, .sl 42 (List.map R42 p.Parts), .int .i64 p.First, .int .i64 p.Every, .int .i64 p.Times, .int .i64 p.Step, .sl 9 (List.map R9 p.Names)] 0]), (2, .fn 42 [.rp [.int .i64 q] 0]), (3, .fn 45 [.rp [.int .i64 q] 0]), (4, .fn 48 [.rp [.int .i64 y] 0])] : List (Int × AV))) (fk := FK3) (fv := id) (k := p.Kind) (z0 := .lit .nilFunc) (ov Y) (ov Y) Zdc ZgT Y (fun _=>.b Y) (Za6 Zij Y) (nsD Y)<|lkS<|mgF hk3_0<|mgF hk3_1<|mgF hk3_2<|mgT hk3_3)<|bE h fun y5 h_y5 h=>Rq Y (JL (ov Y) Y (Zd1 h_y5) .nil)<|Rx Y (Zj (ov Y) (ov Y) (Zg ZbM Y) Y Y Y (Nat.le_of_ble_eq_true Y) (Zc Y) Y)<|Za<|?_
     obtain rfl := rt h
     exact Zi (Zn Y (.one<|.agg Y Y Y Y ZbM Y Y<|.cons (Dat.view<|.b Y)<|.cons (Dat.view<|.b Y)<|.cons (Dat.view<|Dat.fnC<|.refl fun x hx => .b<|List.all_eq_true.1 (((XA h_y5).1)).1 x hx)<|.cons (Dat.view<|Dat.fnC<|.refl fun x hx => .b<|List.all_eq_true.1 (((XA h_y5).2)).1 x hx) .nil))
    ·
     rcases ifR h with ⟨hk3_4, h⟩ | ⟨hk3_4, h⟩
     ·
      refine Rq Y (ZhF (m := ([(1, .fn 39 [.rp [.fn 37 [.rp [.fn 36 []] 0]] 0, .rp [.int .i64 q] 0]), (5, .fn 40 [.rp [.fn 37 [.rp [.fn 36 []] 0]] 0]), (6, .fn 41 [.rp [.fn 37 [.rp [.fn 36 []] 0]] 0, .rp [.str p.Name, .int .i64 p.Kind, .sl 42 (List.map R42 p.Parts), .int .i64 p.First, .int .i64 p.Every, .int .i64 p.Times, .int .i64 p.Step, .sl 9 (List.map R9 p.Names)] 0]), (2, .fn 42 [.rp [.int .i64 q] 0]), (3, .fn 45 [.rp [.int .i64 q] 0]), (4, .fn 48 [.rp [.int .i64 y] 0])] : List (Int × AV))) (fk := FK3) (fv := id) (k := p.Kind) (z0 := .lit .nilFunc) (ov Y) (ov Y) Zdc ZgT Y (fun _=>.b Y) (Za6 Zij Y) (nsD Y)<|lkS<|mgF hk3_0<|mgF hk3_1<|mgF hk3_2<|mgF hk3_3<|mgT hk3_4)<|bE h fun y6 h_y6 h=>Rq Y (JL (ov Y) Y (Zey h_y6) .nil)<|Rx Y (Zj (ov Y) (ov Y) (Zg ZbM Y) Y Y Y (Nat.le_of_ble_eq_true Y) (Zc Y) Y)<|Za<|?_
      obtain rfl := rt h
      exact Zi (Zn Y (.one<|.agg Y Y Y Y ZbM Y Y<|.cons (Dat.view<|.b Y)<|.cons (Dat.view<|.b Y)<|.cons (Dat.view<|Dat.fnC<|.refl fun x hx => .b<|List.all_eq_true.1 (((Xz h_y6).1)).1 x hx)<|.cons (Dat.view<|Dat.fnC<|.refl fun x hx => .b<|List.all_eq_true.1 (((Xz h_y6).2)).1 x hx) .nil))
     ·
      rcases ifR h with ⟨hk3_5, h⟩ | ⟨hk3_5, h⟩
      ·
       refine Rq Y (ZhF (m := ([(1, .fn 39 [.rp [.fn 37 [.rp [.fn 36 []] 0]] 0, .rp [.int .i64 q] 0]), (5, .fn 40 [.rp [.fn 37 [.rp [.fn 36 []] 0]] 0]), (6, .fn 41 [.rp [.fn 37 [.rp [.fn 36 []] 0]] 0, .rp [.str p.Name, .int .i64 p.Kind, .sl 42 (List.map R42 p.Parts), .int .i64 p.First, .int .i64 p.Every, .int .i64 p.Times, .int .i64 p.Step, .sl 9 (List.map R9 p.Names)] 0]), (2, .fn 42 [.rp [.int .i64 q] 0]), (3, .fn 45 [.rp [.int .i64 q] 0]), (4, .fn 48 [.rp [.int .i64 y] 0])] : List (Int × AV))) (fk := FK3) (fv := id) (k := p.Kind) (z0 := .lit .nilFunc) (ov Y) (ov Y) Zdc ZgT Y (fun _=>.b Y) (Za6 Zij Y) (nsD Y)<|lkS<|mgF hk3_0<|mgF hk3_1<|mgF hk3_2<|mgF hk3_3<|mgF hk3_4<|mgT hk3_5)<|bE h fun y7 h_y7 h=>Rq Y (JL (ov Y) Y (Zed h_y7) .nil)<|Rx Y (Zj (ov Y) (ov Y) (Zg ZbM Y) Y Y Y (Nat.le_of_ble_eq_true Y) (Zc Y) Y)<|Za<|?_
       obtain rfl := rt h
       exact Zi (Zn Y (.one<|.agg Y Y Y Y ZbM Y Y<|.cons (Dat.view<|.b Y)<|.cons (Dat.view<|.b Y)<|.cons (Dat.view<|Dat.fnC<|.refl fun x hx => .b<|List.all_eq_true.1 (((XC h_y7).1)).1 x hx)<|.cons (Dat.view<|Dat.fnC<|.refl fun x hx => .b<|List.all_eq_true.1 (((XC h_y7).2)).1 x hx) .nil))
      ·
       exact (Zpa h).elim
theorem X4 {p : api_Param} {r : layout_number} (h : Qb p = some r) : Zcr r.encode ∧ Zcq r.decode := by
  have key : Zep (fun r => Zcr r.encode ∧ Zcq r.decode) (Qb p) := by
    unfold Qb
    repeat' (first | exact Zcy | with_reducible refine Zee ?_ ?_ | with_reducible refine ZcQ fun _ _ => ?_ | with_reducible refine ZgQ ?_)
    all_goals first | exact Zaf ⟨((XD (by assumption)).1), ((XD (by assumption)).2)⟩ | exact Zaf ⟨((XE (by assumption)).1), ((XE (by assumption)).2)⟩ | exact Zaf ⟨((XB (by assumption)).1), ((XB (by assumption)).2)⟩ | exact Zaf ⟨((XA (by assumption)).1), ((XA (by assumption)).2)⟩ | exact Zaf ⟨((Xz (by assumption)).1), ((Xz (by assumption)).2)⟩ | exact Zaf ⟨((XC (by assumption)).1), ((XC (by assumption)).2)⟩
  exact key r h
theorem Zej {m : api_Map} {l : List Int} {r : (Vector (List Int) 16) × Int} (h : Jd m l = some r) :
 CSpec Tryd.prog gl0 7 [.agg [.int .i64 m.Version, .sl 46 (List.map R46 m.Params)], .sl 3 (List.map R3 l)] (.tuple [.agg (List.map C25 r.1.toList), .int .i64 r.2]) := by
 unfold Jd at h
 replace h := Z0 h
 refine So Tryd.func7 Y fun w0 A=>Tr<|Rq Y (Qa (cva<|ov Y) Y tZ_24 Y)<|Rx Y (Zq (row := [_, _, _, _, _, _, _, _, _, _, _, _, _, _, _, _]) 0 Y Zjb Y tZ_35)<|Ra Y<|Za<|K3 1 2 4 Y<|Tr<|Rx Y (Zq (row := [_, _, _, _, _, _, _, _, _, _, _, _, _, _, _, _]) 1 Y Zjb Y tZ_35)<|Rx Y (Zq (row := [_, _, _, _, _, _, _, _, _, _, _, _, _, _, _, _]) 2 Y Zjb Y tZ_35)<|Za<|Zh<|Tr<|Rq Y (Zk (ov Y) ZgF Y Y)<|bE h fun y h_y h=>Rq Y (Zl (ZdV h_y)<|.cons (ov Y) (.aggB Y) .nil)<|Rm Y<|Rq Y (ZK (ov Y) Y)<|Rq Y (ZK (ov Y) Y)<|Ra Y<|Ra Y<|Za<|K6 1 2 4 6 7 9 Y<|Tr<|Rm Y<|R2 QZ Y<|Za<|K7 1 2 4 6 7 9 25 Y<|If h Y (fun h=>?_) fun h=>?_
 ·
  refine K3 4 7 9 Y<|Tr<|Rq Y (ZC (ov Y) Y Y Y Za0 Y Y)<|Rm Y<|Rx Y (Zj (ov Y) (ov Y) (Zg Za0 Y) Y Y Y (Nat.le_of_ble_eq_true Y) (Zc Y) Y)<|Ra Y<|Za<|?_
  obtain rfl := rt h
  exact Zi (Zn Y (.two (.agg Y Y Y Y Za0 Y Y<|pwZ (m := 16) (f := C25) Y Y)<|rb Y))
 ·
  refine Ze<|K5 1 2 4 6 7 Y<|Tr<|Rq Y (Zk (ov Y) ZgF Y Y)<|bE h fun y2 h_y2 h=>Rq Y (Zl (ZdS h_y2)<|.cons (ov Y) (.aggB Y) .nil)<|Ra Y<|Za<|Zh<|K6 1 2 4 6 7 10 Y<|Tr<|Rm Y<|Rl tZ_3 X3 Y<|Rm Y<|Rl tZ_58 ZbZ Y<|R2 QZ Y<|Za<|K7 1 2 4 6 7 10 34 Y<|If h Y (fun h=>?_) fun h=>?_
  ·
   refine K2 4 7 Y<|Tr<|Rq Y (ZC (ov Y) Y Y Y Za0 Y Y)<|Rx Y (Zj (ov Y) (ov Y) (Zg Za0 Y) Y Y Y (Nat.le_of_ble_eq_true Y) (Zc Y) Y)<|Ra Y<|Za<|?_
   obtain rfl := rt h
   exact Zi (Zn Y (.two (.agg Y Y Y Y Za0 Y Y<|pwZ (m := 16) (f := C25) Y Y)<|rb Y))
  ·
   refine Ze<|I1 (fun out=>⟨[(1, .sl 3 (List.map R3 l)), (2, .rp [.int .i64 m.Version, .sl 46 (List.map R46 m.Params)] 0), (4, .ptr 0 1 0 0), (6, .ptr 1 1 0 0), (7, .ptr 2 1 0 0), (10, .sl 58 (List.map R58 y2))], [some ⟨35, [[.nils, .nils, .nils, .nils, .nils, .nils, .nils, .nils, .nils, .nils, .nils, .nils, .nils, .nils, .nils, .nils]]⟩, some ⟨35, [(List.map (osF 3 R3) out.toList)]⟩, some ⟨35, [[.nils, .nils, .nils, .nils, .nils, .nils, .nils, .nils, .nils, .nils, .nils, .nils, .nils, .nils, .nils, .nils]]⟩]⟩) h (fun h=>?_) fun out h=>?_
   ·
    refine K6 1 2 4 6 7 10 Y<|Tr<|Rm Y<|Za<|Zd<|?_
    obtain ⟨r1, hl1, ho1⟩ := Qt h
    refine L2 (fun out2 i=>⟨[(1, .sl 3 (List.map R3 l)), (2, .rp [.int .i64 m.Version, .sl 46 (List.map R46 m.Params)] 0), (4, .ptr 0 1 0 0), (6, .ptr 1 1 0 0), (7, .ptr 2 1 0 0), (10, .sl 58 (List.map R58 y2)), (36, .int .i64 i)], [some ⟨35, [[.nils, .nils, .nils, .nils, .nils, .nils, .nils, .nils, .nils, .nils, .nils, .nils, .nils, .nils, .nils, .nils]]⟩, some ⟨35, [(List.map (osF 3 R3) out2.toList)]⟩, some ⟨35, [[.nils, .nils, .nils, .nils, .nils, .nils, .nils, .nils, .nils, .nils, .nils, .nils, .nils, .nils, .nils, .nils]]⟩]⟩) hl1 (ES [some 0, some 1, some 2] (hhp := .cons Y (Zaz (by exact tZ_35.symm) Y)<|.cons Y (Zpl Y tZ_35)<|.cons Y (Zaz (by exact tZ_35.symm) Y) .nil)) fun n1 out2 i h=>?_
    unfold Q3 at h
    refine Tr<|R2 ZH Y<|Za<|Zh<|If h Y (fun h=>?_) fun h=>?_
    ·
     exact Ze<|Zh<|Zd<|K7 1 2 4 6 7 10 36 Y<|Tr<|Rm Y<|Ra Y<|Za<|K8 1 2 4 6 7 10 11 36 Y<|Tr<|Rm Y<|bE h fun l2 h_l2 h=>Rx Y (ZkL [none] (r := 3) (f := R3) (z0 := 0) Y (ov Y) (ov Y) X3 Y tZ3 Y Y h_l2)<|bE h fun x h_x h=>Rq Y (Ql (ov Y) (ov Y) ZdF Y Y h_x)<|Rx Y (Zj (ov Y) (ov Y) (ZA ZdJ) Y Y Y (arB h_x) (Zc Y)<|ZlN h_x)<|ZdP (Ent.absorbA (r := 1) (q := 3) Y h_x Y Y Y)<|Za<|K8 1 2 4 6 7 10 11 36 Y<|bE h fun l3 h_l3 h=>Zip (Ent.focusA (r := 1) Y h_l3 D3)<|ZdZ (cw := md0) (by kernel_rfl)<|D1 0 Zr Y<|bE h fun x2 h_x2 h=>Dq 1 Y (Ql (ov Y) (ov Y) ZdF Y Y h_x2)<|Dq 2 Y (Zm (ov Y) Y Y Y ZdJ<|ZiC h_l3)<|Dq 3 Y (Zf (ov Y) Zht)<|Dq 4 Y (Zb (ov Y) tS3 Y)<|bE h fun x3 h_x3 h=>Dq 5 Y (Zgr (ov Y) (ov Y) X3 Y Y h_x3)<|Do 6 Y (Zfz (u' := m.Version) (ov Y) (ov Y) (ZA tS3) Y Y h_x3 Y (Zc Y) Y)<|ZgY (by kernel_rfl) (Ent.absorbA (r := 1) (q := 4) Y h_l3 Y ((List.length_set ..).trans Y) Y)<|K7 1 2 4 6 7 10 36 Y<|Zt<|R2 ZT Y<|Rm Y<|Za<|⟨_, h, ES [some 0, some 1, some 2] (hhp := .cons Y (Zaz (by exact tZ_35.symm) Y)<|.cons Y (ZeX tZ_35 D3)<|.cons Y (Zaz (by exact tZ_35.symm) Y) .nil)⟩
    ·
     refine Zz<|?_
     replace h := lx h ▸ ho1
     exact ⟨_, h, ES [some 0, some 1, some 2] (hhp := .cons Y (Zaz (by exact tZ_35.symm) Y)<|.cons Y (ZeX tZ_35 D3)<|.cons Y (Zaz (by exact tZ_35.symm) Y) .nil)⟩
   ·
    refine J1 (fun j => (.inr j)) (fun out3=>⟨[(4, .ptr 0 1 0 0), (6, .ptr 1 1 0 0)], [some ⟨35, [[.nils, .nils, .nils, .nils, .nils, .nils, .nils, .nils, .nils, .nils, .nils, .nils, .nils, .nils, .nils, .nils]]⟩, some ⟨35, [(List.map (osF 3 R3) out3.toList)]⟩]⟩) h (fun h=>?_) fun out3 h=>?_
    ·
     refine Tr<|Rm Y<|Rl tZ_58 ZbZ Y<|Rm Y<|Za<|Zd<|?_
     obtain ⟨r2, hl2, ho2⟩ := Qt h
     refine L2 (fun out4 i2=>⟨[(1, .sl 3 (List.map R3 l)), (2, .rp [.int .i64 m.Version, .sl 46 (List.map R46 m.Params)] 0), (4, .ptr 0 1 0 0), (6, .ptr 1 1 0 0), (7, .ptr 2 1 0 0), (49, .sl 58 (List.map R58 y2)), (50, .int .i64 (y2.length : Int)), (51, .int .i64 i2)], [some ⟨35, [[.nils, .nils, .nils, .nils, .nils, .nils, .nils, .nils, .nils, .nils, .nils, .nils, .nils, .nils, .nils, .nils]]⟩, some ⟨35, [(List.map (osF 3 R3) out4.toList)]⟩, some ⟨35, [[.nils, .nils, .nils, .nils, .nils, .nils, .nils, .nils, .nils, .nils, .nils, .nils, .nils, .nils, .nils, .nils]]⟩]⟩) hl2 (ES [some 0, some 1, some 2] (hhp := .cons Y (Zaz (by exact tZ_35.symm) Y)<|.cons Y (ZeX tZ_35 D3)<|.cons Y (Zaz (by exact tZ_35.symm) Y) .nil)) fun n2 out4 i2 h=>?_
     unfold Q4 at h
     refine Tr<|R2 ZH Y<|Za<|Zh<|If h Y (fun h=>?_) fun h=>?_
     ·
      refine Ze<|J1 (fun j => (.inr j)) (fun out5=>⟨[(1, .sl 3 (List.map R3 l)), (2, .rp [.int .i64 m.Version, .sl 46 (List.map R46 m.Params)] 0), (4, .ptr 0 1 0 0), (6, .ptr 1 1 0 0), (7, .ptr 2 1 0 0), (49, .sl 58 (List.map R58 y2)), (50, .int .i64 (y2.length : Int)), (51, .int .i64 i2)], [some ⟨35, [[.nils, .nils, .nils, .nils, .nils, .nils, .nils, .nils, .nils, .nils, .nils, .nils, .nils, .nils, .nils, .nils]]⟩, some ⟨35, [(List.map (osF 3 R3) out5.toList)]⟩, some ⟨35, [[.nils, .nils, .nils, .nils, .nils, .nils, .nils, .nils, .nils, .nils, .nils, .nils, .nils, .nils, .nils, .nils]]⟩]⟩) h (fun h=>?_) fun out5 h=>?_
      ·
       refine Zd<|K8 1 2 4 6 7 49 50 51 Y<|Tr<|Rm Y<|bE h fun x4 h_x4 h=>Rq Y (ZE (ov Y) (ov Y) ZbZ h_x4)<|Rq Y (Zk (ov Y) ZdO Y Y)<|Rx Y (Zq (row := [_, _, _, _]) 3 Y ZhG Y tZ_58)<|Ra Y<|Rx Y (Zj (ov Y) (ov Y) (Zg ZdO Y) Y Y Y (Nat.le_of_ble_eq_true Y) (Zc Y) Y)<|Za<|K10 1 2 4 6 7 12 13 49 50 51 Y<|Tr<|Rq Y (Zf (ov Y) J9)<|Rq Y (Zb (ov Y) Zd9 Y)<|Rq Y (Zp (ov Y) Y Y Zgu)<|Rq Y (Zm (ov Y) Y Y Y tS3 Y)<|bE h fun x5 h_x5 h=>Rq Y (ZE (ov Y) (ov Y) Za9 h_x5)<|Rq Y (Zk (ov Y) Q5 Y Y)<|bE h fun y3 h_y3 h=>Rq Y (Zl (ZcI h_y3)<|.cons (ov Y) (.aggB Y) .nil)<|Rx Y (Zq (row := [_, _, _, _]) 4 Y Zgc Y tZ_62)<|Rx Y (Zj (ov Y) (ov Y) (Zg ZbM Y) Y Y Y (Nat.le_of_ble_eq_true Y) (Zc Y) Y)<|Za<|Zh<|K11 1 2 4 6 7 12 13 14 49 50 51 Y<|Td md0<|D1 0 Zr Y<|D1 1 Zr Y<|bE h fun x6 h_x6 h=>Dq 2 Y (ZE (ov Y) (ov Y) X3 h_x6)<|Dq 3 Y (Zb (ov Y) tS3 Y)<|Dq 4 Y (Zp (ov Y) Y Y Zn7)<|Dq 5 Y (Zm (ov Y) Y Y Y tS3 Y)<|Dq 6 Y (Zp (ov Y) Y Y ZoC)<|Dq 7 Y (Zm (ov Y) Y Y Y tS3 Y)<|bE h fun y4 h_y4 h=>Dq 8 Y (Zl (Z4 h_y4)<|.cons (ov Y) (.b Y)<|.cons (ov Y) (.b Y)<|.cons (ov Y) (.b Y) .nil)<|D1 9 X1 Y<|Dd<|K12 1 2 4 6 7 12 13 14 49 50 51 72 Y<|If h Y (fun h=>?_) fun h=>?_
       ·
        refine K2 4 7 Y<|Tr<|Rq Y (ZC (ov Y) Y Y Y Za0 Y Y)<|Rx Y (Zj (ov Y) (ov Y) (Zg Za0 Y) Y Y Y (Nat.le_of_ble_eq_true Y) (Zc Y) Y)<|Ra Y<|Za<|?_
        replace h := lx h ▸ ho2
        obtain rfl := rt h
        exact Zi (Zn Y (.two (.agg Y Y Y Y Za0 Y Y<|pwZ (m := 16) (f := C25) Y Y)<|rb Y))
       ·
        refine Ze<|K11 1 2 4 6 7 12 13 14 49 50 51 Y<|Td md0<|Dq 0 Y (Zp (ov Y) Y Y Zof)<|Dq 1 Y (Zm (ov Y) Y Y Y Zoq Y)<|D1 2 Zr Y<|D1 3 Zr Y<|bE h fun x7 h_x7 h=>Dq 4 Y (ZE (ov Y) (ov Y) X3 h_x7)<|Dq 5 Y (Zb (ov Y) tS3 Y)<|bE h fun y5 h_y5 h=>Dq 6 Y (JL (ov Y) (((X4 h_y3).1)).1 ((((X4 h_y3).1)).2 _ _ h_y5)<|.cons (ov Y) (.b Y) .nil)<|Dq 7 Y (Zf (ov Y) J9)<|Dq 8 Y (Zb (ov Y) Zd9 Y)<|Dq 9 Y (Zp (ov Y) Y Y Zgu)<|Dq 10 Y (Zm (ov Y) Y Y Y tS3 Y)<|bE h fun x8 h_x8 h=>Dq 11 Y (ZE (ov Y) (ov Y) Za9 h_x8)<|Dq 12 Y (Zk (ov Y) Q5 Y Y)<|bE h fun y6 h_y6 h=>Dq 13 Y (Zl (Zah h_y6)<|.cons (ov Y) (.aggB Y) .nil)<|D1 14 Qe Y<|D1 15 Qe Y<|Dd<|K11 1 2 4 6 7 13 15 16 49 50 51 Y<|Tr<|Rq Y (Zp (ov Y) Y Y Zc4)<|Rq Y (Zm (ov Y) Y Y Y Zh0 Y)<|Rl tZ_65 Zf1 Y<|Rm Y<|Za<|Zd<|?_
        obtain ⟨r3, hl3, ho3⟩ := bnd h
        refine L3 (fun out6 left i3=>⟨[(1, .sl 3 (List.map R3 l)), (2, .rp [.int .i64 m.Version, .sl 46 (List.map R46 m.Params)] 0), (4, .ptr 0 1 0 0), (6, .ptr 1 1 0 0), (7, .ptr 2 1 0 0), (15, .int .i64 y5), (16, .int .i64 left), (49, .sl 58 (List.map R58 y2)), (50, .int .i64 (y2.length : Int)), (51, .int .i64 i2), (89, .sl 65 (List.map R65 x4.Places)), (90, .int .i64 (x4.Places.length : Int)), (91, .int .i64 i3)], [some ⟨35, [[.nils, .nils, .nils, .nils, .nils, .nils, .nils, .nils, .nils, .nils, .nils, .nils, .nils, .nils, .nils, .nils]]⟩, some ⟨35, [(List.map (osF 3 R3) out6.toList)]⟩, some ⟨35, [[.nils, .nils, .nils, .nils, .nils, .nils, .nils, .nils, .nils, .nils, .nils, .nils, .nils, .nils, .nils, .nils]]⟩]⟩) hl3 (ES [some 0, some 1, some 2] (hhp := .cons Y (Zaz (by exact tZ_35.symm) Y)<|.cons Y (ZeX tZ_35 D3)<|.cons Y (Zaz (by exact tZ_35.symm) Y) .nil)) fun n3 out6 left i3 h=>?_
        unfold Xu at h
        refine Tr<|R2 ZH Y<|Za<|Zh<|If h Y (fun h=>?_) fun h=>?_
        ·
         exact Ze<|Zh<|Zd<|XJ (kc 1 Y<|kc 2 Y<|kc 4 Y<|kc 6 Y<|kc 7 Y<|kc 15 Y<|kc 16 Y<|kc 49 Y<|kc 50 Y<|kc 51 Y<|kc 89 Y<|kc 90 Y<|kc 91 Y kn) Y<|Tr<|bE h fun x9 h_x9 h=>Rq Y (ZE (ov Y) (ov Y) Zf1 h_x9)<|Rq Y (Zk (ov Y) ZgE Y Y)<|Rx Y (Zq (row := [_, _, _, _]) 3 Y Zjz Y tZ_65)<|Rx Y (Zj (ov Y) (ov Y) (Zg ZgE Y) Y Y Y (Nat.le_of_ble_eq_true Y) (Zc Y) Y)<|Za<|XJ (kc 1 Y<|kc 2 Y<|kc 4 Y<|kc 6 Y<|kc 7 Y<|kc 15 Y<|kc 16 Y<|kc 18 Y<|kc 49 Y<|kc 50 Y<|kc 51 Y<|kc 89 Y<|kc 90 Y<|kc 91 Y kn) Y<|Tr<|Rm Y<|Rq Y (Zp (ov Y) Y Y Zea)<|Rq Y (Zm (ov Y) Y Y Y tS3 Y)<|R2 JV Y<|Ra Y<|Za<|XJ (kc 1 Y<|kc 2 Y<|kc 4 Y<|kc 6 Y<|kc 7 Y<|kc 15 Y<|kc 16 Y<|kc 18 Y<|kc 49 Y<|kc 50 Y<|kc 51 Y<|kc 89 Y<|kc 90 Y<|kc 91 Y kn) Y<|bE h fun l4 h_l4 h=>Zip (Ent.focusA (r := 1) Y h_l4 D3)<|ZdZ (cw := md0) (by kernel_rfl)<|Dq 0 Y (Zp (ov Y) Y Y ZhA)<|Dq 1 Y (Zm (ov Y) Y Y Y tS3 Y)<|bE h fun x10 h_x10 h=>Dq 2 Y (Ql (ov Y) (ov Y) ZdF Y Y h_x10)<|Dq 3 Y (Zm (ov Y) Y Y Y ZdJ<|ZiC h_l4)<|Dq 4 Y (Zp (ov Y) Y Y Zhb)<|Dq 5 Y (Zm (ov Y) Y Y Y tS3 Y)<|D2 6 JV Y<|bE h fun x11 h_x11 h=>Dq 7 Y (Zgr (ov Y) (ov Y) X3 Y Y h_x11)<|Dq 8 Y (Zjl (ov Y) Y Y h_x11 tS3 Y)<|D1 9 Zr Y<|D1 10 Zr Y<|bE h fun q h_q h=>Dq 11 Y (ZdH (ov Y) (ov Y) h_q)<|Dq 12 Y (Zp (ov Y) Y Y Zea)<|Dq 13 Y (Zm (ov Y) Y Y Y tS3 Y)<|bE h fun q2 h_q2 h=>Dq 14 Y (Jb (ov Y) (ov Y) h_q2)<|D2 15 JV Y<|D2 16 Zck Y<|Dq 17 Y (Zp (ov Y) Y Y Zgp)<|Dq 18 Y (Zm (ov Y) Y Y Y tS3 Y)<|bE h fun q3 h_q3 h=>Dq 19 Y (Jb (ov Y) (ov Y) h_q3)<|D2 20 ZjV Y<|bE h fun x12 h_x12 h=>Dq 21 Y (Zgr (ov Y) (ov Y) X3 Y Y h_x12)<|Do 22 Y (Zfz (u' := (bor .i64 x11 q3)) (ov Y) (ov Y) (ZA tS3) Y Y h_x12 Y (Zc Y) Y)<|ZgY (by kernel_rfl) (Ent.absorbA (r := 1) (q := 4) Y h_l4 Y ((List.length_set ..).trans Y) Y)<|XJ (kc 1 Y<|kc 2 Y<|kc 4 Y<|kc 6 Y<|kc 7 Y<|kc 15 Y<|kc 16 Y<|kc 49 Y<|kc 50 Y<|kc 51 Y<|kc 89 Y<|kc 90 Y<|kc 91 Y kn) Y<|Zt<|R2 ZT Y<|Rm Y<|Za<|⟨_, h, ES [some 0, some 1, some 2] (hhp := .cons Y (Zaz (by exact tZ_35.symm) Y)<|.cons Y (ZeX tZ_35 D3)<|.cons Y (Zaz (by exact tZ_35.symm) Y) .nil)⟩
        ·
         refine Zz<|?_
         replace h := lx h ▸ ho3
         exact ⟨_, h, ES [some 0, some 1, some 2] (hhp := .cons Y (Zaz (by exact tZ_35.symm) Y)<|.cons Y (ZeX tZ_35 D3)<|.cons Y (Zaz (by exact tZ_35.symm) Y) .nil)⟩
      ·
       replace h := elr h
       replace h := t1i h
       exact Zt<|R2 ZT Y<|Rm Y<|Za<|⟨_, h, ES [some 0, some 1, some 2] (hhp := .cons Y (Zaz (by exact tZ_35.symm) Y)<|.cons Y (ZeX tZ_35 D3)<|.cons Y (Zaz (by exact tZ_35.symm) Y) .nil)⟩
     ·
      refine Zz<|?_
      replace h := lx h ▸ ho2
      exact ⟨_, h, ES [some 0, some 1] (hhp := .cons Y (Zaz (by exact tZ_35.symm) Y)<|.cons Y (ZeX tZ_35 D3) .nil)⟩
    ·
     replace h := elr h
     replace h := t1i h
     refine Tr<|ZdP (Ent.meltA (r := 1) (f := C25) Y tZ_35 (fun _=>Y) D3)<|Rq Y (ZC (ov Y) Y Y Y Za0 arW arL)<|Rx Y (Zj (ov Y) (ov Y) (Zg Za0 arL) Y Y Y (QF (Zo Y) arL) (Zc<|arC fun _ => Y)<|Qo<|Eq.trans Y<|Eq.symm arL)<|Ra Y<|Za<|?_
     obtain rfl := rt h
     exact Zi (Zn Y (.two (.agg Y Y Y Y Za0 (ZY<|Zo arL) arL (pwB<|arD fun _ => Y) (hns := (nsM fun _ => Y)))<|rb Y))
theorem ZeU {x : Int} {r : Int} (h : Zb0 x = some r) :
 CSpec Tryd.prog gl0 73 [.int .u16 x] (.int .i64 r) := by
 unfold Zb0 at h
 replace h := Z0 h
 refine So Tryd.func73 Y fun w0 A=>Tr<|Ra Y<|Za<|Td md0<|D1 0 Zr Y<|bE h fun q h_q h=>Dq 1 Y (ZdH (ov Y) (ov Y) h_q)<|bE h fun b h_b h=>Dq 2 Y (Zd6 (ov Y) (ov Y) ZeZ h_b)<|D1 3 Zr Y<|D2 4 Zck Y<|bE h fun b2 h_b2 h=>Dq 5 Y (Zd6 (ov Y) (ov Y) ZeZ h_b2)<|D2 6 ZT Y<|Dq 7 Y (Zap (ov Y) tI5 tI3 Y)<|D1 8 Qe Y<|Dd<|?_
 obtain rfl := rt h
 exact Zi (Zn Y (.one<|rb Y))
theorem ZiO {w : Int} {r : Bool} (h : Zge w = some r) :
 CSpec Tryd.prog gl0 51 [.int .u16 w] (.bool r) := by
 unfold Zge at h
 replace h := Z0 h
 refine So Tryd.func51 Y fun w0 A=>Tr<|Ra Y<|Za<|Tr<|Rm Y<|R2 Ze1 Y<|Rm Y<|Rq Y (.guarded ((decide (w ≤ 4095)) == true) Y Y Y Y fun h => Zr<|ov Y)<|bE h fun y h_y h=>Rq Y (.guarded ((decide (w ≤ 4095)) == true) Y Y Y Y fun h => Zl (ZeU<|gdT h_y h)<|.cons (ow Y h) (.b Y) .nil)<|bE h fun q h_q h=>Rq Y (.guarded ((decide (w ≤ 4095)) == true) Y Y Y Y fun h => Je (ow Y h) (ov Y)<|gdT h_q h)<|Rq Y (.guarded ((decide (w ≤ 4095)) == true) Y Y Y Y fun h => Qz (ow Y h)<|ov Y)<|Rq Y (JW (ov Y) fun hp=>ow Y<|gT hp)<|Ra Y<|Za<|?_
 obtain rfl := rt h
 exact Zi (Zn Y (.one<|rb Y))
theorem JF {data : Int} {r : Int} (h : QU data = some r) :
 CSpec Tryd.prog gl0 18 [.int .i64 data] (.int .u16 r) := by
 unfold QU at h
 replace h := Z0 h
 refine So Tryd.func18 Y fun w0 A=>Tr<|Ra Y<|Za<|K1 0 Y<|Tr<|Rm Y<|Rq Y (Zap (ov Y) tI3 Zfp Y)<|Ra Y<|Za<|Zh<|K1 3 Y<|Tr<|Rm Y<|bE h fun y h_y h=>Rq Y (Zl (ZiO h_y)<|.cons (ov Y) (.b Y) .nil)<|R1 X1 Y<|Za<|K2 3 8 Y<|If h Y (fun h=>?_) fun h=>?_
 ·
  refine K1 3 Y<|Zt<|Rm Y<|R2 ZjV Y<|Ra Y<|Za<|K1 3 Y<|Tr<|Rm Y<|Ra Y<|Za<|?_
  obtain rfl := rt h
  exact Zi (Zn Y (.one<|rb Y))
 ·
  refine Ze<|K1 3 Y<|Tr<|Rm Y<|Ra Y<|Za<|?_
  obtain rfl := rt h
  exact Zi (Zn Y (.one<|rb Y))
theorem Zc7 {w : Int} {r : Int} (h : ZaR w = some r) :
 CSpec Tryd.prog gl0 74 [.int .u16 w] (.int .i64 r) := by
 unfold ZaR at h
 replace h := Z0 h
 refine So Tryd.func74 Y fun w0 A=>Tr<|Ra Y<|Za<|Tr<|Rm Y<|R2 Zck Y<|Rq Y (Zap (ov Y) Zfp tI3 Y)<|Ra Y<|Za<|?_
 obtain rfl := rt h
 exact Zi (Zn Y (.one<|rb Y))
theorem ZfX {f : Vector Int 64} {r : Int} (h : J6 f = some r) :
 CSpec Tryd.prog gl0 52 [.rp (List.map C26 f.toList) 0] (.int .i64 r) := by
 unfold J6 at h
 replace h := Z0 h
 refine So Tryd.func52 Y fun w0 A=>Tr<|Ra Y<|Za<|Td md0<|D1 0 Zr Y<|D1 1 ZcX Y<|bE h fun x h_x h=>Dq 2 Y (Zc1 (ov Y) (ov Y) ZaF h_x)<|Dq 3 Y (Zb (ov Y) ZbO<|XW<|J4 (o := 0) (o' := ((Int.toNat 1) * 1)) (Zo arL)<|ZaG h_x)<|bE h fun y h_y h=>Dq 4 Y (Zl (Zc7 h_y)<|.cons (ov Y) (.b Y) .nil)<|D1 5 Zr Y<|D1 6 ZcX Y<|bE h fun x2 h_x2 h=>Dq 7 Y (Zc1 (ov Y) (ov Y) ZaF h_x2)<|Dq 8 Y (Zb (ov Y) ZbO<|XW<|J4 (o := 0) (o' := ((Int.toNat 2) * 1)) (Zo arL)<|ZaG h_x2)<|bE h fun y2 h_y2 h=>Dq 9 Y (Zl (Zc7 h_y2)<|.cons (ov Y) (.b Y) .nil)<|bE h fun q h_q h=>Dq 10 Y (Jb (ov Y) (ov Y) h_q)<|D2 11 ZjV Y<|D1 12 Qe Y<|Dd<|?_
 obtain rfl := rt h
 exact Zi (Zn Y (.one<|rb Y))
theorem Zhz {f : Vector Int 64} {r : Int} (h : Zca f = some r) :
 CSpec Tryd.prog gl0 53 [.rp (List.map C26 f.toList) 0] (.int .i64 r) := by
 unfold Zca at h
 replace h := Z0 h
 refine So Tryd.func53 Y fun w0 A=>Tr<|Ra Y<|Za<|K1 0 Y<|Tr<|Ra Y<|Za<|I1 (fun n=>⟨[(3, .int .i64 n)], []⟩) h (fun h=>?_) fun n h=>?_
 ·
  refine Tr<|Rm Y<|Za<|Zd<|?_
  obtain ⟨r1, hl1, ho1⟩ := Qt h
  refine L2 (fun n2 i=>⟨[(0, .rp (List.map C26 f.toList) 0), (3, .int .i64 n2), (5, .int .i64 i)], []⟩) hl1 (ES []) fun n1 n2 i h=>?_
  unfold JU at h
  refine Tr<|R2 ZH Y<|Za<|Zh<|If h Y (fun h=>?_) fun h=>?_
  ·
   exact Ze<|Zh<|Zd<|K3 0 3 5 Y<|Tr<|Rm Y<|Ra Y<|Za<|K4 0 3 4 5 Y<|Zt<|Rm Y<|Rm Y<|Rm Y<|R2 ZT Y<|R1 ZcX Y<|bE h fun x h_x h=>Rq Y (Zc1 (ov Y) (ov Y) ZaF h_x)<|Rq Y (Zb (ov Y) ZbO<|XW<|J4 (o := 0) (o' := ((i64 (i + 1)).toNat * 1)) (Zo arL)<|ZaG h_x)<|bE h fun y h_y h=>Rq Y (Zl (Zc7 h_y)<|.cons (ov Y) (.b Y) .nil)<|R2 ZiN Y<|Ra Y<|Za<|K3 0 3 5 Y<|Zt<|R2 ZT Y<|Rm Y<|Za<|⟨_, h, ES []⟩
  ·
   refine Zz<|?_
   replace h := lx h ▸ ho1
   exact ⟨_, h, ES []⟩
 ·
  refine Tr<|Rm Y<|Ra Y<|Za<|?_
  obtain rfl := rt h
  exact Zi (Zn Y (.one<|rb Y))
theorem Zf9 {f : Vector Int 64} {r : Int} (h : ZaJ f = some r) :
 CSpec Tryd.prog gl0 54 [.rp (List.map C26 f.toList) 0] (.int .i64 r) := by
 unfold ZaJ at h
 replace h := Z0 h
 refine So Tryd.func54 Y fun w0 A=>Tr<|Ra Y<|Za<|K1 0 Y<|Tr<|Ra Y<|Za<|I1 (fun n=>⟨[(3, .int .i64 n)], []⟩) h (fun h=>?_) fun n h=>?_
 ·
  refine Tr<|Rm Y<|Za<|Zd<|?_
  obtain ⟨r1, hl1, ho1⟩ := Qt h
  refine L2 (fun n2 i=>⟨[(0, .rp (List.map C26 f.toList) 0), (3, .int .i64 n2), (7, .int .i64 i)], []⟩) hl1 (ES []) fun n1 n2 i h=>?_
  unfold X5 at h
  refine Tr<|R2 ZH Y<|Za<|Zh<|If h Y (fun h=>?_) fun h=>?_
  ·
   refine Ze<|I1 (fun n3=>⟨[(0, .rp (List.map C26 f.toList) 0), (3, .int .i64 n3), (7, .int .i64 i)], []⟩) h (fun h=>?_) fun n3 h=>?_
   ·
    refine Zd<|K3 0 3 7 Y<|Tr<|Rm Y<|Ra Y<|Za<|K4 0 3 4 7 Y<|Tr<|Ra Y<|Za<|Zd<|?_
    obtain ⟨r2, hl2, ho2⟩ := Qt h
    refine L2 (fun n4 k=>⟨[(0, .rp (List.map C26 f.toList) 0), (3, .int .i64 n4), (4, .int .i64 i), (5, .int .i64 k), (7, .int .i64 i)], []⟩) hl2 (ES []) fun n2 n4 k h=>?_
    unfold Xs at h
    refine Zh<|Tr<|Rm Y<|R2 ZbG Y<|Za<|K6 0 3 4 5 7 11 Y<|If h Y (fun h=>?_) fun h=>?_
    ·
     refine Ze<|Zh<|Zd<|K5 0 3 4 5 7 Y<|Tr<|Rm Y<|R2 Zck Y<|R2 QZ Y<|Ra Y<|Za<|K6 0 3 4 5 6 7 Y<|Tr<|Rm Y<|bE h fun q h_q h=>Rq Y (Jb (ov Y) (ov Y) h_q)<|R2 Zck Y<|Ra Y<|Za<|K6 0 3 4 5 6 7 Y<|Tr<|Rm Y<|Rm Y<|Rm Y<|R1 ZcX Y<|bE h fun x h_x h=>Rq Y (Zc1 (ov Y) (ov Y) ZaF h_x)<|Rq Y (Zb (ov Y) ZbO<|XW<|J4 (o := 0) (o' := (i.toNat * 1)) (Zo arL)<|ZaG h_x)<|Rm Y<|bE h fun q2 h_q2 h=>Rq Y (ZdH (ov Y) (ov Y) h_q2)<|R2 Zck Y<|R2 Qz Y<|Rq Y (ZhJ .neq (by simp) (ov Y) (ov Y) tB4)<|Za<|K6 0 3 4 5 7 30 Y<|If h Y (fun h=>?_) fun h=>?_
     ·
      exact K5 0 3 4 5 7 Y<|Zt<|Rm Y<|R2 ZiN Y<|Ra Y<|Za<|K5 0 3 4 5 7 Y<|Zt<|Rm Y<|R2 JV Y<|Ra Y<|Za<|⟨_, h, ES []⟩
     ·
      exact Ze<|K5 0 3 4 5 7 Y<|Zt<|Rm Y<|R2 JV Y<|Ra Y<|Za<|⟨_, h, ES []⟩
    ·
     refine Zz<|?_
     replace h := lx h ▸ ho2
     exact ⟨_, h, ES []⟩
   ·
    exact Zt<|R2 ZT Y<|Rm Y<|Za<|⟨_, h, ES []⟩
  ·
   refine Zz<|?_
   replace h := lx h ▸ ho1
   exact ⟨_, h, ES []⟩
 ·
  refine Tr<|Rm Y<|Ra Y<|Za<|?_
  obtain rfl := rt h
  exact Zi (Zn Y (.one<|rb Y))
theorem ZfP {f : Vector Int 64} {r : (Vector Int 64)} (h : Zbb f = some r) :
 GSpec Tryd.prog gl0 19 [.ptr 0 1 0 0] [some ⟨28, [(List.map C26 f.toList)]⟩] (.tuple []) [some ⟨28, [(List.map C26 r.toList)]⟩] := by
 unfold Zbb at h
 replace h := Z0 h
 refine ZfJ (by kernel_rfl) Tryd.func19 Y Y<|?_
 intro w0 A W φ0
 refine Td md0<|D1 0 Zr Y<|D1 1 Zr Y<|bE h fun y h_y h=>Dq 2 Y (ZiA (ZfX h_y) .int<|.cons (ov Y) (View.ptr Y Y Y (pwB<|arD fun _ => Y) (hns := (nsM fun _ => Y))) .nil)<|bE h fun q h_q h=>Dq 3 Y (Je (ov Y) (ov Y) h_q)<|bE h fun x h_x h=>Dq 4 Y (Zc1 (og (v := gv_frame_syncs) (k := .u16) (f := C26) (by simp [gl0]) fun _=>Y) (ov Y) Zpu h_x)<|Dq 5 Y (Zb (ov Y) ZbO<|XW<|J4 (o := 0) (o' := (q.toNat * 1)) (Zo arL)<|ZaG h_x)<|Dq 6 Y (Zcb (ov Y) Y Y)<|bE h fun x2 h_x2 h=>Dq 7 Y (Ql (ov Y) (ov Y) ZaF Y Y h_x2)<|Do 8 Y (Zj (ov Y) (ov Y) (ZA ZbO) Y Y Y (arB h_x2) (Zc Y)<|arS h_x2)<|Dd<|K1 0 Y<|Td md0<|D1 0 Zr Y<|D1 1 Zr Y<|bE h fun y2 h_y2 h=>Dq 2 Y (ZiA (Zhz h_y2) .int<|.cons (ov Y) (View.ptr Y Y Y (pwB<|arD fun _ => Y) (hns := (nsM fun _ => Y))) .nil)<|bE h fun y3 h_y3 h=>Dq 3 Y (Zl (JF h_y3)<|.cons (ov Y) (.b Y) .nil)<|Dq 4 Y (Zcb (ov Y) Y Y)<|bE h fun x3 h_x3 h=>Dq 5 Y (Ql (ov Y) (ov Y) ZaF Y Y h_x3)<|Do 6 Y (Zj (ov Y) (ov Y) (ZA ZbO) Y Y Y (arB h_x3) (Zc Y)<|arS h_x3)<|Dd<|K1 0 Y<|Tr<|Rm Y<|bE h fun y4 h_y4 h=>Rq Y (ZiA (Zf9 h_y4) .int<|.cons (ov Y) (View.ptr Y Y Y (pwB<|arD fun _ => Y) (hns := (nsM fun _ => Y))) .nil)<|Ra Y<|Za<|K2 0 2 Y<|ZdZ (cw := md0) (by kernel_rfl)<|D1 0 Zr Y<|D1 2 Zr Y<|bE h fun q2 h_q2 h=>Dq 3 Y (ZdH (ov Y) (ov Y) h_q2)<|bE h fun y5 h_y5 h=>Dq 4 Y (Zl (JF h_y5)<|.cons (ov Y) (.b Y) .nil)<|D1 5 Zr Y<|D2 6 Zck Y<|bE h fun y6 h_y6 h=>Dq 7 Y (Zl (JF h_y6)<|.cons (ov Y) (.b Y) .nil)<|Dq 8 Y (Zcb (ov Y) Y Y)<|bE h fun x4 h_x4 h=>Dq 9 Y (Ql (ov Y) (ov Y) ZaF Y Y h_x4)<|Zoh 1 _ Y (by kernel_rfl) Y Y (fun hp'=>Zr<|ov Y)<|Dw 11 10 Y (Zcb (ov Y) Y Y) (Zj (ov Y) (ov Y) (ZA ZbO) Y Y Y (arB h_x4) (Zc Y)<|arS h_x4) ?_ ?_
 ·
  refine Do 10 Y (Zj (ov Y) (ov Y) (ZA ZbO) Y Y Y (arB h_x4) (Zc Y)<|arS h_x4)<|bE h fun x5 h_x5 h=>Dq 12 Y (Ql (ov Y) (ov Y) ZaF Y Y h_x5)<|Do 13 Y (Zj (ov Y) (ov Y) (ZA ZbO) Y Y Y (arB h_x5) (Zc Y)<|arS h_x5)<|Dd<|?_
  obtain rfl := rt h
  exact ZnE [some 0] Y .nil (.cons Y (ro1 (by exact Eq.trans (b := 64) arL tZ_28.symm)<|rld<|arD fun _ => Y) .nil) Y Y<|Zna rln
 ·
  refine Dq 11 Y (Zcb (ov Y) Y Y)<|bE h fun x5 h_x5 h=>Dq 12 Y (Ql (ov Y) (ov Y) ZaF Y Y h_x5)<|Do 13 Y (Zj (ov Y) (ov Y) (ZA ZbO) Y Y Y (arB h_x5) (Zc Y)<|arS h_x5)<|Dd<|?_
  obtain rfl := rt h
  exact ZnE [some 0] Y .nil (.cons Y (ro1 (by exact Eq.trans (b := 64) arL tZ_28.symm)<|rld<|arD fun _ => Y) .nil) Y Y<|Zna rln
theorem ZiX {number : Int} {data : List Int} {r : (Vector Int 64) × Int} (h : Zai number data = some r) :
 CSpec Tryd.prog gl0 9 [.int .i64 number, .sl 3 (List.map R3 data)] (.tuple [.agg (List.map C26 r.1.toList), .int .i64 r.2]) := by
 unfold Zai at h
 replace h := Z0 h
 refine So Tryd.func9 Y fun w0 A=>Tr<|Rx Y (Zq (row := (List.map C26 (Vector.replicate 64 0).toList)) 0 Y Zgy Y tZ_28)<|Ra Y<|Za<|Zh<|K3 0 1 4 Y<|Tr<|Rm Y<|R2 ZH Y<|Rm Y<|Rq Y (.guarded ((decide (number < 0)) == false) Y Y Y Y fun h => Zr<|ov Y)<|Rq Y (.guarded ((decide (number < 0)) == false) Y Y Y Y fun h => ZbG (ow Y h)<|ov Y)<|Rq Y (XX (ov Y) fun hp=>ow Y<|gF hp)<|Za<|K4 0 1 4 14 Y<|If h Y (fun h=>?_) fun h=>?_
 ·
  refine K1 4 Y<|Tr<|R_q (.agg<|List.map C26 (#v[0, 0, 0, 0, 0, 0, 0, 0, 0, 0, 0, 0, 0, 0, 0, 0, 0, 0, 0, 0, 0, 0, 0, 0, 0, 0, 0, 0, 0, 0, 0, 0, 0, 0, 0, 0, 0, 0, 0, 0, 0, 0, 0, 0, 0, 0, 0, 0, 0, 0, 0, 0, 0, 0, 0, 0, 0, 0, 0, 0, 0, 0, 0, 0] : Vector Int 64).toList) Y (Zbg (ys := [_, _, _, _, _, _, _, _, _, _, _, _, _, _, _, _, _, _, _, _, _, _, _, _, _, _, _, _, _, _, _, _, _, _, _, _, _, _, _, _, _, _, _, _, _, _, _, _, _, _, _, _, _, _, _, _, _, _, _, _, _, _, _, _]) ZaF Zgy .nil Y)<|Rx Y (Zj (ov Y) (ov Y) (Zg ZaC arL) Y Y Y (QF (Zo arL) arL) (Zc<|arC fun _ => Y)<|Qo<|Eq.trans arL<|Eq.symm arL)<|Ra Y<|Za<|?_
  obtain rfl := rt h
  exact Zi (Zn Y (.two (.agg Y Y Y Y ZaC (ZY<|Zo arL) arL (pwB<|arD fun _ => Y) (hns := (nsM fun _ => Y)))<|rb Y))
 ·
  refine Ze<|Zh<|K3 0 1 4 Y<|Tr<|Rm Y<|Rl tZ_3 X3 Y<|R2 QZ Y<|Za<|K4 0 1 4 18 Y<|If h Y (fun h=>?_) fun h=>?_
  ·
   refine K1 4 Y<|Tr<|R_q (.agg<|List.map C26 (#v[0, 0, 0, 0, 0, 0, 0, 0, 0, 0, 0, 0, 0, 0, 0, 0, 0, 0, 0, 0, 0, 0, 0, 0, 0, 0, 0, 0, 0, 0, 0, 0, 0, 0, 0, 0, 0, 0, 0, 0, 0, 0, 0, 0, 0, 0, 0, 0, 0, 0, 0, 0, 0, 0, 0, 0, 0, 0, 0, 0, 0, 0, 0, 0] : Vector Int 64).toList) Y (Zbg (ys := [_, _, _, _, _, _, _, _, _, _, _, _, _, _, _, _, _, _, _, _, _, _, _, _, _, _, _, _, _, _, _, _, _, _, _, _, _, _, _, _, _, _, _, _, _, _, _, _, _, _, _, _, _, _, _, _, _, _, _, _, _, _, _, _]) ZaF Zgy .nil Y)<|Rx Y (Zj (ov Y) (ov Y) (Zg ZaC arL) Y Y Y (QF (Zo arL) arL) (Zc<|arC fun _ => Y)<|Qo<|Eq.trans arL<|Eq.symm arL)<|Ra Y<|Za<|?_
   obtain rfl := rt h
   exact Zi (Zn Y (.two (.agg Y Y Y Y ZaC (ZY<|Zo arL) arL (pwB<|arD fun _ => Y) (hns := (nsM fun _ => Y)))<|rb Y))
  ·
   refine Ze<|K3 0 1 4 Y<|Tr<|Rx Y (Zq (row := (List.map C26 (Vector.replicate 64 0).toList)) 1 Y Zgy Y tZ_28)<|Za<|Tr<|Rm Y<|R2 Zck Y<|bE h fun y h_y h=>Rq Y (Zl (JF h_y)<|.cons (ov Y) (.b Y) .nil)<|Rm Y<|bE h fun q h_q h=>Rq Y (ZdH (ov Y) (ov Y) h_q)<|bE h fun y2 h_y2 h=>Rq Y (Zl (JF h_y2)<|.cons (ov Y) (.b Y) .nil)<|bE h fun x h_x h=>Rq Y (Ql (ov Y) (ov Y) ZaF Y Y h_x)<|Rx Y (Zj (ov Y) (ov Y) (ZA ZbO) Y Y Y (arB h_x) (Zc Y)<|arS h_x)<|bE h fun x2 h_x2 h=>Rq Y (Ql (ov Y) (ov Y) ZaF Y Y h_x2)<|Rx Y (Zj (ov Y) (ov Y) (ZA ZbO) Y Y Y (arB h_x2) (Zc Y)<|arS h_x2)<|Za<|J1 (fun j => (.inr j)) (fun f=>⟨[(4, .ptr 0 1 0 0), (6, .ptr 1 1 0 0)], [some ⟨28, [(List.map C26 (Vector.replicate 64 0).toList)]⟩, some ⟨28, [(List.map C26 f.toList)]⟩]⟩) h (fun h=>?_) fun f h=>?_
   ·
    refine K3 1 4 6 Y<|Tr<|Rm Y<|Rl tZ_3 X3 Y<|Rm Y<|Za<|Zd<|?_
    obtain ⟨r1, hl1, ho1⟩ := Qt h
    refine L2 (fun f2 i=>⟨[(4, .ptr 0 1 0 0), (6, .ptr 1 1 0 0), (28, .sl 3 (List.map R3 data)), (29, .int .i64 (data.length : Int)), (30, .int .i64 i)], [some ⟨28, [(List.map C26 (Vector.replicate 64 0).toList)]⟩, some ⟨28, [(List.map C26 f2.toList)]⟩]⟩) hl1 (ES [some 0, some 1]) fun n1 f2 i h=>?_
    unfold Zac at h
    refine Tr<|R2 ZH Y<|Za<|Zh<|If h Y (fun h=>?_) fun h=>?_
    ·
     refine Ze<|Zh<|Zd<|K5 4 6 28 29 30 Y<|Tr<|Rm Y<|bE h fun x3 h_x3 h=>Rq Y (ZE (ov Y) (ov Y) X3 h_x3)<|Rq Y (Zb (ov Y) tS3 Y)<|Ra Y<|Ra Y<|Za<|Zh<|K7 4 6 7 8 28 29 30 Y<|Tr<|Rm Y<|R2 ZH Y<|Rm Y<|Rq Y (.guarded ((decide (x3 < 0)) == false) Y Y Y Y fun h => Zr<|ov Y)<|Rq Y (.guarded ((decide (x3 < 0)) == false) Y Y Y Y fun h => X0 (ow Y h)<|ov Y)<|Rq Y (XX (ov Y) fun hp=>ow Y<|gF hp)<|Za<|K8 4 6 7 8 28 29 30 40 Y<|If h Y (fun h=>?_) fun h=>?_
     ·
      refine K1 4 Y<|Tr<|R_q (.agg<|List.map C26 (#v[0, 0, 0, 0, 0, 0, 0, 0, 0, 0, 0, 0, 0, 0, 0, 0, 0, 0, 0, 0, 0, 0, 0, 0, 0, 0, 0, 0, 0, 0, 0, 0, 0, 0, 0, 0, 0, 0, 0, 0, 0, 0, 0, 0, 0, 0, 0, 0, 0, 0, 0, 0, 0, 0, 0, 0, 0, 0, 0, 0, 0, 0, 0, 0] : Vector Int 64).toList) Y (Zbg (ys := [_, _, _, _, _, _, _, _, _, _, _, _, _, _, _, _, _, _, _, _, _, _, _, _, _, _, _, _, _, _, _, _, _, _, _, _, _, _, _, _, _, _, _, _, _, _, _, _, _, _, _, _, _, _, _, _, _, _, _, _, _, _, _, _]) ZaF Zgy .nil Y)<|Rx Y (Zj (ov Y) (ov Y) (Zg ZaC arL) Y Y Y (QF (Zo arL) arL) (Zc<|arC fun _ => Y)<|Qo<|Eq.trans arL<|Eq.symm arL)<|Ra Y<|Za<|?_
      replace h := lx h ▸ ho1
      obtain rfl := rt h
      exact Zi (Zn Y (.two (.agg Y Y Y Y ZaC (ZY<|Zo arL) arL (pwB<|arD fun _ => Y) (hns := (nsM fun _ => Y)))<|rb Y))
     ·
      exact Ze<|K7 4 6 7 8 28 29 30 Y<|Zt<|Rm Y<|R2 ZT Y<|Rm Y<|bE h fun y3 h_y3 h=>Rq Y (Zl (JF h_y3)<|.cons (ov Y) (.b Y) .nil)<|bE h fun x4 h_x4 h=>Rq Y (Ql (ov Y) (ov Y) ZaF Y Y h_x4)<|Rx Y (Zj (ov Y) (ov Y) (ZA ZbO) Y Y Y (arB h_x4) (Zc Y)<|arS h_x4)<|Za<|K5 4 6 28 29 30 Y<|Zt<|R2 ZT Y<|Rm Y<|Za<|⟨_, h, ES [some 0, some 1]⟩
    ·
     refine Zz<|?_
     replace h := lx h ▸ ho1
     exact ⟨_, h, ES [some 0, some 1]⟩
   ·
    replace h := elr h
    replace h := t1i h
    refine Tr<|bE h fun y4 h_y4 h=>Rx Y (ZeK [1] (ZfP h_y4) (.cons (ov Y) (.ptr _ _ _ Y) .nil) (.cons Y (ro1 (by exact Eq.trans (b := 64) arL tZ_28.symm)<|rld<|arD fun _ => Y) .nil) Y (.keep Y Y<|.lent 0 (.inl Y) Y (ro1 (by exact Eq.trans (b := 64) arL tZ_28.symm)<|rld<|arD fun _ => Y) .nil) Y Y<|Zna<|rld Y)<|Za<|K2 4 6 Y<|Tr<|Rq Y (ZC (ov Y) Y Y Y ZaC (ZY<|Zo arL) arL (hns := (nsM fun _ => Y)))<|Rx Y (Zj (ov Y) (ov Y) (Zg ZaC arL) Y Y Y (QF (Zo arL) arL) (Zc<|arC fun _ => Y)<|Qo<|Eq.trans arL<|Eq.symm arL)<|Ra Y<|Za<|?_
    obtain rfl := rt h
    exact Zi (Zn Y (.two (.agg Y Y Y Y ZaC (ZY<|Zo arL) arL (pwB<|arD fun _ => Y) (hns := (nsM fun _ => Y)))<|rb Y))
theorem ZgS {m : api_Map} {first : Int} {l : List Int} {r : (Vector (Vector Int 64) 16) × Int} (h : Zby m first l = some r) :
 CSpec Tryd.prog gl0 4 [.agg [.int .i64 m.Version, .sl 46 (List.map R46 m.Params)], .int .i64 first, .sl 3 (List.map R3 l)] (.tuple [.agg (r.1.toList.flatMap R28), .int .i64 r.2]) := by
 unfold Zby at h
 replace h := Z0 h
 refine So Tryd.func4 Y fun w0 A=>Tr<|Rq Y (Qa (cva<|ov Y) Y tZ_24 Y)<|Rx Y (Zq (row := ((Vector.replicate 16 (Vector.replicate 64 0)).toList.flatMap R28)) 0 Y Zll (by kernel_rfl)<|by exact Eq.symm (Eq.trans (b := 1024) (ZM (fun x => (D28 x).1.trans tZ_28) rfl) tZ_29.symm))<|Ra Y<|Za<|K4 1 2 3 6 Y<|Tr<|Rx Y (Zq (row := ((Vector.replicate 16 (Vector.replicate 64 0)).toList.flatMap R28)) 1 Y Zll (by kernel_rfl)<|by exact Eq.symm (Eq.trans (b := 1024) (ZM (fun x => (D28 x).1.trans tZ_28) rfl) tZ_29.symm))<|Za<|Tr<|Rq Y (Zk (ov Y) ZgF Y Y)<|Rm Y<|bE h fun y h_y h=>Rq Y (Zl (Zej h_y)<|.cons (ov Y) (.aggB Y)<|.cons (ov Y) (.b Y) .nil)<|Rm Y<|Rq Y (ZK (ov Y) Y)<|Rq Y (ZK (ov Y) Y)<|Rx Y (Zq (row := [_, _, _, _, _, _, _, _, _, _, _, _, _, _, _, _]) 2 Y Zjb Y tZ_35)<|Rx Y (Zj (ov Y) (ov Y) (Zg Za0 arL) Y Y Y (QF (Zo Y) arL) (Zc<|arC fun _ => Y)<|Qo<|Eq.trans Y<|Eq.symm arL)<|Ra Y<|Za<|Zh<|Zd<|K5 1 6 8 9 10 Y<|Tr<|Rm Y<|R2 QZ Y<|Ra Y<|Za<|K6 1 6 8 9 10 18 Y<|If h Y (fun h=>?_) fun h=>?_
 ·
  refine K3 6 8 10 Y<|Tr<|Rq Y (ZC (ov Y) Y Y Y ZbI (ZY<|Zo<|ZM (fun x=>(D28 x).1.trans tZ_28) Y) (ZM (fun x=>(D28 x).1.trans tZ_28) Y) (hns := (Xj (Xq fun x => (D28 x).2))))<|Rm Y<|Rx Y (Zj (ov Y) (ov Y) (Zg ZbI<|ZM (fun x=>(D28 x).1.trans tZ_28) Y) Y Y Y (QF (Zo<|ZM (fun x=>(D28 x).1.trans tZ_28) Y)<|ZM (fun x=>(D28 x).1.trans tZ_28) Y) (Zc<|Zh2 E28)<|Qo<|Eq.trans (ZM (fun x=>(D28 x).1.trans tZ_28) Y)<|Eq.symm<|ZM (fun x=>(D28 x).1.trans tZ_28) Y)<|Ra Y<|Za<|?_
  obtain rfl := rt h
  exact Zi (Zn Y (.two (.agg Y Y Y Y ZbI (ZY<|Zo<|ZM (fun x=>(D28 x).1.trans tZ_28) Y) (ZM (fun x=>(D28 x).1.trans tZ_28) Y) (pwB<|Xq fun x => (D28 x).2) (hns := (Xj (Xq fun x => (D28 x).2))))<|rb Y))
 ·
  refine K4 1 6 8 9 Y<|Tr<|Rm Y<|bE h fun y2 h_y2 h=>Rq Y (Zl (Z4 h_y2)<|.cons (ov Y) (.b Y)<|.cons (ov Y) (.b Y)<|.cons (ov Y) (.b Y) .nil)<|R1 X1 Y<|Ra Y<|Za<|K5 1 6 8 9 23 Y<|If h Y (fun h=>?_) fun h=>?_
  ·
   refine K2 6 8 Y<|Tr<|Rq Y (ZC (ov Y) Y Y Y ZbI (ZY<|Zo<|ZM (fun x=>(D28 x).1.trans tZ_28) Y) (ZM (fun x=>(D28 x).1.trans tZ_28) Y) (hns := (Xj (Xq fun x => (D28 x).2))))<|Rx Y (Zj (ov Y) (ov Y) (Zg ZbI<|ZM (fun x=>(D28 x).1.trans tZ_28) Y) Y Y Y (QF (Zo<|ZM (fun x=>(D28 x).1.trans tZ_28) Y)<|ZM (fun x=>(D28 x).1.trans tZ_28) Y) (Zc<|Zh2 E28)<|Qo<|Eq.trans (ZM (fun x=>(D28 x).1.trans tZ_28) Y)<|Eq.symm<|ZM (fun x=>(D28 x).1.trans tZ_28) Y)<|Ra Y<|Za<|?_
   obtain rfl := rt h
   exact Zi (Zn Y (.two (.agg Y Y Y Y ZbI (ZY<|Zo<|ZM (fun x=>(D28 x).1.trans tZ_28) Y) (ZM (fun x=>(D28 x).1.trans tZ_28) Y) (pwB<|Xq fun x => (D28 x).2) (hns := (Xj (Xq fun x => (D28 x).2))))<|rb Y))
  ·
   refine K4 1 6 8 9 Y<|Tr<|Rm Y<|bE h fun q h_q h=>Rq Y (Je (ov Y) (ov Y) h_q)<|R2 QZ Y<|Ra Y<|Za<|K5 1 6 8 9 28 Y<|If h Y (fun h=>?_) fun h=>?_
   ·
    refine K2 6 8 Y<|Tr<|Rq Y (ZC (ov Y) Y Y Y ZbI (ZY<|Zo<|ZM (fun x=>(D28 x).1.trans tZ_28) Y) (ZM (fun x=>(D28 x).1.trans tZ_28) Y) (hns := (Xj (Xq fun x => (D28 x).2))))<|Rx Y (Zj (ov Y) (ov Y) (Zg ZbI<|ZM (fun x=>(D28 x).1.trans tZ_28) Y) Y Y Y (QF (Zo<|ZM (fun x=>(D28 x).1.trans tZ_28) Y)<|ZM (fun x=>(D28 x).1.trans tZ_28) Y) (Zc<|Zh2 E28)<|Qo<|Eq.trans (ZM (fun x=>(D28 x).1.trans tZ_28) Y)<|Eq.symm<|ZM (fun x=>(D28 x).1.trans tZ_28) Y)<|Ra Y<|Za<|?_
    obtain rfl := rt h
    exact Zi (Zn Y (.two (.agg Y Y Y Y ZbI (ZY<|Zo<|ZM (fun x=>(D28 x).1.trans tZ_28) Y) (ZM (fun x=>(D28 x).1.trans tZ_28) Y) (pwB<|Xq fun x => (D28 x).2) (hns := (Xj (Xq fun x => (D28 x).2))))<|rb Y))
   ·
    refine Ze<|I1 (fun out=>⟨[(6, .ptr 0 1 0 0), (8, .ptr 1 1 0 0)], [some ⟨29, [((Vector.replicate 16 (Vector.replicate 64 0)).toList.flatMap R28)]⟩, some ⟨29, [(out.toList.flatMap R28)]⟩]⟩) h (fun h=>?_) fun out h=>?_
    ·
     refine K4 1 6 8 9 Y<|Tr<|Rm Y<|Za<|Zd<|?_
     obtain ⟨r1, hl1, ho1⟩ := Qt h
     refine L2 (fun out2 i=>⟨[(1, .int .i64 first), (6, .ptr 0 1 0 0), (8, .ptr 1 1 0 0), (9, .ptr 2 1 0 0), (33, .int .i64 i)], [some ⟨29, [((Vector.replicate 16 (Vector.replicate 64 0)).toList.flatMap R28)]⟩, some ⟨29, [(out2.toList.flatMap R28)]⟩, some ⟨35, [(List.map C25 y.1.toList)]⟩]⟩) hl1 (ES [some 0, some 1, some 2] (hhp := .cons Y (ro1 (by exact Eq.trans (b := 1024) (ZM (fun x => (D28 x).1.trans tZ_28) rfl) tZ_29.symm)<|rld<|Xq fun x => (D28 x).2)<|.cons Y (ro1 (by exact Eq.trans (b := 1024) (ZM (fun x => (D28 x).1.trans tZ_28) rfl) tZ_29.symm)<|rld<|Xq fun x => (D28 x).2)<|.cons Y (ro1 (by exact Eq.trans (b := 16) arL tZ_35.symm)<|rld<|arD fun _ => Y) .nil)) fun n1 out2 i h=>?_
     unfold XM at h
     refine Tr<|R2 ZH Y<|Za<|Zh<|If h Y (fun h=>?_) fun h=>?_
     ·
      exact Ze<|Zh<|Zd<|K5 1 6 8 9 33 Y<|Tr<|Rm Y<|Ra Y<|Za<|K6 1 6 8 9 11 33 Y<|Zt<|Rm Y<|Rm Y<|Rm Y<|R2 ZT Y<|Rm Y<|bE h fun x h_x h=>Rq Y (Ql (ov Y) (ov Y) ZdF Y Y h_x)<|Rq Y (Zm (ov Y) Y Y Y ZdJ<|XW<|J4 (o := 0) (o' := (i.toNat * 1)) (Zo arL)<|ZaG h_x)<|bE h fun y3 h_y3 h=>Rq Y (Zl (ZiX h_y3)<|.cons (ov Y) (.b Y)<|.cons (ov Y) (.b Y) .nil)<|Rm Y<|Rq Y (ZK (ov Y) Y)<|Rq Y (ZK (ov Y) Y)<|bE h fun x2 h_x2 h=>Rq Y (Ql (ov Y) (ov Y) ZoR Y Y h_x2)<|Rx Y (Zj (ov Y) (ov Y) (Zg ZaC arL) Y Y Y (QF (J4 (o := 0) (o' := (i.toNat * 64)) (Zo<|ZM (fun x=>(D28 x).1.trans tZ_28) Y)<|ZnA (fun x=>(D28 x).1.trans tZ_28) h_x2) arL) (Zc<|arC fun _ => Y)<|ZmM<|Zmv (fun x=>(D28 x).1.trans tZ_28) h_x2 (x := y3.1))<|Za<|K5 1 6 8 9 33 Y<|Zt<|R2 ZT Y<|Rm Y<|Za<|⟨_, h, ES [some 0, some 1, some 2] (hhp := .cons Y (ro1 (by exact Eq.trans (b := 1024) (ZM (fun x => (D28 x).1.trans tZ_28) rfl) tZ_29.symm)<|rld<|Xq fun x => (D28 x).2)<|.cons Y (ro1 (by exact Eq.trans (b := 1024) (ZM (fun x => (D28 x).1.trans tZ_28) rfl) tZ_29.symm)<|rld<|Xq fun x => (D28 x).2)<|.cons Y (ro1 (by exact Eq.trans (b := 16) arL tZ_35.symm)<|rld<|arD fun _ => Y) .nil)⟩
     ·
      refine Zz<|?_
      replace h := lx h ▸ ho1
      exact ⟨_, h, ES [some 0, some 1] (hhp := .cons Y (ro1 (by exact Eq.trans (b := 1024) (ZM (fun x => (D28 x).1.trans tZ_28) rfl) tZ_29.symm)<|rld<|Xq fun x => (D28 x).2)<|.cons Y (ro1 (by exact Eq.trans (b := 1024) (ZM (fun x => (D28 x).1.trans tZ_28) rfl) tZ_29.symm)<|rld<|Xq fun x => (D28 x).2) .nil)⟩
    ·
     refine Tr<|Rq Y (ZC (ov Y) Y Y Y ZbI (ZY<|Zo<|ZM (fun x=>(D28 x).1.trans tZ_28) Y) (ZM (fun x=>(D28 x).1.trans tZ_28) Y) (hns := (Xj (Xq fun x => (D28 x).2))))<|Rx Y (Zj (ov Y) (ov Y) (Zg ZbI<|ZM (fun x=>(D28 x).1.trans tZ_28) Y) Y Y Y (QF (Zo<|ZM (fun x=>(D28 x).1.trans tZ_28) Y)<|ZM (fun x=>(D28 x).1.trans tZ_28) Y) (Zc<|Zh2 E28)<|Qo<|Eq.trans (ZM (fun x=>(D28 x).1.trans tZ_28) Y)<|Eq.symm<|ZM (fun x=>(D28 x).1.trans tZ_28) Y)<|Ra Y<|Za<|?_
     obtain rfl := rt h
     exact Zi (Zn Y (.two (.agg Y Y Y Y ZbI (ZY<|Zo<|ZM (fun x=>(D28 x).1.trans tZ_28) Y) (ZM (fun x=>(D28 x).1.trans tZ_28) Y) (pwB<|Xq fun x => (D28 x).2) (hns := (Xj (Xq fun x => (D28 x).2))))<|rb Y))
theorem Qn {n : Int} {low : Int} {high : Int} {r : Bool} (h : Z7 n low high = some r) :
 CSpec Tryd.prog gl0 11 [.int .i64 n, .int .i64 low, .int .i64 high] (.bool r) := by
 unfold Z7 at h
 replace h := Z0 h
 refine So Tryd.func11 Y fun w0 A=>Tr<|Ra Y<|Za<|Tr<|Rm Y<|Rm Y<|R2 ZH Y<|Rm Y<|Rq Y (.guarded ((decide (n < low)) == false) Y Y Y Y fun h => Zr<|ov Y)<|Rq Y (.guarded ((decide (n < low)) == false) Y Y Y Y fun h => Zr<|ov Y)<|Rq Y (.guarded ((decide (n < low)) == false) Y Y Y Y fun h => X0 (ow Y h)<|ow Y h)<|Rq Y (XX (ov Y) fun hp=>ow Y<|gF hp)<|Ra Y<|Za<|?_
 obtain rfl := rt h
 exact Zi (Zn Y (.one<|rb Y))
theorem Zeg {s : Str} {r : Bool} (h : Za7 s = some r) :
 CSpec Tryd.prog gl0 75 [.str s] (.bool r) := by
 unfold Za7 at h
 replace h := Z0 h
 refine So Tryd.func75 Y fun w0 A=>Tr<|Ra Y<|Za<|J0 (fun j => (.inr j)) ⟨[(0, .str s)], []⟩ h (fun h=>?_) fun h=>?_
 ·
  refine K1 0 Y<|Tr<|Ra Y<|Za<|Zd<|?_
  obtain ⟨r1, hl1, ho1⟩ := Qt h
  refine L1 (fun i=>⟨[(0, .str s), (3, .int .i64 i)], []⟩) hl1 (ES []) fun n1 i h=>?_
  unfold Ja at h
  refine Zh<|Tr<|Rm Y<|Rm Y<|Rq Y (Zef (ov Y) ZeZ Y)<|R2 ZH Y<|Za<|K3 0 3 8 Y<|If h Y (fun h=>?_) fun h=>?_
  ·
   refine Ze<|Zh<|Zd<|K2 0 3 Y<|Tr<|Rm Y<|Rm Y<|bE h fun b h_b h=>Rq Y (Zd6 (ov Y) (ov Y) ZeZ h_b)<|Ra Y<|Za<|K3 0 3 4 Y<|Tr<|Rm Y<|R2 ZbG Y<|Rm Y<|Rq Y (.guarded ((decide (97 ≤ b)) == true) Y Y Y Y fun h => Zr<|ov Y)<|Rq Y (.guarded ((decide (97 ≤ b)) == true) Y Y Y Y fun h => Ze1 (ow Y h)<|ov Y)<|Rq Y (JW (ov Y) fun hp=>ow Y<|gT hp)<|Rm Y<|Rq Y (.guarded (((decide (97 ≤ b)) && (decide (b ≤ 122))) == false) Y Y Y Y fun h => Zr<|ov Y)<|Rq Y (.guarded (((decide (97 ≤ b)) && (decide (b ≤ 122))) == false) Y Y Y Y fun h => X0 (ow Y h)<|ov Y)<|Rq Y (.guarded (((decide (97 ≤ b)) && (decide (b ≤ 122))) == false) Y Y Y Y fun h => Zr<|ow Y h)<|Rq Y (.guarded2 ((((decide (97 ≤ b)) && (decide (b ≤ 122))) == false) && ((decide (0 < i)) == true)) Y Y Y Y fun h => Zr<|ov Y)<|Rq Y (.guarded2 ((((decide (97 ≤ b)) && (decide (b ≤ 122))) == false) && ((decide (0 < i)) == true)) Y Y Y Y fun h => ZbG (ow Y h)<|ov Y)<|Rq Y (.guarded2 ((((decide (97 ≤ b)) && (decide (b ≤ 122))) == false) && ((decide (0 < i)) == true)) Y Y Y Y fun h => Zr<|ow Y h)<|Rq Y (.guarded2 (((((decide (97 ≤ b)) && (decide (b ≤ 122))) == false) && ((decide (0 < i)) == true)) && ((decide (48 ≤ b)) == true)) Y Y Y Y fun h => Zr<|ov Y)<|Rq Y (.guarded2 (((((decide (97 ≤ b)) && (decide (b ≤ 122))) == false) && ((decide (0 < i)) == true)) && ((decide (48 ≤ b)) == true)) Y Y Y Y fun h => Ze1 (ow Y h)<|ov Y)<|Rq Y (.guarded2 ((((decide (97 ≤ b)) && (decide (b ≤ 122))) == false) && ((decide (0 < i)) == true)) Y Y Y Y fun h => JW (ow Y h) fun hp=>ow Y<|gA h<|gT hp)<|Rq Y (.guarded2 ((((decide (97 ≤ b)) && (decide (b ≤ 122))) == false) && ((decide (0 < i)) == true)) Y Y Y Y fun h => Zr<|ow Y h)<|Rq Y (.guarded2 (((((decide (97 ≤ b)) && (decide (b ≤ 122))) == false) && ((decide (0 < i)) == true)) && (((decide (48 ≤ b)) && (decide (b ≤ 57))) == false)) Y Y Y Y fun h => Zr<|ov Y)<|Rq Y (.guarded2 (((((decide (97 ≤ b)) && (decide (b ≤ 122))) == false) && ((decide (0 < i)) == true)) && (((decide (48 ≤ b)) && (decide (b ≤ 57))) == false)) Y Y Y Y fun h => Qz (ow Y h)<|ov Y)<|Rq Y (.guarded2 ((((decide (97 ≤ b)) && (decide (b ≤ 122))) == false) && ((decide (0 < i)) == true)) Y Y Y Y fun h => XX (ow Y h) fun hp=>ow Y<|gA h<|gF hp)<|Rq Y (.guarded (((decide (97 ≤ b)) && (decide (b ≤ 122))) == false) Y Y Y Y fun h => JW (ow Y h) fun hp=>ow Y<|gA h<|gT hp)<|Rq Y (XX (ov Y) fun hp=>ow Y<|gF hp)<|R1 X1 Y<|Za<|K3 0 3 36 Y<|If h Y (fun h=>?_) fun h=>?_
   ·
    refine K0<|Tr<|Ra Y<|Za<|?_
    replace h := lx h ▸ ho1
    obtain rfl := rt h
    exact Zi (Zn Y (.one<|rb Y))
   ·
    exact Ze<|K2 0 3 Y<|Zt<|Rm Y<|R2 ZT Y<|Ra Y<|Za<|⟨_, h, ES []⟩
  ·
   refine Zz<|?_
   replace h := lx h ▸ ho1
   exact ⟨(), h, ES []⟩
 ·
  replace h := elr h
  replace h := t0i h
  refine Tr<|Rm Y<|Rq Y (Zef (ov Y) ZeZ Y)<|R2 ZbG Y<|Rm Y<|Rq Y (.guarded ((decide (1 ≤ (s.length : Int))) == true) Y Y Y Y fun h => Zr<|ov Y)<|Rq Y (.guarded ((decide (1 ≤ (s.length : Int))) == true) Y Y Y Y fun h => Zef (ow Y h) ZeZ Y)<|Rq Y (.guarded ((decide (1 ≤ (s.length : Int))) == true) Y Y Y Y fun h => Ze1 (ow Y h)<|ov Y)<|Rq Y (JW (ov Y) fun hp=>ow Y<|gT hp)<|Ra Y<|Za<|?_
  obtain rfl := rt h
  exact Zi (Zn Y (.one<|rb Y))
theorem Zbf {p : api_Param} {r : Int} (h : Za5 p = some r) :
 CSpec Tryd.prog gl0 24 [.agg [.str p.Name, .int .i64 p.Kind, .sl 42 (List.map R42 p.Parts), .int .i64 p.First, .int .i64 p.Every, .int .i64 p.Times, .int .i64 p.Step, .sl 9 (List.map R9 p.Names)]] (.int .i64 r) := by
 unfold Za5 at h
 replace h := Z0 h
 refine So Tryd.func24 Y fun w0 A=>Tr<|Rq Y (Qa (cva<|ov Y) Y tZ_46 Y)<|Ra Y<|Za<|K1 1 Y<|Tr<|Ra Y<|Za<|I1 (fun n=>⟨[(3, .int .i64 n)], []⟩) h (fun h=>?_) fun n h=>?_
 ·
  refine Tr<|Rq Y (Zf (ov Y) Zbu)<|Rq Y (Zb (ov Y) ZfA Y)<|Rl tZ_42 Zcn Y<|Rm Y<|Za<|Zd<|?_
  obtain ⟨r1, hl1, ho1⟩ := Qt h
  refine L2 (fun n2 i=>⟨[(3, .int .i64 n2), (7, .sl 42 (List.map R42 p.Parts)), (8, .int .i64 (p.Parts.length : Int)), (9, .int .i64 i)], []⟩) hl1 (ES []) fun n1 n2 i h=>?_
  unfold Zf2 at h
  refine Tr<|R2 ZH Y<|Za<|Zh<|If h Y (fun h=>?_) fun h=>?_
  ·
   exact Ze<|Zh<|Zd<|K4 3 7 8 9 Y<|Tr<|bE h fun x h_x h=>Rq Y (ZE (ov Y) (ov Y) Zcn h_x)<|Rq Y (Zk (ov Y) Zde Y Y)<|Rx Y (Zq (row := [_, _, _, _]) 0 Y Zh9 Y tZ_42)<|Rx Y (Zj (ov Y) (ov Y) (Zg Zde Y) Y Y Y (Nat.le_of_ble_eq_true Y) (Zc Y) Y)<|Za<|K5 3 5 7 8 9 Y<|Zt<|Rm Y<|Rq Y (Zp (ov Y) Y Y Zgi)<|Rq Y (Zm (ov Y) Y Y Y tS3 Y)<|R2 ZT Y<|Ra Y<|Za<|K4 3 7 8 9 Y<|Zt<|R2 ZT Y<|Rm Y<|Za<|⟨_, h, ES []⟩
  ·
   refine Zz<|?_
   replace h := lx h ▸ ho1
   exact ⟨_, h, ES []⟩
 ·
  refine Tr<|Rm Y<|Ra Y<|Za<|?_
  obtain rfl := rt h
  exact Zi (Zn Y (.one<|rb Y))
theorem Zfa {p : api_Param} {r : Int} (h : Jx p = some r) :
 CSpec Tryd.prog gl0 76 [.agg [.str p.Name, .int .i64 p.Kind, .sl 42 (List.map R42 p.Parts), .int .i64 p.First, .int .i64 p.Every, .int .i64 p.Times, .int .i64 p.Step, .sl 9 (List.map R9 p.Names)]] (.int .i64 r) := by
 unfold Jx at h
 replace h := Z0 h
 refine So Tryd.func76 Y fun w0 A=>Tr<|Rq Y (Qa (cva<|ov Y) Y tZ_46 Y)<|Ra Y<|Za<|Zh<|K1 1 Y<|Tr<|Rq Y (Zf (ov Y) Zbu)<|Rq Y (Zb (ov Y) ZfA Y)<|Rl tZ_42 Zcn Y<|R2 Qz Y<|Za<|K2 1 8 Y<|If h Y (fun h=>?_) fun h=>?_
 ·
  refine K0<|Tr<|Ra Y<|Za<|?_
  obtain rfl := rt h
  exact Zi (Zn Y (.one<|rb Y))
 ·
  refine Ze<|Zh<|K1 1 Y<|Tr<|Rq Y (Zf (ov Y) Zbu)<|Rq Y (Zb (ov Y) ZfA Y)<|Rl tZ_42 Zcn Y<|R2 X0 Y<|Za<|K2 1 12 Y<|If h Y (fun h=>?_) fun h=>?_
  ·
   refine K0<|Tr<|Ra Y<|Za<|?_
   obtain rfl := rt h
   exact Zi (Zn Y (.one<|rb Y))
  ·
   refine Ze<|J0 (fun j => (.inr j)) ⟨[(1, .rp [.str p.Name, .int .i64 p.Kind, .sl 42 (List.map R42 p.Parts), .int .i64 p.First, .int .i64 p.Every, .int .i64 p.Times, .int .i64 p.Step, .sl 9 (List.map R9 p.Names)] 0)], []⟩ h (fun h=>?_) fun h=>?_
   ·
    refine K1 1 Y<|Tr<|Rq Y (Zf (ov Y) Zbu)<|Rq Y (Zb (ov Y) ZfA Y)<|Rl tZ_42 Zcn Y<|Rm Y<|Za<|Zd<|?_
    obtain ⟨r1, hl1, ho1⟩ := Qt h
    refine L1 (fun i=>⟨[(1, .rp [.str p.Name, .int .i64 p.Kind, .sl 42 (List.map R42 p.Parts), .int .i64 p.First, .int .i64 p.Every, .int .i64 p.Times, .int .i64 p.Step, .sl 9 (List.map R9 p.Names)] 0), (14, .sl 42 (List.map R42 p.Parts)), (15, .int .i64 (p.Parts.length : Int)), (16, .int .i64 i)], []⟩) hl1 (ES []) fun n1 i h=>?_
    unfold Ji at h
    refine Tr<|R2 ZH Y<|Za<|Zh<|If h Y (fun h=>?_) fun h=>?_
    ·
     refine Ze<|Zh<|Zd<|K4 1 14 15 16 Y<|Tr<|bE h fun x h_x h=>Rq Y (ZE (ov Y) (ov Y) Zcn h_x)<|Rq Y (Zk (ov Y) Zde Y Y)<|Rx Y (Zq (row := [_, _, _, _]) 0 Y Zh9 Y tZ_42)<|Rx Y (Zj (ov Y) (ov Y) (Zg Zde Y) Y Y Y (Nat.le_of_ble_eq_true Y) (Zc Y) Y)<|Za<|K5 1 4 14 15 16 Y<|Tr<|Rq Y (Zp (ov Y) Y Y ZgA)<|Rq Y (Zm (ov Y) Y Y Y tS3 Y)<|bE h fun y h_y h=>Rq Y (Zl (Qn h_y)<|.cons (ov Y) (.b Y)<|.cons (ov Y) (.b Y)<|.cons (ov Y) (.b Y) .nil)<|Rm Y<|Rq Y (.guarded (y == false) Y Y Y Y fun h => Zp (ov Y) Y Y Zf6)<|Rq Y (.guarded (y == false) Y Y Y Y fun h => Zm (ow Y h) Y Y Y tS3 Y)<|bE h fun y2 h_y2 h=>Rq Y (.guarded (y == false) Y Y Y Y fun h => Zl (Qn<|gdT h_y2 h)<|.cons (ow Y h) (.b Y)<|.cons (ov Y) (.b Y)<|.cons (ov Y) (.b Y) .nil)<|Rq Y (XX (ov Y) fun hp=>ow Y<|gF hp)<|Rm Y<|Rq Y (.guarded ((y || y2) == false) Y Y Y Y fun h => Zp (ov Y) Y Y Zgd)<|Rq Y (.guarded ((y || y2) == false) Y Y Y Y fun h => Zm (ow Y h) Y Y Y tS3 Y)<|bE h fun y3 h_y3 h=>Rq Y (.guarded ((y || y2) == false) Y Y Y Y fun h => Zl (Qn<|gdT h_y3 h)<|.cons (ow Y h) (.b Y)<|.cons (ov Y) (.b Y)<|.cons (ov Y) (.b Y) .nil)<|Rq Y (XX (ov Y) fun hp=>ow Y<|gF hp)<|Rm Y<|Rq Y (.guarded (((y || y2) || y3) == false) Y Y Y Y fun h => Zp (ov Y) Y Y Zgi)<|Rq Y (.guarded (((y || y2) || y3) == false) Y Y Y Y fun h => Zm (ow Y h) Y Y Y tS3 Y)<|Rq Y (.guarded (((y || y2) || y3) == false) Y Y Y Y fun h => Zp (ov Y) Y Y Zgd)<|Rq Y (.guarded (((y || y2) || y3) == false) Y Y Y Y fun h => Zm (ow Y h) Y Y Y tS3 Y)<|Rq Y (.guarded (((y || y2) || y3) == false) Y Y Y Y fun h => Zis (ov Y) (ow Y h) Y)<|bE h fun y4 h_y4 h=>Rq Y (.guarded (((y || y2) || y3) == false) Y Y Y Y fun h => Zl (Qn<|gdT h_y4 h)<|.cons (ow Y h) (.b Y)<|.cons (ov Y) (.b Y)<|.cons (ow Y h) (.b Y) .nil)<|Rq Y (XX (ov Y) fun hp=>ow Y<|gF hp)<|Za<|K5 1 14 15 16 40 Y<|If h Y (fun h=>?_) fun h=>?_
     ·
      refine K0<|Tr<|Ra Y<|Za<|?_
      replace h := lx h ▸ ho1
      obtain rfl := rt h
      exact Zi (Zn Y (.one<|rb Y))
     ·
      exact Ze<|K4 1 14 15 16 Y<|Zt<|R2 ZT Y<|Rm Y<|Za<|⟨_, h, ES []⟩
    ·
     refine Zz<|?_
     replace h := lx h ▸ ho1
     exact ⟨(), h, ES []⟩
   ·
    replace h := elr h
    replace h := t0i h
    refine Zh<|Tr<|Rq Y (Zk (ov Y) Q5 Y Y)<|bE h fun y5 h_y5 h=>Rq Y (Zl (Zbf h_y5)<|.cons (ov Y) (.aggB Y) .nil)<|R2 X0 Y<|Za<|K1 44 Y<|If h Y (fun h=>?_) fun h=>?_
    ·
     refine K0<|Tr<|Ra Y<|Za<|?_
     obtain rfl := rt h
     exact Zi (Zn Y (.one<|rb Y))
    ·
     refine Ze<|K0<|Tr<|Ra Y<|Za<|?_
     obtain rfl := rt h
     exact Zi (Zn Y (.one<|rb Y))
theorem Ze7 {p : api_Param} {r : Int} (h : Jy p = some r) :
 CSpec Tryd.prog gl0 77 [.agg [.str p.Name, .int .i64 p.Kind, .sl 42 (List.map R42 p.Parts), .int .i64 p.First, .int .i64 p.Every, .int .i64 p.Times, .int .i64 p.Step, .sl 9 (List.map R9 p.Names)]] (.int .i64 r) := by
 unfold Jy at h
 replace h := Z0 h
 refine So Tryd.func77 Y fun w0 A=>Tr<|Rq Y (Qa (cva<|ov Y) Y tZ_46 Y)<|Ra Y<|Za<|J0 (fun j => (.inr j)) ⟨[(1, .rp [.str p.Name, .int .i64 p.Kind, .sl 42 (List.map R42 p.Parts), .int .i64 p.First, .int .i64 p.Every, .int .i64 p.Times, .int .i64 p.Step, .sl 9 (List.map R9 p.Names)] 0)], []⟩ h (fun h=>?_) fun h=>?_
 ·
  refine K1 1 Y<|Tr<|Rq Y (Zf (ov Y) Zgm)<|Rq Y (Zb (ov Y) tS3 Y)<|Za<|Zd<|Zh<|K2 1 6 Y<|Tr<|R2 Qz Y<|Ra Y<|Za<|K3 1 6 7 Y<|ZlM h Y (fun b7 h=>?_) fun b7 h=>?_
  ·
   refine Ze<|K2 1 7 Y<|If h Y (fun h=>?_) fun h=>?_
   ·
    exact Ze<|⟨(), h, ES []⟩
   ·
    refine K0<|Tr<|Ra Y<|Za<|?_
    obtain rfl := rt h
    exact Zi (Zn Y (.one<|rb Y))
  ·
   refine Tr<|R2 Qz Y<|Ra Y<|Za<|K3 1 6 7 Y<|ZlM h Y (fun b7 h=>?_) fun b7 h=>?_
   ·
    refine Ze<|K2 1 7 Y<|If h Y (fun h=>?_) fun h=>?_
    ·
     exact Ze<|⟨(), h, ES []⟩
    ·
     refine K0<|Tr<|Ra Y<|Za<|?_
     obtain rfl := rt h
     exact Zi (Zn Y (.one<|rb Y))
   ·
    refine Tr<|R2 Qz Y<|Ra Y<|Za<|K3 1 6 7 Y<|ZlM h Y (fun b7 h=>?_) fun b7 h=>?_
    ·
     refine Ze<|K2 1 7 Y<|If h Y (fun h=>?_) fun h=>?_
     ·
      exact Ze<|⟨(), h, ES []⟩
     ·
      refine K0<|Tr<|Ra Y<|Za<|?_
      obtain rfl := rt h
      exact Zi (Zn Y (.one<|rb Y))
    ·
     refine Tr<|R2 Qz Y<|Ra Y<|Za<|K3 1 6 7 Y<|ZlM h Y (fun b7 h=>?_) fun b7 h=>?_
     ·
      refine Ze<|K2 1 7 Y<|If h Y (fun h=>?_) fun h=>?_
      ·
       exact Ze<|⟨(), h, ES []⟩
      ·
       refine K0<|Tr<|Ra Y<|Za<|?_
       obtain rfl := rt h
       exact Zi (Zn Y (.one<|rb Y))
     ·
      refine Zt<|R2 Qz Y<|Ra Y<|Za<|K2 1 7 Y<|If h Y (fun h=>?_) fun h=>?_
      ·
       exact Ze<|⟨(), h, ES []⟩
      ·
       refine K0<|Tr<|Ra Y<|Za<|?_
       obtain rfl := rt h
       exact Zi (Zn Y (.one<|rb Y))
 ·
  replace h := elr h
  replace h := t0i h
  refine Zh<|Tr<|Rq Y (Zf (ov Y) Zi8)<|Rq Y (Zb (ov Y) tS3 Y)<|Rq Y (Zf (ov Y) Zgm)<|Rq Y (Zb (ov Y) tS3 Y)<|R2 JV Y<|bE h fun y h_y h=>Rq Y (Zl (Qn h_y)<|.cons (ov Y) (.b Y)<|.cons (ov Y) (.b Y)<|.cons (ov Y) (.b Y) .nil)<|Rm Y<|Rq Y (.guarded (y == false) Y Y Y Y fun h => Zf (ov Y) Zc6)<|Rq Y (.guarded (y == false) Y Y Y Y fun h => Zb (ow Y h) tS3 Y)<|bE h fun y2 h_y2 h=>Rq Y (.guarded (y == false) Y Y Y Y fun h => Zl (Qn<|gdT h_y2 h)<|.cons (ow Y h) (.b Y)<|.cons (ov Y) (.b Y)<|.cons (ov Y) (.b Y) .nil)<|Rq Y (XX (ov Y) fun hp=>ow Y<|gF hp)<|Rm Y<|Rq Y (.guarded ((y || y2) == false) Y Y Y Y fun h => Zf (ov Y) Zc2)<|Rq Y (.guarded ((y || y2) == false) Y Y Y Y fun h => Zb (ow Y h) tS3 Y)<|Rq Y (.guarded ((y || y2) == false) Y Y Y Y fun h => ZH (ow Y h)<|ov Y)<|Rq Y (XX (ov Y) fun hp=>ow Y<|gF hp)<|Rm Y<|Rq Y (.guarded (((y || y2) || (decide (p.Step < 0))) == false) Y Y Y Y fun h => Zf (ov Y) Zc2)<|Rq Y (.guarded (((y || y2) || (decide (p.Step < 0))) == false) Y Y Y Y fun h => Zb (ow Y h) tS3 Y)<|Rq Y (.guarded (((y || y2) || (decide (p.Step < 0))) == false) Y Y Y Y fun h => Qz (ow Y h)<|ov Y)<|Rq Y (.guarded (((y || y2) || (decide (p.Step < 0))) == false) Y Y Y Y fun h => Zf (ov Y) Zc6)<|Rq Y (.guarded (((y || y2) || (decide (p.Step < 0))) == false) Y Y Y Y fun h => Zb (ow Y h) tS3 Y)<|Rq Y (.guarded (((y || y2) || (decide (p.Step < 0))) == false) Y Y Y Y fun h => Qz (ow Y h)<|ov Y)<|Rq Y (.guarded (((y || y2) || (decide (p.Step < 0))) == false) Y Y Y Y fun h => ZhJ .neq (by simp) (ow Y h) (ow Y h) tB4)<|Rq Y (XX (ov Y) fun hp=>ow Y<|gF hp)<|Za<|K2 1 37 Y<|If h Y (fun h=>?_) fun h=>?_
  ·
   refine K0<|Tr<|Ra Y<|Za<|?_
   obtain rfl := rt h
   exact Zi (Zn Y (.one<|rb Y))
  ·
   refine Ze<|J0 (fun j => (.inr j)) ⟨[], []⟩ h (fun h=>?_) fun h=>?_
   ·
    refine K1 1 Y<|Tr<|Rq Y (Zf (ov Y) Zbu)<|Rq Y (Zb (ov Y) ZfA Y)<|Rl tZ_42 Zcn Y<|Rm Y<|Za<|Zd<|?_
    obtain ⟨r1, hl1, ho1⟩ := Qt h
    refine L1 (fun i=>⟨[(1, .rp [.str p.Name, .int .i64 p.Kind, .sl 42 (List.map R42 p.Parts), .int .i64 p.First, .int .i64 p.Every, .int .i64 p.Times, .int .i64 p.Step, .sl 9 (List.map R9 p.Names)] 0), (39, .sl 42 (List.map R42 p.Parts)), (40, .int .i64 (p.Parts.length : Int)), (41, .int .i64 i)], []⟩) hl1 (ES []) fun n1 i h=>?_
    unfold Xv at h
    refine Tr<|R2 ZH Y<|Za<|Zh<|If h Y (fun h=>?_) fun h=>?_
    ·
     refine Ze<|Zh<|Zd<|K4 1 39 40 41 Y<|Tr<|bE h fun x h_x h=>Rq Y (ZE (ov Y) (ov Y) Zcn h_x)<|Rq Y (Zk (ov Y) Zde Y Y)<|Rx Y (Zq (row := [_, _, _, _]) 0 Y Zh9 Y tZ_42)<|Rx Y (Zj (ov Y) (ov Y) (Zg Zde Y) Y Y Y (Nat.le_of_ble_eq_true Y) (Zc Y) Y)<|Za<|K5 1 4 39 40 41 Y<|Tr<|Rq Y (Zf (ov Y) Zc6)<|Rq Y (Zb (ov Y) tS3 Y)<|R2 X0 Y<|Rm Y<|Rq Y (.guarded ((decide (1 < p.Times)) == true) Y Y Y Y fun h => Zf (ov Y) Zc2)<|Rq Y (.guarded ((decide (1 < p.Times)) == true) Y Y Y Y fun h => Zb (ow Y h) tS3 Y)<|Rq Y (.guarded ((decide (1 < p.Times)) == true) Y Y Y Y fun h => X0 (ow Y h)<|ov Y)<|Rq Y (JW (ov Y) fun hp=>ow Y<|gT hp)<|Rm Y<|Rq Y (.guarded (((decide (1 < p.Times)) && (decide (57 < p.Step))) == false) Y Y Y Y fun h => Zp (ov Y) Y Y Zf6)<|Rq Y (.guarded (((decide (1 < p.Times)) && (decide (57 < p.Step))) == false) Y Y Y Y fun h => Zm (ow Y h) Y Y Y tS3 Y)<|Rq Y (.guarded (((decide (1 < p.Times)) && (decide (57 < p.Step))) == false) Y Y Y Y fun h => Zf (ov Y) Zc6)<|Rq Y (.guarded (((decide (1 < p.Times)) && (decide (57 < p.Step))) == false) Y Y Y Y fun h => Zb (ow Y h) tS3 Y)<|Rq Y (.guarded (((decide (1 < p.Times)) && (decide (57 < p.Step))) == false) Y Y Y Y fun h => Zis (ow Y h) (ov Y) Y)<|Rq Y (.guarded (((decide (1 < p.Times)) && (decide (57 < p.Step))) == false) Y Y Y Y fun h => Zf (ov Y) Zc2)<|Rq Y (.guarded (((decide (1 < p.Times)) && (decide (57 < p.Step))) == false) Y Y Y Y fun h => Zb (ow Y h) tS3 Y)<|Rq Y (.guarded (((decide (1 < p.Times)) && (decide (57 < p.Step))) == false) Y Y Y Y fun h => Zl0 (ow Y h) (ow Y h) Y)<|Rq Y (.guarded (((decide (1 < p.Times)) && (decide (57 < p.Step))) == false) Y Y Y Y fun h => ZkS (ow Y h) (ow Y h) Y)<|Rq Y (.guarded (((decide (1 < p.Times)) && (decide (57 < p.Step))) == false) Y Y Y Y fun h => X0 (ow Y h)<|ov Y)<|Rq Y (XX (ov Y) fun hp=>ow Y<|gF hp)<|Za<|K5 1 39 40 41 64 Y<|If h Y (fun h=>?_) fun h=>?_
     ·
      refine K0<|Tr<|Ra Y<|Za<|?_
      replace h := lx h ▸ ho1
      obtain rfl := rt h
      exact Zi (Zn Y (.one<|rb Y))
     ·
      exact Ze<|K4 1 39 40 41 Y<|Zt<|R2 ZT Y<|Rm Y<|Za<|⟨_, h, ES []⟩
    ·
     refine Zz<|?_
     replace h := lx h ▸ ho1
     exact ⟨(), h, ES []⟩
   ·
    replace h := elr h
    replace h := t0i h
    refine Tr<|Ra Y<|Za<|?_
    obtain rfl := rt h
    exact Zi (Zn Y (.one<|rb Y))
theorem Zf0 {p : api_Param} {r : Int} (h : J8 p = some r) :
 CSpec Tryd.prog gl0 78 [.agg [.str p.Name, .int .i64 p.Kind, .sl 42 (List.map R42 p.Parts), .int .i64 p.First, .int .i64 p.Every, .int .i64 p.Times, .int .i64 p.Step, .sl 9 (List.map R9 p.Names)]] (.int .i64 r) := by
 unfold J8 at h
 replace h := Z0 h
 refine So Tryd.func78 Y fun w0 A=>Tr<|Rq Y (Qa (cva<|ov Y) Y tZ_46 Y)<|Ra Y<|Za<|K1 1 Y<|Tr<|Rq Y (Zk (ov Y) Q5 Y Y)<|bE h fun y h_y h=>Rq Y (Zl (Zbf h_y)<|.cons (ov Y) (.aggB Y) .nil)<|Ra Y<|Za<|Zh<|K2 1 3 Y<|Tr<|Rq Y (Zf (ov Y) ZaY)<|Rq Y (Zb (ov Y) tS3 Y)<|R2 Qz Y<|Rm Y<|Rq Y (.guarded ((decide (p.Kind = 4)) == true) Y Y Y Y fun h => Zr<|ov Y)<|bE h fun q h_q h=>Rq Y (.guarded ((decide (p.Kind = 4)) == true) Y Y Y Y fun h => Je (ow Y h) (ov Y)<|gdT h_q h)<|Rq Y (.guarded ((decide (p.Kind = 4)) == true) Y Y Y Y fun h => QZ (ow Y h)<|ov Y)<|Rq Y (JW (ov Y) fun hp=>ow Y<|gT hp)<|Rm Y<|Rq Y (.guarded (((decide (p.Kind = 4)) && (!decide (q = 0))) == false) Y Y Y Y fun h => Zf (ov Y) ZaY)<|Rq Y (.guarded (((decide (p.Kind = 4)) && (!decide (q = 0))) == false) Y Y Y Y fun h => Zb (ow Y h) tS3 Y)<|Rq Y (.guarded (((decide (p.Kind = 4)) && (!decide (q = 0))) == false) Y Y Y Y fun h => Qz (ow Y h)<|ov Y)<|Rq Y (.guarded (((decide (p.Kind = 4)) && (!decide (q = 0))) == false) Y Y Y Y fun h => Zr<|ow Y h)<|Rq Y (.guarded2 ((((decide (p.Kind = 4)) && (!decide (q = 0))) == false) && ((decide (p.Kind = 5)) == true)) Y Y Y Y fun h => Zr<|ov Y)<|Rq Y (.guarded2 ((((decide (p.Kind = 4)) && (!decide (q = 0))) == false) && ((decide (p.Kind = 5)) == true)) Y Y Y Y fun h => QZ (ow Y h)<|ov Y)<|Rq Y (.guarded (((decide (p.Kind = 4)) && (!decide (q = 0))) == false) Y Y Y Y fun h => JW (ow Y h) fun hp=>ow Y<|gA h<|gT hp)<|Rq Y (XX (ov Y) fun hp=>ow Y<|gF hp)<|Rm Y<|Rq Y (.guarded ((((decide (p.Kind = 4)) && (!decide (q = 0))) || ((decide (p.Kind = 5)) && (!decide (y = 1)))) == false) Y Y Y Y fun h => Zf (ov Y) ZaY)<|Rq Y (.guarded ((((decide (p.Kind = 4)) && (!decide (q = 0))) || ((decide (p.Kind = 5)) && (!decide (y = 1)))) == false) Y Y Y Y fun h => Zb (ow Y h) tS3 Y)<|Rq Y (.guarded ((((decide (p.Kind = 4)) && (!decide (q = 0))) || ((decide (p.Kind = 5)) && (!decide (y = 1)))) == false) Y Y Y Y fun h => Qz (ow Y h)<|ov Y)<|Rq Y (.guarded ((((decide (p.Kind = 4)) && (!decide (q = 0))) || ((decide (p.Kind = 5)) && (!decide (y = 1)))) == false) Y Y Y Y fun h => Zr<|ow Y h)<|Rq Y (.guarded2 (((((decide (p.Kind = 4)) && (!decide (q = 0))) || ((decide (p.Kind = 5)) && (!decide (y = 1)))) == false) && ((decide (p.Kind = 2)) == false)) Y Y Y Y fun h => Zf (ov Y) ZaY)<|Rq Y (.guarded2 (((((decide (p.Kind = 4)) && (!decide (q = 0))) || ((decide (p.Kind = 5)) && (!decide (y = 1)))) == false) && ((decide (p.Kind = 2)) == false)) Y Y Y Y fun h => Zb (ow Y h) tS3 Y)<|Rq Y (.guarded2 (((((decide (p.Kind = 4)) && (!decide (q = 0))) || ((decide (p.Kind = 5)) && (!decide (y = 1)))) == false) && ((decide (p.Kind = 2)) == false)) Y Y Y Y fun h => Qz (ow Y h)<|ov Y)<|Rq Y (.guarded ((((decide (p.Kind = 4)) && (!decide (q = 0))) || ((decide (p.Kind = 5)) && (!decide (y = 1)))) == false) Y Y Y Y fun h => XX (ow Y h) fun hp=>ow Y<|gA h<|gF hp)<|Rq Y (.guarded ((((decide (p.Kind = 4)) && (!decide (q = 0))) || ((decide (p.Kind = 5)) && (!decide (y = 1)))) == false) Y Y Y Y fun h => Zr<|ow Y h)<|Rq Y (.guarded2 (((((decide (p.Kind = 4)) && (!decide (q = 0))) || ((decide (p.Kind = 5)) && (!decide (y = 1)))) == false) && (((decide (p.Kind = 2)) || (decide (p.Kind = 3))) == true)) Y Y Y Y fun h => Zr<|ov Y)<|Rq Y (.guarded2 (((((decide (p.Kind = 4)) && (!decide (q = 0))) || ((decide (p.Kind = 5)) && (!decide (y = 1)))) == false) && (((decide (p.Kind = 2)) || (decide (p.Kind = 3))) == true)) Y Y Y Y fun h => Qz (ow Y h)<|ov Y)<|Rq Y (.guarded ((((decide (p.Kind = 4)) && (!decide (q = 0))) || ((decide (p.Kind = 5)) && (!decide (y = 1)))) == false) Y Y Y Y fun h => JW (ow Y h) fun hp=>ow Y<|gA h<|gT hp)<|Rq Y (XX (ov Y) fun hp=>ow Y<|gF hp)<|Za<|K3 1 3 40 Y<|If h Y (fun h=>?_) fun h=>?_
 ·
  refine K0<|Tr<|Ra Y<|Za<|?_
  obtain rfl := rt h
  exact Zi (Zn Y (.one<|rb Y))
 ·
  refine Ze<|Zh<|K2 1 3 Y<|Tr<|Rq Y (Zf (ov Y) ZaY)<|Rq Y (Zb (ov Y) tS3 Y)<|R2 QZ Y<|Za<|K3 1 3 43 Y<|If h Y (fun h=>?_) fun h=>?_
  ·
   refine Zh<|K1 1 Y<|Tr<|Rq Y (Zf (ov Y) Zbr)<|Rq Y (Zb (ov Y) ZfZ Y)<|Rl tZ_9 Zdd Y<|R2 X0 Y<|Za<|K1 47 Y<|If h Y (fun h=>?_) fun h=>?_
   ·
    refine K0<|Tr<|Ra Y<|Za<|?_
    obtain rfl := rt h
    exact Zi (Zn Y (.one<|rb Y))
   ·
    refine Ze<|K0<|Tr<|Ra Y<|Za<|?_
    obtain rfl := rt h
    exact Zi (Zn Y (.one<|rb Y))
  ·
   refine Ze<|Zh<|K2 1 3 Y<|Tr<|Rq Y (Zf (ov Y) Zbr)<|Rq Y (Zb (ov Y) ZfZ Y)<|Rl tZ_9 Zdd Y<|R2 Qz Y<|Za<|K3 1 3 51 Y<|If h Y (fun h=>?_) fun h=>?_
   ·
    refine K0<|Tr<|Ra Y<|Za<|?_
    obtain rfl := rt h
    exact Zi (Zn Y (.one<|rb Y))
   ·
    refine Ze<|Zh<|K2 1 3 Y<|Td md0<|Dq 0 Y (Zf (ov Y) Zbr)<|Dq 1 Y (Zb (ov Y) ZfZ Y)<|Dq 2 Y (Zd7 (X8 (ov Y) tZ_9) Zdd<|ZbB _ _)<|D2 3 X0 Y<|D1 4 Zr Y<|Dq 5 Y (.guarded ((decide (64 < (p.Names.length : Int))) == false) Y Y Y Y fun h => Zf (ov Y) Zbr)<|Dq 6 Y (.guarded ((decide (64 < (p.Names.length : Int))) == false) Y Y Y Y fun h => Zb (ow Y h) ZfZ Y)<|Dq 7 Y (.guarded ((decide (64 < (p.Names.length : Int))) == false) Y Y Y Y fun h => Zd7 (X8 (ow Y h) tZ_9) Zdd<|ZbB _ _)<|Dq 8 Y (.guarded ((decide (64 < (p.Names.length : Int))) == false) Y Y Y Y fun h => Zr<|ov Y)<|bE h fun q2 h_q2 h=>Dq 9 Y (.guarded ((decide (64 < (p.Names.length : Int))) == false) Y Y Y Y fun h => Jb (ov Y) (ow Y h)<|gdT h_q2 h)<|Dq 10 Y (.guarded ((decide (64 < (p.Names.length : Int))) == false) Y Y Y Y fun h => X0 (ow Y h)<|ow Y h)<|Dq 11 Y (XX (ov Y) fun hp=>ow Y<|gF hp)<|Dd<|K2 1 63 Y<|If h Y (fun h=>?_) fun h=>?_
    ·
     refine K0<|Tr<|Ra Y<|Za<|?_
     obtain rfl := rt h
     exact Zi (Zn Y (.one<|rb Y))
    ·
     refine Ze<|J0 (fun j => (.inr j)) ⟨[], []⟩ h (fun h=>?_) fun h=>?_
     ·
      refine K1 1 Y<|Tr<|Rq Y (Zf (ov Y) Zbr)<|Rq Y (Zb (ov Y) ZfZ Y)<|Rl tZ_9 Zdd Y<|Rm Y<|Za<|Zd<|?_
      obtain ⟨r1, hl1, ho1⟩ := Qt h
      refine L1 (fun i=>⟨[(1, .rp [.str p.Name, .int .i64 p.Kind, .sl 42 (List.map R42 p.Parts), .int .i64 p.First, .int .i64 p.Every, .int .i64 p.Times, .int .i64 p.Step, .sl 9 (List.map R9 p.Names)] 0), (65, .sl 9 (List.map R9 p.Names)), (66, .int .i64 (p.Names.length : Int)), (67, .int .i64 i)], []⟩) hl1 (ES []) fun n1 i h=>?_
      unfold XP at h
      refine Tr<|R2 ZH Y<|Za<|Zh<|If h Y (fun h=>?_) fun h=>?_
      ·
       refine Ze<|J0 (fun j => (.inr j)) ⟨[(1, .rp [.str p.Name, .int .i64 p.Kind, .sl 42 (List.map R42 p.Parts), .int .i64 p.First, .int .i64 p.Every, .int .i64 p.Times, .int .i64 p.Step, .sl 9 (List.map R9 p.Names)] 0), (65, .sl 9 (List.map R9 p.Names)), (66, .int .i64 (p.Names.length : Int)), (67, .int .i64 i)], []⟩ h (fun h=>?_) fun h=>?_
       ·
        refine Zd<|K4 1 65 66 67 Y<|Tr<|Rm Y<|bE h fun x h_x h=>Rq Y (ZE (ov Y) (ov Y) Zdd h_x)<|Rq Y (Zb (ov Y) tS9 Y)<|Ra Y<|Ra Y<|Za<|Zh<|K6 1 4 5 65 66 67 Y<|Tr<|Rm Y<|bE h fun y2 h_y2 h=>Rq Y (Zl (Zeg h_y2)<|.cons (ov Y) (.b Y) .nil)<|R1 X1 Y<|Za<|K7 1 4 5 65 66 67 74 Y<|If h Y (fun h=>?_) fun h=>?_
        ·
         refine K0<|Tr<|Ra Y<|Za<|?_
         replace h := lx h ▸ ho1
         obtain rfl := rt h
         exact Zi (Zn Y (.one<|rb Y))
        ·
         refine Ze<|K6 1 4 5 65 66 67 Y<|Tr<|Rq Y (Zf (ov Y) Zbr)<|Rq Y (Zb (ov Y) ZfZ Y)<|Rm Y<|bE h fun l h_l h=>Rq Y (ZfM (ov Y) Zdd on (oi<|ov Y) h_l)<|Rl tZ_9 Zdd Y<|Rm Y<|Za<|Zd<|?_
         obtain ⟨r2, hl2, ho2⟩ := Qt h
         refine L1 (fun i2=>⟨[(1, .rp [.str p.Name, .int .i64 p.Kind, .sl 42 (List.map R42 p.Parts), .int .i64 p.First, .int .i64 p.Every, .int .i64 p.Times, .int .i64 p.Step, .sl 9 (List.map R9 p.Names)] 0), (5, .str x), (65, .sl 9 (List.map R9 p.Names)), (66, .int .i64 (p.Names.length : Int)), (67, .int .i64 i), (78, .sl 9 (List.map R9 l)), (79, .int .i64 (l.length : Int)), (80, .int .i64 i2)], []⟩) hl2 (ES []) fun n2 i2 h=>?_
         unfold XO at h
         refine Tr<|R2 ZH Y<|Za<|Zh<|If h Y (fun h=>?_) fun h=>?_
         ·
          refine Ze<|Zh<|Zd<|K8 1 5 65 66 67 78 79 80 Y<|Tr<|bE h fun x2 h_x2 h=>Rq Y (ZE (ov Y) (ov Y) Zdd h_x2)<|Rq Y (Zb (ov Y) tS9 Y)<|Ra Y<|Za<|K9 1 5 7 65 66 67 78 79 80 Y<|Tr<|Rm Y<|Rm Y<|R2 Zfx Y<|Za<|K9 1 5 65 66 67 78 79 80 86 Y<|If h Y (fun h=>?_) fun h=>?_
          ·
           refine K0<|Tr<|Ra Y<|Za<|?_
           replace h := lx h ▸ ho2
           replace h := lx h ▸ ho1
           obtain rfl := rt h
           exact Zi (Zn Y (.one<|rb Y))
          ·
           exact Ze<|K8 1 5 65 66 67 78 79 80 Y<|Zt<|R2 ZT Y<|Rm Y<|Za<|⟨_, h, ES []⟩
         ·
          refine Zz<|?_
          replace h := lx h ▸ ho2
          exact ⟨(), h, ES []⟩
       ·
        replace h := elr h
        replace h := t0i h
        exact Zt<|R2 ZT Y<|Rm Y<|Za<|⟨_, h, ES []⟩
      ·
       refine Zz<|?_
       replace h := lx h ▸ ho1
       exact ⟨(), h, ES []⟩
     ·
      replace h := elr h
      replace h := t0i h
      refine Tr<|Ra Y<|Za<|?_
      obtain rfl := rt h
      exact Zi (Zn Y (.one<|rb Y))
theorem Zb5 {p : api_Param} {number : Int} {r : (List api_Cell)} (h : Jn p number = some r) :
 CSpec Tryd.prog gl0 56 [.agg [.str p.Name, .int .i64 p.Kind, .sl 42 (List.map R42 p.Parts), .int .i64 p.First, .int .i64 p.Every, .int .i64 p.Times, .int .i64 p.Step, .sl 9 (List.map R9 p.Names)], .int .i64 number] (.sl 58 (List.map R58 r)) := by
 unfold Jn at h
 replace h := Z0 h
 refine So Tryd.func56 Y fun w0 A=>Tr<|Rq Y (Qa (cva<|ov Y) Y tZ_46 Y)<|Ra Y<|Za<|K2 1 2 Y<|Tr<|Ra Y<|Za<|I1 (fun out=>⟨[(5, .own 0 out.length)], [some ⟨58, List.map R58 out⟩]⟩) h (fun h=>?_) fun out h=>?_
 ·
  refine Tr<|Rq Y (Zf (ov Y) Zi8)<|Rq Y (Zb (ov Y) tS3 Y)<|Ra Y<|Za<|Zd<|?_
  obtain ⟨r1, hl1, ho1⟩ := Qt h
  refine L2 (fun out2 f=>⟨[(1, .int .i64 number), (2, .rp [.str p.Name, .int .i64 p.Kind, .sl 42 (List.map R42 p.Parts), .int .i64 p.First, .int .i64 p.Every, .int .i64 p.Times, .int .i64 p.Step, .sl 9 (List.map R9 p.Names)] 0), (5, .own 0 out2.length), (6, .int .i64 f)], [some ⟨58, List.map R58 out2⟩]⟩) hl1 (ES [none]) fun n1 out2 f h=>?_
  unfold Xo at h
  refine Zh<|Tr<|Rm Y<|R2 ZH Y<|Za<|K5 1 2 5 6 17 Y<|If h Y (fun h=>?_) fun h=>?_
  ·
   refine Ze<|I1 (fun out3=>⟨[(1, .int .i64 number), (2, .rp [.str p.Name, .int .i64 p.Kind, .sl 42 (List.map R42 p.Parts), .int .i64 p.First, .int .i64 p.Every, .int .i64 p.Times, .int .i64 p.Step, .sl 9 (List.map R9 p.Names)] 0), (5, .own 0 out3.length), (6, .int .i64 f)], [some ⟨58, List.map R58 out3⟩]⟩) h (fun h=>?_) fun out3 h=>?_
   ·
    refine Zd<|K4 1 2 5 6 Y<|Tr<|Ra Y<|Za<|I1 (fun JH=>⟨[(1, .int .i64 number), (2, .rp [.str p.Name, .int .i64 p.Kind, .sl 42 (List.map R42 p.Parts), .int .i64 p.First, .int .i64 p.Every, .int .i64 p.Times, .int .i64 p.Step, .sl 9 (List.map R9 p.Names)] 0), (5, .own 0 out2.length), (6, .int .i64 f), (7, .bool JH)], [some ⟨58, List.map R58 out2⟩]⟩) h (fun h=>?_) fun JH h=>?_
    ·
     refine Tr<|Rq Y (Zf (ov Y) Zbu)<|Rq Y (Zb (ov Y) ZfA Y)<|Rl tZ_42 Zcn Y<|Rm Y<|Za<|Zd<|?_
     obtain ⟨r2, hl2, ho2⟩ := Qt h
     refine L2 (fun inside2 i=>⟨[(1, .int .i64 number), (2, .rp [.str p.Name, .int .i64 p.Kind, .sl 42 (List.map R42 p.Parts), .int .i64 p.First, .int .i64 p.Every, .int .i64 p.Times, .int .i64 p.Step, .sl 9 (List.map R9 p.Names)] 0), (5, .own 0 out2.length), (6, .int .i64 f), (7, .bool inside2), (23, .sl 42 (List.map R42 p.Parts)), (24, .int .i64 (p.Parts.length : Int)), (25, .int .i64 i)], [some ⟨58, List.map R58 out2⟩]⟩) hl2 (ES [some 0]) fun n2 inside2 i h=>?_
     unfold JC at h
     refine Tr<|R2 ZH Y<|Za<|Zh<|If h Y (fun h=>?_) fun h=>?_
     ·
      exact Ze<|Zh<|Zd<|K8 1 2 5 6 7 23 24 25 Y<|Tr<|bE h fun x h_x h=>Rq Y (ZE (ov Y) (ov Y) Zcn h_x)<|Rq Y (Zk (ov Y) Zde Y Y)<|Rx Y (Zq (row := [_, _, _, _]) 1 Y Zh9 Y tZ_42)<|Rx Y (Zj (ov Y) (ov Y) (Zg Zde Y) Y Y Y (Nat.le_of_ble_eq_true Y) (Zc Y) Y)<|Za<|K9 1 2 5 6 7 9 23 24 25 Y<|Zt<|Rm Y<|Rm Y<|Rq Y (.guarded (inside2 == true) Y Y Y Y fun h => Zr<|ov Y)<|Rq Y (.guarded (inside2 == true) Y Y Y Y fun h => Zp (ov Y) Y Y ZgA)<|Rq Y (.guarded (inside2 == true) Y Y Y Y fun h => Zm (ow Y h) Y Y Y tS3 Y)<|Rq Y (.guarded (inside2 == true) Y Y Y Y fun h => ZkS (ow Y h) (ow Y h) Y)<|Rq Y (.guarded (inside2 == true) Y Y Y Y fun h => ZH (ow Y h)<|ov Y)<|Rq Y (JW (ov Y) fun hp=>ow Y<|gT hp)<|Ra Y<|Za<|K8 1 2 5 6 7 23 24 25 Y<|Zt<|R2 ZT Y<|Rm Y<|Za<|⟨_, h, ES [some 0]⟩
     ·
      refine Zz<|?_
      replace h := lx h ▸ ho2
      exact ⟨_, h, ES [some 0]⟩
    ·
     refine Tr<|Ra Y<|Za<|Zd<|?_
     obtain ⟨r3, hl3, ho3⟩ := Qt h
     refine L2 (fun out4 j=>⟨[(1, .int .i64 number), (2, .rp [.str p.Name, .int .i64 p.Kind, .sl 42 (List.map R42 p.Parts), .int .i64 p.First, .int .i64 p.Every, .int .i64 p.Times, .int .i64 p.Step, .sl 9 (List.map R9 p.Names)] 0), (5, .own 0 out4.length), (6, .int .i64 f), (7, .bool JH), (10, .int .i64 j)], [some ⟨58, List.map R58 out4⟩]⟩) hl3 (ES [some 0]) fun n3 out4 j h=>?_
     unfold JD at h
     refine Zh<|Tr<|Rm Y<|Rq Y (Zf (ov Y) Zc6)<|Rq Y (Zb (ov Y) tS3 Y)<|R2 ZH Y<|Rm Y<|Rq Y (.guarded ((decide (j < p.Times)) == true) Y Y Y Y fun h => Zr<|ov Y)<|Rq Y (JW (ov Y) fun hp=>ow Y<|gT hp)<|Za<|K7 1 2 5 6 7 10 44 Y<|If h Y (fun h=>?_) fun h=>?_
     ·
      refine Ze<|Zh<|Zd<|K6 1 2 5 6 7 10 Y<|Tr<|Rm Y<|Rm Y<|Rq Y (ZmE (ov Y) Y Y ZbZ)<|Rm Y<|Rq Y (JP (ys := [_, _, _, _]) Zny ZnB ZhG (.cons (cvs (ov Y)<|Zs Y)<|.cons (cvs (ov Y)<|Zs Y)<|.cons (cvs (ov Y)<|Zs Y) .nil) Y)<|Rx Y (Zq (row := [_, _, _, _]) 1 Y ZhG Y tZ_58)<|Rx Y (Zj (ov Y) (ov Y) (Zg ZdO Y) Y Y Y (Nat.le_of_ble_eq_true Y) (Zc Y) Y)<|Za<|I1 (fun Places=>⟨[(1, .int .i64 number), (2, .rp [.str p.Name, .int .i64 p.Kind, .sl 42 (List.map R42 p.Parts), .int .i64 p.First, .int .i64 p.Every, .int .i64 p.Times, .int .i64 p.Step, .sl 9 (List.map R9 p.Names)] 0), (5, .own 0 out4.length), (6, .int .i64 f), (7, .bool JH), (10, .int .i64 j), (11, .ptr 1 1 0 0)], [some ⟨58, List.map R58 out4⟩, some ⟨58, [[.int .i64 number, .int .i64 (out4.length : Int), .int .i64 f, .own 2 Places.length]]⟩, some ⟨65, List.map R65 Places⟩]⟩) h (fun h=>?_) fun Places h=>?_
      ·
       refine K7 1 2 5 6 7 10 11 Y<|Tr<|Rq Y (Zf (ov Y) Zbu)<|Rq Y (Zb (ov Y) ZfA Y)<|Rl tZ_42 Zcn Y<|Rm Y<|Za<|Zd<|?_
       obtain ⟨r4, hl4, ho4⟩ := Qt h
       refine L2 (fun Places2 i2=>⟨[(1, .int .i64 number), (2, .rp [.str p.Name, .int .i64 p.Kind, .sl 42 (List.map R42 p.Parts), .int .i64 p.First, .int .i64 p.Every, .int .i64 p.Times, .int .i64 p.Step, .sl 9 (List.map R9 p.Names)] 0), (5, .own 0 out4.length), (6, .int .i64 f), (7, .bool JH), (10, .int .i64 j), (11, .ptr 1 1 0 0), (53, .sl 42 (List.map R42 p.Parts)), (54, .int .i64 (p.Parts.length : Int)), (55, .int .i64 i2)], [some ⟨58, List.map R58 out4⟩, some ⟨58, [[.int .i64 number, .int .i64 (out4.length : Int), .int .i64 f, .own 2 Places2.length]]⟩, some ⟨65, List.map R65 Places2⟩]⟩) hl4 (ES [some 0, some 1, none]) fun n4 Places2 i2 h=>?_
       unfold Zb6 at h
       refine Tr<|R2 ZH Y<|Za<|Zh<|If h Y (fun h=>?_) fun h=>?_
       ·
        exact Ze<|Zh<|Zd<|K10 1 2 5 6 7 10 11 53 54 55 Y<|Tr<|bE h fun x2 h_x2 h=>Rq Y (ZE (ov Y) (ov Y) Zcn h_x2)<|Rq Y (Zk (ov Y) Zde Y Y)<|Rx Y (Zq (row := [_, _, _, _]) 3 Y Zh9 Y tZ_42)<|Rx Y (Zj (ov Y) (ov Y) (Zg Zde Y) Y Y Y (Nat.le_of_ble_eq_true Y) (Zc Y) Y)<|Za<|K11 1 2 5 6 7 10 11 13 53 54 55 Y<|Zt<|Rq Y (Zp (ov Y) Y Y Zc4)<|Rq Y (Zm (ov Y) Y Y Y Zh0 Y)<|Rm Y<|Rq Y (Zp (ov Y) Y Y ZgA)<|Rq Y (Zm (ov Y) Y Y Y tS3 Y)<|R2 ZT Y<|Rq Y (Zp (ov Y) Y Y Zf6)<|Rq Y (Zm (ov Y) Y Y Y tS3 Y)<|Rm Y<|Rq Y (Zf (ov Y) Zc2)<|Rq Y (Zb (ov Y) tS3 Y)<|R2 ZhK Y<|R2 ZT Y<|Rq Y (Zp (ov Y) Y Y Zgd)<|Rq Y (Zm (ov Y) Y Y Y tS3 Y)<|Rq Y (Zp (ov Y) Y Y Zgi)<|Rq Y (Zm (ov Y) Y Y Y tS3 Y)<|Rq Y (JP (ys := [_, _, _, _]) ZnR ZnN Zjz (.cons (cvs (ov Y)<|Zs Y)<|.cons (cvs (ov Y)<|Zs Y)<|.cons (cvs (ov Y)<|Zs Y)<|.cons (cvs (ov Y)<|Zs Y) .nil) Y)<|R_q (.sl 65<|List.map R65 ([(api_Place.mk (i64 (f + x2.Frame)) (i64 (x2.Word + (i64 (j * p.Step)))) x2.Low x2.Bits)] : List api_Place)) Y (Zeu Zf1 (.cons (cva<|ov Y) Y (pwD Y) .nil) Y Y)<|bE h fun l h_l h=>Rx Y (Za8 (ov Y) (X8 (ov Y) tZ_65) Zf1 Y Y Y (fun _=>Zc Y) Y h_l)<|Rq Y (Zp (ov Y) Y Y Zc4)<|Rx Y (Zj (ov Y) (ov Y) (ZA Zh0) Y Y Y (Nat.le_of_ble_eq_true Y) (Zc Y) Y)<|Za<|K10 1 2 5 6 7 10 11 53 54 55 Y<|Zt<|R2 ZT Y<|Rm Y<|Za<|⟨_, h, ES [some 0, some 1, some 2]⟩
       ·
        refine Zz<|?_
        replace h := lx h ▸ ho4
        exact ⟨_, h, ES [some 0, some 1, some 2]⟩
      ·
       exact Zt<|Rm Y<|Rq Y (ZC (ov Y) Y Y Y ZdO Y Y)<|ZdP (Ent.sel [some 0, some 1, none] (sd 1 Y Y<|sd 2 Y Y<|sr 5 Y (.own (r' := 0) _ Y)<|sd 6 Y Y<|sd 7 Y Y<|sd 10 Y Y<|sr 11 Y (.ptr (r' := 1) _ _ _ Y)<|sr 81 Y (.own (r' := 0) _ Y)<|sr 82 Y (X2<|rlc (.dat Y)<|rlc (.dat Y)<|rlc (.dat Y)<|rlc (Zm9 Y Y Y D65) rln) sn) (.cons Y (roM D58)<|.cons Y (ro1 (by exact tZ_58.symm)<|rlc (.dat Y)<|rlc (.dat Y)<|rlc (.dat Y)<|rlc (Zm9 Y Y Y D65) rln)<|.row 65 .nil) Y Y)<|R_q (.sl 58<|List.map R58 ([(api_Cell.mk number (out4.length : Int) f Places)] : List api_Cell)) Y (Zeu ZbZ (.cons (cva<|ov Y) Y (pwD Y) .nil) Y Y)<|bE h fun l2 h_l2 h=>Rx Y (Za8 (ov Y) (X8 (ov Y) tZ_58) ZbZ Y Y Y (fun _=>Zc Y) Y h_l2)<|Ra Y<|Za<|K6 1 2 5 6 7 10 Y<|Zt<|Rm Y<|R2 ZT Y<|Ra Y<|Za<|⟨_, h, ES [some 0]⟩
     ·
      refine Zz<|?_
      replace h := lx h ▸ ho3
      exact ⟨_, h, ES [some 0]⟩
   ·
    exact Zt<|Rm Y<|Rq Y (Zf (ov Y) Zgm)<|Rq Y (Zb (ov Y) tS3 Y)<|R2 ZT Y<|Ra Y<|Za<|⟨_, h, ES [some 0]⟩
  ·
   refine Zz<|?_
   replace h := lx h ▸ ho1
   exact ⟨_, h, ES [some 0]⟩
 ·
  refine Tr<|Rm Y<|Ra Y<|Za<|?_
  obtain rfl := rt h
  exact Zi (Zn Y (.one<|.tmp Y<|View.ownM Y Y D58))
theorem Zfh {t : List ((Vector Int 3) × Bool)} {l : List api_Place} {r : Bool × (List ((Vector Int 3) × Bool))} (h : Ju t l = some r) :
 GSpec Tryd.prog gl0 79 [.mref 0 1, .sl 65 (List.map R65 l)] [some ⟨94, [[.mcon (List.map (QS Q7 FV4) t)]]⟩] (.bool r.1) [some ⟨94, [[.mcon (List.map (QS Q7 FV4) r.2)]]⟩] := by
 unfold Ju at h
 replace h := Z0 h
 refine ZfJ (by kernel_rfl) Tryd.func79 Y Y<|?_
 intro w0 A W φ0
 refine Tr<|Ra Y<|Za<|K2 0 1 Y<|Tr<|Ra Y<|Za<|I2 (fun o ok=>⟨[(5, .bool ok)], [some ⟨94, [[.mcon (List.map (QS Q7 FV4) o)]]⟩]⟩) h (fun h=>?_) fun o ok h=>?_
 ·
  refine Tr<|Rm Y<|Rl tZ_65 Zf1 Y<|Rm Y<|Za<|Zd<|?_
  obtain ⟨r1, hl1, ho1⟩ := Qt h
  refine L3 (fun o2 ok2 i=>⟨[(0, .mref 0 1), (5, .bool ok2), (10, .sl 65 (List.map R65 l)), (11, .int .i64 (l.length : Int)), (12, .int .i64 i)], [some ⟨94, [[.mcon (List.map (QS Q7 FV4) o2)]]⟩]⟩) hl1 (ES [some 0] (hhp := .cons Y (QK (fk := Q7) (fv := FV4) (m := t) tZ_94 (fun _=>X2<|rld<|arD fun _ => Y) fun _=>.ren<|.dat Y) .nil)) fun n1 o2 ok2 i h=>?_
  unfold QX at h
  refine Tr<|R2 ZH Y<|Za<|Zh<|If h Y (fun h=>?_) fun h=>?_
  ·
   refine Ze<|I2 (fun o3 ok3=>⟨[(0, .mref 0 1), (5, .bool ok3), (10, .sl 65 (List.map R65 l)), (11, .int .i64 (l.length : Int)), (12, .int .i64 i)], [some ⟨94, [[.mcon (List.map (QS Q7 FV4) o3)]]⟩]⟩) h (fun h=>?_) fun o3 ok3 h=>?_
   ·
    refine Zd<|K5 0 5 10 11 12 Y<|Tr<|bE h fun x h_x h=>Rq Y (ZE (ov Y) (ov Y) Zf1 h_x)<|Rq Y (Zk (ov Y) ZgE Y Y)<|Rx Y (Zq (row := [_, _, _, _]) 1 Y Zjz Y tZ_65)<|Rx Y (Zj (ov Y) (ov Y) (Zg ZgE Y) Y Y Y (Nat.le_of_ble_eq_true Y) (Zc Y) Y)<|Za<|K6 0 5 7 10 11 12 Y<|Tr<|Rq Y (Zp (ov Y) Y Y Zgp)<|Rq Y (Zm (ov Y) Y Y Y tS3 Y)<|Ra Y<|Za<|Zd<|?_
    obtain ⟨r2, hl2, ho2⟩ := Qt h
    refine L3 (fun o4 ok4 b=>⟨[(0, .mref 0 1), (5, .bool ok4), (7, .ptr 1 1 0 0), (8, .int .i64 b), (10, .sl 65 (List.map R65 l)), (11, .int .i64 (l.length : Int)), (12, .int .i64 i)], [some ⟨94, [[.mcon (List.map (QS Q7 FV4) o4)]]⟩, some ⟨65, [[.int .i64 x.Frame, .int .i64 x.Word, .int .i64 x.Low, .int .i64 x.Bits]]⟩]⟩) hl2 (ES [some 0, some 1] (hhp := .cons Y (QK (fk := Q7) (fv := FV4) (m := o2) tZ_94 (fun _=>X2<|rld<|arD fun _ => Y) fun _=>.ren<|.dat Y)<|.cons Y (ro1 (by exact tZ_65.symm)<|rld Y) .nil)) fun n2 o4 ok4 b h=>?_
    unfold QY at h
    refine Zh<|Tr<|Rm Y<|Rq Y (Zp (ov Y) Y Y Zgp)<|Rq Y (Zm (ov Y) Y Y Y tS3 Y)<|Rq Y (Zp (ov Y) Y Y Zea)<|Rq Y (Zm (ov Y) Y Y Y tS3 Y)<|R2 ZT Y<|R2 ZH Y<|Za<|K8 0 5 7 8 10 11 12 24 Y<|If h Y (fun h=>?_) fun h=>?_
    ·
     exact Ze<|Zh<|Zd<|K7 0 5 7 8 10 11 12 Y<|Tr<|Rq Y (Zp (ov Y) Y Y ZhA)<|Rq Y (Zm (ov Y) Y Y Y tS3 Y)<|Rq Y (Zp (ov Y) Y Y Zhb)<|Rq Y (Zm (ov Y) Y Y Y tS3 Y)<|Rm Y<|R_q (.agg<|List.map C3 (#v[x.Frame, x.Word, b] : Vector Int 3).toList) Y (Zbg (ys := [_, _, _]) Zo4 ZnP (.cons (cvs (ov Y)<|Zs Y)<|.cons (cvs (ov Y)<|Zs Y)<|.cons (cvs (ov Y)<|Zs Y) .nil) Y)<|Rx Y (Zq (row := (List.map C3 (Vector.replicate 3 0).toList)) 2 Y ZnP Y tZ_115)<|Rx Y (Zj (ov Y) (ov Y) (Zg Zmt arL) Y Y Y (QF (Zo arL) arL) (Zc<|arC fun _ => Y)<|Qo<|Eq.trans arL<|Eq.symm arL)<|Za<|K8 0 5 7 8 9 10 11 12 Y<|Tr<|Rm Y<|Rm Y<|Rq Y (.guarded (ok4 == true) Y Y Y Y fun h => Zr<|ov Y)<|Rq Y (.guarded (ok4 == true) Y Y Y Y fun h => ZC (ov Y) Y Y Y Zmt (ZY<|Zo arL) arL (hns := (nsM fun _ => Y)))<|bE h fun o5 h_o5 h=>Rq Y (.guarded (ok4 == true) Y Y Y Y fun h => ZhF (m := o4) (fk := Q7) (fv := FV4) (k := (#v[x.Frame, x.Word, b] : Vector Int 3)) (z0 := false) (ow Y h) (ow Y h) ZkZ ZmF Y (fun _=>.aggB<|arD fun _ => Y) (Za6 Zpx Y) (fun _ _=>Y)<|gdT h_o5 h)<|Rq Y (.guarded (ok4 == true) Y Y Y Y fun h => X1<|ow Y h)<|Rq Y (JW (ov Y) fun hp=>ow Y<|gT hp)<|Ra Y<|Za<|K8 0 5 7 8 9 10 11 12 Y<|Zt<|Rm Y<|Rq Y (ZC (ov Y) Y Y Y Zmt (ZY<|Zo arL) arL (hns := (nsM fun _ => Y)))<|Rx Y (ZhV (m := o4) (fk := Q7) (fv := FV4) (k := (#v[x.Frame, x.Word, b] : Vector Int 3)) (v := true) (ov Y) (ov Y) (ov Y) ZkZ ZmF Y fun _=>.aggB<|arD fun _ => Y)<|Za<|K7 0 5 7 8 10 11 12 Y<|Zt<|Rm Y<|R2 ZT Y<|Ra Y<|Za<|⟨_, h, ES [some 0, some 1] (hhp := .cons Y (QK (fk := Q7) (fv := FV4) (m := (ZeO kqV o4 (#v[x.Frame, x.Word, b] : Vector Int 3) true)) tZ_94 (fun _=>X2<|rld<|arD fun _ => Y) fun _=>.ren<|.dat Y)<|.cons Y (ro1 (by exact tZ_65.symm)<|rld Y) .nil)⟩
    ·
     refine Zz<|?_
     replace h := lx h ▸ ho2
     exact ⟨_, h, ES [some 0] (hhp := .cons Y (QK (fk := Q7) (fv := FV4) (m := o4) tZ_94 (fun _=>X2<|rld<|arD fun _ => Y) fun _=>.ren<|.dat Y) .nil)⟩
   ·
    exact Zt<|R2 ZT Y<|Rm Y<|Za<|⟨_, h, ES [some 0] (hhp := .cons Y (QK (fk := Q7) (fv := FV4) (m := o3) tZ_94 (fun _=>X2<|rld<|arD fun _ => Y) fun _=>.ren<|.dat Y) .nil)⟩
  ·
   refine Zz<|?_
   replace h := lx h ▸ ho1
   exact ⟨_, h, ES [some 0] (hhp := .cons Y (QK (fk := Q7) (fv := FV4) (m := o2) tZ_94 (fun _=>X2<|rld<|arD fun _ => Y) fun _=>.ren<|.dat Y) .nil)⟩
 ·
  refine Tr<|Rm Y<|Ra Y<|Za<|?_
  obtain rfl := rt h
  exact Zi<|ZmV [some 0] Y (.cons (.tmp Y) .nil) (.cons Y (QK (fk := Q7) (fv := FV4) (m := o) tZ_94 (fun _=>X2<|rld<|arD fun _ => Y) fun _=>.ren<|.dat Y) .nil) Y Y<|.dat Y
end Go.Proofs.YtpfdelgflppgnabDoor
