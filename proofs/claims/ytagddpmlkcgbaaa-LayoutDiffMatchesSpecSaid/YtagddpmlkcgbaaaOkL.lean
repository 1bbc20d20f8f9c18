/- A text of the proof: a verified executor of the program form, or the contracts of the functions that the law reaches. -/
import Derived.Test.YtagddpmlkcgbaaaOkLb
set_option linter.all false
namespace Go.Proofs.Ytagddpmlkcgbaaa
open Go Go.Vx
set_option maxRecDepth 10000
set_option maxHeartbeats 1000000
set_option linter.unusedVariables false
theorem ZcX {raw : Int} {c0 : Int} {r : Int × Bool} (h : J8 raw c0 = some r) :
 CSpec Try.prog gl0 63 [.int .i64 raw, .rp [.int .i64 c0] 0] (.tuple [.int .i64 r.1, .bool r.2]) := by
 unfold J8 at h
 replace h := Qh h
 refine So Try.func63 Y fun w0 A=>Tr<|Ra Y<|Ra Y<|Za<|Zh<|K2 0 1 Y<|Tr<|Rm Y<|Rq Y (Zb (ov Y) tS3 Y)<|R2 Zb9 Y<|Za<|K3 0 1 7 Y<|If h Y (fun h=>?_) fun h=>?_
 ·
  refine K2 0 1 Y<|Td md0<|Dq 0 Y (Zb (ov Y) tS3 Y)<|D1 1 Zm Y<|D2 2 Zdf Y<|D1 3 Zm Y<|Dq 4 Y (Zb (ov Y) tS3 Y)<|D2 5 Ji Y<|D1 6 Jg Y<|D1 7 Jg Y<|Dd<|?_
  obtain rfl := rt h
  exact Zk (Zq Y (.two (rb Y)<|rb Y))
 ·
  refine Zd<|K1 0 Y<|Tr<|Rm Y<|Ra Y<|Ra Y<|Za<|?_
  obtain rfl := rt h
  exact Zk (Zq Y (.two (rb Y)<|rb Y))
theorem ZdL {c0 : Int} {r : layout_number} (h : Q6 c0 = some r) :
 CSpec Try.prog gl0 61 [.rp [.int .i64 c0] 0] (.agg [.int .i64 r.low, .int .i64 r.high, .fn r.encode.f r.encode.c, .fn r.decode.f r.decode.c]) := by
 unfold Q6 at h
 replace h := Qh h
 refine So Try.func61 Y fun w0 A=>Tr<|Rx Y (Zr (row := [_, _, _, _]) 0 Y Zfz Y tZ_81)<|Za<|Tr<|Rq Y (Zb (ov Y) tS3 Y)<|R2 Zdf Y<|Rq Y (Zb (ov Y) tS3 Y)<|R2 Zdf Y<|Rq Y (Qt<|.cons (ov Y) .nil)<|Rq Y (Qt<|.cons (ov Y) .nil)<|Rq Y (Q3 (ys := [_, _, _, _]) ZiF Ziu Zfz (.cons (cvs (ov Y)<|Zn Y)<|.cons (cvs (ov Y)<|Zn Y)<|.cons (cvs (ov Y)<|Zn Y)<|.cons (cvs (ov Y)<|Zn Y) .nil) Y)<|Rx Y (Zo (ov Y) (ov Y) (Zl Zbi Y) Y Y Y (Nat.le_of_ble_eq_true Y) (Zf Y) Y)<|Za<|?_
 obtain rfl := rt h
 exact Zk (Zq Y (.one<|.agg Y Y Y Y Zbi Y Y<|.cons (Dat.view<|.b Y)<|.cons (Dat.view<|.b Y)<|.cons (Dat.view<|.fnC<|.cons (.b Y) .nil)<|.cons (Dat.view<|.fnC<|.cons (.b Y) .nil) .nil))
theorem Xp {c0 : Int} {r : layout_number} (h : Q6 c0 = some r) : ZbL r.encode ∧ ZbJ r.decode := by
  have key : Zdp (fun r => ZbL r.encode ∧ ZbJ r.decode) (Q6 c0) := by
    unfold Q6
    repeat' (first | exact ZbN | with_reducible refine Zdz ?_ ?_ | with_reducible refine Zcd fun _ _ => ?_ | with_reducible refine ZfJ ?_)
    all_goals first | exact JR ⟨⟨rfl, fun z0 _ hz => ZcW hz⟩, ⟨rfl, fun z0 _ hz => ZcX hz⟩⟩
  exact key r h
theorem ZcT {v : Int} {r : Int} (h : JW v = some r) :
 CSpec Try.prog gl0 65 [.int .i64 v] (.int .i64 r) := by
 unfold JW at h
 replace h := Qh h
 refine So Try.func65 Y fun w0 A=>Tr<|Ra Y<|Za<|K1 0 Y<|Tr<|Ra Y<|Za<|I1 (fun raw=>⟨[(3, .int .i64 raw)], []⟩) h (fun h=>?_) fun raw h=>?_
 ·
  refine Tr<|Ra Y<|Za<|Ze<|?_
  obtain ⟨r1, hl1, ho1⟩ := Qu h
  refine L3 (fun v2 raw2 shift=>⟨[(0, .int .i64 v2), (3, .int .i64 raw2), (4, .int .i64 shift)], []⟩) hl1 (ES []) fun n1 v2 raw2 shift h=>?_
  unfold ZaH at h
  refine Zh<|Tr<|Rm Y<|R2 Ji Y<|Za<|K4 0 3 4 6 Y<|If h Y (fun h=>?_) fun h=>?_
  ·
   exact Zd<|Zh<|Ze<|K3 0 3 4 Y<|Tr<|Rm Y<|Rm Y<|bE h fun q h_q h=>Rq Y (Zia (ov Y) (ov Y) h_q)<|Rm Y<|bE h fun q2 h_q2 h=>Rq Y (ZdD (ov Y) (ov Y) h_q2)<|R2 Zj0 Y<|Ra Y<|Za<|K3 0 3 4 Y<|Zs<|Rm Y<|bE h fun q3 h_q3 h=>Rq Y (ZjT (ov Y) (ov Y) h_q3)<|Ra Y<|Za<|K3 0 3 4 Y<|Zs<|Rm Y<|R2 ZX Y<|Ra Y<|Za<|⟨_, h, ES []⟩
  ·
   refine Zz<|?_
   replace h := lx h ▸ ho1
   exact ⟨_, h, ES []⟩
 ·
  refine Tr<|Rm Y<|Ra Y<|Za<|?_
  obtain rfl := rt h
  exact Zk (Zq Y (.one<|rb Y))
theorem ZeF {raw : Int} {r : Int × Bool} (h : Zb0 raw = some r) :
 CSpec Try.prog gl0 66 [.int .i64 raw] (.tuple [.int .i64 r.1, .bool r.2]) := by
 unfold Zb0 at h
 replace h := Qh h
 refine So Try.func66 Y fun w0 A=>Tr<|Ra Y<|Ra Y<|Za<|K1 0 Y<|Tr<|Ra Y<|Ra Y<|Za<|I2 (fun v ok=>⟨[(4, .int .i64 v), (5, .bool ok)], []⟩) h (fun h=>?_) fun v ok h=>?_
 ·
  refine Tr<|Ra Y<|Za<|Ze<|?_
  obtain ⟨r1, hl1, ho1⟩ := Qu h
  refine L3 (fun v2 ok2 shift=>⟨[(0, .int .i64 raw), (4, .int .i64 v2), (5, .bool ok2), (6, .int .i64 shift)], []⟩) hl1 (ES []) fun n1 v2 ok2 shift h=>?_
  unfold Zch at h
  refine Zh<|Tr<|Rm Y<|R2 Zb9 Y<|Za<|K5 0 4 5 6 9 Y<|If h Y (fun h=>?_) fun h=>?_
  ·
   exact Zd<|Zh<|Ze<|K4 0 4 5 6 Y<|Tr<|Rm Y<|Rm Y<|bE h fun q h_q h=>Rq Y (Zin (ov Y) (ov Y) h_q)<|R2 Zg0 Y<|Ra Y<|Za<|K5 0 4 5 6 7 Y<|Zs<|Rm Y<|R2 ZhN Y<|Rm Y<|R2 ZX Y<|Rm Y<|Rm Y<|Rq Y (.guarded (ok2 == true) Y Y Y Y fun h => Zm<|ov Y)<|Rq Y (.guarded (ok2 == true) Y Y Y Y fun h => ZH (ow Y h)<|ov Y)<|Rq Y (XF (ov Y) fun hp=>ow Y<|gT hp)<|Ra Y<|Ra Y<|Za<|K4 0 4 5 6 Y<|Zs<|Rm Y<|R2 Zdf Y<|Ra Y<|Za<|⟨_, h, ES []⟩
  ·
   refine Zz<|?_
   replace h := lx h ▸ ho1
   exact ⟨_, h, ES []⟩
 ·
  refine Tr<|Rm Y<|Rm Y<|Ra Y<|Ra Y<|Za<|?_
  obtain rfl := rt h
  exact Zk (Zq Y (.two (rb Y)<|rb Y))
theorem ZdE {c0 : Int} {r : layout_number} (h : Q2 c0 = some r) :
 CSpec Try.prog gl0 64 [.rp [.int .i64 c0] 0] (.agg [.int .i64 r.low, .int .i64 r.high, .fn r.encode.f r.encode.c, .fn r.decode.f r.decode.c]) := by
 unfold Q2 at h
 replace h := Qh h
 refine So Try.func64 Y fun w0 A=>Tr<|Rx Y (Zr (row := [_, _, _, _]) 0 Y Zfz Y tZ_81)<|Za<|Tr<|Ra Y<|Za<|I1 (fun high=>⟨[(1, .ptr 0 1 0 0), (2, .int .i64 high)], [some ⟨81, [[.int .i64 0, .int .i64 0, .lit .nilFunc, .lit .nilFunc]]⟩]⟩) h (fun h=>?_) fun high h=>?_
 ·
  refine Tr<|Rq Y (Zb (ov Y) tS3 Y)<|bE h fun q h_q h=>Rq Y (ZjT (ov Y) (ov Y) h_q)<|Rm Y<|Za<|Ze<|?_
  obtain ⟨r1, hl1, ho1⟩ := Qu h
  refine L2 (fun high2 i=>⟨[(1, .ptr 0 1 0 0), (2, .int .i64 high2), (4, .int .i64 q), (5, .int .i64 i)], [some ⟨81, [[.int .i64 0, .int .i64 0, .lit .nilFunc, .lit .nilFunc]]⟩]⟩) hl1 (ES [some 0]) fun n1 high2 i h=>?_
  unfold Zbw at h
  refine Tr<|R2 ZH Y<|Za<|Zh<|If h Y (fun h=>?_) fun h=>?_
  ·
   exact Zd<|Zh<|Ze<|K4 1 2 4 5 Y<|Zs<|Rm Y<|R2 ZhN Y<|Ra Y<|Za<|K4 1 2 4 5 Y<|Zs<|R2 ZX Y<|Rm Y<|Za<|⟨_, h, ES [some 0]⟩
  ·
   refine Zz<|?_
   replace h := lx h ▸ ho1
   exact ⟨_, h, ES [some 0]⟩
 ·
  refine Tr<|Rm Y<|R2 Zdf Y<|Rq Y (Q3 (ys := [_, _, _, _]) ZiF Ziu Zfz (.cons (cvs (ov Y)<|Zn Y)<|.cons (cvs (ov Y)<|Zn Y)<|.cons (cvs (ov Y)<|Zn Y)<|.cons (cvs (ov Y)<|Zn Y) .nil) Y)<|Rx Y (Zo (ov Y) (ov Y) (Zl Zbi Y) Y Y Y (Nat.le_of_ble_eq_true Y) (Zf Y) Y)<|Za<|?_
  obtain rfl := rt h
  exact Zk (Zq Y (.one<|.agg Y Y Y Y Zbi Y Y<|.cons (Dat.view<|.b Y)<|.cons (Dat.view<|.b Y)<|.cons (Dat.view .fn)<|.cons (Dat.view .fn) .nil))
theorem Xt {c0 : Int} {r : layout_number} (h : Q2 c0 = some r) : ZbL r.encode ∧ ZbJ r.decode := by
  have key : Zdp (fun r => ZbL r.encode ∧ ZbJ r.decode) (Q2 c0) := by
    unfold Q2
    repeat' (first | exact ZbN | with_reducible refine Zdz ?_ ?_ | with_reducible refine Zcd fun _ _ => ?_ | with_reducible refine ZfJ ?_)
    all_goals first | exact JR ⟨⟨rfl, fun z0 _ hz => ZcT hz⟩, ⟨rfl, fun z0 _ hz => ZeF hz⟩⟩
  exact key r h
theorem Zcb {p : api_Param} {r : layout_number} (h : Qs p = some r) :
 CSpec Try.prog gl0 34 [.agg [.str p.Name, .int .i64 p.Kind, .sl 49 (List.map R49 p.Parts), .int .i64 p.First, .int .i64 p.Every, .int .i64 p.Times, .int .i64 p.Step, .sl 9 (List.map R9 p.Names)]] (.agg [.int .i64 r.low, .int .i64 r.high, .fn r.encode.f r.encode.c, .fn r.decode.f r.decode.c]) := by
 unfold Qs at h
 replace h := Qh h
 refine So Try.func34 Y fun w0 A=>Tr<|Rq Y (Z3 (cva<|ov Y) Y tZ_36 Y)<|Rx Y (Zr (row := [_, _, _, _]) 0 Y Zfz Y tZ_81)<|Za<|K2 1 2 Y<|Tr<|Rq Y (Zg (ov Y) Qi Y Y)<|bE h fun y h_y h=>Rq Y (Zp (Xf h_y)<|.cons (ov Y) (.aggB Y) .nil)<|Rx Y (Zr (row := [_]) 1 Y tZ3 Y tZ_3)<|Rx Y (Zo (ov Y) (ov Y) (QR tS3) Y Y Y (Nat.le_of_ble_eq_true Y) (Zf Y) Y)<|Za<|K3 1 2 3 Y<|Tr<|Rq Y (Zj (ov Y) Y Y Y tS3 Y)<|R2 Zdf Y<|bE h fun q h_q h=>Rq Y (ZdD (ov Y) (ov Y) h_q)<|Rx Y (Zr (row := [_]) 2 Y tZ3 Y tZ_3)<|Rx Y (Zo (ov Y) (ov Y) (QR tS3) Y Y Y (Nat.le_of_ble_eq_true Y) (Zf Y) Y)<|Za<|K4 1 2 3 4 Y<|Tr<|Rx Y (Zr (row := [_]) 3 Y Zmb Y tZ_78)<|Rx Y (Zo (ov Y) (ov Y) (QR Zlf) Y Y Y (Nat.le_of_ble_eq_true Y) (Zf Y) Y)<|Za<|Tr<|Zec (Ent.sel [some 0, some 1, some 2, none] (sd 1 Y Y<|sr 2 Y (.ptr (r' := 0) _ _ _ Y)<|sr 3 Y (.ptr (r' := 1) _ _ _ Y)<|sr 4 Y (.ptr (r' := 2) _ _ _ Y)<|sr 5 Y (.frp ⟨Y, ⟨_, Y⟩, Y, Y⟩) sn) (.cons Y (ro1 (by exact tZ_81.symm)<|rld Y)<|.cons Y (ro1 (by exact tZ_3.symm)<|rld Y)<|.cons Y (ro1 (by exact tZ_3.symm)<|rld Y)<|.row 78 .nil) Y Y)<|Rq Y (Qt<|.cons (ov Y) .nil)<|Rx Y (Zr (row := [_]) 4 Y Zmk Y tZ_99)<|Rx Y (Zo (ov Y) (ov Y) (QR ZkJ) Y Y Y (Nat.le_of_ble_eq_true Y) (Zf Y) Y)<|Za<|K5 1 2 3 4 6 Y<|Tr<|Rx Y (ZcG 5 Y Zbf)<|Zec (Ent.sel [some 0, some 1, some 2, some 3, none, some 5] (sd 1 Y Y<|sr 2 Y (.ptr (r' := 0) _ _ _ Y)<|sr 3 Y (.ptr (r' := 1) _ _ _ Y)<|sr 4 Y (.ptr (r' := 2) _ _ _ Y)<|sr 6 Y (.frp ⟨Y, ⟨_, Y⟩, Y, Y⟩)<|sr 14 Y (.mref (r' := 5) _ Y) sn) (.cons Y (ro1 (by exact tZ_81.symm)<|rld Y)<|.cons Y (ro1 (by exact tZ_3.symm)<|rld Y)<|.cons Y (ro1 (by exact tZ_3.symm)<|rld Y)<|.cons Y roE<|.row 99<|.cons Y (Zh7 (fk := FK3) (m := ([] : List (Int × AV))) tZ_101 (fun _=>.dat Y) Y) .nil) Y Y)<|Zec (Ent.sel [some 0, some 1, none, some 3, some 4, some 5] (sd 1 Y Y<|sr 2 Y (.ptr (r' := 0) _ _ _ Y)<|sr 3 Y (.ptr (r' := 1) _ _ _ Y)<|sr 4 Y (.frp ⟨Y, ⟨_, Y⟩, Y, Y⟩)<|sd 6 Y Y<|sr 14 Y (.mref (r' := 5) _ Y) sn) (.cons Y (ro1 (by exact tZ_81.symm)<|rld Y)<|.cons Y (ro1 (by exact tZ_3.symm)<|rld Y)<|.row 3<|.cons Y roE<|.cons Y roE<|.cons Y (Zh7 (fk := FK3) (m := ([] : List (Int × AV))) tZ_101 (fun _=>.dat Y) Y) .nil) Y Y)<|Rq Y (Qt<|.cons (ov Y)<|.cons (ov Y) .nil)<|Rx Y (ZcP (m := ([] : List (Int × AV))) (fk := FK3) (fv := id) (k := 1) (v := .fn 55 [.rp [.fn 53 [.rp [.fn 52 []] 0]] 0, .rp [.int .i64 q] 0]) (m' := ([(1, .fn 55 [.rp [.fn 53 [.rp [.fn 52 []] 0]] 0, .rp [.int .i64 q] 0])] : List (Int × AV))) (ov Y) (ov Y) (ov Y) Zbf ZfO Y (fun _=>.b Y) Y)<|Rq Y (Qt<|.cons (ov Y) .nil)<|Rx Y (ZcP (m := ([(1, .fn 55 [.rp [.fn 53 [.rp [.fn 52 []] 0]] 0, .rp [.int .i64 q] 0])] : List (Int × AV))) (fk := FK3) (fv := id) (k := 5) (v := .fn 56 [.rp [.fn 53 [.rp [.fn 52 []] 0]] 0]) (m' := ([(1, .fn 55 [.rp [.fn 53 [.rp [.fn 52 []] 0]] 0, .rp [.int .i64 q] 0]), (5, .fn 56 [.rp [.fn 53 [.rp [.fn 52 []] 0]] 0])] : List (Int × AV))) (ov Y) (ov Y) (ov Y) Zbf ZfO Y (fun _=>.b Y) Y)<|Rq Y (Qt<|.cons (ov Y)<|.cons (ov Y) .nil)<|Rx Y (ZcP (m := ([(1, .fn 55 [.rp [.fn 53 [.rp [.fn 52 []] 0]] 0, .rp [.int .i64 q] 0]), (5, .fn 56 [.rp [.fn 53 [.rp [.fn 52 []] 0]] 0])] : List (Int × AV))) (fk := FK3) (fv := id) (k := 6) (v := .fn 57 [.rp [.fn 53 [.rp [.fn 52 []] 0]] 0, .rp [.str p.Name, .int .i64 p.Kind, .sl 49 (List.map R49 p.Parts), .int .i64 p.First, .int .i64 p.Every, .int .i64 p.Times, .int .i64 p.Step, .sl 9 (List.map R9 p.Names)] 0]) (m' := ([(1, .fn 55 [.rp [.fn 53 [.rp [.fn 52 []] 0]] 0, .rp [.int .i64 q] 0]), (5, .fn 56 [.rp [.fn 53 [.rp [.fn 52 []] 0]] 0]), (6, .fn 57 [.rp [.fn 53 [.rp [.fn 52 []] 0]] 0, .rp [.str p.Name, .int .i64 p.Kind, .sl 49 (List.map R49 p.Parts), .int .i64 p.First, .int .i64 p.Every, .int .i64 p.Times, .int .i64 p.Step, .sl 9 (List.map R9 p.Names)] 0])] : List (Int × AV))) (ov Y) (ov Y) (ov Y) Zbf ZfO Y (fun _=>.b Y) Y)<|Rq Y (Qt<|.cons (ov Y) .nil)<|Rx Y (ZcP (m := ([(1, .fn 55 [.rp [.fn 53 [.rp [.fn 52 []] 0]] 0, .rp [.int .i64 q] 0]), (5, .fn 56 [.rp [.fn 53 [.rp [.fn 52 []] 0]] 0]), (6, .fn 57 [.rp [.fn 53 [.rp [.fn 52 []] 0]] 0, .rp [.str p.Name, .int .i64 p.Kind, .sl 49 (List.map R49 p.Parts), .int .i64 p.First, .int .i64 p.Every, .int .i64 p.Times, .int .i64 p.Step, .sl 9 (List.map R9 p.Names)] 0])] : List (Int × AV))) (fk := FK3) (fv := id) (k := 2) (v := .fn 58 [.rp [.int .i64 q] 0]) (m' := ([(1, .fn 55 [.rp [.fn 53 [.rp [.fn 52 []] 0]] 0, .rp [.int .i64 q] 0]), (5, .fn 56 [.rp [.fn 53 [.rp [.fn 52 []] 0]] 0]), (6, .fn 57 [.rp [.fn 53 [.rp [.fn 52 []] 0]] 0, .rp [.str p.Name, .int .i64 p.Kind, .sl 49 (List.map R49 p.Parts), .int .i64 p.First, .int .i64 p.Every, .int .i64 p.Times, .int .i64 p.Step, .sl 9 (List.map R9 p.Names)] 0]), (2, .fn 58 [.rp [.int .i64 q] 0])] : List (Int × AV))) (ov Y) (ov Y) (ov Y) Zbf ZfO Y (fun _=>.b Y) Y)<|Rq Y (Qt<|.cons (ov Y) .nil)<|Rx Y (ZcP (m := ([(1, .fn 55 [.rp [.fn 53 [.rp [.fn 52 []] 0]] 0, .rp [.int .i64 q] 0]), (5, .fn 56 [.rp [.fn 53 [.rp [.fn 52 []] 0]] 0]), (6, .fn 57 [.rp [.fn 53 [.rp [.fn 52 []] 0]] 0, .rp [.str p.Name, .int .i64 p.Kind, .sl 49 (List.map R49 p.Parts), .int .i64 p.First, .int .i64 p.Every, .int .i64 p.Times, .int .i64 p.Step, .sl 9 (List.map R9 p.Names)] 0]), (2, .fn 58 [.rp [.int .i64 q] 0])] : List (Int × AV))) (fk := FK3) (fv := id) (k := 3) (v := .fn 61 [.rp [.int .i64 q] 0]) (m' := ([(1, .fn 55 [.rp [.fn 53 [.rp [.fn 52 []] 0]] 0, .rp [.int .i64 q] 0]), (5, .fn 56 [.rp [.fn 53 [.rp [.fn 52 []] 0]] 0]), (6, .fn 57 [.rp [.fn 53 [.rp [.fn 52 []] 0]] 0, .rp [.str p.Name, .int .i64 p.Kind, .sl 49 (List.map R49 p.Parts), .int .i64 p.First, .int .i64 p.Every, .int .i64 p.Times, .int .i64 p.Step, .sl 9 (List.map R9 p.Names)] 0]), (2, .fn 58 [.rp [.int .i64 q] 0]), (3, .fn 61 [.rp [.int .i64 q] 0])] : List (Int × AV))) (ov Y) (ov Y) (ov Y) Zbf ZfO Y (fun _=>.b Y) Y)<|Zec (Ent.sel [some 0, none, some 2, some 3, some 4, some 5] (sd 1 Y Y<|sr 2 Y (.ptr (r' := 0) _ _ _ Y)<|sr 3 Y (.frp ⟨Y, ⟨_, Y⟩, Y, Y⟩)<|sd 4 Y Y<|sd 6 Y Y<|sr 14 Y (.mref (r' := 5) _ Y)<|sr 15 Y (rFn<|rlc (.dat Y)<|rlc (.dat Y) rln)<|sr 16 Y (rFn<|rlc (.dat Y) rln)<|sr 17 Y (rFn<|rlc (.dat Y)<|rlc (.dat Y) rln)<|sr 18 Y (rFn<|rlc (.dat Y) rln)<|sr 19 Y (rFn<|rlc (.dat Y) rln) sn) (.cons Y (ro1 (by exact tZ_81.symm)<|rld Y)<|.row 3<|.cons Y roE<|.cons Y roE<|.cons Y roE<|.cons Y (Zh7 (fk := FK3) (m := ([(1, .fn 55 [.rp [.fn 53 [.rp [.fn 52 []] 0]] 0, .rp [.int .i64 q] 0]), (5, .fn 56 [.rp [.fn 53 [.rp [.fn 52 []] 0]] 0]), (6, .fn 57 [.rp [.fn 53 [.rp [.fn 52 []] 0]] 0, .rp [.str p.Name, .int .i64 p.Kind, .sl 49 (List.map R49 p.Parts), .int .i64 p.First, .int .i64 p.Every, .int .i64 p.Times, .int .i64 p.Step, .sl 9 (List.map R9 p.Names)] 0]), (2, .fn 58 [.rp [.int .i64 q] 0]), (3, .fn 61 [.rp [.int .i64 q] 0])] : List (Int × AV))) tZ_101 (fun _=>.dat Y) Y) .nil) Y Y)<|Rq Y (Qt<|.cons (ov Y) .nil)<|Rx Y (ZcP (m := ([(1, .fn 55 [.rp [.fn 53 [.rp [.fn 52 []] 0]] 0, .rp [.int .i64 q] 0]), (5, .fn 56 [.rp [.fn 53 [.rp [.fn 52 []] 0]] 0]), (6, .fn 57 [.rp [.fn 53 [.rp [.fn 52 []] 0]] 0, .rp [.str p.Name, .int .i64 p.Kind, .sl 49 (List.map R49 p.Parts), .int .i64 p.First, .int .i64 p.Every, .int .i64 p.Times, .int .i64 p.Step, .sl 9 (List.map R9 p.Names)] 0]), (2, .fn 58 [.rp [.int .i64 q] 0]), (3, .fn 61 [.rp [.int .i64 q] 0])] : List (Int × AV))) (fk := FK3) (fv := id) (k := 4) (v := .fn 64 [.rp [.int .i64 y] 0]) (m' := ([(1, .fn 55 [.rp [.fn 53 [.rp [.fn 52 []] 0]] 0, .rp [.int .i64 q] 0]), (5, .fn 56 [.rp [.fn 53 [.rp [.fn 52 []] 0]] 0]), (6, .fn 57 [.rp [.fn 53 [.rp [.fn 52 []] 0]] 0, .rp [.str p.Name, .int .i64 p.Kind, .sl 49 (List.map R49 p.Parts), .int .i64 p.First, .int .i64 p.Every, .int .i64 p.Times, .int .i64 p.Step, .sl 9 (List.map R9 p.Names)] 0]), (2, .fn 58 [.rp [.int .i64 q] 0]), (3, .fn 61 [.rp [.int .i64 q] 0]), (4, .fn 64 [.rp [.int .i64 y] 0])] : List (Int × AV))) (ov Y) (ov Y) (ov Y) Zbf ZfO Y (fun _=>.b Y) Y)<|Rm Y<|Ra Y<|Za<|K3 1 2 7 Y<|Tr<|Rm Y<|Rq Y (Zc (ov Y) Jc)<|Rq Y (Zb (ov Y) tS3 Y)<|?_
 rcases ifR h with ⟨hk3_0, h⟩ | ⟨hk3_0, h⟩
 ·
  refine Rq Y (Zgw (m := ([(1, .fn 55 [.rp [.fn 53 [.rp [.fn 52 []] 0]] 0, .rp [.int .i64 q] 0]), (5, .fn 56 [.rp [.fn 53 [.rp [.fn 52 []] 0]] 0]), (6, .fn 57 [.rp [.fn 53 [.rp [.fn 52 []] 0]] 0, .rp [.str p.Name, .int .i64 p.Kind, .sl 49 (List.map R49 p.Parts), .int .i64 p.First, .int .i64 p.Every, .int .i64 p.Times, .int .i64 p.Step, .sl 9 (List.map R9 p.Names)] 0]), (2, .fn 58 [.rp [.int .i64 q] 0]), (3, .fn 61 [.rp [.int .i64 q] 0]), (4, .fn 64 [.rp [.int .i64 y] 0])] : List (Int × AV))) (fk := FK3) (fv := id) (k := p.Kind) (z0 := .lit .nilFunc) (ov Y) (ov Y) Zbf ZfO Y (fun _=>.b Y) (ZaB Zfg Y) (nsD Y)<|lkS<|mgT hk3_0)<|bE h fun y2 h_y2 h=>Rq Y (Jw (ov Y) Y (ZdR h_y2) .nil)<|Rx Y (Zo (ov Y) (ov Y) (Zl Zbi Y) Y Y Y (Nat.le_of_ble_eq_true Y) (Zf Y) Y)<|Za<|?_
  obtain rfl := rt h
  exact Zk (Zq Y (.one<|.agg Y Y Y Y Zbi Y Y<|.cons (Dat.view<|.b Y)<|.cons (Dat.view<|.b Y)<|.cons (Dat.view<|Dat.fnC<|.refl fun x hx => .b<|List.all_eq_true.1 (((Xq h_y2).1)).1 x hx)<|.cons (Dat.view<|Dat.fnC<|.refl fun x hx => .b<|List.all_eq_true.1 (((Xq h_y2).2)).1 x hx) .nil))
 ·
  rcases ifR h with ⟨hk3_1, h⟩ | ⟨hk3_1, h⟩
  ·
   refine Rq Y (Zgw (m := ([(1, .fn 55 [.rp [.fn 53 [.rp [.fn 52 []] 0]] 0, .rp [.int .i64 q] 0]), (5, .fn 56 [.rp [.fn 53 [.rp [.fn 52 []] 0]] 0]), (6, .fn 57 [.rp [.fn 53 [.rp [.fn 52 []] 0]] 0, .rp [.str p.Name, .int .i64 p.Kind, .sl 49 (List.map R49 p.Parts), .int .i64 p.First, .int .i64 p.Every, .int .i64 p.Times, .int .i64 p.Step, .sl 9 (List.map R9 p.Names)] 0]), (2, .fn 58 [.rp [.int .i64 q] 0]), (3, .fn 61 [.rp [.int .i64 q] 0]), (4, .fn 64 [.rp [.int .i64 y] 0])] : List (Int × AV))) (fk := FK3) (fv := id) (k := p.Kind) (z0 := .lit .nilFunc) (ov Y) (ov Y) Zbf ZfO Y (fun _=>.b Y) (ZaB Zfg Y) (nsD Y)<|lkS<|mgF hk3_0<|mgT hk3_1)<|bE h fun y3 h_y3 h=>Rq Y (Jw (ov Y) Y (Zdk h_y3) .nil)<|Rx Y (Zo (ov Y) (ov Y) (Zl Zbi Y) Y Y Y (Nat.le_of_ble_eq_true Y) (Zf Y) Y)<|Za<|?_
   obtain rfl := rt h
   exact Zk (Zq Y (.one<|.agg Y Y Y Y Zbi Y Y<|.cons (Dat.view<|.b Y)<|.cons (Dat.view<|.b Y)<|.cons (Dat.view<|Dat.fnC<|.refl fun x hx => .b<|List.all_eq_true.1 (((Xo h_y3).1)).1 x hx)<|.cons (Dat.view<|Dat.fnC<|.refl fun x hx => .b<|List.all_eq_true.1 (((Xo h_y3).2)).1 x hx) .nil))
  ·
   rcases ifR h with ⟨hk3_2, h⟩ | ⟨hk3_2, h⟩
   ·
    refine Rq Y (Zgw (m := ([(1, .fn 55 [.rp [.fn 53 [.rp [.fn 52 []] 0]] 0, .rp [.int .i64 q] 0]), (5, .fn 56 [.rp [.fn 53 [.rp [.fn 52 []] 0]] 0]), (6, .fn 57 [.rp [.fn 53 [.rp [.fn 52 []] 0]] 0, .rp [.str p.Name, .int .i64 p.Kind, .sl 49 (List.map R49 p.Parts), .int .i64 p.First, .int .i64 p.Every, .int .i64 p.Times, .int .i64 p.Step, .sl 9 (List.map R9 p.Names)] 0]), (2, .fn 58 [.rp [.int .i64 q] 0]), (3, .fn 61 [.rp [.int .i64 q] 0]), (4, .fn 64 [.rp [.int .i64 y] 0])] : List (Int × AV))) (fk := FK3) (fv := id) (k := p.Kind) (z0 := .lit .nilFunc) (ov Y) (ov Y) Zbf ZfO Y (fun _=>.b Y) (ZaB Zfg Y) (nsD Y)<|lkS<|mgF hk3_0<|mgF hk3_1<|mgT hk3_2)<|bE h fun y4 h_y4 h=>Rq Y (Jw (ov Y) Y (Zdo h_y4) .nil)<|Rx Y (Zo (ov Y) (ov Y) (Zl Zbi Y) Y Y Y (Nat.le_of_ble_eq_true Y) (Zf Y) Y)<|Za<|?_
    obtain rfl := rt h
    exact Zk (Zq Y (.one<|.agg Y Y Y Y Zbi Y Y<|.cons (Dat.view<|.b Y)<|.cons (Dat.view<|.b Y)<|.cons (Dat.view<|Dat.fnC<|.refl fun x hx => .b<|List.all_eq_true.1 (((Xs h_y4).1)).1 x hx)<|.cons (Dat.view<|Dat.fnC<|.refl fun x hx => .b<|List.all_eq_true.1 (((Xs h_y4).2)).1 x hx) .nil))
   ·
    rcases ifR h with ⟨hk3_3, h⟩ | ⟨hk3_3, h⟩
    ·
     refine Rq Y (Zgw (m := ([(1, .fn 55 [.rp [.fn 53 [.rp [.fn 52 []] 0]] 0, .rp [.int .i64 q] 0]), (5, .fn 56 [.rp [.fn 53 [.rp [.fn 52 []] 0]] 0]), (6, .fn 57 [.rp [.fn 53 [.rp [.fn 52 []] 0]] 0, .rp [.str p.Name, .int .i64 p.Kind, .sl 49 (List.map R49 p.Parts), .int .i64 p.First, .int .i64 p.Every, .int .i64 p.Times, .int .i64 p.Step, .sl 9 (List.map R9 p.Names)] 0]), (2, .fn 58 [.rp [.int .i64 q] 0]), (3, .fn 61 [.rp [.int .i64 q] 0]), (4, .fn 64 [.rp [.int .i64 y] 0])] : List (Int × AV))) (fk := FK3) (fv := id) (k := p.Kind) (z0 := .lit .nilFunc) (ov Y) (ov Y) Zbf ZfO Y (fun _=>.b Y) (ZaB Zfg Y) (nsD Y)<|lkS<|mgF hk3_0<|mgF hk3_1<|mgF hk3_2<|mgT hk3_3)<|bE h fun y5 h_y5 h=>Rq Y (Jw (ov Y) Y (ZdQ h_y5) .nil)<|Rx Y (Zo (ov Y) (ov Y) (Zl Zbi Y) Y Y Y (Nat.le_of_ble_eq_true Y) (Zf Y) Y)<|Za<|?_
     obtain rfl := rt h
     exact Zk (Zq Y (.one<|.agg Y Y Y Y Zbi Y Y<|.cons (Dat.view<|.b Y)<|.cons (Dat.view<|.b Y)<|.cons (Dat.view<|Dat.fnC<|.refl fun x hx => .b<|List.all_eq_true.1 (((Xr h_y5).1)).1 x hx)<|.cons (Dat.view<|Dat.fnC<|.refl fun x hx => .b<|List.all_eq_true.1 (((Xr h_y5).2)).1 x hx) .nil))
    ·
     rcases ifR h with ⟨hk3_4, h⟩ | ⟨hk3_4, h⟩
     ·
      refine Rq Y (Zgw (m := ([(1, .fn 55 [.rp [.fn 53 [.rp [.fn 52 []] 0]] 0, .rp [.int .i64 q] 0]), (5, .fn 56 [.rp [.fn 53 [.rp [.fn 52 []] 0]] 0]), (6, .fn 57 [.rp [.fn 53 [.rp [.fn 52 []] 0]] 0, .rp [.str p.Name, .int .i64 p.Kind, .sl 49 (List.map R49 p.Parts), .int .i64 p.First, .int .i64 p.Every, .int .i64 p.Times, .int .i64 p.Step, .sl 9 (List.map R9 p.Names)] 0]), (2, .fn 58 [.rp [.int .i64 q] 0]), (3, .fn 61 [.rp [.int .i64 q] 0]), (4, .fn 64 [.rp [.int .i64 y] 0])] : List (Int × AV))) (fk := FK3) (fv := id) (k := p.Kind) (z0 := .lit .nilFunc) (ov Y) (ov Y) Zbf ZfO Y (fun _=>.b Y) (ZaB Zfg Y) (nsD Y)<|lkS<|mgF hk3_0<|mgF hk3_1<|mgF hk3_2<|mgF hk3_3<|mgT hk3_4)<|bE h fun y6 h_y6 h=>Rq Y (Jw (ov Y) Y (ZdL h_y6) .nil)<|Rx Y (Zo (ov Y) (ov Y) (Zl Zbi Y) Y Y Y (Nat.le_of_ble_eq_true Y) (Zf Y) Y)<|Za<|?_
      obtain rfl := rt h
      exact Zk (Zq Y (.one<|.agg Y Y Y Y Zbi Y Y<|.cons (Dat.view<|.b Y)<|.cons (Dat.view<|.b Y)<|.cons (Dat.view<|Dat.fnC<|.refl fun x hx => .b<|List.all_eq_true.1 (((Xp h_y6).1)).1 x hx)<|.cons (Dat.view<|Dat.fnC<|.refl fun x hx => .b<|List.all_eq_true.1 (((Xp h_y6).2)).1 x hx) .nil))
     ·
      rcases ifR h with ⟨hk3_5, h⟩ | ⟨hk3_5, h⟩
      ·
       refine Rq Y (Zgw (m := ([(1, .fn 55 [.rp [.fn 53 [.rp [.fn 52 []] 0]] 0, .rp [.int .i64 q] 0]), (5, .fn 56 [.rp [.fn 53 [.rp [.fn 52 []] 0]] 0]), (6, .fn 57 [.rp [.fn 53 [.rp [.fn 52 []] 0]] 0, .rp [.str p.Name, .int .i64 p.Kind, .sl 49 (List.map R49 p.Parts), .int .i64 p.First, .int .i64 p.Every, .int .i64 p.Times, .int .i64 p.Step, .sl 9 (List.map R9 p.Names)] 0]), (2, .fn 58 [.rp [.int .i64 q] 0]), (3, .fn 61 [.rp [.int .i64 q] 0]), (4, .fn 64 [.rp [.int .i64 y] 0])] : List (Int × AV))) (fk := FK3) (fv := id) (k := p.Kind) (z0 := .lit .nilFunc) (ov Y) (ov Y) Zbf ZfO Y (fun _=>.b Y) (ZaB Zfg Y) (nsD Y)<|lkS<|mgF hk3_0<|mgF hk3_1<|mgF hk3_2<|mgF hk3_3<|mgF hk3_4<|mgT hk3_5)<|bE h fun y7 h_y7 h=>Rq Y (Jw (ov Y) Y (ZdE h_y7) .nil)<|Rx Y (Zo (ov Y) (ov Y) (Zl Zbi Y) Y Y Y (Nat.le_of_ble_eq_true Y) (Zf Y) Y)<|Za<|?_
       obtain rfl := rt h
       exact Zk (Zq Y (.one<|.agg Y Y Y Y Zbi Y Y<|.cons (Dat.view<|.b Y)<|.cons (Dat.view<|.b Y)<|.cons (Dat.view<|Dat.fnC<|.refl fun x hx => .b<|List.all_eq_true.1 (((Xt h_y7).1)).1 x hx)<|.cons (Dat.view<|Dat.fnC<|.refl fun x hx => .b<|List.all_eq_true.1 (((Xt h_y7).2)).1 x hx) .nil))
      ·
       exact (ZlX h).elim
theorem XM {p : api_Param} {r : layout_number} (h : Qs p = some r) : ZbL r.encode ∧ ZbJ r.decode := by
  have key : Zdp (fun r => ZbL r.encode ∧ ZbJ r.decode) (Qs p) := by
    unfold Qs
    repeat' (first | exact ZbN | with_reducible refine Zdz ?_ ?_ | with_reducible refine Zcd fun _ _ => ?_ | with_reducible refine ZfJ ?_)
    all_goals first | exact JR ⟨((Xq (by assumption)).1), ((Xq (by assumption)).2)⟩ | exact JR ⟨((Xo (by assumption)).1), ((Xo (by assumption)).2)⟩ | exact JR ⟨((Xs (by assumption)).1), ((Xs (by assumption)).2)⟩ | exact JR ⟨((Xr (by assumption)).1), ((Xr (by assumption)).2)⟩ | exact JR ⟨((Xp (by assumption)).1), ((Xp (by assumption)).2)⟩ | exact JR ⟨((Xt (by assumption)).1), ((Xt (by assumption)).2)⟩
  exact key r h
theorem Zf3 {m : api_Map} {l : List Int} {r : (Vector (List Int) 16) × Int} (h : Zbt m l = some r) :
 CSpec Try.prog gl0 20 [.agg [.int .i64 m.Version, .sl 36 (List.map R36 m.Params)], .sl 3 (List.map R3 l)] (.tuple [.agg (List.map C52 r.1.toList), .int .i64 r.2]) := by
 unfold Zbt at h
 replace h := Qh h
 refine So Try.func20 Y fun w0 A=>Tr<|Rq Y (Z3 (cva<|ov Y) Y tZ_24 Y)<|Rx Y (Zr (row := [_, _, _, _, _, _, _, _, _, _, _, _, _, _, _, _]) 0 Y Zky Y tZ_53)<|Ra Y<|Za<|K3 1 2 4 Y<|Tr<|Rx Y (Zr (row := [_, _, _, _, _, _, _, _, _, _, _, _, _, _, _, _]) 1 Y Zky Y tZ_53)<|Rx Y (Zr (row := [_, _, _, _, _, _, _, _, _, _, _, _, _, _, _, _]) 2 Y Zky Y tZ_53)<|Za<|Zh<|Tr<|Rq Y (Zg (ov Y) ZbE Y Y)<|bE h fun y h_y h=>Rq Y (Zp (ZbD h_y)<|.cons (ov Y) (.aggB Y) .nil)<|Rm Y<|Rq Y (ZM (ov Y) Y)<|Rq Y (ZM (ov Y) Y)<|Ra Y<|Ra Y<|Za<|K6 1 2 4 6 7 9 Y<|Tr<|Rm Y<|R2 Qd Y<|Za<|K7 1 2 4 6 7 9 25 Y<|If h Y (fun h=>?_) fun h=>?_
 ·
  refine K3 4 7 9 Y<|Tr<|Rq Y (Z0 (ov Y) Y Y Y ZdJ Y Y)<|Rm Y<|Rx Y (Zo (ov Y) (ov Y) (Zl ZdJ Y) Y Y Y (Nat.le_of_ble_eq_true Y) (Zf Y) Y)<|Ra Y<|Za<|?_
  obtain rfl := rt h
  exact Zk (Zq Y (.two (.agg Y Y Y Y ZdJ Y Y<|pwZ (m := 16) (f := C52) Y Y)<|rb Y))
 ·
  refine Zd<|K5 1 2 4 6 7 Y<|Tr<|Rq Y (Zg (ov Y) ZbE Y Y)<|bE h fun y2 h_y2 h=>Rq Y (Zp (Zde h_y2)<|.cons (ov Y) (.aggB Y) .nil)<|Ra Y<|Za<|Zh<|K6 1 2 4 6 7 10 Y<|Tr<|Rm Y<|Rl tZ_3 ZaE Y<|Rm Y<|Rl tZ_71 Zcm Y<|R2 Qd Y<|Za<|K7 1 2 4 6 7 10 34 Y<|If h Y (fun h=>?_) fun h=>?_
  ·
   refine K2 4 7 Y<|Tr<|Rq Y (Z0 (ov Y) Y Y Y ZdJ Y Y)<|Rx Y (Zo (ov Y) (ov Y) (Zl ZdJ Y) Y Y Y (Nat.le_of_ble_eq_true Y) (Zf Y) Y)<|Ra Y<|Za<|?_
   obtain rfl := rt h
   exact Zk (Zq Y (.two (.agg Y Y Y Y ZdJ Y Y<|pwZ (m := 16) (f := C52) Y Y)<|rb Y))
  ·
   refine Zd<|I1 (fun out=>⟨[(1, .sl 3 (List.map R3 l)), (2, .rp [.int .i64 m.Version, .sl 36 (List.map R36 m.Params)] 0), (4, .ptr 0 1 0 0), (6, .ptr 1 1 0 0), (7, .ptr 2 1 0 0), (10, .sl 71 (List.map R71 y2))], [some ⟨53, [[.nils, .nils, .nils, .nils, .nils, .nils, .nils, .nils, .nils, .nils, .nils, .nils, .nils, .nils, .nils, .nils]]⟩, some ⟨53, [(List.map (osF 3 R3) out.toList)]⟩, some ⟨53, [[.nils, .nils, .nils, .nils, .nils, .nils, .nils, .nils, .nils, .nils, .nils, .nils, .nils, .nils, .nils, .nils]]⟩]⟩) h (fun h=>?_) fun out h=>?_
   ·
    refine K6 1 2 4 6 7 10 Y<|Tr<|Rm Y<|Za<|Ze<|?_
    obtain ⟨r1, hl1, ho1⟩ := Qu h
    refine L2 (fun out2 i=>⟨[(1, .sl 3 (List.map R3 l)), (2, .rp [.int .i64 m.Version, .sl 36 (List.map R36 m.Params)] 0), (4, .ptr 0 1 0 0), (6, .ptr 1 1 0 0), (7, .ptr 2 1 0 0), (10, .sl 71 (List.map R71 y2)), (36, .int .i64 i)], [some ⟨53, [[.nils, .nils, .nils, .nils, .nils, .nils, .nils, .nils, .nils, .nils, .nils, .nils, .nils, .nils, .nils, .nils]]⟩, some ⟨53, [(List.map (osF 3 R3) out2.toList)]⟩, some ⟨53, [[.nils, .nils, .nils, .nils, .nils, .nils, .nils, .nils, .nils, .nils, .nils, .nils, .nils, .nils, .nils, .nils]]⟩]⟩) hl1 (ES [some 0, some 1, some 2] (hhp := .cons Y (Zdy (by exact tZ_53.symm) Y)<|.cons Y (Zmn Y tZ_53)<|.cons Y (Zdy (by exact tZ_53.symm) Y) .nil)) fun n1 out2 i h=>?_
    unfold ZaW at h
    refine Tr<|R2 ZH Y<|Za<|Zh<|If h Y (fun h=>?_) fun h=>?_
    ·
     exact Zd<|Zh<|Ze<|K7 1 2 4 6 7 10 36 Y<|Tr<|Rm Y<|Ra Y<|Za<|K8 1 2 4 6 7 10 11 36 Y<|Tr<|Rm Y<|bE h fun l2 h_l2 h=>Rx Y (ZkB [none] (r := 3) (f := R3) (z0 := 0) Y (ov Y) (ov Y) ZaE Y tZ3 Y Y h_l2)<|bE h fun x h_x h=>Rq Y (Zb6 (ov Y) (ov Y) ZeZ Y Y h_x)<|Rx Y (Zo (ov Y) (ov Y) (QR ZeT) Y Y Y (arB h_x) (Zf Y)<|Zll h_x)<|Zec (Ent.absorbA (r := 1) (q := 3) Y h_x Y Y Y)<|Za<|K8 1 2 4 6 7 10 11 36 Y<|bE h fun l3 h_l3 h=>Zh2 (Ent.focusA (r := 1) Y h_l3 D3)<|Zgu (cw := md0) (by kernel_rfl)<|D1 0 Zm Y<|bE h fun x2 h_x2 h=>Dq 1 Y (Zb6 (ov Y) (ov Y) ZeZ Y Y h_x2)<|Dq 2 Y (Zj (ov Y) Y Y Y ZeT<|ZjH h_l3)<|Dq 3 Y (Zc (ov Y) Zho)<|Dq 4 Y (Zb (ov Y) tS3 Y)<|bE h fun x3 h_x3 h=>Dq 5 Y (Zij (ov Y) (ov Y) ZaE Y Y h_x3)<|Do 6 Y (ZhM (u' := m.Version) (ov Y) (ov Y) (QR tS3) Y Y h_x3 Y (Zf Y) Y)<|Ziy (by kernel_rfl) (Ent.absorbA (r := 1) (q := 4) Y h_l3 Y ((List.length_set ..).trans Y) Y)<|K7 1 2 4 6 7 10 36 Y<|Zs<|R2 ZX Y<|Rm Y<|Za<|⟨_, h, ES [some 0, some 1, some 2] (hhp := .cons Y (Zdy (by exact tZ_53.symm) Y)<|.cons Y (ZhW tZ_53 D3)<|.cons Y (Zdy (by exact tZ_53.symm) Y) .nil)⟩
    ·
     refine Zz<|?_
     replace h := lx h ▸ ho1
     exact ⟨_, h, ES [some 0, some 1, some 2] (hhp := .cons Y (Zdy (by exact tZ_53.symm) Y)<|.cons Y (ZhW tZ_53 D3)<|.cons Y (Zdy (by exact tZ_53.symm) Y) .nil)⟩
   ·
    refine J1 (fun j => (.inr j)) (fun out3=>⟨[(4, .ptr 0 1 0 0), (6, .ptr 1 1 0 0)], [some ⟨53, [[.nils, .nils, .nils, .nils, .nils, .nils, .nils, .nils, .nils, .nils, .nils, .nils, .nils, .nils, .nils, .nils]]⟩, some ⟨53, [(List.map (osF 3 R3) out3.toList)]⟩]⟩) h (fun h=>?_) fun out3 h=>?_
    ·
     refine Tr<|Rm Y<|Rl tZ_71 Zcm Y<|Rm Y<|Za<|Ze<|?_
     obtain ⟨r2, hl2, ho2⟩ := Qu h
     refine L2 (fun out4 i2=>⟨[(1, .sl 3 (List.map R3 l)), (2, .rp [.int .i64 m.Version, .sl 36 (List.map R36 m.Params)] 0), (4, .ptr 0 1 0 0), (6, .ptr 1 1 0 0), (7, .ptr 2 1 0 0), (49, .sl 71 (List.map R71 y2)), (50, .int .i64 (y2.length : Int)), (51, .int .i64 i2)], [some ⟨53, [[.nils, .nils, .nils, .nils, .nils, .nils, .nils, .nils, .nils, .nils, .nils, .nils, .nils, .nils, .nils, .nils]]⟩, some ⟨53, [(List.map (osF 3 R3) out4.toList)]⟩, some ⟨53, [[.nils, .nils, .nils, .nils, .nils, .nils, .nils, .nils, .nils, .nils, .nils, .nils, .nils, .nils, .nils, .nils]]⟩]⟩) hl2 (ES [some 0, some 1, some 2] (hhp := .cons Y (Zdy (by exact tZ_53.symm) Y)<|.cons Y (ZhW tZ_53 D3)<|.cons Y (Zdy (by exact tZ_53.symm) Y) .nil)) fun n2 out4 i2 h=>?_
     unfold ZaI at h
     refine Tr<|R2 ZH Y<|Za<|Zh<|If h Y (fun h=>?_) fun h=>?_
     ·
      refine Zd<|J1 (fun j => (.inr j)) (fun out5=>⟨[(1, .sl 3 (List.map R3 l)), (2, .rp [.int .i64 m.Version, .sl 36 (List.map R36 m.Params)] 0), (4, .ptr 0 1 0 0), (6, .ptr 1 1 0 0), (7, .ptr 2 1 0 0), (49, .sl 71 (List.map R71 y2)), (50, .int .i64 (y2.length : Int)), (51, .int .i64 i2)], [some ⟨53, [[.nils, .nils, .nils, .nils, .nils, .nils, .nils, .nils, .nils, .nils, .nils, .nils, .nils, .nils, .nils, .nils]]⟩, some ⟨53, [(List.map (osF 3 R3) out5.toList)]⟩, some ⟨53, [[.nils, .nils, .nils, .nils, .nils, .nils, .nils, .nils, .nils, .nils, .nils, .nils, .nils, .nils, .nils, .nils]]⟩]⟩) h (fun h=>?_) fun out5 h=>?_
      ·
       refine Ze<|K8 1 2 4 6 7 49 50 51 Y<|Tr<|Rm Y<|bE h fun x4 h_x4 h=>Rq Y (Zw (ov Y) (ov Y) Zcm h_x4)<|Rq Y (Zg (ov Y) Zeh Y Y)<|Rx Y (Zr (row := [_, _, _, _]) 3 Y Zhe Y tZ_71)<|Ra Y<|Rx Y (Zo (ov Y) (ov Y) (Zl Zeh Y) Y Y Y (Nat.le_of_ble_eq_true Y) (Zf Y) Y)<|Za<|K10 1 2 4 6 7 12 13 49 50 51 Y<|Tr<|Rq Y (Zc (ov Y) Q1)<|Rq Y (Zb (ov Y) Zbv Y)<|Rq Y (Zi (ov Y) Y Y Zhf)<|Rq Y (Zj (ov Y) Y Y Y tS3 Y)<|bE h fun x5 h_x5 h=>Rq Y (Zw (ov Y) (ov Y) Xy h_x5)<|Rq Y (Zg (ov Y) Qi Y Y)<|bE h fun y3 h_y3 h=>Rq Y (Zp (Zcb h_y3)<|.cons (ov Y) (.aggB Y) .nil)<|Rx Y (Zr (row := [_, _, _, _]) 4 Y Zfz Y tZ_81)<|Rx Y (Zo (ov Y) (ov Y) (Zl Zbi Y) Y Y Y (Nat.le_of_ble_eq_true Y) (Zf Y) Y)<|Za<|Zh<|K11 1 2 4 6 7 12 13 14 49 50 51 Y<|Td md0<|D1 0 Zm Y<|D1 1 Zm Y<|bE h fun x6 h_x6 h=>Dq 2 Y (Zw (ov Y) (ov Y) ZaE h_x6)<|Dq 3 Y (Zb (ov Y) tS3 Y)<|Dq 4 Y (Zi (ov Y) Y Y Zlg)<|Dq 5 Y (Zj (ov Y) Y Y Y tS3 Y)<|Dq 6 Y (Zi (ov Y) Y Y Zlo)<|Dq 7 Y (Zj (ov Y) Y Y Y tS3 Y)<|bE h fun y4 h_y4 h=>Dq 8 Y (Zp (Z8 h_y4)<|.cons (ov Y) (.b Y)<|.cons (ov Y) (.b Y)<|.cons (ov Y) (.b Y) .nil)<|D1 9 Xb Y<|Dd<|K12 1 2 4 6 7 12 13 14 49 50 51 72 Y<|If h Y (fun h=>?_) fun h=>?_
       ·
        refine K2 4 7 Y<|Tr<|Rq Y (Z0 (ov Y) Y Y Y ZdJ Y Y)<|Rx Y (Zo (ov Y) (ov Y) (Zl ZdJ Y) Y Y Y (Nat.le_of_ble_eq_true Y) (Zf Y) Y)<|Ra Y<|Za<|?_
        replace h := lx h ▸ ho2
        obtain rfl := rt h
        exact Zk (Zq Y (.two (.agg Y Y Y Y ZdJ Y Y<|pwZ (m := 16) (f := C52) Y Y)<|rb Y))
       ·
        refine Zd<|K11 1 2 4 6 7 12 13 14 49 50 51 Y<|Td md0<|Dq 0 Y (Zi (ov Y) Y Y Zle)<|Dq 1 Y (Zj (ov Y) Y Y Y Zlf Y)<|D1 2 Zm Y<|D1 3 Zm Y<|bE h fun x7 h_x7 h=>Dq 4 Y (Zw (ov Y) (ov Y) ZaE h_x7)<|Dq 5 Y (Zb (ov Y) tS3 Y)<|bE h fun y5 h_y5 h=>Dq 6 Y (Jw (ov Y) (((XM h_y3).1)).1 ((((XM h_y3).1)).2 _ _ h_y5)<|.cons (ov Y) (.b Y) .nil)<|Dq 7 Y (Zc (ov Y) Q1)<|Dq 8 Y (Zb (ov Y) Zbv Y)<|Dq 9 Y (Zi (ov Y) Y Y Zhf)<|Dq 10 Y (Zj (ov Y) Y Y Y tS3 Y)<|bE h fun x8 h_x8 h=>Dq 11 Y (Zw (ov Y) (ov Y) Xy h_x8)<|Dq 12 Y (Zg (ov Y) Qi Y Y)<|bE h fun y6 h_y6 h=>Dq 13 Y (Zp (Xf h_y6)<|.cons (ov Y) (.aggB Y) .nil)<|D1 14 Jg Y<|D1 15 Jg Y<|Dd<|K11 1 2 4 6 7 13 15 16 49 50 51 Y<|Tr<|Rq Y (Zi (ov Y) Y Y Zc6)<|Rq Y (Zj (ov Y) Y Y Y Zg2 Y)<|Rl tZ_83 ZfL Y<|Rm Y<|Za<|Ze<|?_
        obtain ⟨r3, hl3, ho3⟩ := bnd h
        refine L3 (fun out6 left i3=>⟨[(1, .sl 3 (List.map R3 l)), (2, .rp [.int .i64 m.Version, .sl 36 (List.map R36 m.Params)] 0), (4, .ptr 0 1 0 0), (6, .ptr 1 1 0 0), (7, .ptr 2 1 0 0), (15, .int .i64 y5), (16, .int .i64 left), (49, .sl 71 (List.map R71 y2)), (50, .int .i64 (y2.length : Int)), (51, .int .i64 i2), (89, .sl 83 (List.map R83 x4.Places)), (90, .int .i64 (x4.Places.length : Int)), (91, .int .i64 i3)], [some ⟨53, [[.nils, .nils, .nils, .nils, .nils, .nils, .nils, .nils, .nils, .nils, .nils, .nils, .nils, .nils, .nils, .nils]]⟩, some ⟨53, [(List.map (osF 3 R3) out6.toList)]⟩, some ⟨53, [[.nils, .nils, .nils, .nils, .nils, .nils, .nils, .nils, .nils, .nils, .nils, .nils, .nils, .nils, .nils, .nils]]⟩]⟩) hl3 (ES [some 0, some 1, some 2] (hhp := .cons Y (Zdy (by exact tZ_53.symm) Y)<|.cons Y (ZhW tZ_53 D3)<|.cons Y (Zdy (by exact tZ_53.symm) Y) .nil)) fun n3 out6 left i3 h=>?_
        unfold ZaN at h
        refine Tr<|R2 ZH Y<|Za<|Zh<|If h Y (fun h=>?_) fun h=>?_
        ·
         exact Zd<|Zh<|Ze<|XO (kc 1 Y<|kc 2 Y<|kc 4 Y<|kc 6 Y<|kc 7 Y<|kc 15 Y<|kc 16 Y<|kc 49 Y<|kc 50 Y<|kc 51 Y<|kc 89 Y<|kc 90 Y<|kc 91 Y kn) Y<|Tr<|bE h fun x9 h_x9 h=>Rq Y (Zw (ov Y) (ov Y) ZfL h_x9)<|Rq Y (Zg (ov Y) Zgv Y Y)<|Rx Y (Zr (row := [_, _, _, _]) 3 Y Zig Y tZ_83)<|Rx Y (Zo (ov Y) (ov Y) (Zl Zgv Y) Y Y Y (Nat.le_of_ble_eq_true Y) (Zf Y) Y)<|Za<|XO (kc 1 Y<|kc 2 Y<|kc 4 Y<|kc 6 Y<|kc 7 Y<|kc 15 Y<|kc 16 Y<|kc 18 Y<|kc 49 Y<|kc 50 Y<|kc 51 Y<|kc 89 Y<|kc 90 Y<|kc 91 Y kn) Y<|Tr<|Rm Y<|Rq Y (Zi (ov Y) Y Y Zfm)<|Rq Y (Zj (ov Y) Y Y Y tS3 Y)<|R2 Zdf Y<|Ra Y<|Za<|XO (kc 1 Y<|kc 2 Y<|kc 4 Y<|kc 6 Y<|kc 7 Y<|kc 15 Y<|kc 16 Y<|kc 18 Y<|kc 49 Y<|kc 50 Y<|kc 51 Y<|kc 89 Y<|kc 90 Y<|kc 91 Y kn) Y<|bE h fun l4 h_l4 h=>Zh2 (Ent.focusA (r := 1) Y h_l4 D3)<|Zgu (cw := md0) (by kernel_rfl)<|Dq 0 Y (Zi (ov Y) Y Y Zhc)<|Dq 1 Y (Zj (ov Y) Y Y Y tS3 Y)<|bE h fun x10 h_x10 h=>Dq 2 Y (Zb6 (ov Y) (ov Y) ZeZ Y Y h_x10)<|Dq 3 Y (Zj (ov Y) Y Y Y ZeT<|ZjH h_l4)<|Dq 4 Y (Zi (ov Y) Y Y Zhl)<|Dq 5 Y (Zj (ov Y) Y Y Y tS3 Y)<|D2 6 Zdf Y<|bE h fun x11 h_x11 h=>Dq 7 Y (Zij (ov Y) (ov Y) ZaE Y Y h_x11)<|Dq 8 Y (Zkg (ov Y) Y Y h_x11 tS3 Y)<|D1 9 Zm Y<|D1 10 Zm Y<|bE h fun q h_q h=>Dq 11 Y (Zin (ov Y) (ov Y) h_q)<|Dq 12 Y (Zi (ov Y) Y Y Zfm)<|Dq 13 Y (Zj (ov Y) Y Y Y tS3 Y)<|bE h fun q2 h_q2 h=>Dq 14 Y (ZdD (ov Y) (ov Y) h_q2)<|D2 15 Zdf Y<|D2 16 Zg0 Y<|Dq 17 Y (Zi (ov Y) Y Y Zgr)<|Dq 18 Y (Zj (ov Y) Y Y Y tS3 Y)<|bE h fun q3 h_q3 h=>Dq 19 Y (ZdD (ov Y) (ov Y) h_q3)<|D2 20 Zj0 Y<|bE h fun x12 h_x12 h=>Dq 21 Y (Zij (ov Y) (ov Y) ZaE Y Y h_x12)<|Do 22 Y (ZhM (u' := (bor .i64 x11 q3)) (ov Y) (ov Y) (QR tS3) Y Y h_x12 Y (Zf Y) Y)<|Ziy (by kernel_rfl) (Ent.absorbA (r := 1) (q := 4) Y h_l4 Y ((List.length_set ..).trans Y) Y)<|XO (kc 1 Y<|kc 2 Y<|kc 4 Y<|kc 6 Y<|kc 7 Y<|kc 15 Y<|kc 16 Y<|kc 49 Y<|kc 50 Y<|kc 51 Y<|kc 89 Y<|kc 90 Y<|kc 91 Y kn) Y<|Zs<|R2 ZX Y<|Rm Y<|Za<|⟨_, h, ES [some 0, some 1, some 2] (hhp := .cons Y (Zdy (by exact tZ_53.symm) Y)<|.cons Y (ZhW tZ_53 D3)<|.cons Y (Zdy (by exact tZ_53.symm) Y) .nil)⟩
        ·
         refine Zz<|?_
         replace h := lx h ▸ ho3
         exact ⟨_, h, ES [some 0, some 1, some 2] (hhp := .cons Y (Zdy (by exact tZ_53.symm) Y)<|.cons Y (ZhW tZ_53 D3)<|.cons Y (Zdy (by exact tZ_53.symm) Y) .nil)⟩
      ·
       replace h := elr h
       replace h := t1i h
       exact Zs<|R2 ZX Y<|Rm Y<|Za<|⟨_, h, ES [some 0, some 1, some 2] (hhp := .cons Y (Zdy (by exact tZ_53.symm) Y)<|.cons Y (ZhW tZ_53 D3)<|.cons Y (Zdy (by exact tZ_53.symm) Y) .nil)⟩
     ·
      refine Zz<|?_
      replace h := lx h ▸ ho2
      exact ⟨_, h, ES [some 0, some 1] (hhp := .cons Y (Zdy (by exact tZ_53.symm) Y)<|.cons Y (ZhW tZ_53 D3) .nil)⟩
    ·
     replace h := elr h
     replace h := t1i h
     refine Tr<|Zec (Ent.meltA (r := 1) (f := C52) Y tZ_53 (fun _=>Y) D3)<|Rq Y (Z0 (ov Y) Y Y Y ZdJ arW arL)<|Rx Y (Zo (ov Y) (ov Y) (Zl ZdJ arL) Y Y Y (Zii (X1 Y) arL) (Zf<|arC fun _ => Y)<|Zhq<|Eq.trans Y<|Eq.symm arL)<|Ra Y<|Za<|?_
     obtain rfl := rt h
     exact Zk (Zq Y (.two (.agg Y Y Y Y ZdJ (Zep<|X1 arL) arL (pwB<|arD fun _ => Y) (hns := (nsM fun _ => Y)))<|rb Y))
theorem ZbP {s : List Int} {f : Int → Option Bool} {r : Int} {f_f : FuncId} {f_c : List AV} (f_d : f_c.all datB = true) (f_h : ∀ (z0 : Int) z, f z0 = some z → CSpec Try.prog gl0 f_f ([.int .i64 z0] ++ f_c) (.bool z)) (h : Qq s f = some r) :
 CSpec Try.prog gl0 67 [.sl 3 (List.map R3 s), .fn f_f f_c] (.int .i64 r) := by
 unfold Qq at h
 replace h := Qh h
 refine So Try.func67 Y fun w0 A=>Tr<|Ra Y<|Za<|J0 (fun j => (.inr j)) ⟨[], []⟩ h (fun h=>?_) fun h=>?_
 ·
  refine K2 0 1 Y<|Tr<|Rm Y<|Rl tZ_3 ZaE Y<|Rm Y<|Za<|Ze<|?_
  obtain ⟨r1, hl1, ho1⟩ := Qu h
  refine L1 (fun i=>⟨[(0, .sl 3 (List.map R3 s)), (1, .fn f_f f_c), (7, .int .i64 (s.length : Int)), (8, .int .i64 i)], []⟩) hl1 (ES []<|sd 0 Y Y<|sr 1 Y (rFn<|rld f_d)<|sd 7 Y Y<|sd 8 Y Y sn) fun n1 i h=>?_
  unfold Qy at h
  refine Tr<|R2 ZH Y<|Za<|Zh<|If h Y (fun h=>?_) fun h=>?_
  ·
   refine Zd<|Zh<|Ze<|K4 0 1 7 8 Y<|Tr<|Rm Y<|Ra Y<|Za<|K5 0 1 5 7 8 Y<|Tr<|Rm Y<|Rm Y<|Rm Y<|bE h fun x h_x h=>Rq Y (Zw (ov Y) (ov Y) ZaE h_x)<|Rq Y (Zb (ov Y) tS3 Y)<|bE h fun y h_y h=>Rq Y (Jw (ov Y) f_d (f_h _ _ h_y)<|.cons (ov Y) (.b Y) .nil)<|Za<|K6 0 1 5 7 8 16 Y<|If h Y (fun h=>?_) fun h=>?_
   ·
    refine K1 5 Y<|Tr<|Rm Y<|Ra Y<|Za<|?_
    replace h := lx h ▸ ho1
    obtain rfl := rt h
    exact Zk (Zq Y (.one<|rb Y))
   ·
    exact Zd<|K4 0 1 7 8 Y<|Zs<|R2 ZX Y<|Rm Y<|Za<|⟨_, h, ES []<|sd 0 Y Y<|sr 1 Y (rFn<|rld f_d)<|sd 7 Y Y<|sd 8 Y Y sn⟩
  ·
   refine Zz<|?_
   replace h := lx h ▸ ho1
   exact ⟨_, h, ES []⟩
 ·
  replace h := elr h
  replace h := t0i h
  refine Tr<|Ra Y<|Za<|?_
  obtain rfl := rt h
  exact Zk (Zq Y (.one<|rb Y))
theorem Zbg {s : List Int} {f : Int → Option Bool} {r : Bool} {f_f : FuncId} {f_c : List AV} (f_d : f_c.all datB = true) (f_h : ∀ (z0 : Int) z, f z0 = some z → CSpec Try.prog gl0 f_f ([.int .i64 z0] ++ f_c) (.bool z)) (h : Z9 s f = some r) :
 CSpec Try.prog gl0 35 [.sl 3 (List.map R3 s), .fn f_f f_c] (.bool r) := by
 unfold Z9 at h
 replace h := Qh h
 refine So Try.func35 Y fun w0 A=>Tr<|Ra Y<|Za<|Tr<|Rm Y<|Rm Y<|bE h fun y h_y h=>Rq Y (Zp (ZbP f_d f_h h_y)<|.cons (ov Y) (.b Y)<|.cons (ov Y) (Dat.fnC<|.refl fun x hx => .b<|List.all_eq_true.1 f_d x hx) .nil)<|R2 Zb9 Y<|Ra Y<|Za<|?_
 obtain rfl := rt h
 exact Zk (Zq Y (.one<|rb Y))
theorem ZeA {d : Int} {r : Bool} (h : Jl d = some r) :
 CSpec Try.prog gl0 36 [.int .i64 d] (.bool r) := by
 unfold Jl at h
 replace h := Qh h
 refine So Try.func36 Y fun w0 A=>Tr<|Ra Y<|Za<|Tr<|Rm Y<|bE h fun y h_y h=>Rq Y (Zp (Z8 h_y)<|.cons (ov Y) (.b Y)<|.cons (ov Y) (.b Y)<|.cons (ov Y) (.b Y) .nil)<|R1 Xb Y<|Ra Y<|Za<|?_
 obtain rfl := rt h
 exact Zk (Zq Y (.one<|rb Y))
theorem ZfM {c_ : api_Cell} {l : Vector (List Int) 16} {r : Int} (h : ZaV c_ l = some r) :
 CSpec Try.prog gl0 38 [.agg [.int .i64 c_.Param, .int .i64 c_.Index, .int .i64 c_.Frame, .sl 83 (List.map R83 c_.Places)], .agg (List.map C52 l.toList)] (.int .i64 r) := by
 unfold ZaV at h
 replace h := Qh h
 refine So Try.func38 Y fun w0 A=>Tr<|Rq Y (Z3 (cva<|ov Y) Y tZ_71 Y)<|Rq Y (Z3 (cva<|ov Y) arL tZ_53<|arD fun _ => Y)<|Ra Y<|Za<|K2 2 3 Y<|Tr<|Ra Y<|Za<|I1 (fun raw=>⟨[(5, .int .i64 raw)], []⟩) h (fun h=>?_) fun raw h=>?_
 ·
  refine Tr<|Rq Y (Zc (ov Y) Zc6)<|Rq Y (Zb (ov Y) Zg2 Y)<|Rl tZ_83 ZfL Y<|Rm Y<|Za<|Ze<|?_
  obtain ⟨r1, hl1, ho1⟩ := Qu h
  refine L2 (fun raw2 i=>⟨[(3, .rp (List.map C52 l.toList) 0), (5, .int .i64 raw2), (9, .sl 83 (List.map R83 c_.Places)), (10, .int .i64 (c_.Places.length : Int)), (11, .int .i64 i)], []⟩) hl1 (ES []) fun n1 raw2 i h=>?_
  unfold Zan at h
  refine Tr<|R2 ZH Y<|Za<|Zh<|If h Y (fun h=>?_) fun h=>?_
  ·
   exact Zd<|Zh<|Ze<|K5 3 5 9 10 11 Y<|Tr<|bE h fun x h_x h=>Rq Y (Zw (ov Y) (ov Y) ZfL h_x)<|Rq Y (Zg (ov Y) Zgv Y Y)<|Rx Y (Zr (row := [_, _, _, _]) 0 Y Zig Y tZ_83)<|Rx Y (Zo (ov Y) (ov Y) (Zl Zgv Y) Y Y Y (Nat.le_of_ble_eq_true Y) (Zf Y) Y)<|Za<|K6 3 5 7 9 10 11 Y<|Zgu (cw := md0) (by kernel_rfl)<|D1 0 Zm Y<|Dq 1 Y (Zi (ov Y) Y Y Zfm)<|Dq 2 Y (Zj (ov Y) Y Y Y tS3 Y)<|bE h fun q h_q h=>Dq 3 Y (ZdD (ov Y) (ov Y) h_q)<|Dq 4 Y (Zi (ov Y) Y Y Zhc)<|Dq 5 Y (Zj (ov Y) Y Y Y tS3 Y)<|bE h fun x2 h_x2 h=>Dq 6 Y (Zli (ov Y) (ov Y) ZeZ h_x2)<|Dq 7 Y (Zb (ov Y) ZeT<|ZcU<|ZeM (o := 0) (o' := (x.Frame.toNat * 1)) (X1 arL)<|Ze5 h_x2)<|Dq 8 Y (Zi (ov Y) Y Y Zhl)<|Dq 9 Y (Zj (ov Y) Y Y Y tS3 Y)<|D2 10 Zdf Y<|bE h fun x3 h_x3 h=>Dq 11 Y (Zw (ov Y) (ov Y) ZaE h_x3)<|Dq 12 Y (Zb (ov Y) tS3 Y)<|Dq 13 Y (Zi (ov Y) Y Y Zgr)<|Dq 14 Y (Zj (ov Y) Y Y Y tS3 Y)<|bE h fun q2 h_q2 h=>Dq 15 Y (Zin (ov Y) (ov Y) h_q2)<|Dq 16 Y (Zi (ov Y) Y Y Zfm)<|Dq 17 Y (Zj (ov Y) Y Y Y tS3 Y)<|bE h fun q3 h_q3 h=>Dq 18 Y (ZdD (ov Y) (ov Y) h_q3)<|D2 19 Zdf Y<|D2 20 Zg0 Y<|D2 21 Zj0 Y<|D1 22 Jg Y<|Dd<|K5 3 5 9 10 11 Y<|Zs<|R2 ZX Y<|Rm Y<|Za<|⟨_, h, ES []⟩
  ·
   refine Zz<|?_
   replace h := lx h ▸ ho1
   exact ⟨_, h, ES []⟩
 ·
  refine Tr<|Rm Y<|Ra Y<|Za<|?_
  obtain rfl := rt h
  exact Zk (Zq Y (.one<|rb Y))
theorem Ze0 {p : api_Param} {raw : Int} {r : Int × Bool} (h : JJ p raw = some r) :
 CSpec Try.prog gl0 37 [.agg [.str p.Name, .int .i64 p.Kind, .sl 49 (List.map R49 p.Parts), .int .i64 p.First, .int .i64 p.Every, .int .i64 p.Times, .int .i64 p.Step, .sl 9 (List.map R9 p.Names)], .int .i64 raw] (.tuple [.int .i64 r.1, .bool r.2]) := by
 unfold JJ at h
 replace h := Qh h
 refine So Try.func37 Y fun w0 A=>Tr<|Rq Y (Z3 (cva<|ov Y) Y tZ_36 Y)<|Ra Y<|Ra Y<|Za<|K2 1 2 Y<|Tr<|Rq Y (Zg (ov Y) Qi Y Y)<|bE h fun y h_y h=>Rq Y (Zp (Zcb h_y)<|.cons (ov Y) (.aggB Y) .nil)<|Rq Y (Zjv (ov Y) Zkz Y)<|Rm Y<|bE h fun y2 h_y2 h=>Rq Y (Jw (ov Y) (((XM h_y).2)).1 ((((XM h_y).2)).2 _ _ h_y2)<|.cons (ov Y) (.b Y) .nil)<|Rm Y<|Rq Y (ZM (ov Y) Y)<|Rq Y (ZM (ov Y) Y)<|Ra Y<|Ra Y<|Za<|Zh<|K2 6 7 Y<|Tr<|Rm Y<|R1 Xb Y<|Za<|K2 6 17 Y<|If h Y (fun h=>?_) fun h=>?_
 ·
  refine K0<|Tr<|Ra Y<|Ra Y<|Za<|?_
  obtain rfl := rt h
  exact Zk (Zq Y (.two (rb Y)<|rb Y))
 ·
  refine Zd<|K1 6 Y<|Tr<|Rm Y<|Ra Y<|Ra Y<|Za<|?_
  obtain rfl := rt h
  exact Zk (Zq Y (.two (rb Y)<|rb Y))
theorem Zfj {m : api_Map} {l : Vector (List Int) 16} {r : (List api_Reading) × Int} (h : Zad m l = some r) :
 CSpec Try.prog gl0 21 [.agg [.int .i64 m.Version, .sl 36 (List.map R36 m.Params)], .agg (List.map C52 l.toList)] (.tuple [.sl 60 (List.map R60 r.1), .int .i64 r.2]) := by
 unfold Zad at h
 replace h := Qh h
 refine So Try.func21 Y fun w0 A=>Tr<|Rq Y (Z3 (cva<|ov Y) Y tZ_24 Y)<|Rq Y (Z3 (cva<|ov Y) arL tZ_53<|arD fun _ => Y)<|Ra Y<|Ra Y<|Za<|Zh<|K2 2 3 Y<|Tr<|Rq Y (Zg (ov Y) ZbE Y Y)<|bE h fun y h_y h=>Rq Y (Zp (ZbD h_y)<|.cons (ov Y) (.aggB Y) .nil)<|Rm Y<|Rq Y (ZM (ov Y) Y)<|Rq Y (ZM (ov Y) Y)<|Ra Y<|Ra Y<|Za<|K3 2 3 7 Y<|Tr<|Rm Y<|R2 Qd Y<|Za<|K4 2 3 7 23 Y<|If h Y (fun h=>?_) fun h=>?_
 ·
  refine K1 7 Y<|Tr<|Rm Y<|Ra Y<|Ra Y<|Za<|?_
  obtain rfl := rt h
  exact Zk (Zq Y (.two (.tmp Y<|View.nils 60)<|rb Y))
 ·
  refine Zd<|J0 (fun j => (.inr j)) ⟨[(2, .rp [.int .i64 m.Version, .sl 36 (List.map R36 m.Params)] 0), (3, .rp (List.map C52 l.toList) 0)], []⟩ h (fun h=>?_) fun h=>?_
  ·
   refine K2 2 3 Y<|Tr<|Rq Y (Zg (ov Y) ZdJ (Zep<|X1 arL) arL)<|Rm Y<|Za<|Ze<|?_
   obtain ⟨r1, hl1, ho1⟩ := Qu h
   refine L1 (fun i=>⟨[(2, .rp [.int .i64 m.Version, .sl 36 (List.map R36 m.Params)] 0), (3, .rp (List.map C52 l.toList) 0), (25, .agg (List.map C52 l.toList)), (26, .int .i64 i)], []⟩) hl1 (ES []) fun n1 i h=>?_
   unfold JT at h
   refine Tr<|R2 ZH Y<|Za<|Zh<|If h Y (fun h=>?_) fun h=>?_
   ·
    refine Zd<|Zh<|Ze<|K4 2 3 25 26 Y<|Tr<|bE h fun x h_x h=>Rq Y (ZgM (ov Y) (ov Y) ZeZ ZeT h_x)<|Ra Y<|Za<|Zh<|K5 2 3 9 25 26 Y<|Tr<|Rm Y<|Rl tZ_3 ZaE Y<|R2 Qd Y<|Za<|K6 2 3 9 25 26 31 Y<|If h Y (fun h=>?_) fun h=>?_
    ·
     refine K0<|Tr<|Ra Y<|Ra Y<|Za<|?_
     replace h := lx h ▸ ho1
     obtain rfl := rt h
     exact Zk (Zq Y (.two (.tmp Y<|View.nils 60)<|rb Y))
    ·
     refine Zd<|K5 2 3 9 25 26 Y<|Tr<|Rm Y<|bE h fun y2 h_y2 h=>Rq Y (Zp (Zbg Y (fun z0 _ hz=>ZeA hz) h_y2)<|.cons (ov Y) (.b Y)<|.cons (ov Y) .fn .nil)<|Za<|K5 2 3 25 26 33 Y<|If h Y (fun h=>?_) fun h=>?_
     ·
      refine K0<|Tr<|Ra Y<|Ra Y<|Za<|?_
      replace h := lx h ▸ ho1
      obtain rfl := rt h
      exact Zk (Zq Y (.two (.tmp Y<|View.nils 60)<|rb Y))
     ·
      exact Zd<|K4 2 3 25 26 Y<|Zs<|R2 ZX Y<|Rm Y<|Za<|⟨_, h, ES []⟩
   ·
    refine Zz<|?_
    replace h := lx h ▸ ho1
    exact ⟨_, h, ES []⟩
  ·
   replace h := elr h
   replace h := t0i h
   refine J0 (fun j => (.inr j)) ⟨[(2, .rp [.int .i64 m.Version, .sl 36 (List.map R36 m.Params)] 0), (3, .rp (List.map C52 l.toList) 0)], []⟩ h (fun h=>?_) fun h=>?_
   ·
    refine Tr<|Rq Y (Zg (ov Y) ZdJ (Zep<|X1 arL) arL)<|Rm Y<|Za<|Ze<|?_
    obtain ⟨r2, hl2, ho2⟩ := Qu h
    refine L1 (fun i2=>⟨[(2, .rp [.int .i64 m.Version, .sl 36 (List.map R36 m.Params)] 0), (3, .rp (List.map C52 l.toList) 0), (35, .agg (List.map C52 l.toList)), (36, .int .i64 i2)], []⟩) hl2 (ES []) fun n2 i2 h=>?_
    unfold JM at h
    refine Tr<|R2 ZH Y<|Za<|Zh<|If h Y (fun h=>?_) fun h=>?_
    ·
     refine Zd<|Zh<|Ze<|K4 2 3 35 36 Y<|Tr<|bE h fun x2 h_x2 h=>Rq Y (ZgM (ov Y) (ov Y) ZeZ ZeT h_x2)<|Ra Y<|Za<|K5 2 3 11 35 36 Y<|Td md0<|D1 0 Zm Y<|bE h fun x3 h_x3 h=>Dq 1 Y (Zw (ov Y) (ov Y) ZaE h_x3)<|Dq 2 Y (Zb (ov Y) tS3 Y)<|Dq 3 Y (Zc (ov Y) Zho)<|Dq 4 Y (Zb (ov Y) tS3 Y)<|D2 5 Qd Y<|Dd<|K5 2 3 35 36 44 Y<|If h Y (fun h=>?_) fun h=>?_
     ·
      refine K0<|Tr<|Ra Y<|Ra Y<|Za<|?_
      replace h := lx h ▸ ho2
      obtain rfl := rt h
      exact Zk (Zq Y (.two (.tmp Y<|View.nils 60)<|rb Y))
     ·
      exact Zd<|K4 2 3 35 36 Y<|Zs<|R2 ZX Y<|Rm Y<|Za<|⟨_, h, ES []⟩
    ·
     refine Zz<|?_
     replace h := lx h ▸ ho2
     exact ⟨_, h, ES []⟩
   ·
    replace h := elr h
    replace h := t0i h
    refine Tr<|Ra Y<|Za<|I1 (fun out=>⟨[(12, .own 0 out.length)], [some ⟨60, List.map R60 out⟩]⟩) h (fun h=>?_) fun out h=>?_
    ·
     refine Tr<|Rq Y (Zg (ov Y) ZbE Y Y)<|bE h fun y3 h_y3 h=>Rq Y (Zp (Zde h_y3)<|.cons (ov Y) (.aggB Y) .nil)<|Rl tZ_71 Zcm Y<|Rm Y<|Za<|Ze<|?_
     obtain ⟨r3, hl3, ho3⟩ := Qu h
     refine L2 (fun out2 i3=>⟨[(2, .rp [.int .i64 m.Version, .sl 36 (List.map R36 m.Params)] 0), (3, .rp (List.map C52 l.toList) 0), (12, .own 0 out2.length), (47, .sl 71 (List.map R71 y3)), (48, .int .i64 (y3.length : Int)), (49, .int .i64 i3)], [some ⟨60, List.map R60 out2⟩]⟩) hl3 (ES [none]) fun n3 out2 i3 h=>?_
     unfold JL at h
     refine Tr<|R2 ZH Y<|Za<|Zh<|If h Y (fun h=>?_) fun h=>?_
     ·
      exact Zd<|Zh<|Ze<|K6 2 3 12 47 48 49 Y<|Tr<|bE h fun x4 h_x4 h=>Rq Y (Zw (ov Y) (ov Y) Zcm h_x4)<|Rq Y (Zg (ov Y) Zeh Y Y)<|Rx Y (Zr (row := [_, _, _, _]) 1 Y Zhe Y tZ_71)<|Rx Y (Zo (ov Y) (ov Y) (Zl Zeh Y) Y Y Y (Nat.le_of_ble_eq_true Y) (Zf Y) Y)<|Za<|K7 2 3 12 14 47 48 49 Y<|Td md0<|Dq 0 Y (Zc (ov Y) Q1)<|Dq 1 Y (Zb (ov Y) Zbv Y)<|Dq 2 Y (Zi (ov Y) Y Y Zhf)<|Dq 3 Y (Zj (ov Y) Y Y Y tS3 Y)<|bE h fun x5 h_x5 h=>Dq 4 Y (Zw (ov Y) (ov Y) Xy h_x5)<|Dq 5 Y (Zg (ov Y) Qi Y Y)<|Dq 6 Y (Z0 (ov Y) Y Y Y Zeh Y Y)<|Dq 7 Y (Zg (ov Y) ZdJ (Zep<|X1 arL) arL)<|bE h fun y4 h_y4 h=>Dq 8 Y (Zp (ZfM h_y4)<|.cons (ov Y) (.aggB Y)<|.cons (ov Y) (.aggB<|arD fun _ => Y) .nil)<|bE h fun y5 h_y5 h=>Dq 9 Y (Zp (Ze0 h_y5)<|.cons (ov Y) (.aggB Y)<|.cons (ov Y) (.b Y) .nil)<|D1 10 Zm Y<|Dq 11 Y (ZM (ov Y) Y)<|Dq 12 Y (ZM (ov Y) Y)<|D1 13 Jg Y<|D1 14 Jg Y<|Dd<|K9 2 3 12 14 15 16 47 48 49 Y<|Zs<|Rm Y<|Rq Y (Zi (ov Y) Y Y Zhf)<|Rq Y (Zj (ov Y) Y Y Y tS3 Y)<|Rq Y (Zi (ov Y) Y Y Zld)<|Rq Y (Zj (ov Y) Y Y Y tS3 Y)<|Rm Y<|Rm Y<|Rq Y (Q3 (ys := [_, _, _, _]) ZkS ZkV ZlQ (.cons (cvs (ov Y)<|Zn Y)<|.cons (cvs (ov Y)<|Zn Y)<|.cons (cvs (ov Y)<|Zn Y)<|.cons (cvs (ov Y)<|Zn Y) .nil) Y)<|R_q (.sl 60<|List.map R60 ([(api_Reading.mk x4.Param x4.Index y5.1 y5.2)] : List api_Reading)) Y (Za6 ZkM (.cons (cva<|ov Y) Y (pwD Y) .nil) Y Y)<|bE h fun l2 h_l2 h=>Rx Y (Xg (ov Y) (Xk (ov Y) tZ_60) ZkM Y Y Y (fun _=>Zf Y) Y h_l2)<|Ra Y<|Za<|K6 2 3 12 47 48 49 Y<|Zs<|R2 ZX Y<|Rm Y<|Za<|⟨_, h, ES [some 0]⟩
     ·
      refine Zz<|?_
      replace h := lx h ▸ ho3
      exact ⟨_, h, ES [some 0]⟩
    ·
     refine Tr<|Rm Y<|Ra Y<|Ra Y<|Za<|?_
     obtain rfl := rt h
     exact Zk (Zq Y (.two (.tmp Y<|View.ownM Y Y D60)<|rb Y))
theorem Zdv  {r : Bool} (h : JH  = some r) :
 CSpec Try.prog gl0 7 [] (.bool r) := by
 unfold JH at h
 replace h := Qh h
 refine So Try.func7 Y fun w0 A=>Tr<|Ra Y<|Za<|K0<|Tr<|Rq Y (Q3 (ys := [_, _, _, _]) Zl5 ZlY Zgz (.cons (cvs (ov Y)<|Zn Y)<|.cons (cvs (ov Y)<|Zn Y)<|.cons (cvs (ov Y)<|Zn Y) .nil) Y)<|R_q (.sl 49<|List.map R49 ([(api_Part.mk 0 9 2 3)] : List api_Part)) Y (Za6 JD (.cons (cva<|ov Y) Y (pwD Y) .nil) Y Y)<|Rq Y (Q3 (ys := [_, _, _, _, _, _, _, _]) ZkU Zk2 Zcu (.cons (cvs (ov Y)<|Zn Y)<|.cons (cvs (ov Y)<|Zn Y)<|.cons (cvs (ov Y)<|Zn Y)<|.cons (cvs (ov Y)<|Zn Y)<|.cons (cvs (ov Y)<|Zn Y)<|.cons (cvs (ov Y)<|Zn Y)<|.cons (cvs (ov Y)<|Zn Y) .nil) Y)<|R_q (.sl 36<|List.map R36 ([(api_Param.mk [97] 2 ([(api_Part.mk 0 9 2 3)] : List api_Part) 2 8 2 1 [])] : List api_Param)) Y (Za6 Xy (.cons (cva<|ov Y) Y (.cons (.b Y)<|.cons (.b Y)<|.cons (.b Y)<|.cons (.b Y)<|.cons (.b Y)<|.cons (.b Y)<|.cons (.b Y)<|.cons (Dat.nils _) .nil) .nil) Y Y)<|Rq Y (Q3 (ys := [_, _]) Zl6 Zl8 Zku (.cons (cvs (ov Y)<|Zn Y)<|.cons (cvs (ov Y)<|Zn Y) .nil) Y)<|Rx Y (Zr (row := [_, _]) 0 Y Zku Y tZ_24)<|Rx Y (Zo (ov Y) (ov Y) (Zl ZbE Y) Y Y Y (Nat.le_of_ble_eq_true Y) (Zf Y) Y)<|Za<|K1 1 Y<|Tr<|Rq Y (Z0 (ov Y) Y Y Y ZbE Y Y)<|R_q (.sl 3<|List.map R3 ([(-1), 3, 0, (-4)] : List Int)) Y (Za6 ZaE (.cons (cvs (ov Y)<|Zn Y) Y (.cons (.b Y) .nil)<|.cons (cvs (ov Y)<|Zn Y) Y (.cons (.b Y) .nil)<|.cons (cvs (ov Y)<|Zn Y) Y (.cons (.b Y) .nil)<|.cons (cvs (ov Y)<|Zn Y) Y (.cons (.b Y) .nil) .nil) Y Y)<|bE h fun y h_y h=>Rq Y (Zp (Zf3 h_y)<|.cons (ov Y) (.aggB Y)<|.cons (ov Y) (.b Y) .nil)<|Rm Y<|Rq Y (ZM (ov Y) Y)<|Rq Y (ZM (ov Y) Y)<|Rx Y (Zr (row := [_, _, _, _, _, _, _, _, _, _, _, _, _, _, _, _]) 1 Y Zky Y tZ_53)<|Rx Y (Zo (ov Y) (ov Y) (Zl ZdJ arL) Y Y Y (Zii (X1 Y) arL) (Zf<|arC fun _ => Y)<|Zhq<|Eq.trans Y<|Eq.symm arL)<|Ra Y<|Za<|Zh<|K3 1 2 3 Y<|Tr<|Rm Y<|R2 Qd Y<|Rm Y<|bE h fun x h_x h=>Rq Y (.guarded ((!decide (y.2 = 0)) == false) Y Y Y Y fun h => Zb6 (ov Y) (ov Y) ZeZ Y Y<|gdT h_x h)<|Rq Y (.guarded ((!decide (y.2 = 0)) == false) Y Y Y Y fun h => Zj (ow Y h) Y Y Y ZeT<|ZcU<|ZeM (o := 0) (o' := ((Int.toNat 2) * 1)) (X1 arL)<|Ze5<|gdT h_x h)<|Rq Y (.guarded ((!decide (y.2 = 0)) == false) Y Y Y Y fun h => Zeb (Xk (ow Y h) tZ_3) ZaE<|Zbp _ _)<|Rq Y (.guarded ((!decide (y.2 = 0)) == false) Y Y Y Y fun h => Qd (ow Y h)<|ov Y)<|Rq Y (QZ (ov Y) fun hp=>ow Y<|gF hp)<|Rm Y<|bE h fun x2 h_x2 h=>Rq Y (.guarded (((!decide (y.2 = 0)) || (!decide ((x.length : Int) = 58))) == false) Y Y Y Y fun h => Zb6 (ov Y) (ov Y) ZeZ Y Y<|gdT h_x2 h)<|Rq Y (.guarded (((!decide (y.2 = 0)) || (!decide ((x.length : Int) = 58))) == false) Y Y Y Y fun h => Zj (ow Y h) Y Y Y ZeT<|ZcU<|ZeM (o := 0) (o' := ((Int.toNat 5) * 1)) (X1 arL)<|Ze5<|gdT h_x2 h)<|Rq Y (.guarded (((!decide (y.2 = 0)) || (!decide ((x.length : Int) = 58))) == false) Y Y Y Y fun h => Zeb (Xk (ow Y h) tZ_3) ZaE<|Zbp _ _)<|Rq Y (.guarded (((!decide (y.2 = 0)) || (!decide ((x.length : Int) = 58))) == false) Y Y Y Y fun h => Qd (ow Y h)<|ov Y)<|Rq Y (QZ (ov Y) fun hp=>ow Y<|gF hp)<|Rm Y<|bE h fun x3 h_x3 h=>Rq Y (.guarded ((((!decide (y.2 = 0)) || (!decide ((x.length : Int) = 58))) || (!decide ((x2.length : Int) = 58))) == false) Y Y Y Y fun h => Zb6 (ov Y) (ov Y) ZeZ Y Y<|gdT h_x3 h)<|Rq Y (.guarded ((((!decide (y.2 = 0)) || (!decide ((x.length : Int) = 58))) || (!decide ((x2.length : Int) = 58))) == false) Y Y Y Y fun h => Zj (ow Y h) Y Y Y ZeT<|ZcU<|ZeM (o := 0) (o' := ((Int.toNat 10) * 1)) (X1 arL)<|Ze5<|gdT h_x3 h)<|Rq Y (.guarded ((((!decide (y.2 = 0)) || (!decide ((x.length : Int) = 58))) || (!decide ((x2.length : Int) = 58))) == false) Y Y Y Y fun h => Zeb (Xk (ow Y h) tZ_3) ZaE<|Zbp _ _)<|Rq Y (.guarded ((((!decide (y.2 = 0)) || (!decide ((x.length : Int) = 58))) || (!decide ((x2.length : Int) = 58))) == false) Y Y Y Y fun h => Qd (ow Y h)<|ov Y)<|Rq Y (QZ (ov Y) fun hp=>ow Y<|gF hp)<|Rm Y<|bE h fun x4 h_x4 h=>Rq Y (.guarded (((((!decide (y.2 = 0)) || (!decide ((x.length : Int) = 58))) || (!decide ((x2.length : Int) = 58))) || (!decide ((x3.length : Int) = 58))) == false) Y Y Y Y fun h => Zb6 (ov Y) (ov Y) ZeZ Y Y<|gdT h_x4 h)<|Rq Y (.guarded (((((!decide (y.2 = 0)) || (!decide ((x.length : Int) = 58))) || (!decide ((x2.length : Int) = 58))) || (!decide ((x3.length : Int) = 58))) == false) Y Y Y Y fun h => Zj (ow Y h) Y Y Y ZeT<|ZcU<|ZeM (o := 0) (o' := ((Int.toNat 2) * 1)) (X1 arL)<|Ze5<|gdT h_x4 h)<|bE h fun x5 h_x5 h=>Rq Y (.guarded (((((!decide (y.2 = 0)) || (!decide ((x.length : Int) = 58))) || (!decide ((x2.length : Int) = 58))) || (!decide ((x3.length : Int) = 58))) == false) Y Y Y Y fun h => Zw (ow Y h) (ov Y) ZaE<|gdT h_x5 h)<|Rq Y (.guarded (((((!decide (y.2 = 0)) || (!decide ((x.length : Int) = 58))) || (!decide ((x2.length : Int) = 58))) || (!decide ((x3.length : Int) = 58))) == false) Y Y Y Y fun h => Zb (ow Y h) tS3 Y)<|Rq Y (.guarded (((((!decide (y.2 = 0)) || (!decide ((x.length : Int) = 58))) || (!decide ((x2.length : Int) = 58))) || (!decide ((x3.length : Int) = 58))) == false) Y Y Y Y fun h => Qd (ow Y h)<|ov Y)<|Rq Y (QZ (ov Y) fun hp=>ow Y<|gF hp)<|Rm Y<|bE h fun x6 h_x6 h=>Rq Y (.guarded ((((((!decide (y.2 = 0)) || (!decide ((x.length : Int) = 58))) || (!decide ((x2.length : Int) = 58))) || (!decide ((x3.length : Int) = 58))) || (!decide (x5 = 28))) == false) Y Y Y Y fun h => Zb6 (ov Y) (ov Y) ZeZ Y Y<|gdT h_x6 h)<|Rq Y (.guarded ((((((!decide (y.2 = 0)) || (!decide ((x.length : Int) = 58))) || (!decide ((x2.length : Int) = 58))) || (!decide ((x3.length : Int) = 58))) || (!decide (x5 = 28))) == false) Y Y Y Y fun h => Zj (ow Y h) Y Y Y ZeT<|ZcU<|ZeM (o := 0) (o' := ((Int.toNat 2) * 1)) (X1 arL)<|Ze5<|gdT h_x6 h)<|bE h fun x7 h_x7 h=>Rq Y (.guarded ((((((!decide (y.2 = 0)) || (!decide ((x.length : Int) = 58))) || (!decide ((x2.length : Int) = 58))) || (!decide ((x3.length : Int) = 58))) || (!decide (x5 = 28))) == false) Y Y Y Y fun h => Zw (ow Y h) (ov Y) ZaE<|gdT h_x7 h)<|Rq Y (.guarded ((((((!decide (y.2 = 0)) || (!decide ((x.length : Int) = 58))) || (!decide ((x2.length : Int) = 58))) || (!decide ((x3.length : Int) = 58))) || (!decide (x5 = 28))) == false) Y Y Y Y fun h => Zb (ow Y h) tS3 Y)<|Rq Y (.guarded ((((((!decide (y.2 = 0)) || (!decide ((x.length : Int) = 58))) || (!decide ((x2.length : Int) = 58))) || (!decide ((x3.length : Int) = 58))) || (!decide (x5 = 28))) == false) Y Y Y Y fun h => Qd (ow Y h)<|ov Y)<|Rq Y (QZ (ov Y) fun hp=>ow Y<|gF hp)<|Rm Y<|bE h fun x8 h_x8 h=>Rq Y (.guarded (((((((!decide (y.2 = 0)) || (!decide ((x.length : Int) = 58))) || (!decide ((x2.length : Int) = 58))) || (!decide ((x3.length : Int) = 58))) || (!decide (x5 = 28))) || (!decide (x7 = 12))) == false) Y Y Y Y fun h => Zb6 (ov Y) (ov Y) ZeZ Y Y<|gdT h_x8 h)<|Rq Y (.guarded (((((((!decide (y.2 = 0)) || (!decide ((x.length : Int) = 58))) || (!decide ((x2.length : Int) = 58))) || (!decide ((x3.length : Int) = 58))) || (!decide (x5 = 28))) || (!decide (x7 = 12))) == false) Y Y Y Y fun h => Zj (ow Y h) Y Y Y ZeT<|ZcU<|ZeM (o := 0) (o' := ((Int.toNat 10) * 1)) (X1 arL)<|Ze5<|gdT h_x8 h)<|bE h fun x9 h_x9 h=>Rq Y (.guarded (((((((!decide (y.2 = 0)) || (!decide ((x.length : Int) = 58))) || (!decide ((x2.length : Int) = 58))) || (!decide ((x3.length : Int) = 58))) || (!decide (x5 = 28))) || (!decide (x7 = 12))) == false) Y Y Y Y fun h => Zw (ow Y h) (ov Y) ZaE<|gdT h_x9 h)<|Rq Y (.guarded (((((((!decide (y.2 = 0)) || (!decide ((x.length : Int) = 58))) || (!decide ((x2.length : Int) = 58))) || (!decide ((x3.length : Int) = 58))) || (!decide (x5 = 28))) || (!decide (x7 = 12))) == false) Y Y Y Y fun h => Zb (ow Y h) tS3 Y)<|Rq Y (.guarded (((((((!decide (y.2 = 0)) || (!decide ((x.length : Int) = 58))) || (!decide ((x2.length : Int) = 58))) || (!decide ((x3.length : Int) = 58))) || (!decide (x5 = 28))) || (!decide (x7 = 12))) == false) Y Y Y Y fun h => Qd (ow Y h)<|ov Y)<|Rq Y (QZ (ov Y) fun hp=>ow Y<|gF hp)<|Rm Y<|bE h fun x10 h_x10 h=>Rq Y (.guarded ((((((((!decide (y.2 = 0)) || (!decide ((x.length : Int) = 58))) || (!decide ((x2.length : Int) = 58))) || (!decide ((x3.length : Int) = 58))) || (!decide (x5 = 28))) || (!decide (x7 = 12))) || (!decide (x9 = 0))) == false) Y Y Y Y fun h => Zb6 (ov Y) (ov Y) ZeZ Y Y<|gdT h_x10 h)<|Rq Y (.guarded ((((((((!decide (y.2 = 0)) || (!decide ((x.length : Int) = 58))) || (!decide ((x2.length : Int) = 58))) || (!decide ((x3.length : Int) = 58))) || (!decide (x5 = 28))) || (!decide (x7 = 12))) || (!decide (x9 = 0))) == false) Y Y Y Y fun h => Zj (ow Y h) Y Y Y ZeT<|ZcU<|ZeM (o := 0) (o' := ((Int.toNat 10) * 1)) (X1 arL)<|Ze5<|gdT h_x10 h)<|bE h fun x11 h_x11 h=>Rq Y (.guarded ((((((((!decide (y.2 = 0)) || (!decide ((x.length : Int) = 58))) || (!decide ((x2.length : Int) = 58))) || (!decide ((x3.length : Int) = 58))) || (!decide (x5 = 28))) || (!decide (x7 = 12))) || (!decide (x9 = 0))) == false) Y Y Y Y fun h => Zw (ow Y h) (ov Y) ZaE<|gdT h_x11 h)<|Rq Y (.guarded ((((((((!decide (y.2 = 0)) || (!decide ((x.length : Int) = 58))) || (!decide ((x2.length : Int) = 58))) || (!decide ((x3.length : Int) = 58))) || (!decide (x5 = 28))) || (!decide (x7 = 12))) || (!decide (x9 = 0))) == false) Y Y Y Y fun h => Zb (ow Y h) tS3 Y)<|Rq Y (.guarded ((((((((!decide (y.2 = 0)) || (!decide ((x.length : Int) = 58))) || (!decide ((x2.length : Int) = 58))) || (!decide ((x3.length : Int) = 58))) || (!decide (x5 = 28))) || (!decide (x7 = 12))) || (!decide (x9 = 0))) == false) Y Y Y Y fun h => Qd (ow Y h)<|ov Y)<|Rq Y (QZ (ov Y) fun hp=>ow Y<|gF hp)<|Rm Y<|bE h fun x12 h_x12 h=>Rq Y (.guarded (((((((((!decide (y.2 = 0)) || (!decide ((x.length : Int) = 58))) || (!decide ((x2.length : Int) = 58))) || (!decide ((x3.length : Int) = 58))) || (!decide (x5 = 28))) || (!decide (x7 = 12))) || (!decide (x9 = 0))) || (!decide (x11 = 16))) == false) Y Y Y Y fun h => Zb6 (ov Y) (ov Y) ZeZ Y Y<|gdT h_x12 h)<|Rq Y (.guarded (((((((((!decide (y.2 = 0)) || (!decide ((x.length : Int) = 58))) || (!decide ((x2.length : Int) = 58))) || (!decide ((x3.length : Int) = 58))) || (!decide (x5 = 28))) || (!decide (x7 = 12))) || (!decide (x9 = 0))) || (!decide (x11 = 16))) == false) Y Y Y Y fun h => Zj (ow Y h) Y Y Y ZeT<|ZcU<|ZeM (o := 0) (o' := ((Int.toNat 5) * 1)) (X1 arL)<|Ze5<|gdT h_x12 h)<|bE h fun x13 h_x13 h=>Rq Y (.guarded (((((((((!decide (y.2 = 0)) || (!decide ((x.length : Int) = 58))) || (!decide ((x2.length : Int) = 58))) || (!decide ((x3.length : Int) = 58))) || (!decide (x5 = 28))) || (!decide (x7 = 12))) || (!decide (x9 = 0))) || (!decide (x11 = 16))) == false) Y Y Y Y fun h => Zw (ow Y h) (ov Y) ZaE<|gdT h_x13 h)<|Rq Y (.guarded (((((((((!decide (y.2 = 0)) || (!decide ((x.length : Int) = 58))) || (!decide ((x2.length : Int) = 58))) || (!decide ((x3.length : Int) = 58))) || (!decide (x5 = 28))) || (!decide (x7 = 12))) || (!decide (x9 = 0))) || (!decide (x11 = 16))) == false) Y Y Y Y fun h => Zb (ow Y h) tS3 Y)<|Rq Y (.guarded (((((((((!decide (y.2 = 0)) || (!decide ((x.length : Int) = 58))) || (!decide ((x2.length : Int) = 58))) || (!decide ((x3.length : Int) = 58))) || (!decide (x5 = 28))) || (!decide (x7 = 12))) || (!decide (x9 = 0))) || (!decide (x11 = 16))) == false) Y Y Y Y fun h => Qd (ow Y h)<|ov Y)<|Rq Y (QZ (ov Y) fun hp=>ow Y<|gF hp)<|Za<|K3 1 2 70 Y<|If h Y (fun h=>?_) fun h=>?_
 ·
  refine K0<|Tr<|Ra Y<|Za<|?_
  obtain rfl := rt h
  exact Zk (Zq Y (.one<|rb Y))
 ·
  refine Zd<|K2 1 2 Y<|Tr<|Rq Y (Z0 (ov Y) Y Y Y ZbE Y Y)<|Rq Y (Z0 (ov Y) Y Y Y ZdJ (Zep<|X1 arL) arL (hns := (nsM fun _ => Y)))<|bE h fun y2 h_y2 h=>Rq Y (Zp (Zfj h_y2)<|.cons (ov Y) (.aggB Y)<|.cons (ov Y) (.aggB<|arD fun _ => Y) .nil)<|Rm Y<|Rq Y (ZM (ov Y) Y)<|Rq Y (ZM (ov Y) Y)<|Ra Y<|Ra Y<|Za<|K2 3 4 Y<|Tr<|Rm Y<|R2 QQ Y<|Rm Y<|Rq Y (.guarded ((decide (y2.2 = 0)) == true) Y Y Y Y fun h => Zm<|ov Y)<|Rq Y (.guarded ((decide (y2.2 = 0)) == true) Y Y Y Y fun h => Zeb (Xk (ow Y h) tZ_60) ZkM<|Zbp _ _)<|Rq Y (.guarded ((decide (y2.2 = 0)) == true) Y Y Y Y fun h => QQ (ow Y h)<|ov Y)<|Rq Y (XF (ov Y) fun hp=>ow Y<|gT hp)<|Rm Y<|Rq Y (.guarded (((decide (y2.2 = 0)) && (decide ((y2.1.length : Int) = 4))) == true) Y Y Y Y fun h => Zm<|ov Y)<|bE h fun x14 h_x14 h=>Rq Y (.guarded (((decide (y2.2 = 0)) && (decide ((y2.1.length : Int) = 4))) == true) Y Y Y Y fun h => Zw (ow Y h) (ov Y) ZkM<|gdT h_x14 h)<|Rq Y (.guarded (((decide (y2.2 = 0)) && (decide ((y2.1.length : Int) = 4))) == true) Y Y Y Y fun h => Zg (ow Y h) Zmi Y Y)<|Rq Y (.guarded (((decide (y2.2 = 0)) && (decide ((y2.1.length : Int) = 4))) == true) Y Y Y Y fun h => Q3 (ys := [_, _, _, _]) ZkS ZkV ZlQ (.cons (cvs (ov Y)<|Zn Y)<|.cons (cvs (ov Y)<|Zn Y)<|.cons (cvs (ov Y)<|Zn Y) .nil) Y)<|Rq Y (.guarded (((decide (y2.2 = 0)) && (decide ((y2.1.length : Int) = 4))) == true) Y Y Y Y fun h => Zlb ZlN (ow Y h) (ow Y h) (.aggB Y) (.aggB Y) Y Y)<|Rq Y (XF (ov Y) fun hp=>ow Y<|gT hp)<|Ra Y<|Za<|?_
  obtain rfl := rt h
  exact Zk (Zq Y (.one<|rb Y))
theorem ZeL {a : api_Param} {b : api_Param} {r : Bool} (h : JC a b = some r) :
 CSpec Try.prog gl0 8 [.agg [.str a.Name, .int .i64 a.Kind, .sl 49 (List.map R49 a.Parts), .int .i64 a.First, .int .i64 a.Every, .int .i64 a.Times, .int .i64 a.Step, .sl 9 (List.map R9 a.Names)], .agg [.str b.Name, .int .i64 b.Kind, .sl 49 (List.map R49 b.Parts), .int .i64 b.First, .int .i64 b.Every, .int .i64 b.Times, .int .i64 b.Step, .sl 9 (List.map R9 b.Names)]] (.bool r) := by
 unfold JC at h
 replace h := Qh h
 refine So Try.func8 Y fun w0 A=>Tr<|Rq Y (Z3 (cva<|ov Y) Y tZ_36 Y)<|Rq Y (Z3 (cva<|ov Y) Y tZ_36 Y)<|Ra Y<|Za<|K3 2 3 4 Y<|Tr<|Rq Y (Zc (ov Y) Xx)<|Rq Y (Zb (ov Y) tS9 Y)<|Rq Y (Zc (ov Y) Xx)<|Rq Y (Zb (ov Y) tS9 Y)<|R2 Zb5 Y<|Rm Y<|Rq Y (.guarded ((decide (a.Name = b.Name)) == true) Y Y Y Y fun h => Zc (ov Y) Jc)<|Rq Y (.guarded ((decide (a.Name = b.Name)) == true) Y Y Y Y fun h => Zb (ow Y h) tS3 Y)<|Rq Y (.guarded ((decide (a.Name = b.Name)) == true) Y Y Y Y fun h => Zc (ov Y) Jc)<|Rq Y (.guarded ((decide (a.Name = b.Name)) == true) Y Y Y Y fun h => Zb (ow Y h) tS3 Y)<|Rq Y (.guarded ((decide (a.Name = b.Name)) == true) Y Y Y Y fun h => QQ (ow Y h)<|ow Y h)<|Rq Y (XF (ov Y) fun hp=>ow Y<|gT hp)<|Rm Y<|Rq Y (.guarded (((decide (a.Name = b.Name)) && (decide (a.Kind = b.Kind))) == true) Y Y Y Y fun h => Zc (ov Y) XQ)<|Rq Y (.guarded (((decide (a.Name = b.Name)) && (decide (a.Kind = b.Kind))) == true) Y Y Y Y fun h => Zb (ow Y h) ZcE Y)<|Rq Y (.guarded (((decide (a.Name = b.Name)) && (decide (a.Kind = b.Kind))) == true) Y Y Y Y fun h => Zc (ov Y) XQ)<|Rq Y (.guarded (((decide (a.Name = b.Name)) && (decide (a.Kind = b.Kind))) == true) Y Y Y Y fun h => Zb (ow Y h) ZcE Y)<|bE h fun y h_y h=>Rq Y (.guarded (((decide (a.Name = b.Name)) && (decide (a.Kind = b.Kind))) == true) Y Y Y Y fun h => Zp (Xv<|gdT h_y h)<|.cons (ow Y h) (.b Y)<|.cons (ow Y h) (.b Y) .nil)<|Rq Y (XF (ov Y) fun hp=>ow Y<|gT hp)<|Rm Y<|Rq Y (.guarded ((((decide (a.Name = b.Name)) && (decide (a.Kind = b.Kind))) && y) == true) Y Y Y Y fun h => Zc (ov Y) Zcl)<|Rq Y (.guarded ((((decide (a.Name = b.Name)) && (decide (a.Kind = b.Kind))) && y) == true) Y Y Y Y fun h => Zb (ow Y h) tS3 Y)<|Rq Y (.guarded ((((decide (a.Name = b.Name)) && (decide (a.Kind = b.Kind))) && y) == true) Y Y Y Y fun h => Zc (ov Y) Zcl)<|Rq Y (.guarded ((((decide (a.Name = b.Name)) && (decide (a.Kind = b.Kind))) && y) == true) Y Y Y Y fun h => Zb (ow Y h) tS3 Y)<|Rq Y (.guarded ((((decide (a.Name = b.Name)) && (decide (a.Kind = b.Kind))) && y) == true) Y Y Y Y fun h => QQ (ow Y h)<|ow Y h)<|Rq Y (XF (ov Y) fun hp=>ow Y<|gT hp)<|Rm Y<|Rq Y (.guarded (((((decide (a.Name = b.Name)) && (decide (a.Kind = b.Kind))) && y) && (decide (a.First = b.First))) == true) Y Y Y Y fun h => Zc (ov Y) ZbH)<|Rq Y (.guarded (((((decide (a.Name = b.Name)) && (decide (a.Kind = b.Kind))) && y) && (decide (a.First = b.First))) == true) Y Y Y Y fun h => Zb (ow Y h) tS3 Y)<|Rq Y (.guarded (((((decide (a.Name = b.Name)) && (decide (a.Kind = b.Kind))) && y) && (decide (a.First = b.First))) == true) Y Y Y Y fun h => Zc (ov Y) ZbH)<|Rq Y (.guarded (((((decide (a.Name = b.Name)) && (decide (a.Kind = b.Kind))) && y) && (decide (a.First = b.First))) == true) Y Y Y Y fun h => Zb (ow Y h) tS3 Y)<|Rq Y (.guarded (((((decide (a.Name = b.Name)) && (decide (a.Kind = b.Kind))) && y) && (decide (a.First = b.First))) == true) Y Y Y Y fun h => QQ (ow Y h)<|ow Y h)<|Rq Y (XF (ov Y) fun hp=>ow Y<|gT hp)<|Rm Y<|Rq Y (.guarded ((((((decide (a.Name = b.Name)) && (decide (a.Kind = b.Kind))) && y) && (decide (a.First = b.First))) && (decide (a.Every = b.Every))) == true) Y Y Y Y fun h => Zc (ov Y) J3)<|Rq Y (.guarded ((((((decide (a.Name = b.Name)) && (decide (a.Kind = b.Kind))) && y) && (decide (a.First = b.First))) && (decide (a.Every = b.Every))) == true) Y Y Y Y fun h => Zb (ow Y h) tS3 Y)<|Rq Y (.guarded ((((((decide (a.Name = b.Name)) && (decide (a.Kind = b.Kind))) && y) && (decide (a.First = b.First))) && (decide (a.Every = b.Every))) == true) Y Y Y Y fun h => Zc (ov Y) J3)<|Rq Y (.guarded ((((((decide (a.Name = b.Name)) && (decide (a.Kind = b.Kind))) && y) && (decide (a.First = b.First))) && (decide (a.Every = b.Every))) == true) Y Y Y Y fun h => Zb (ow Y h) tS3 Y)<|Rq Y (.guarded ((((((decide (a.Name = b.Name)) && (decide (a.Kind = b.Kind))) && y) && (decide (a.First = b.First))) && (decide (a.Every = b.Every))) == true) Y Y Y Y fun h => QQ (ow Y h)<|ow Y h)<|Rq Y (XF (ov Y) fun hp=>ow Y<|gT hp)<|Rm Y<|Rq Y (.guarded (((((((decide (a.Name = b.Name)) && (decide (a.Kind = b.Kind))) && y) && (decide (a.First = b.First))) && (decide (a.Every = b.Every))) && (decide (a.Times = b.Times))) == true) Y Y Y Y fun h => Zc (ov Y) Zaa)<|Rq Y (.guarded (((((((decide (a.Name = b.Name)) && (decide (a.Kind = b.Kind))) && y) && (decide (a.First = b.First))) && (decide (a.Every = b.Every))) && (decide (a.Times = b.Times))) == true) Y Y Y Y fun h => Zb (ow Y h) tS3 Y)<|Rq Y (.guarded (((((((decide (a.Name = b.Name)) && (decide (a.Kind = b.Kind))) && y) && (decide (a.First = b.First))) && (decide (a.Every = b.Every))) && (decide (a.Times = b.Times))) == true) Y Y Y Y fun h => Zc (ov Y) Zaa)<|Rq Y (.guarded (((((((decide (a.Name = b.Name)) && (decide (a.Kind = b.Kind))) && y) && (decide (a.First = b.First))) && (decide (a.Every = b.Every))) && (decide (a.Times = b.Times))) == true) Y Y Y Y fun h => Zb (ow Y h) tS3 Y)<|Rq Y (.guarded (((((((decide (a.Name = b.Name)) && (decide (a.Kind = b.Kind))) && y) && (decide (a.First = b.First))) && (decide (a.Every = b.Every))) && (decide (a.Times = b.Times))) == true) Y Y Y Y fun h => QQ (ow Y h)<|ow Y h)<|Rq Y (XF (ov Y) fun hp=>ow Y<|gT hp)<|Rm Y<|Rq Y (.guarded ((((((((decide (a.Name = b.Name)) && (decide (a.Kind = b.Kind))) && y) && (decide (a.First = b.First))) && (decide (a.Every = b.Every))) && (decide (a.Times = b.Times))) && (decide (a.Step = b.Step))) == true) Y Y Y Y fun h => Zc (ov Y) X3)<|Rq Y (.guarded ((((((((decide (a.Name = b.Name)) && (decide (a.Kind = b.Kind))) && y) && (decide (a.First = b.First))) && (decide (a.Every = b.Every))) && (decide (a.Times = b.Times))) && (decide (a.Step = b.Step))) == true) Y Y Y Y fun h => Zb (ow Y h) Zc1 Y)<|Rq Y (.guarded ((((((((decide (a.Name = b.Name)) && (decide (a.Kind = b.Kind))) && y) && (decide (a.First = b.First))) && (decide (a.Every = b.Every))) && (decide (a.Times = b.Times))) && (decide (a.Step = b.Step))) == true) Y Y Y Y fun h => Zc (ov Y) X3)<|Rq Y (.guarded ((((((((decide (a.Name = b.Name)) && (decide (a.Kind = b.Kind))) && y) && (decide (a.First = b.First))) && (decide (a.Every = b.Every))) && (decide (a.Times = b.Times))) && (decide (a.Step = b.Step))) == true) Y Y Y Y fun h => Zb (ow Y h) Zc1 Y)<|bE h fun y2 h_y2 h=>Rq Y (.guarded ((((((((decide (a.Name = b.Name)) && (decide (a.Kind = b.Kind))) && y) && (decide (a.First = b.First))) && (decide (a.Every = b.Every))) && (decide (a.Times = b.Times))) && (decide (a.Step = b.Step))) == true) Y Y Y Y fun h => Zp (XX<|gdT h_y2 h)<|.cons (ow Y h) (.b Y)<|.cons (ow Y h) (.b Y) .nil)<|Rq Y (XF (ov Y) fun hp=>ow Y<|gT hp)<|Ra Y<|Za<|?_
 obtain rfl := rt h
 exact Zk (Zq Y (.one<|rb Y))
theorem Zby {a : api_Map} {b : api_Map} {r : Bool} (h : QD a b = some r) :
 CSpec Try.prog gl0 3 [.agg [.int .i64 a.Version, .sl 36 (List.map R36 a.Params)], .agg [.int .i64 b.Version, .sl 36 (List.map R36 b.Params)]] (.bool r) := by
 unfold QD at h
 replace h := Qh h
 refine So Try.func3 Y fun w0 A=>Tr<|Rq Y (Z3 (cva<|ov Y) Y tZ_24 Y)<|Rq Y (Z3 (cva<|ov Y) Y tZ_24 Y)<|Ra Y<|Za<|K2 2 3 Y<|Tr<|Rq Y (Zg (ov Y) ZbE Y Y)<|Rq Y (Zg (ov Y) ZbE Y Y)<|bE h fun y h_y h=>Rq Y (Zp (Zgk h_y)<|.cons (ov Y) (.aggB Y)<|.cons (ov Y) (.aggB Y) .nil)<|Rm Y<|Rq Y (ZM (ov Y) Y)<|Rq Y (ZM (ov Y) Y)<|Ra Y<|Ra Y<|Za<|K4 2 3 5 6 Y<|Tr<|Rq Y (Zg (ov Y) ZbE Y Y)<|Rq Y (Zg (ov Y) ZbE Y Y)<|bE h fun y2 h_y2 h=>Rq Y (Zp (Zhk h_y2)<|.cons (ov Y) (.aggB Y)<|.cons (ov Y) (.aggB Y) .nil)<|Rm Y<|Rq Y (ZM (ov Y) Y)<|Rq Y (ZM (ov Y) Y)<|Ra Y<|Ra Y<|Za<|Zh<|K6 2 3 5 6 7 8 Y<|Tr<|Rm Y<|Rm Y<|R2 Qd Y<|Rm Y<|Rq Y (.guarded ((!decide (y.2 = y2.2)) == false) Y Y Y Y fun h => Zm<|ov Y)<|Rq Y (.guarded ((!decide (y.2 = y2.2)) == false) Y Y Y Y fun h => Zm<|ov Y)<|bE h fun y3 h_y3 h=>Rq Y (.guarded ((!decide (y.2 = y2.2)) == false) Y Y Y Y fun h => Zp (XV<|gdT h_y3 h)<|.cons (ow Y h) (.b Y)<|.cons (ow Y h) (.b Y) .nil)<|Rq Y (.guarded ((!decide (y.2 = y2.2)) == false) Y Y Y Y fun h => Xb<|ow Y h)<|Rq Y (QZ (ov Y) fun hp=>ow Y<|gF hp)<|Za<|K5 2 3 5 6 35 Y<|If h Y (fun h=>?_) fun h=>?_
 ·
  refine K0<|Tr<|Ra Y<|Za<|?_
  obtain rfl := rt h
  exact Zk (Zq Y (.one<|rb Y))
 ·
  refine Zd<|Zh<|K4 2 3 5 6 Y<|Tr<|Rm Y<|R2 Qd Y<|Za<|K4 2 3 5 37 Y<|If h Y (fun h=>?_) fun h=>?_
  ·
   refine K0<|Tr<|bE h fun y4 h_y4 h=>Rq Y (Zp (Zdv h_y4) .nil)<|Ra Y<|Za<|?_
   obtain rfl := rt h
   exact Zk (Zq Y (.one<|rb Y))
  ·
   refine Zd<|K3 2 3 5 Y<|Tr<|Rq Y (Zc (ov Y) Q1)<|Rq Y (Zb (ov Y) Zbv Y)<|Rl tZ_36 Xy Y<|Rq Y (Zc (ov Y) Q1)<|Rq Y (Zb (ov Y) Zbv Y)<|Rl tZ_36 Xy Y<|R2 QQ Y<|Ra Y<|Za<|I1 (fun same=>⟨[(5, .sl 31 (List.map R31 y.1)), (9, .bool same)], []⟩) h (fun h=>?_) fun same h=>?_
   ·
    refine K4 2 3 5 9 Y<|Tr<|Rq Y (Zc (ov Y) Q1)<|Rq Y (Zb (ov Y) Zbv Y)<|Rl tZ_36 Xy Y<|Rm Y<|Za<|Ze<|?_
    obtain ⟨r1, hl1, ho1⟩ := Qu h
    refine L2 (fun same2 i=>⟨[(3, .rp [.int .i64 b.Version, .sl 36 (List.map R36 b.Params)] 0), (5, .sl 31 (List.map R31 y.1)), (9, .bool same2), (47, .sl 36 (List.map R36 a.Params)), (48, .int .i64 (a.Params.length : Int)), (49, .int .i64 i)], []⟩) hl1 (ES []) fun n1 same2 i h=>?_
    unfold ZN at h
    refine Tr<|R2 ZH Y<|Za<|Zh<|If h Y (fun h=>?_) fun h=>?_
    ·
     refine Zd<|Zh<|Ze<|K6 3 5 9 47 48 49 Y<|Tr<|bE h fun x h_x h=>Rq Y (Zw (ov Y) (ov Y) Xy h_x)<|Rq Y (Zg (ov Y) Qi Y Y)<|Rx Y (Zr (row := [_, _, _, _, _, _, _, _]) 0 Y Zcu Y tZ_36)<|Rx Y (Zo (ov Y) (ov Y) (Zl Qi Y) Y Y Y (Nat.le_of_ble_eq_true Y) (Zf Y) Y)<|Za<|K7 3 5 9 11 47 48 49 Y<|Tr<|Ra Y<|Za<|I1 (fun found=>⟨[(3, .rp [.int .i64 b.Version, .sl 36 (List.map R36 b.Params)] 0), (5, .sl 31 (List.map R31 y.1)), (9, .bool same2), (12, .bool found), (47, .sl 36 (List.map R36 a.Params)), (48, .int .i64 (a.Params.length : Int)), (49, .int .i64 i)], []⟩) h (fun h=>?_) fun found h=>?_
     ·
      refine Tr<|Rq Y (Zc (ov Y) Q1)<|Rq Y (Zb (ov Y) Zbv Y)<|Rl tZ_36 Xy Y<|Rm Y<|Za<|Ze<|?_
      obtain ⟨r2, hl2, ho2⟩ := Qu h
      refine L2 (fun found2 i2=>⟨[(3, .rp [.int .i64 b.Version, .sl 36 (List.map R36 b.Params)] 0), (5, .sl 31 (List.map R31 y.1)), (9, .bool same2), (11, .ptr 0 1 0 0), (12, .bool found2), (47, .sl 36 (List.map R36 a.Params)), (48, .int .i64 (a.Params.length : Int)), (49, .int .i64 i), (54, .sl 36 (List.map R36 b.Params)), (55, .int .i64 (b.Params.length : Int)), (56, .int .i64 i2)], [some ⟨36, [[.str x.Name, .int .i64 x.Kind, .sl 49 (List.map R49 x.Parts), .int .i64 x.First, .int .i64 x.Every, .int .i64 x.Times, .int .i64 x.Step, .sl 9 (List.map R9 x.Names)]]⟩]⟩) hl2 (ES [some 0]) fun n2 found2 i2 h=>?_
      unfold ZO at h
      refine Tr<|R2 ZH Y<|Za<|Zh<|If h Y (fun h=>?_) fun h=>?_
      ·
       exact Zd<|Zh<|Ze<|K11 3 5 9 11 12 47 48 49 54 55 56 Y<|Tr<|bE h fun x2 h_x2 h=>Rq Y (Zw (ov Y) (ov Y) Xy h_x2)<|Rq Y (Zg (ov Y) Qi Y Y)<|Rx Y (Zr (row := [_, _, _, _, _, _, _, _]) 1 Y Zcu Y tZ_36)<|Rx Y (Zo (ov Y) (ov Y) (Zl Qi Y) Y Y Y (Nat.le_of_ble_eq_true Y) (Zf Y) Y)<|Za<|K12 3 5 9 11 12 14 47 48 49 54 55 56 Y<|Zs<|Rm Y<|Rm Y<|Rq Y (.guarded (found2 == false) Y Y Y Y fun h => Z0 (ov Y) Y Y Y Qi Y Y)<|Rq Y (.guarded (found2 == false) Y Y Y Y fun h => Z0 (ov Y) Y Y Y Qi Y Y)<|bE h fun y5 h_y5 h=>Rq Y (.guarded (found2 == false) Y Y Y Y fun h => Zp (ZeL<|gdT h_y5 h)<|.cons (ow Y h) (.aggB Y)<|.cons (ow Y h) (.aggB Y) .nil)<|Rq Y (QZ (ov Y) fun hp=>ow Y<|gF hp)<|Ra Y<|Za<|K11 3 5 9 11 12 47 48 49 54 55 56 Y<|Zs<|R2 ZX Y<|Rm Y<|Za<|⟨_, h, ES [some 0]⟩
      ·
       refine Zz<|?_
       replace h := lx h ▸ ho2
       exact ⟨_, h, ES []⟩
     ·
      exact Zs<|Rm Y<|Rm Y<|Rq Y (.guarded (same2 == true) Y Y Y Y fun h => Zm<|ov Y)<|Rq Y (XF (ov Y) fun hp=>ow Y<|gT hp)<|Ra Y<|Za<|K6 3 5 9 47 48 49 Y<|Zs<|R2 ZX Y<|Rm Y<|Za<|⟨_, h, ES []⟩
    ·
     refine Zz<|?_
     replace h := lx h ▸ ho1
     exact ⟨_, h, ES []⟩
   ·
    refine Tr<|Rm Y<|Rm Y<|Rl tZ_31 Zd3 Y<|R2 QQ Y<|Rq Y (Zf4 .eql (by simp) (ov Y) (ov Y) tB4)<|Rm Y<|bE h fun y6 h_y6 h=>Rq Y (.guarded ((same == (decide ((y.1.length : Int) = 0))) == true) Y Y Y Y fun h => Zp (Zdv<|gdT h_y6 h) .nil)<|Rq Y (XF (ov Y) fun hp=>ow Y<|gT hp)<|Ra Y<|Za<|?_
    obtain rfl := rt h
    exact Zk (Zq Y (.one<|rb Y))
end Go.Proofs.Ytagddpmlkcgbaaa
