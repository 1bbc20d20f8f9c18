/- A text of the proof: a verified executor of the program form, or the contracts of the functions that the law reaches. -/
import Derived.Test.YtjjlfkjacmhcmaaOkCb
set_option linter.all false
namespace Go.Proofs.Ytjjlfkjacmhcmaa
open Go Go.Vx
set_option maxRecDepth 10000
set_option maxHeartbeats 1000000
set_option linter.unusedVariables false
theorem Zc8 {v : Int} {r : Int} (h : ZaT v = some r) :
 CSpec Try.prog gl0 66 [.int .i64 v] (.int .i64 r) := by
 unfold ZaT at h
 replace h := Qh h
 refine So Try.func66 Y fun w0 A=>Tr<|Ra Y<|Za<|Tr<|Rm Y<|Ra Y<|Za<|?_
 obtain rfl := rt h
 exact Zi (Zs Y (.one<|rb Y))
theorem ZcV {raw : Int} {c0 : Int} {r : Int × Bool} (h : J2 raw c0 = some r) :
 CSpec Try.prog gl0 68 [.int .i64 raw, .rp [.int .i64 c0] 0] (.tuple [.int .i64 r.1, .bool r.2]) := by
 unfold J2 at h
 replace h := Qh h
 refine So Try.func68 Y fun w0 A=>Tr<|Ra Y<|Ra Y<|Za<|Td md0<|D1 0 Zv Y<|D1 1 Zv Y<|Dq 2 Y (Zb (ov Y) tS3 Y)<|D2 3 Zgx Y<|D1 4 Jk Y<|D1 5 Jk Y<|Dd<|?_
 obtain rfl := rt h
 exact Zi (Zs Y (.two (rb Y)<|rb Y))
theorem JA {high : Int} {r : layout_number} (h : Qp high = some r) :
 CSpec Try.prog gl0 67 [.int .i64 high, .rp [.fn 66 []] 0] (.agg [.int .i64 r.low, .int .i64 r.high, .fn r.encode.f r.encode.c, .fn r.decode.f r.decode.c]) := by
 unfold Qp at h
 replace h := Qh h
 refine So Try.func67 Y fun w0 A=>Tr<|Rq Y (Z9 (cvs (ov Y)<|Zq Y) Y tZ_3 Y)<|Rx Y (Zr (row := [_, _, _, _]) 0 Y Zff Y tZ_90)<|Za<|K3 1 2 3 Y<|Tr<|Rq Y (Zb (ov Y) tS3 Y)<|Rq Y (Zb (ov Y) Zlt Y)<|Rq Y (QK<|.cons (ov Y) .nil)<|Rq Y (Jv (ys := [_, _, _, _]) ZiO ZiC Zff (.cons (cvs (ov Y)<|Zq Y)<|.cons (cvs (ov Y)<|Zq Y)<|.cons (cvs (ov Y)<|Zq Y)<|.cons (cvs (ov Y)<|Zq Y) .nil) Y)<|Rx Y (Zk (ov Y) (ov Y) (Zj Zbh Y) Y Y Y (Nat.le_of_ble_eq_true Y) (Zd Y) Y)<|Za<|?_
 obtain rfl := rt h
 exact Zi (Zs Y (.one<|.agg Y Y Y Y Zbh Y Y<|.cons (Dat.view<|.b Y)<|.cons (Dat.view<|.b Y)<|.cons (Dat.view .fn)<|.cons (Dat.view<|.fnC<|.cons (.b Y) .nil) .nil))
theorem ZB {high : Int} {r : layout_number} (h : Qp high = some r) : ZbG r.encode ∧ ZbF r.decode := by
  have key : Zc9 (fun r => ZbG r.encode ∧ ZbF r.decode) (Qp high) := by
    unfold Qp
    repeat' (first | exact ZbO | with_reducible refine ZdJ ?_ ?_ | with_reducible refine Zca fun _ _ => ?_ | with_reducible refine ZfE ?_)
    all_goals first | exact JN ⟨⟨rfl, fun z0 _ hz => Zc8 hz⟩, ⟨rfl, fun z0 _ hz => ZcV hz⟩⟩
  exact key r h
theorem Zdv {c1 : Int} {r : layout_number} (h : Q8 c1 = some r) :
 CSpec Try.prog gl0 69 [.rp [.fn 67 [.rp [.fn 66 []] 0]] 0, .rp [.int .i64 c1] 0] (.agg [.int .i64 r.low, .int .i64 r.high, .fn r.encode.f r.encode.c, .fn r.decode.f r.decode.c]) := by
 unfold Q8 at h
 replace h := Qh h
 refine So Try.func69 Y fun w0 A=>Tr<|Rx Y (Zr (row := [_, _, _, _]) 0 Y Zff Y tZ_90)<|Za<|Tr<|Rq Y (Zb (ov Y) Ziz Y)<|Rq Y (Zb (ov Y) tS3 Y)<|R2 ZhR Y<|R2 ZcG Y<|bE h fun y h_y h=>Rq Y (X7 (ov Y) Y (JA h_y)<|.cons (ov Y) (.b Y) .nil)<|Rx Y (Zk (ov Y) (ov Y) (Zj Zbh Y) Y Y Y (Nat.le_of_ble_eq_true Y) (Zd Y) Y)<|Za<|?_
 obtain rfl := rt h
 exact Zi (Zs Y (.one<|.agg Y Y Y Y Zbh Y Y<|.cons (Dat.view<|.b Y)<|.cons (Dat.view<|.b Y)<|.cons (Dat.view<|Dat.fnC<|.refl fun x hx => .b<|List.all_eq_true.1 (((ZB h_y).1)).1 x hx)<|.cons (Dat.view<|Dat.fnC<|.refl fun x hx => .b<|List.all_eq_true.1 (((ZB h_y).2)).1 x hx) .nil))
theorem Xt {c1 : Int} {r : layout_number} (h : Q8 c1 = some r) : ZbG r.encode ∧ ZbF r.decode := by
  have key : Zc9 (fun r => ZbG r.encode ∧ ZbF r.decode) (Q8 c1) := by
    unfold Q8
    repeat' (first | exact ZbO | with_reducible refine ZdJ ?_ ?_ | with_reducible refine Zca fun _ _ => ?_ | with_reducible refine ZfE ?_)
    all_goals first | exact JN ⟨((ZB (by assumption)).1), ((ZB (by assumption)).2)⟩
  exact key r h
theorem Zdd  {r : layout_number} (h : Q4  = some r) :
 CSpec Try.prog gl0 70 [.rp [.fn 67 [.rp [.fn 66 []] 0]] 0] (.agg [.int .i64 r.low, .int .i64 r.high, .fn r.encode.f r.encode.c, .fn r.decode.f r.decode.c]) := by
 unfold Q4 at h
 replace h := Qh h
 refine So Try.func70 Y fun w0 A=>Tr<|Rx Y (Zr (row := [_, _, _, _]) 0 Y Zff Y tZ_90)<|Za<|Tr<|Rq Y (Zb (ov Y) Ziz Y)<|bE h fun y h_y h=>Rq Y (X7 (ov Y) Y (JA h_y)<|.cons (ov Y) (.b Y) .nil)<|Rx Y (Zk (ov Y) (ov Y) (Zj Zbh Y) Y Y Y (Nat.le_of_ble_eq_true Y) (Zd Y) Y)<|Za<|?_
 obtain rfl := rt h
 exact Zi (Zs Y (.one<|.agg Y Y Y Y Zbh Y Y<|.cons (Dat.view<|.b Y)<|.cons (Dat.view<|.b Y)<|.cons (Dat.view<|Dat.fnC<|.refl fun x hx => .b<|List.all_eq_true.1 (((ZB h_y).1)).1 x hx)<|.cons (Dat.view<|Dat.fnC<|.refl fun x hx => .b<|List.all_eq_true.1 (((ZB h_y).2)).1 x hx) .nil))
theorem Xs  {r : layout_number} (h : Q4  = some r) : ZbG r.encode ∧ ZbF r.decode := by
  have key : Zc9 (fun r => ZbG r.encode ∧ ZbF r.decode) (Q4 ) := by
    unfold Q4
    repeat' (first | exact ZbO | with_reducible refine ZdJ ?_ ?_ | with_reducible refine Zca fun _ _ => ?_ | with_reducible refine ZfE ?_)
    all_goals first | exact JN ⟨((ZB (by assumption)).1), ((ZB (by assumption)).2)⟩
  exact key r h
theorem Zdq {c1 : api_Param} {r : layout_number} (h : Q6 c1 = some r) :
 CSpec Try.prog gl0 71 [.rp [.fn 67 [.rp [.fn 66 []] 0]] 0, .rp [.str c1.Name, .int .i64 c1.Kind, .sl 64 (List.map R64 c1.Parts), .int .i64 c1.First, .int .i64 c1.Every, .int .i64 c1.Times, .int .i64 c1.Step, .sl 9 (List.map R9 c1.Names)] 0] (.agg [.int .i64 r.low, .int .i64 r.high, .fn r.encode.f r.encode.c, .fn r.decode.f r.decode.c]) := by
 unfold Q6 at h
 replace h := Qh h
 refine So Try.func71 Y fun w0 A=>Tr<|Rx Y (Zr (row := [_, _, _, _]) 0 Y Zff Y tZ_90)<|Za<|Tr<|Rq Y (Zb (ov Y) Ziz Y)<|Rq Y (Zc (ov Y) Za9)<|Rq Y (Zb (ov Y) Zfa Y)<|Rl tZ_9 ZcU Y<|R2 ZcG Y<|bE h fun y h_y h=>Rq Y (X7 (ov Y) Y (JA h_y)<|.cons (ov Y) (.b Y) .nil)<|Rx Y (Zk (ov Y) (ov Y) (Zj Zbh Y) Y Y Y (Nat.le_of_ble_eq_true Y) (Zd Y) Y)<|Za<|?_
 obtain rfl := rt h
 exact Zi (Zs Y (.one<|.agg Y Y Y Y Zbh Y Y<|.cons (Dat.view<|.b Y)<|.cons (Dat.view<|.b Y)<|.cons (Dat.view<|Dat.fnC<|.refl fun x hx => .b<|List.all_eq_true.1 (((ZB h_y).1)).1 x hx)<|.cons (Dat.view<|Dat.fnC<|.refl fun x hx => .b<|List.all_eq_true.1 (((ZB h_y).2)).1 x hx) .nil))
theorem Xp {c1 : api_Param} {r : layout_number} (h : Q6 c1 = some r) : ZbG r.encode ∧ ZbF r.decode := by
  have key : Zc9 (fun r => ZbG r.encode ∧ ZbF r.decode) (Q6 c1) := by
    unfold Q6
    repeat' (first | exact ZbO | with_reducible refine ZdJ ?_ ?_ | with_reducible refine Zca fun _ _ => ?_ | with_reducible refine ZfE ?_)
    all_goals first | exact JN ⟨((ZB (by assumption)).1), ((ZB (by assumption)).2)⟩
  exact key r h
theorem ZcH {v : Int} {c0 : Int} {r : Int} (h : JX v c0 = some r) :
 CSpec Try.prog gl0 73 [.int .i64 v, .rp [.int .i64 c0] 0] (.int .i64 r) := by
 unfold JX at h
 replace h := Qh h
 refine So Try.func73 Y fun w0 A=>Tr<|Ra Y<|Za<|Tr<|Rm Y<|Rq Y (Zb (ov Y) tS3 Y)<|R2 ZhR Y<|R2 ZcG Y<|R2 Zhm Y<|Ra Y<|Za<|?_
 obtain rfl := rt h
 exact Zi (Zs Y (.one<|rb Y))
theorem ZcP {raw : Int} {c0 : Int} {r : Int × Bool} (h : J3 raw c0 = some r) :
 CSpec Try.prog gl0 74 [.int .i64 raw, .rp [.int .i64 c0] 0] (.tuple [.int .i64 r.1, .bool r.2]) := by
 unfold J3 at h
 replace h := Qh h
 refine So Try.func74 Y fun w0 A=>Tr<|Ra Y<|Ra Y<|Za<|Zh<|K2 0 1 Y<|Tr<|Rm Y<|Rq Y (Zb (ov Y) tS3 Y)<|R2 Zb1 Y<|Za<|K3 0 1 7 Y<|If h Y (fun h=>?_) fun h=>?_
 ·
  refine K2 0 1 Y<|ZA<|Rm Y<|Rq Y (Zb (ov Y) tS3 Y)<|R2 ZhR Y<|R2 ZcG Y<|Ra Y<|Za<|K1 0 Y<|Tr<|Rm Y<|Ra Y<|Ra Y<|Za<|?_
  obtain rfl := rt h
  exact Zi (Zs Y (.two (rb Y)<|rb Y))
 ·
  refine Ze<|K1 0 Y<|Tr<|Rm Y<|Ra Y<|Ra Y<|Za<|?_
  obtain rfl := rt h
  exact Zi (Zs Y (.two (rb Y)<|rb Y))
theorem Zdl {c0 : Int} {r : layout_number} (h : Qn c0 = some r) :
 CSpec Try.prog gl0 72 [.rp [.int .i64 c0] 0] (.agg [.int .i64 r.low, .int .i64 r.high, .fn r.encode.f r.encode.c, .fn r.decode.f r.decode.c]) := by
 unfold Qn at h
 replace h := Qh h
 refine So Try.func72 Y fun w0 A=>Tr<|Rx Y (Zr (row := [_, _, _, _]) 0 Y Zff Y tZ_90)<|Za<|Tr<|Rq Y (Zb (ov Y) tS3 Y)<|Rq Y (ZlR (ov Y) Y)<|Rq Y (Zb (ov Y) tS3 Y)<|R2 ZcG Y<|Rq Y (QK<|.cons (ov Y) .nil)<|Rq Y (QK<|.cons (ov Y) .nil)<|Rq Y (Jv (ys := [_, _, _, _]) ZiO ZiC Zff (.cons (cvs (ov Y)<|Zq Y)<|.cons (cvs (ov Y)<|Zq Y)<|.cons (cvs (ov Y)<|Zq Y)<|.cons (cvs (ov Y)<|Zq Y) .nil) Y)<|Rx Y (Zk (ov Y) (ov Y) (Zj Zbh Y) Y Y Y (Nat.le_of_ble_eq_true Y) (Zd Y) Y)<|Za<|?_
 obtain rfl := rt h
 exact Zi (Zs Y (.one<|.agg Y Y Y Y Zbh Y Y<|.cons (Dat.view<|.b Y)<|.cons (Dat.view<|.b Y)<|.cons (Dat.view<|.fnC<|.cons (.b Y) .nil)<|.cons (Dat.view<|.fnC<|.cons (.b Y) .nil) .nil))
theorem Xr {c0 : Int} {r : layout_number} (h : Qn c0 = some r) : ZbG r.encode ∧ ZbF r.decode := by
  have key : Zc9 (fun r => ZbG r.encode ∧ ZbF r.decode) (Qn c0) := by
    unfold Qn
    repeat' (first | exact ZbO | with_reducible refine ZdJ ?_ ?_ | with_reducible refine Zca fun _ _ => ?_ | with_reducible refine ZfE ?_)
    all_goals first | exact JN ⟨⟨rfl, fun z0 _ hz => ZcH hz⟩, ⟨rfl, fun z0 _ hz => ZcP hz⟩⟩
  exact key r h
theorem Zc1 {v : Int} {c0 : Int} {r : Int} (h : J5 v c0 = some r) :
 CSpec Try.prog gl0 76 [.int .i64 v, .rp [.int .i64 c0] 0] (.int .i64 r) := by
 unfold J5 at h
 replace h := Qh h
 refine So Try.func76 Y fun w0 A=>Tr<|Ra Y<|Za<|Zh<|K2 0 1 Y<|Tr<|Rm Y<|R2 ZK Y<|Za<|K3 0 1 5 Y<|If h Y (fun h=>?_) fun h=>?_
 ·
  refine K2 0 1 Y<|Tr<|Rq Y (Zb (ov Y) tS3 Y)<|Rm Y<|R2 ZcG Y<|Ra Y<|Za<|?_
  obtain rfl := rt h
  exact Zi (Zs Y (.one<|rb Y))
 ·
  refine Ze<|K1 0 Y<|Tr<|Rm Y<|Ra Y<|Za<|?_
  obtain rfl := rt h
  exact Zi (Zs Y (.one<|rb Y))
theorem Zc0 {raw : Int} {c0 : Int} {r : Int × Bool} (h : JZ raw c0 = some r) :
 CSpec Try.prog gl0 77 [.int .i64 raw, .rp [.int .i64 c0] 0] (.tuple [.int .i64 r.1, .bool r.2]) := by
 unfold JZ at h
 replace h := Qh h
 refine So Try.func77 Y fun w0 A=>Tr<|Ra Y<|Ra Y<|Za<|Zh<|K2 0 1 Y<|Tr<|Rm Y<|Rq Y (Zb (ov Y) tS3 Y)<|R2 Zb1 Y<|Za<|K3 0 1 7 Y<|If h Y (fun h=>?_) fun h=>?_
 ·
  refine K2 0 1 Y<|Td md0<|Dq 0 Y (Zb (ov Y) tS3 Y)<|D1 1 Zv Y<|D2 2 ZcG Y<|D1 3 Zv Y<|Dq 4 Y (Zb (ov Y) tS3 Y)<|D2 5 Jj Y<|D1 6 Jk Y<|D1 7 Jk Y<|Dd<|?_
  obtain rfl := rt h
  exact Zi (Zs Y (.two (rb Y)<|rb Y))
 ·
  refine Ze<|K1 0 Y<|Tr<|Rm Y<|Ra Y<|Ra Y<|Za<|?_
  obtain rfl := rt h
  exact Zi (Zs Y (.two (rb Y)<|rb Y))
theorem ZdL {c0 : Int} {r : layout_number} (h : Q5 c0 = some r) :
 CSpec Try.prog gl0 75 [.rp [.int .i64 c0] 0] (.agg [.int .i64 r.low, .int .i64 r.high, .fn r.encode.f r.encode.c, .fn r.decode.f r.decode.c]) := by
 unfold Q5 at h
 replace h := Qh h
 refine So Try.func75 Y fun w0 A=>Tr<|Rx Y (Zr (row := [_, _, _, _]) 0 Y Zff Y tZ_90)<|Za<|Tr<|Rq Y (Zb (ov Y) tS3 Y)<|R2 ZcG Y<|Rq Y (Zb (ov Y) tS3 Y)<|R2 ZcG Y<|Rq Y (QK<|.cons (ov Y) .nil)<|Rq Y (QK<|.cons (ov Y) .nil)<|Rq Y (Jv (ys := [_, _, _, _]) ZiO ZiC Zff (.cons (cvs (ov Y)<|Zq Y)<|.cons (cvs (ov Y)<|Zq Y)<|.cons (cvs (ov Y)<|Zq Y)<|.cons (cvs (ov Y)<|Zq Y) .nil) Y)<|Rx Y (Zk (ov Y) (ov Y) (Zj Zbh Y) Y Y Y (Nat.le_of_ble_eq_true Y) (Zd Y) Y)<|Za<|?_
 obtain rfl := rt h
 exact Zi (Zs Y (.one<|.agg Y Y Y Y Zbh Y Y<|.cons (Dat.view<|.b Y)<|.cons (Dat.view<|.b Y)<|.cons (Dat.view<|.fnC<|.cons (.b Y) .nil)<|.cons (Dat.view<|.fnC<|.cons (.b Y) .nil) .nil))
theorem Xo {c0 : Int} {r : layout_number} (h : Q5 c0 = some r) : ZbG r.encode ∧ ZbF r.decode := by
  have key : Zc9 (fun r => ZbG r.encode ∧ ZbF r.decode) (Q5 c0) := by
    unfold Q5
    repeat' (first | exact ZbO | with_reducible refine ZdJ ?_ ?_ | with_reducible refine Zca fun _ _ => ?_ | with_reducible refine ZfE ?_)
    all_goals first | exact JN ⟨⟨rfl, fun z0 _ hz => Zc1 hz⟩, ⟨rfl, fun z0 _ hz => Zc0 hz⟩⟩
  exact key r h
theorem ZcJ {v : Int} {r : Int} (h : J4 v = some r) :
 CSpec Try.prog gl0 79 [.int .i64 v] (.int .i64 r) := by
 unfold J4 at h
 replace h := Qh h
 refine So Try.func79 Y fun w0 A=>Tr<|Ra Y<|Za<|K1 0 Y<|Tr<|Ra Y<|Za<|I1 (fun raw=>⟨[(3, .int .i64 raw)], []⟩) h (fun h=>?_) fun raw h=>?_
 ·
  refine Tr<|Ra Y<|Za<|Zf<|?_
  obtain ⟨r1, hl1, ho1⟩ := QS h
  refine L3 (fun v2 raw2 shift=>⟨[(0, .int .i64 v2), (3, .int .i64 raw2), (4, .int .i64 shift)], []⟩) hl1 (ES []) fun n1 v2 raw2 shift h=>?_
  unfold ZaI at h
  refine Zh<|Tr<|Rm Y<|R2 Jj Y<|Za<|K4 0 3 4 6 Y<|If h Y (fun h=>?_) fun h=>?_
  ·
   exact Ze<|Zh<|Zf<|K3 0 3 4 Y<|Tr<|Rm Y<|Rm Y<|bE h fun q h_q h=>Rq Y (Zim (ov Y) (ov Y) h_q)<|Rm Y<|bE h fun q2 h_q2 h=>Rq Y (Zdx (ov Y) (ov Y) h_q2)<|R2 Zj7 Y<|Ra Y<|Za<|K3 0 3 4 Y<|ZA<|Rm Y<|bE h fun q3 h_q3 h=>Rq Y (Zj5 (ov Y) (ov Y) h_q3)<|Ra Y<|Za<|K3 0 3 4 Y<|ZA<|Rm Y<|R2 Qk Y<|Ra Y<|Za<|⟨_, h, ES []⟩
  ·
   refine ZE<|?_
   replace h := lx h ▸ ho1
   exact ⟨_, h, ES []⟩
 ·
  refine Tr<|Rm Y<|Ra Y<|Za<|?_
  obtain rfl := rt h
  exact Zi (Zs Y (.one<|rb Y))
theorem ZeW {raw : Int} {r : Int × Bool} (h : ZbZ raw = some r) :
 CSpec Try.prog gl0 80 [.int .i64 raw] (.tuple [.int .i64 r.1, .bool r.2]) := by
 unfold ZbZ at h
 replace h := Qh h
 refine So Try.func80 Y fun w0 A=>Tr<|Ra Y<|Ra Y<|Za<|K1 0 Y<|Tr<|Ra Y<|Ra Y<|Za<|I2 (fun v ok=>⟨[(4, .int .i64 v), (5, .bool ok)], []⟩) h (fun h=>?_) fun v ok h=>?_
 ·
  refine Tr<|Ra Y<|Za<|Zf<|?_
  obtain ⟨r1, hl1, ho1⟩ := QS h
  refine L3 (fun v2 ok2 shift=>⟨[(0, .int .i64 raw), (4, .int .i64 v2), (5, .bool ok2), (6, .int .i64 shift)], []⟩) hl1 (ES []) fun n1 v2 ok2 shift h=>?_
  unfold Zcc at h
  refine Zh<|Tr<|Rm Y<|R2 Zb1 Y<|Za<|K5 0 4 5 6 9 Y<|If h Y (fun h=>?_) fun h=>?_
  ·
   exact Ze<|Zh<|Zf<|K4 0 4 5 6 Y<|Tr<|Rm Y<|Rm Y<|bE h fun q h_q h=>Rq Y (Zid (ov Y) (ov Y) h_q)<|R2 Zhm Y<|Ra Y<|Za<|K5 0 4 5 6 7 Y<|ZA<|Rm Y<|R2 ZhR Y<|Rm Y<|R2 Qk Y<|Rm Y<|Rm Y<|Rq Y (.guarded (ok2 == true) Y Y Y Y fun h => Zv<|ov Y)<|Rq Y (.guarded (ok2 == true) Y Y Y Y fun h => ZK (ow Y h)<|ov Y)<|Rq Y (Jc (ov Y) fun hp=>ow Y<|gT hp)<|Ra Y<|Ra Y<|Za<|K4 0 4 5 6 Y<|ZA<|Rm Y<|R2 ZcG Y<|Ra Y<|Za<|⟨_, h, ES []⟩
  ·
   refine ZE<|?_
   replace h := lx h ▸ ho1
   exact ⟨_, h, ES []⟩
 ·
  refine Tr<|Rm Y<|Rm Y<|Ra Y<|Ra Y<|Za<|?_
  obtain rfl := rt h
  exact Zi (Zs Y (.two (rb Y)<|rb Y))
theorem ZdI {c0 : Int} {r : layout_number} (h : Q3 c0 = some r) :
 CSpec Try.prog gl0 78 [.rp [.int .i64 c0] 0] (.agg [.int .i64 r.low, .int .i64 r.high, .fn r.encode.f r.encode.c, .fn r.decode.f r.decode.c]) := by
 unfold Q3 at h
 replace h := Qh h
 refine So Try.func78 Y fun w0 A=>Tr<|Rx Y (Zr (row := [_, _, _, _]) 0 Y Zff Y tZ_90)<|Za<|Tr<|Ra Y<|Za<|I1 (fun high=>⟨[(1, .ptr 0 1 0 0), (2, .int .i64 high)], [some ⟨90, [[.int .i64 0, .int .i64 0, .lit .nilFunc, .lit .nilFunc]]⟩]⟩) h (fun h=>?_) fun high h=>?_
 ·
  refine Tr<|Rq Y (Zb (ov Y) tS3 Y)<|bE h fun q h_q h=>Rq Y (Zj5 (ov Y) (ov Y) h_q)<|Rm Y<|Za<|Zf<|?_
  obtain ⟨r1, hl1, ho1⟩ := QS h
  refine L2 (fun high2 i=>⟨[(1, .ptr 0 1 0 0), (2, .int .i64 high2), (4, .int .i64 q), (5, .int .i64 i)], [some ⟨90, [[.int .i64 0, .int .i64 0, .lit .nilFunc, .lit .nilFunc]]⟩]⟩) hl1 (ES [some 0]) fun n1 high2 i h=>?_
  unfold Zby at h
  refine Tr<|R2 ZK Y<|Za<|Zh<|If h Y (fun h=>?_) fun h=>?_
  ·
   exact Ze<|Zh<|Zf<|K4 1 2 4 5 Y<|ZA<|Rm Y<|R2 ZhR Y<|Ra Y<|Za<|K4 1 2 4 5 Y<|ZA<|R2 Qk Y<|Rm Y<|Za<|⟨_, h, ES [some 0]⟩
  ·
   refine ZE<|?_
   replace h := lx h ▸ ho1
   exact ⟨_, h, ES [some 0]⟩
 ·
  refine Tr<|Rm Y<|R2 ZcG Y<|Rq Y (Jv (ys := [_, _, _, _]) ZiO ZiC Zff (.cons (cvs (ov Y)<|Zq Y)<|.cons (cvs (ov Y)<|Zq Y)<|.cons (cvs (ov Y)<|Zq Y)<|.cons (cvs (ov Y)<|Zq Y) .nil) Y)<|Rx Y (Zk (ov Y) (ov Y) (Zj Zbh Y) Y Y Y (Nat.le_of_ble_eq_true Y) (Zd Y) Y)<|Za<|?_
  obtain rfl := rt h
  exact Zi (Zs Y (.one<|.agg Y Y Y Y Zbh Y Y<|.cons (Dat.view<|.b Y)<|.cons (Dat.view<|.b Y)<|.cons (Dat.view .fn)<|.cons (Dat.view .fn) .nil))
theorem Xq {c0 : Int} {r : layout_number} (h : Q3 c0 = some r) : ZbG r.encode ∧ ZbF r.decode := by
  have key : Zc9 (fun r => ZbG r.encode ∧ ZbF r.decode) (Q3 c0) := by
    unfold Q3
    repeat' (first | exact ZbO | with_reducible refine ZdJ ?_ ?_ | with_reducible refine Zca fun _ _ => ?_ | with_reducible refine ZfE ?_)
    all_goals first | exact JN ⟨⟨rfl, fun z0 _ hz => ZcJ hz⟩, ⟨rfl, fun z0 _ hz => ZeW hz⟩⟩
  exact key r h
theorem Zb5 {p : api_Param} {r : layout_number} (h : Qw p = some r) :
 CSpec Try.prog gl0 47 [.agg [.str p.Name, .int .i64 p.Kind, .sl 64 (List.map R64 p.Parts), .int .i64 p.First, .int .i64 p.Every, .int .i64 p.Times, .int .i64 p.Step, .sl 9 (List.map R9 p.Names)]] (.agg [.int .i64 r.low, .int .i64 r.high, .fn r.encode.f r.encode.c, .fn r.decode.f r.decode.c]) := by
 unfold Qw at h
 replace h := Qh h
 refine So Try.func47 Y fun w0 A=>Tr<|Rq Y (Z9 (cva<|ov Y) Y tZ_44 Y)<|Rx Y (Zr (row := [_, _, _, _]) 0 Y Zff Y tZ_90)<|Za<|K2 1 2 Y<|Tr<|Rq Y (Zg (ov Y) Xy Y Y)<|bE h fun y h_y h=>Rq Y (Zp (JO h_y)<|.cons (ov Y) (.aggB Y) .nil)<|Rx Y (Zr (row := [_]) 1 Y tZ3 Y tZ_3)<|Rx Y (Zk (ov Y) (ov Y) (Qm tS3) Y Y Y (Nat.le_of_ble_eq_true Y) (Zd Y) Y)<|Za<|K3 1 2 3 Y<|Tr<|Rq Y (Zl (ov Y) Y Y Y tS3 Y)<|R2 ZcG Y<|bE h fun q h_q h=>Rq Y (Zdx (ov Y) (ov Y) h_q)<|Rx Y (Zr (row := [_]) 2 Y tZ3 Y tZ_3)<|Rx Y (Zk (ov Y) (ov Y) (Qm tS3) Y Y Y (Nat.le_of_ble_eq_true Y) (Zd Y) Y)<|Za<|K4 1 2 3 4 Y<|Tr<|Rx Y (Zr (row := [_]) 3 Y Zmo Y tZ_87)<|Rx Y (Zk (ov Y) (ov Y) (Qm Zlt) Y Y Y (Nat.le_of_ble_eq_true Y) (Zd Y) Y)<|Za<|Tr<|Zea (Ent.sel [some 0, some 1, some 2, none] (sd 1 Y Y<|sr 2 Y (.ptr (r' := 0) _ _ _ Y)<|sr 3 Y (.ptr (r' := 1) _ _ _ Y)<|sr 4 Y (.ptr (r' := 2) _ _ _ Y)<|sr 5 Y (.frp ⟨Y, ⟨_, Y⟩, Y, Y⟩) sn) (.cons Y (ro1 (by exact tZ_90.symm)<|rld Y)<|.cons Y (ro1 (by exact tZ_3.symm)<|rld Y)<|.cons Y (ro1 (by exact tZ_3.symm)<|rld Y)<|.row 87 .nil) Y Y)<|Rq Y (QK<|.cons (ov Y) .nil)<|Rx Y (Zr (row := [_]) 4 Y Zl7 Y tZ_109)<|Rx Y (Zk (ov Y) (ov Y) (Qm Ziz) Y Y Y (Nat.le_of_ble_eq_true Y) (Zd Y) Y)<|Za<|K5 1 2 3 4 6 Y<|Tr<|Rx Y (ZbQ 5 Y Za4)<|Zea (Ent.sel [some 0, some 1, some 2, some 3, none, some 5] (sd 1 Y Y<|sr 2 Y (.ptr (r' := 0) _ _ _ Y)<|sr 3 Y (.ptr (r' := 1) _ _ _ Y)<|sr 4 Y (.ptr (r' := 2) _ _ _ Y)<|sr 6 Y (.frp ⟨Y, ⟨_, Y⟩, Y, Y⟩)<|sr 14 Y (.mref (r' := 5) _ Y) sn) (.cons Y (ro1 (by exact tZ_90.symm)<|rld Y)<|.cons Y (ro1 (by exact tZ_3.symm)<|rld Y)<|.cons Y (ro1 (by exact tZ_3.symm)<|rld Y)<|.cons Y roE<|.row 109<|.cons Y (Zio (fk := FK3) (m := ([] : List (Int × AV))) tZ_111 (fun _=>.dat Y) Y) .nil) Y Y)<|Zea (Ent.sel [some 0, some 1, none, some 3, some 4, some 5] (sd 1 Y Y<|sr 2 Y (.ptr (r' := 0) _ _ _ Y)<|sr 3 Y (.ptr (r' := 1) _ _ _ Y)<|sr 4 Y (.frp ⟨Y, ⟨_, Y⟩, Y, Y⟩)<|sd 6 Y Y<|sr 14 Y (.mref (r' := 5) _ Y) sn) (.cons Y (ro1 (by exact tZ_90.symm)<|rld Y)<|.cons Y (ro1 (by exact tZ_3.symm)<|rld Y)<|.row 3<|.cons Y roE<|.cons Y roE<|.cons Y (Zio (fk := FK3) (m := ([] : List (Int × AV))) tZ_111 (fun _=>.dat Y) Y) .nil) Y Y)<|Rq Y (QK<|.cons (ov Y)<|.cons (ov Y) .nil)<|Rx Y (Zct (m := ([] : List (Int × AV))) (fk := FK3) (fv := id) (k := 1) (v := .fn 69 [.rp [.fn 67 [.rp [.fn 66 []] 0]] 0, .rp [.int .i64 q] 0]) (m' := ([(1, .fn 69 [.rp [.fn 67 [.rp [.fn 66 []] 0]] 0, .rp [.int .i64 q] 0])] : List (Int × AV))) (ov Y) (ov Y) (ov Y) Za4 ZfP Y (fun _=>.b Y) Y)<|Rq Y (QK<|.cons (ov Y) .nil)<|Rx Y (Zct (m := ([(1, .fn 69 [.rp [.fn 67 [.rp [.fn 66 []] 0]] 0, .rp [.int .i64 q] 0])] : List (Int × AV))) (fk := FK3) (fv := id) (k := 5) (v := .fn 70 [.rp [.fn 67 [.rp [.fn 66 []] 0]] 0]) (m' := ([(1, .fn 69 [.rp [.fn 67 [.rp [.fn 66 []] 0]] 0, .rp [.int .i64 q] 0]), (5, .fn 70 [.rp [.fn 67 [.rp [.fn 66 []] 0]] 0])] : List (Int × AV))) (ov Y) (ov Y) (ov Y) Za4 ZfP Y (fun _=>.b Y) Y)<|Rq Y (QK<|.cons (ov Y)<|.cons (ov Y) .nil)<|Rx Y (Zct (m := ([(1, .fn 69 [.rp [.fn 67 [.rp [.fn 66 []] 0]] 0, .rp [.int .i64 q] 0]), (5, .fn 70 [.rp [.fn 67 [.rp [.fn 66 []] 0]] 0])] : List (Int × AV))) (fk := FK3) (fv := id) (k := 6) (v := .fn 71 [.rp [.fn 67 [.rp [.fn 66 []] 0]] 0, .rp [.str p.Name, .int .i64 p.Kind, .sl 64 (List.map R64 p.Parts), .int .i64 p.First, .int .i64 p.Every, .int .i64 p.Times, .int .i64 p.Step, .sl 9 (List.map R9 p.Names)] 0]) (m' := ([(1, .fn 69 [.rp [.fn 67 [.rp [.fn 66 []] 0]] 0, .rp [.int .i64 q] 0]), (5, .fn 70 [.rp [.fn 67 [.rp [.fn 66 []] 0]] 0]), (6, .fn 71 [.rp [.fn 67 [.rp [.fn 66 []] 0]] 0, .rp [.str p.Name, .int .i64 p.Kind, .sl 64 (List.map R64 p.Parts), .int .i64 p.First, .int .i64 p.Every, .int .i64 p.Times, .int .i64 p.Step, .sl 9 (List.map R9 p.Names)] 0])] : List (Int × AV))) (ov Y) (ov Y) (ov Y) Za4 ZfP Y (fun _=>.b Y) Y)<|Rq Y (QK<|.cons (ov Y) .nil)<|Rx Y (Zct (m := ([(1, .fn 69 [.rp [.fn 67 [.rp [.fn 66 []] 0]] 0, .rp [.int .i64 q] 0]), (5, .fn 70 [.rp [.fn 67 [.rp [.fn 66 []] 0]] 0]), (6, .fn 71 [.rp [.fn 67 [.rp [.fn 66 []] 0]] 0, .rp [.str p.Name, .int .i64 p.Kind, .sl 64 (List.map R64 p.Parts), .int .i64 p.First, .int .i64 p.Every, .int .i64 p.Times, .int .i64 p.Step, .sl 9 (List.map R9 p.Names)] 0])] : List (Int × AV))) (fk := FK3) (fv := id) (k := 2) (v := .fn 72 [.rp [.int .i64 q] 0]) (m' := ([(1, .fn 69 [.rp [.fn 67 [.rp [.fn 66 []] 0]] 0, .rp [.int .i64 q] 0]), (5, .fn 70 [.rp [.fn 67 [.rp [.fn 66 []] 0]] 0]), (6, .fn 71 [.rp [.fn 67 [.rp [.fn 66 []] 0]] 0, .rp [.str p.Name, .int .i64 p.Kind, .sl 64 (List.map R64 p.Parts), .int .i64 p.First, .int .i64 p.Every, .int .i64 p.Times, .int .i64 p.Step, .sl 9 (List.map R9 p.Names)] 0]), (2, .fn 72 [.rp [.int .i64 q] 0])] : List (Int × AV))) (ov Y) (ov Y) (ov Y) Za4 ZfP Y (fun _=>.b Y) Y)<|Rq Y (QK<|.cons (ov Y) .nil)<|Rx Y (Zct (m := ([(1, .fn 69 [.rp [.fn 67 [.rp [.fn 66 []] 0]] 0, .rp [.int .i64 q] 0]), (5, .fn 70 [.rp [.fn 67 [.rp [.fn 66 []] 0]] 0]), (6, .fn 71 [.rp [.fn 67 [.rp [.fn 66 []] 0]] 0, .rp [.str p.Name, .int .i64 p.Kind, .sl 64 (List.map R64 p.Parts), .int .i64 p.First, .int .i64 p.Every, .int .i64 p.Times, .int .i64 p.Step, .sl 9 (List.map R9 p.Names)] 0]), (2, .fn 72 [.rp [.int .i64 q] 0])] : List (Int × AV))) (fk := FK3) (fv := id) (k := 3) (v := .fn 75 [.rp [.int .i64 q] 0]) (m' := ([(1, .fn 69 [.rp [.fn 67 [.rp [.fn 66 []] 0]] 0, .rp [.int .i64 q] 0]), (5, .fn 70 [.rp [.fn 67 [.rp [.fn 66 []] 0]] 0]), (6, .fn 71 [.rp [.fn 67 [.rp [.fn 66 []] 0]] 0, .rp [.str p.Name, .int .i64 p.Kind, .sl 64 (List.map R64 p.Parts), .int .i64 p.First, .int .i64 p.Every, .int .i64 p.Times, .int .i64 p.Step, .sl 9 (List.map R9 p.Names)] 0]), (2, .fn 72 [.rp [.int .i64 q] 0]), (3, .fn 75 [.rp [.int .i64 q] 0])] : List (Int × AV))) (ov Y) (ov Y) (ov Y) Za4 ZfP Y (fun _=>.b Y) Y)<|Zea (Ent.sel [some 0, none, some 2, some 3, some 4, some 5] (sd 1 Y Y<|sr 2 Y (.ptr (r' := 0) _ _ _ Y)<|sr 3 Y (.frp ⟨Y, ⟨_, Y⟩, Y, Y⟩)<|sd 4 Y Y<|sd 6 Y Y<|sr 14 Y (.mref (r' := 5) _ Y)<|sr 15 Y (rFn<|rlc (.dat Y)<|rlc (.dat Y) rln)<|sr 16 Y (rFn<|rlc (.dat Y) rln)<|sr 17 Y (rFn<|rlc (.dat Y)<|rlc (.dat Y) rln)<|sr 18 Y (rFn<|rlc (.dat Y) rln)<|sr 19 Y (rFn<|rlc (.dat Y) rln) sn) (.cons Y (ro1 (by exact tZ_90.symm)<|rld Y)<|.row 3<|.cons Y roE<|.cons Y roE<|.cons Y roE<|.cons Y (Zio (fk := FK3) (m := ([(1, .fn 69 [.rp [.fn 67 [.rp [.fn 66 []] 0]] 0, .rp [.int .i64 q] 0]), (5, .fn 70 [.rp [.fn 67 [.rp [.fn 66 []] 0]] 0]), (6, .fn 71 [.rp [.fn 67 [.rp [.fn 66 []] 0]] 0, .rp [.str p.Name, .int .i64 p.Kind, .sl 64 (List.map R64 p.Parts), .int .i64 p.First, .int .i64 p.Every, .int .i64 p.Times, .int .i64 p.Step, .sl 9 (List.map R9 p.Names)] 0]), (2, .fn 72 [.rp [.int .i64 q] 0]), (3, .fn 75 [.rp [.int .i64 q] 0])] : List (Int × AV))) tZ_111 (fun _=>.dat Y) Y) .nil) Y Y)<|Rq Y (QK<|.cons (ov Y) .nil)<|Rx Y (Zct (m := ([(1, .fn 69 [.rp [.fn 67 [.rp [.fn 66 []] 0]] 0, .rp [.int .i64 q] 0]), (5, .fn 70 [.rp [.fn 67 [.rp [.fn 66 []] 0]] 0]), (6, .fn 71 [.rp [.fn 67 [.rp [.fn 66 []] 0]] 0, .rp [.str p.Name, .int .i64 p.Kind, .sl 64 (List.map R64 p.Parts), .int .i64 p.First, .int .i64 p.Every, .int .i64 p.Times, .int .i64 p.Step, .sl 9 (List.map R9 p.Names)] 0]), (2, .fn 72 [.rp [.int .i64 q] 0]), (3, .fn 75 [.rp [.int .i64 q] 0])] : List (Int × AV))) (fk := FK3) (fv := id) (k := 4) (v := .fn 78 [.rp [.int .i64 y] 0]) (m' := ([(1, .fn 69 [.rp [.fn 67 [.rp [.fn 66 []] 0]] 0, .rp [.int .i64 q] 0]), (5, .fn 70 [.rp [.fn 67 [.rp [.fn 66 []] 0]] 0]), (6, .fn 71 [.rp [.fn 67 [.rp [.fn 66 []] 0]] 0, .rp [.str p.Name, .int .i64 p.Kind, .sl 64 (List.map R64 p.Parts), .int .i64 p.First, .int .i64 p.Every, .int .i64 p.Times, .int .i64 p.Step, .sl 9 (List.map R9 p.Names)] 0]), (2, .fn 72 [.rp [.int .i64 q] 0]), (3, .fn 75 [.rp [.int .i64 q] 0]), (4, .fn 78 [.rp [.int .i64 y] 0])] : List (Int × AV))) (ov Y) (ov Y) (ov Y) Za4 ZfP Y (fun _=>.b Y) Y)<|Rm Y<|Ra Y<|Za<|K3 1 2 7 Y<|Tr<|Rm Y<|Rq Y (Zc (ov Y) Zbk)<|Rq Y (Zb (ov Y) tS3 Y)<|?_
 rcases ifR h with ⟨hk3_0, h⟩ | ⟨hk3_0, h⟩
 ·
  refine Rq Y (ZgA (m := ([(1, .fn 69 [.rp [.fn 67 [.rp [.fn 66 []] 0]] 0, .rp [.int .i64 q] 0]), (5, .fn 70 [.rp [.fn 67 [.rp [.fn 66 []] 0]] 0]), (6, .fn 71 [.rp [.fn 67 [.rp [.fn 66 []] 0]] 0, .rp [.str p.Name, .int .i64 p.Kind, .sl 64 (List.map R64 p.Parts), .int .i64 p.First, .int .i64 p.Every, .int .i64 p.Times, .int .i64 p.Step, .sl 9 (List.map R9 p.Names)] 0]), (2, .fn 72 [.rp [.int .i64 q] 0]), (3, .fn 75 [.rp [.int .i64 q] 0]), (4, .fn 78 [.rp [.int .i64 y] 0])] : List (Int × AV))) (fk := FK3) (fv := id) (k := p.Kind) (z0 := .lit .nilFunc) (ov Y) (ov Y) Za4 ZfP Y (fun _=>.b Y) (Zax Zfu Y) (nsD Y)<|lkS<|mgT hk3_0)<|bE h fun y2 h_y2 h=>Rq Y (X7 (ov Y) Y (Zdv h_y2) .nil)<|Rx Y (Zk (ov Y) (ov Y) (Zj Zbh Y) Y Y Y (Nat.le_of_ble_eq_true Y) (Zd Y) Y)<|Za<|?_
  obtain rfl := rt h
  exact Zi (Zs Y (.one<|.agg Y Y Y Y Zbh Y Y<|.cons (Dat.view<|.b Y)<|.cons (Dat.view<|.b Y)<|.cons (Dat.view<|Dat.fnC<|.refl fun x hx => .b<|List.all_eq_true.1 (((Xt h_y2).1)).1 x hx)<|.cons (Dat.view<|Dat.fnC<|.refl fun x hx => .b<|List.all_eq_true.1 (((Xt h_y2).2)).1 x hx) .nil))
 ·
  rcases ifR h with ⟨hk3_1, h⟩ | ⟨hk3_1, h⟩
  ·
   refine Rq Y (ZgA (m := ([(1, .fn 69 [.rp [.fn 67 [.rp [.fn 66 []] 0]] 0, .rp [.int .i64 q] 0]), (5, .fn 70 [.rp [.fn 67 [.rp [.fn 66 []] 0]] 0]), (6, .fn 71 [.rp [.fn 67 [.rp [.fn 66 []] 0]] 0, .rp [.str p.Name, .int .i64 p.Kind, .sl 64 (List.map R64 p.Parts), .int .i64 p.First, .int .i64 p.Every, .int .i64 p.Times, .int .i64 p.Step, .sl 9 (List.map R9 p.Names)] 0]), (2, .fn 72 [.rp [.int .i64 q] 0]), (3, .fn 75 [.rp [.int .i64 q] 0]), (4, .fn 78 [.rp [.int .i64 y] 0])] : List (Int × AV))) (fk := FK3) (fv := id) (k := p.Kind) (z0 := .lit .nilFunc) (ov Y) (ov Y) Za4 ZfP Y (fun _=>.b Y) (Zax Zfu Y) (nsD Y)<|lkS<|mgF hk3_0<|mgT hk3_1)<|bE h fun y3 h_y3 h=>Rq Y (X7 (ov Y) Y (Zdd h_y3) .nil)<|Rx Y (Zk (ov Y) (ov Y) (Zj Zbh Y) Y Y Y (Nat.le_of_ble_eq_true Y) (Zd Y) Y)<|Za<|?_
   obtain rfl := rt h
   exact Zi (Zs Y (.one<|.agg Y Y Y Y Zbh Y Y<|.cons (Dat.view<|.b Y)<|.cons (Dat.view<|.b Y)<|.cons (Dat.view<|Dat.fnC<|.refl fun x hx => .b<|List.all_eq_true.1 (((Xs h_y3).1)).1 x hx)<|.cons (Dat.view<|Dat.fnC<|.refl fun x hx => .b<|List.all_eq_true.1 (((Xs h_y3).2)).1 x hx) .nil))
  ·
   rcases ifR h with ⟨hk3_2, h⟩ | ⟨hk3_2, h⟩
   ·
    refine Rq Y (ZgA (m := ([(1, .fn 69 [.rp [.fn 67 [.rp [.fn 66 []] 0]] 0, .rp [.int .i64 q] 0]), (5, .fn 70 [.rp [.fn 67 [.rp [.fn 66 []] 0]] 0]), (6, .fn 71 [.rp [.fn 67 [.rp [.fn 66 []] 0]] 0, .rp [.str p.Name, .int .i64 p.Kind, .sl 64 (List.map R64 p.Parts), .int .i64 p.First, .int .i64 p.Every, .int .i64 p.Times, .int .i64 p.Step, .sl 9 (List.map R9 p.Names)] 0]), (2, .fn 72 [.rp [.int .i64 q] 0]), (3, .fn 75 [.rp [.int .i64 q] 0]), (4, .fn 78 [.rp [.int .i64 y] 0])] : List (Int × AV))) (fk := FK3) (fv := id) (k := p.Kind) (z0 := .lit .nilFunc) (ov Y) (ov Y) Za4 ZfP Y (fun _=>.b Y) (Zax Zfu Y) (nsD Y)<|lkS<|mgF hk3_0<|mgF hk3_1<|mgT hk3_2)<|bE h fun y4 h_y4 h=>Rq Y (X7 (ov Y) Y (Zdq h_y4) .nil)<|Rx Y (Zk (ov Y) (ov Y) (Zj Zbh Y) Y Y Y (Nat.le_of_ble_eq_true Y) (Zd Y) Y)<|Za<|?_
    obtain rfl := rt h
    exact Zi (Zs Y (.one<|.agg Y Y Y Y Zbh Y Y<|.cons (Dat.view<|.b Y)<|.cons (Dat.view<|.b Y)<|.cons (Dat.view<|Dat.fnC<|.refl fun x hx => .b<|List.all_eq_true.1 (((Xp h_y4).1)).1 x hx)<|.cons (Dat.view<|Dat.fnC<|.refl fun x hx => .b<|List.all_eq_true.1 (((Xp h_y4).2)).1 x hx) .nil))
   ·
    rcases ifR h with ⟨hk3_3, h⟩ | ⟨hk3_3, h⟩
    ·
     refine Rq Y (ZgA (m := ([(1, .fn 69 [.rp [.fn 67 [.rp [.fn 66 []] 0]] 0, .rp [.int .i64 q] 0]), (5, .fn 70 [.rp [.fn 67 [.rp [.fn 66 []] 0]] 0]), (6, .fn 71 [.rp [.fn 67 [.rp [.fn 66 []] 0]] 0, .rp [.str p.Name, .int .i64 p.Kind, .sl 64 (List.map R64 p.Parts), .int .i64 p.First, .int .i64 p.Every, .int .i64 p.Times, .int .i64 p.Step, .sl 9 (List.map R9 p.Names)] 0]), (2, .fn 72 [.rp [.int .i64 q] 0]), (3, .fn 75 [.rp [.int .i64 q] 0]), (4, .fn 78 [.rp [.int .i64 y] 0])] : List (Int × AV))) (fk := FK3) (fv := id) (k := p.Kind) (z0 := .lit .nilFunc) (ov Y) (ov Y) Za4 ZfP Y (fun _=>.b Y) (Zax Zfu Y) (nsD Y)<|lkS<|mgF hk3_0<|mgF hk3_1<|mgF hk3_2<|mgT hk3_3)<|bE h fun y5 h_y5 h=>Rq Y (X7 (ov Y) Y (Zdl h_y5) .nil)<|Rx Y (Zk (ov Y) (ov Y) (Zj Zbh Y) Y Y Y (Nat.le_of_ble_eq_true Y) (Zd Y) Y)<|Za<|?_
     obtain rfl := rt h
     exact Zi (Zs Y (.one<|.agg Y Y Y Y Zbh Y Y<|.cons (Dat.view<|.b Y)<|.cons (Dat.view<|.b Y)<|.cons (Dat.view<|Dat.fnC<|.refl fun x hx => .b<|List.all_eq_true.1 (((Xr h_y5).1)).1 x hx)<|.cons (Dat.view<|Dat.fnC<|.refl fun x hx => .b<|List.all_eq_true.1 (((Xr h_y5).2)).1 x hx) .nil))
    ·
     rcases ifR h with ⟨hk3_4, h⟩ | ⟨hk3_4, h⟩
     ·
      refine Rq Y (ZgA (m := ([(1, .fn 69 [.rp [.fn 67 [.rp [.fn 66 []] 0]] 0, .rp [.int .i64 q] 0]), (5, .fn 70 [.rp [.fn 67 [.rp [.fn 66 []] 0]] 0]), (6, .fn 71 [.rp [.fn 67 [.rp [.fn 66 []] 0]] 0, .rp [.str p.Name, .int .i64 p.Kind, .sl 64 (List.map R64 p.Parts), .int .i64 p.First, .int .i64 p.Every, .int .i64 p.Times, .int .i64 p.Step, .sl 9 (List.map R9 p.Names)] 0]), (2, .fn 72 [.rp [.int .i64 q] 0]), (3, .fn 75 [.rp [.int .i64 q] 0]), (4, .fn 78 [.rp [.int .i64 y] 0])] : List (Int × AV))) (fk := FK3) (fv := id) (k := p.Kind) (z0 := .lit .nilFunc) (ov Y) (ov Y) Za4 ZfP Y (fun _=>.b Y) (Zax Zfu Y) (nsD Y)<|lkS<|mgF hk3_0<|mgF hk3_1<|mgF hk3_2<|mgF hk3_3<|mgT hk3_4)<|bE h fun y6 h_y6 h=>Rq Y (X7 (ov Y) Y (ZdL h_y6) .nil)<|Rx Y (Zk (ov Y) (ov Y) (Zj Zbh Y) Y Y Y (Nat.le_of_ble_eq_true Y) (Zd Y) Y)<|Za<|?_
      obtain rfl := rt h
      exact Zi (Zs Y (.one<|.agg Y Y Y Y Zbh Y Y<|.cons (Dat.view<|.b Y)<|.cons (Dat.view<|.b Y)<|.cons (Dat.view<|Dat.fnC<|.refl fun x hx => .b<|List.all_eq_true.1 (((Xo h_y6).1)).1 x hx)<|.cons (Dat.view<|Dat.fnC<|.refl fun x hx => .b<|List.all_eq_true.1 (((Xo h_y6).2)).1 x hx) .nil))
     ·
      rcases ifR h with ⟨hk3_5, h⟩ | ⟨hk3_5, h⟩
      ·
       refine Rq Y (ZgA (m := ([(1, .fn 69 [.rp [.fn 67 [.rp [.fn 66 []] 0]] 0, .rp [.int .i64 q] 0]), (5, .fn 70 [.rp [.fn 67 [.rp [.fn 66 []] 0]] 0]), (6, .fn 71 [.rp [.fn 67 [.rp [.fn 66 []] 0]] 0, .rp [.str p.Name, .int .i64 p.Kind, .sl 64 (List.map R64 p.Parts), .int .i64 p.First, .int .i64 p.Every, .int .i64 p.Times, .int .i64 p.Step, .sl 9 (List.map R9 p.Names)] 0]), (2, .fn 72 [.rp [.int .i64 q] 0]), (3, .fn 75 [.rp [.int .i64 q] 0]), (4, .fn 78 [.rp [.int .i64 y] 0])] : List (Int × AV))) (fk := FK3) (fv := id) (k := p.Kind) (z0 := .lit .nilFunc) (ov Y) (ov Y) Za4 ZfP Y (fun _=>.b Y) (Zax Zfu Y) (nsD Y)<|lkS<|mgF hk3_0<|mgF hk3_1<|mgF hk3_2<|mgF hk3_3<|mgF hk3_4<|mgT hk3_5)<|bE h fun y7 h_y7 h=>Rq Y (X7 (ov Y) Y (ZdI h_y7) .nil)<|Rx Y (Zk (ov Y) (ov Y) (Zj Zbh Y) Y Y Y (Nat.le_of_ble_eq_true Y) (Zd Y) Y)<|Za<|?_
       obtain rfl := rt h
       exact Zi (Zs Y (.one<|.agg Y Y Y Y Zbh Y Y<|.cons (Dat.view<|.b Y)<|.cons (Dat.view<|.b Y)<|.cons (Dat.view<|Dat.fnC<|.refl fun x hx => .b<|List.all_eq_true.1 (((Xq h_y7).1)).1 x hx)<|.cons (Dat.view<|Dat.fnC<|.refl fun x hx => .b<|List.all_eq_true.1 (((Xq h_y7).2)).1 x hx) .nil))
      ·
       exact (Zma h).elim
theorem XO {p : api_Param} {r : layout_number} (h : Qw p = some r) : ZbG r.encode ∧ ZbF r.decode := by
  have key : Zc9 (fun r => ZbG r.encode ∧ ZbF r.decode) (Qw p) := by
    unfold Qw
    repeat' (first | exact ZbO | with_reducible refine ZdJ ?_ ?_ | with_reducible refine Zca fun _ _ => ?_ | with_reducible refine ZfE ?_)
    all_goals first | exact JN ⟨((Xt (by assumption)).1), ((Xt (by assumption)).2)⟩ | exact JN ⟨((Xs (by assumption)).1), ((Xs (by assumption)).2)⟩ | exact JN ⟨((Xp (by assumption)).1), ((Xp (by assumption)).2)⟩ | exact JN ⟨((Xr (by assumption)).1), ((Xr (by assumption)).2)⟩ | exact JN ⟨((Xo (by assumption)).1), ((Xo (by assumption)).2)⟩ | exact JN ⟨((Xq (by assumption)).1), ((Xq (by assumption)).2)⟩
  exact key r h
theorem Zf8 {m : api_Map} {l : List Int} {r : (Vector (List Int) 16) × Int} (h : Zbw m l = some r) :
 CSpec Try.prog gl0 27 [.agg [.int .i64 m.Version, .sl 44 (List.map R44 m.Params)], .sl 3 (List.map R3 l)] (.tuple [.agg (List.map C65 r.1.toList), .int .i64 r.2]) := by
 unfold Zbw at h
 replace h := Qh h
 refine So Try.func27 Y fun w0 A=>Tr<|Rq Y (Z9 (cva<|ov Y) Y tZ_24 Y)<|Rx Y (Zr (row := [_, _, _, _, _, _, _, _, _, _, _, _, _, _, _, _]) 0 Y ZkN Y tZ_66)<|Ra Y<|Za<|K3 1 2 4 Y<|Tr<|Rx Y (Zr (row := [_, _, _, _, _, _, _, _, _, _, _, _, _, _, _, _]) 1 Y ZkN Y tZ_66)<|Rx Y (Zr (row := [_, _, _, _, _, _, _, _, _, _, _, _, _, _, _, _]) 2 Y ZkN Y tZ_66)<|Za<|Zh<|Tr<|Rq Y (Zg (ov Y) Zb9 Y Y)<|bE h fun y h_y h=>Rq Y (Zp (Je h_y)<|.cons (ov Y) (.aggB Y) .nil)<|Rm Y<|Rq Y (Zy (ov Y) Y)<|Rq Y (Zy (ov Y) Y)<|Ra Y<|Ra Y<|Za<|K6 1 2 4 6 7 9 Y<|Tr<|Rm Y<|R2 QY Y<|Za<|K7 1 2 4 6 7 9 25 Y<|If h Y (fun h=>?_) fun h=>?_
 ·
  refine K3 4 7 9 Y<|Tr<|Rq Y (ZV (ov Y) Y Y Y Zde Y Y)<|Rm Y<|Rx Y (Zk (ov Y) (ov Y) (Zj Zde Y) Y Y Y (Nat.le_of_ble_eq_true Y) (Zd Y) Y)<|Ra Y<|Za<|?_
  obtain rfl := rt h
  exact Zi (Zs Y (.two (.agg Y Y Y Y Zde Y Y<|pwZ (m := 16) (f := C65) Y Y)<|rb Y))
 ·
  refine Ze<|K5 1 2 4 6 7 Y<|Tr<|Rq Y (Zg (ov Y) Zb9 Y Y)<|bE h fun y2 h_y2 h=>Rq Y (Zp (Zaj h_y2)<|.cons (ov Y) (.aggB Y) .nil)<|Ra Y<|Za<|Zh<|K6 1 2 4 6 7 10 Y<|Tr<|Rm Y<|Rl tZ_3 ZaN Y<|Rm Y<|Rl tZ_34 Zar Y<|R2 QY Y<|Za<|K7 1 2 4 6 7 10 34 Y<|If h Y (fun h=>?_) fun h=>?_
  ·
   refine K2 4 7 Y<|Tr<|Rq Y (ZV (ov Y) Y Y Y Zde Y Y)<|Rx Y (Zk (ov Y) (ov Y) (Zj Zde Y) Y Y Y (Nat.le_of_ble_eq_true Y) (Zd Y) Y)<|Ra Y<|Za<|?_
   obtain rfl := rt h
   exact Zi (Zs Y (.two (.agg Y Y Y Y Zde Y Y<|pwZ (m := 16) (f := C65) Y Y)<|rb Y))
  ·
   refine Ze<|I1 (fun out=>⟨[(1, .sl 3 (List.map R3 l)), (2, .rp [.int .i64 m.Version, .sl 44 (List.map R44 m.Params)] 0), (4, .ptr 0 1 0 0), (6, .ptr 1 1 0 0), (7, .ptr 2 1 0 0), (10, .sl 34 (List.map R34 y2))], [some ⟨66, [[.nils, .nils, .nils, .nils, .nils, .nils, .nils, .nils, .nils, .nils, .nils, .nils, .nils, .nils, .nils, .nils]]⟩, some ⟨66, [(List.map (osF 3 R3) out.toList)]⟩, some ⟨66, [[.nils, .nils, .nils, .nils, .nils, .nils, .nils, .nils, .nils, .nils, .nils, .nils, .nils, .nils, .nils, .nils]]⟩]⟩) h (fun h=>?_) fun out h=>?_
   ·
    refine K6 1 2 4 6 7 10 Y<|Tr<|Rm Y<|Za<|Zf<|?_
    obtain ⟨r1, hl1, ho1⟩ := QS h
    refine L2 (fun out2 i=>⟨[(1, .sl 3 (List.map R3 l)), (2, .rp [.int .i64 m.Version, .sl 44 (List.map R44 m.Params)] 0), (4, .ptr 0 1 0 0), (6, .ptr 1 1 0 0), (7, .ptr 2 1 0 0), (10, .sl 34 (List.map R34 y2)), (36, .int .i64 i)], [some ⟨66, [[.nils, .nils, .nils, .nils, .nils, .nils, .nils, .nils, .nils, .nils, .nils, .nils, .nils, .nils, .nils, .nils]]⟩, some ⟨66, [(List.map (osF 3 R3) out2.toList)]⟩, some ⟨66, [[.nils, .nils, .nils, .nils, .nils, .nils, .nils, .nils, .nils, .nils, .nils, .nils, .nils, .nils, .nils, .nils]]⟩]⟩) hl1 (ES [some 0, some 1, some 2] (hhp := .cons Y (ZdM (by exact tZ_66.symm) Y)<|.cons Y (Zmk Y tZ_66)<|.cons Y (ZdM (by exact tZ_66.symm) Y) .nil)) fun n1 out2 i h=>?_
    unfold ZaV at h
    refine Tr<|R2 ZK Y<|Za<|Zh<|If h Y (fun h=>?_) fun h=>?_
    ·
     exact Ze<|Zh<|Zf<|K7 1 2 4 6 7 10 36 Y<|Tr<|Rm Y<|Ra Y<|Za<|K8 1 2 4 6 7 10 11 36 Y<|Tr<|Rm Y<|bE h fun l2 h_l2 h=>Rx Y (ZkL [none] (r := 3) (f := R3) (z0 := 0) Y (ov Y) (ov Y) ZaN Y tZ3 Y Y h_l2)<|bE h fun x h_x h=>Rq Y (Jz (ov Y) (ov Y) ZeY Y Y h_x)<|Rx Y (Zk (ov Y) (ov Y) (Qm ZeB) Y Y Y (arB h_x) (Zd Y)<|Zk5 h_x)<|Zea (Ent.absorbA (r := 1) (q := 3) Y h_x Y Y Y)<|Za<|K8 1 2 4 6 7 10 11 36 Y<|bE h fun l3 h_l3 h=>Ziy (Ent.focusA (r := 1) Y h_l3 D3)<|Zfo (cw := md0) (by kernel_rfl)<|D1 0 Zv Y<|bE h fun x2 h_x2 h=>Dq 1 Y (Jz (ov Y) (ov Y) ZeY Y Y h_x2)<|Dq 2 Y (Zl (ov Y) Y Y Y ZeB<|Zjk h_l3)<|Dq 3 Y (Zc (ov Y) Zg8)<|Dq 4 Y (Zb (ov Y) tS3 Y)<|bE h fun x3 h_x3 h=>Dq 5 Y (Zic (ov Y) (ov Y) ZaN Y Y h_x3)<|Do 6 Y (ZhS (u' := m.Version) (ov Y) (ov Y) (Qm tS3) Y Y h_x3 Y (Zd Y) Y)<|Zip (by kernel_rfl) (Ent.absorbA (r := 1) (q := 4) Y h_l3 Y ((List.length_set ..).trans Y) Y)<|K7 1 2 4 6 7 10 36 Y<|ZA<|R2 Qk Y<|Rm Y<|Za<|⟨_, h, ES [some 0, some 1, some 2] (hhp := .cons Y (ZdM (by exact tZ_66.symm) Y)<|.cons Y (Zhu tZ_66 D3)<|.cons Y (ZdM (by exact tZ_66.symm) Y) .nil)⟩
    ·
     refine ZE<|?_
     replace h := lx h ▸ ho1
     exact ⟨_, h, ES [some 0, some 1, some 2] (hhp := .cons Y (ZdM (by exact tZ_66.symm) Y)<|.cons Y (Zhu tZ_66 D3)<|.cons Y (ZdM (by exact tZ_66.symm) Y) .nil)⟩
   ·
    refine J1 (fun j => (.inr j)) (fun out3=>⟨[(4, .ptr 0 1 0 0), (6, .ptr 1 1 0 0)], [some ⟨66, [[.nils, .nils, .nils, .nils, .nils, .nils, .nils, .nils, .nils, .nils, .nils, .nils, .nils, .nils, .nils, .nils]]⟩, some ⟨66, [(List.map (osF 3 R3) out3.toList)]⟩]⟩) h (fun h=>?_) fun out3 h=>?_
    ·
     refine Tr<|Rm Y<|Rl tZ_34 Zar Y<|Rm Y<|Za<|Zf<|?_
     obtain ⟨r2, hl2, ho2⟩ := QS h
     refine L2 (fun out4 i2=>⟨[(1, .sl 3 (List.map R3 l)), (2, .rp [.int .i64 m.Version, .sl 44 (List.map R44 m.Params)] 0), (4, .ptr 0 1 0 0), (6, .ptr 1 1 0 0), (7, .ptr 2 1 0 0), (49, .sl 34 (List.map R34 y2)), (50, .int .i64 (y2.length : Int)), (51, .int .i64 i2)], [some ⟨66, [[.nils, .nils, .nils, .nils, .nils, .nils, .nils, .nils, .nils, .nils, .nils, .nils, .nils, .nils, .nils, .nils]]⟩, some ⟨66, [(List.map (osF 3 R3) out4.toList)]⟩, some ⟨66, [[.nils, .nils, .nils, .nils, .nils, .nils, .nils, .nils, .nils, .nils, .nils, .nils, .nils, .nils, .nils, .nils]]⟩]⟩) hl2 (ES [some 0, some 1, some 2] (hhp := .cons Y (ZdM (by exact tZ_66.symm) Y)<|.cons Y (Zhu tZ_66 D3)<|.cons Y (ZdM (by exact tZ_66.symm) Y) .nil)) fun n2 out4 i2 h=>?_
     unfold ZaD at h
     refine Tr<|R2 ZK Y<|Za<|Zh<|If h Y (fun h=>?_) fun h=>?_
     ·
      refine Ze<|J1 (fun j => (.inr j)) (fun out5=>⟨[(1, .sl 3 (List.map R3 l)), (2, .rp [.int .i64 m.Version, .sl 44 (List.map R44 m.Params)] 0), (4, .ptr 0 1 0 0), (6, .ptr 1 1 0 0), (7, .ptr 2 1 0 0), (49, .sl 34 (List.map R34 y2)), (50, .int .i64 (y2.length : Int)), (51, .int .i64 i2)], [some ⟨66, [[.nils, .nils, .nils, .nils, .nils, .nils, .nils, .nils, .nils, .nils, .nils, .nils, .nils, .nils, .nils, .nils]]⟩, some ⟨66, [(List.map (osF 3 R3) out5.toList)]⟩, some ⟨66, [[.nils, .nils, .nils, .nils, .nils, .nils, .nils, .nils, .nils, .nils, .nils, .nils, .nils, .nils, .nils, .nils]]⟩]⟩) h (fun h=>?_) fun out5 h=>?_
      ·
       refine Zf<|K8 1 2 4 6 7 49 50 51 Y<|Tr<|Rm Y<|bE h fun x4 h_x4 h=>Rq Y (ZF (ov Y) (ov Y) Zar h_x4)<|Rq Y (Zg (ov Y) ZbD Y Y)<|Rx Y (Zr (row := [_, _, _, _]) 3 Y Zfr Y tZ_34)<|Ra Y<|Rx Y (Zk (ov Y) (ov Y) (Zj ZbD Y) Y Y Y (Nat.le_of_ble_eq_true Y) (Zd Y) Y)<|Za<|K10 1 2 4 6 7 12 13 49 50 51 Y<|Tr<|Rq Y (Zc (ov Y) Zap)<|Rq Y (Zb (ov Y) Zeu Y)<|Rq Y (Zm (ov Y) Y Y Zfs)<|Rq Y (Zl (ov Y) Y Y Y tS3 Y)<|bE h fun x5 h_x5 h=>Rq Y (ZF (ov Y) (ov Y) Za1 h_x5)<|Rq Y (Zg (ov Y) Xy Y Y)<|bE h fun y3 h_y3 h=>Rq Y (Zp (Zb5 h_y3)<|.cons (ov Y) (.aggB Y) .nil)<|Rx Y (Zr (row := [_, _, _, _]) 4 Y Zff Y tZ_90)<|Rx Y (Zk (ov Y) (ov Y) (Zj Zbh Y) Y Y Y (Nat.le_of_ble_eq_true Y) (Zd Y) Y)<|Za<|Zh<|K11 1 2 4 6 7 12 13 14 49 50 51 Y<|Td md0<|D1 0 Zv Y<|D1 1 Zv Y<|bE h fun x6 h_x6 h=>Dq 2 Y (ZF (ov Y) (ov Y) ZaN h_x6)<|Dq 3 Y (Zb (ov Y) tS3 Y)<|Dq 4 Y (Zm (ov Y) Y Y Zlv)<|Dq 5 Y (Zl (ov Y) Y Y Y tS3 Y)<|Dq 6 Y (Zm (ov Y) Y Y Zld)<|Dq 7 Y (Zl (ov Y) Y Y Y tS3 Y)<|bE h fun y4 h_y4 h=>Dq 8 Y (Zp (Z6 h_y4)<|.cons (ov Y) (.b Y)<|.cons (ov Y) (.b Y)<|.cons (ov Y) (.b Y) .nil)<|D1 9 XN Y<|Dd<|K12 1 2 4 6 7 12 13 14 49 50 51 72 Y<|If h Y (fun h=>?_) fun h=>?_
       ·
        refine K2 4 7 Y<|Tr<|Rq Y (ZV (ov Y) Y Y Y Zde Y Y)<|Rx Y (Zk (ov Y) (ov Y) (Zj Zde Y) Y Y Y (Nat.le_of_ble_eq_true Y) (Zd Y) Y)<|Ra Y<|Za<|?_
        replace h := lx h ▸ ho2
        obtain rfl := rt h
        exact Zi (Zs Y (.two (.agg Y Y Y Y Zde Y Y<|pwZ (m := 16) (f := C65) Y Y)<|rb Y))
       ·
        refine Ze<|K11 1 2 4 6 7 12 13 14 49 50 51 Y<|Td md0<|Dq 0 Y (Zm (ov Y) Y Y Zlc)<|Dq 1 Y (Zl (ov Y) Y Y Y Zlt Y)<|D1 2 Zv Y<|D1 3 Zv Y<|bE h fun x7 h_x7 h=>Dq 4 Y (ZF (ov Y) (ov Y) ZaN h_x7)<|Dq 5 Y (Zb (ov Y) tS3 Y)<|bE h fun y5 h_y5 h=>Dq 6 Y (X7 (ov Y) (((XO h_y3).1)).1 ((((XO h_y3).1)).2 _ _ h_y5)<|.cons (ov Y) (.b Y) .nil)<|Dq 7 Y (Zc (ov Y) Zap)<|Dq 8 Y (Zb (ov Y) Zeu Y)<|Dq 9 Y (Zm (ov Y) Y Y Zfs)<|Dq 10 Y (Zl (ov Y) Y Y Y tS3 Y)<|bE h fun x8 h_x8 h=>Dq 11 Y (ZF (ov Y) (ov Y) Za1 h_x8)<|Dq 12 Y (Zg (ov Y) Xy Y Y)<|bE h fun y6 h_y6 h=>Dq 13 Y (Zp (JO h_y6)<|.cons (ov Y) (.aggB Y) .nil)<|D1 14 Jk Y<|D1 15 Jk Y<|Dd<|K11 1 2 4 6 7 13 15 16 49 50 51 Y<|Tr<|Rq Y (Zm (ov Y) Y Y Zbe)<|Rq Y (Zl (ov Y) Y Y Y Zfn Y)<|Rl tZ_59 ZcW Y<|Rm Y<|Za<|Zf<|?_
        obtain ⟨r3, hl3, ho3⟩ := bnd h
        refine L3 (fun out6 left i3=>⟨[(1, .sl 3 (List.map R3 l)), (2, .rp [.int .i64 m.Version, .sl 44 (List.map R44 m.Params)] 0), (4, .ptr 0 1 0 0), (6, .ptr 1 1 0 0), (7, .ptr 2 1 0 0), (15, .int .i64 y5), (16, .int .i64 left), (49, .sl 34 (List.map R34 y2)), (50, .int .i64 (y2.length : Int)), (51, .int .i64 i2), (89, .sl 59 (List.map R59 x4.Places)), (90, .int .i64 (x4.Places.length : Int)), (91, .int .i64 i3)], [some ⟨66, [[.nils, .nils, .nils, .nils, .nils, .nils, .nils, .nils, .nils, .nils, .nils, .nils, .nils, .nils, .nils, .nils]]⟩, some ⟨66, [(List.map (osF 3 R3) out6.toList)]⟩, some ⟨66, [[.nils, .nils, .nils, .nils, .nils, .nils, .nils, .nils, .nils, .nils, .nils, .nils, .nils, .nils, .nils, .nils]]⟩]⟩) hl3 (ES [some 0, some 1, some 2] (hhp := .cons Y (ZdM (by exact tZ_66.symm) Y)<|.cons Y (Zhu tZ_66 D3)<|.cons Y (ZdM (by exact tZ_66.symm) Y) .nil)) fun n3 out6 left i3 h=>?_
        unfold ZaJ at h
        refine Tr<|R2 ZK Y<|Za<|Zh<|If h Y (fun h=>?_) fun h=>?_
        ·
         exact Ze<|Zh<|Zf<|XR (kc 1 Y<|kc 2 Y<|kc 4 Y<|kc 6 Y<|kc 7 Y<|kc 15 Y<|kc 16 Y<|kc 49 Y<|kc 50 Y<|kc 51 Y<|kc 89 Y<|kc 90 Y<|kc 91 Y kn) Y<|Tr<|bE h fun x9 h_x9 h=>Rq Y (ZF (ov Y) (ov Y) ZcW h_x9)<|Rq Y (Zg (ov Y) Zeg Y Y)<|Rx Y (Zr (row := [_, _, _, _]) 3 Y ZhT Y tZ_59)<|Rx Y (Zk (ov Y) (ov Y) (Zj Zeg Y) Y Y Y (Nat.le_of_ble_eq_true Y) (Zd Y) Y)<|Za<|XR (kc 1 Y<|kc 2 Y<|kc 4 Y<|kc 6 Y<|kc 7 Y<|kc 15 Y<|kc 16 Y<|kc 18 Y<|kc 49 Y<|kc 50 Y<|kc 51 Y<|kc 89 Y<|kc 90 Y<|kc 91 Y kn) Y<|Tr<|Rm Y<|Rq Y (Zm (ov Y) Y Y Zel)<|Rq Y (Zl (ov Y) Y Y Y tS3 Y)<|R2 ZcG Y<|Ra Y<|Za<|XR (kc 1 Y<|kc 2 Y<|kc 4 Y<|kc 6 Y<|kc 7 Y<|kc 15 Y<|kc 16 Y<|kc 18 Y<|kc 49 Y<|kc 50 Y<|kc 51 Y<|kc 89 Y<|kc 90 Y<|kc 91 Y kn) Y<|bE h fun l4 h_l4 h=>Ziy (Ent.focusA (r := 1) Y h_l4 D3)<|Zfo (cw := md0) (by kernel_rfl)<|Dq 0 Y (Zm (ov Y) Y Y Zf7)<|Dq 1 Y (Zl (ov Y) Y Y Y tS3 Y)<|bE h fun x10 h_x10 h=>Dq 2 Y (Jz (ov Y) (ov Y) ZeY Y Y h_x10)<|Dq 3 Y (Zl (ov Y) Y Y Y ZeB<|Zjk h_l4)<|Dq 4 Y (Zm (ov Y) Y Y Zhe)<|Dq 5 Y (Zl (ov Y) Y Y Y tS3 Y)<|D2 6 ZcG Y<|bE h fun x11 h_x11 h=>Dq 7 Y (Zic (ov Y) (ov Y) ZaN Y Y h_x11)<|Dq 8 Y (Zjt (ov Y) Y Y h_x11 tS3 Y)<|D1 9 Zv Y<|D1 10 Zv Y<|bE h fun q h_q h=>Dq 11 Y (Zid (ov Y) (ov Y) h_q)<|Dq 12 Y (Zm (ov Y) Y Y Zel)<|Dq 13 Y (Zl (ov Y) Y Y Y tS3 Y)<|bE h fun q2 h_q2 h=>Dq 14 Y (Zdx (ov Y) (ov Y) h_q2)<|D2 15 ZcG Y<|D2 16 Zhm Y<|Dq 17 Y (Zm (ov Y) Y Y Zf5)<|Dq 18 Y (Zl (ov Y) Y Y Y tS3 Y)<|bE h fun q3 h_q3 h=>Dq 19 Y (Zdx (ov Y) (ov Y) h_q3)<|D2 20 Zj7 Y<|bE h fun x12 h_x12 h=>Dq 21 Y (Zic (ov Y) (ov Y) ZaN Y Y h_x12)<|Do 22 Y (ZhS (u' := (bor .i64 x11 q3)) (ov Y) (ov Y) (Qm tS3) Y Y h_x12 Y (Zd Y) Y)<|Zip (by kernel_rfl) (Ent.absorbA (r := 1) (q := 4) Y h_l4 Y ((List.length_set ..).trans Y) Y)<|XR (kc 1 Y<|kc 2 Y<|kc 4 Y<|kc 6 Y<|kc 7 Y<|kc 15 Y<|kc 16 Y<|kc 49 Y<|kc 50 Y<|kc 51 Y<|kc 89 Y<|kc 90 Y<|kc 91 Y kn) Y<|ZA<|R2 Qk Y<|Rm Y<|Za<|⟨_, h, ES [some 0, some 1, some 2] (hhp := .cons Y (ZdM (by exact tZ_66.symm) Y)<|.cons Y (Zhu tZ_66 D3)<|.cons Y (ZdM (by exact tZ_66.symm) Y) .nil)⟩
        ·
         refine ZE<|?_
         replace h := lx h ▸ ho3
         exact ⟨_, h, ES [some 0, some 1, some 2] (hhp := .cons Y (ZdM (by exact tZ_66.symm) Y)<|.cons Y (Zhu tZ_66 D3)<|.cons Y (ZdM (by exact tZ_66.symm) Y) .nil)⟩
      ·
       replace h := elr h
       replace h := t1i h
       exact ZA<|R2 Qk Y<|Rm Y<|Za<|⟨_, h, ES [some 0, some 1, some 2] (hhp := .cons Y (ZdM (by exact tZ_66.symm) Y)<|.cons Y (Zhu tZ_66 D3)<|.cons Y (ZdM (by exact tZ_66.symm) Y) .nil)⟩
     ·
      refine ZE<|?_
      replace h := lx h ▸ ho2
      exact ⟨_, h, ES [some 0, some 1] (hhp := .cons Y (ZdM (by exact tZ_66.symm) Y)<|.cons Y (Zhu tZ_66 D3) .nil)⟩
    ·
     replace h := elr h
     replace h := t1i h
     refine Tr<|Zea (Ent.meltA (r := 1) (f := C65) Y tZ_66 (fun _=>Y) D3)<|Rq Y (ZV (ov Y) Y Y Y Zde arW arL)<|Rx Y (Zk (ov Y) (ov Y) (Zj Zde arL) Y Y Y (ZcM (Z8 Y) arL) (Zd<|arC fun _ => Y)<|ZbI<|Eq.trans Y<|Eq.symm arL)<|Ra Y<|Za<|?_
     obtain rfl := rt h
     exact Zi (Zs Y (.two (.agg Y Y Y Y Zde (JC<|Z8 arL) arL (pwB<|arD fun _ => Y) (hns := (nsM fun _ => Y)))<|rb Y))
theorem ZbM {s : List Int} {f : Int → Option Bool} {r : Int} {f_f : FuncId} {f_c : List AV} (f_d : f_c.all datB = true) (f_h : ∀ (z0 : Int) z, f z0 = some z → CSpec Try.prog gl0 f_f ([.int .i64 z0] ++ f_c) (.bool z)) (h : Qr s f = some r) :
 CSpec Try.prog gl0 81 [.sl 3 (List.map R3 s), .fn f_f f_c] (.int .i64 r) := by
 unfold Qr at h
 replace h := Qh h
 refine So Try.func81 Y fun w0 A=>Tr<|Ra Y<|Za<|J0 (fun j => (.inr j)) ⟨[], []⟩ h (fun h=>?_) fun h=>?_
 ·
  refine K2 0 1 Y<|Tr<|Rm Y<|Rl tZ_3 ZaN Y<|Rm Y<|Za<|Zf<|?_
  obtain ⟨r1, hl1, ho1⟩ := QS h
  refine L1 (fun i=>⟨[(0, .sl 3 (List.map R3 s)), (1, .fn f_f f_c), (7, .int .i64 (s.length : Int)), (8, .int .i64 i)], []⟩) hl1 (ES []<|sd 0 Y Y<|sr 1 Y (rFn<|rld f_d)<|sd 7 Y Y<|sd 8 Y Y sn) fun n1 i h=>?_
  unfold QD at h
  refine Tr<|R2 ZK Y<|Za<|Zh<|If h Y (fun h=>?_) fun h=>?_
  ·
   refine Ze<|Zh<|Zf<|K4 0 1 7 8 Y<|Tr<|Rm Y<|Ra Y<|Za<|K5 0 1 5 7 8 Y<|Tr<|Rm Y<|Rm Y<|Rm Y<|bE h fun x h_x h=>Rq Y (ZF (ov Y) (ov Y) ZaN h_x)<|Rq Y (Zb (ov Y) tS3 Y)<|bE h fun y h_y h=>Rq Y (X7 (ov Y) f_d (f_h _ _ h_y)<|.cons (ov Y) (.b Y) .nil)<|Za<|K6 0 1 5 7 8 16 Y<|If h Y (fun h=>?_) fun h=>?_
   ·
    refine K1 5 Y<|Tr<|Rm Y<|Ra Y<|Za<|?_
    replace h := lx h ▸ ho1
    obtain rfl := rt h
    exact Zi (Zs Y (.one<|rb Y))
   ·
    exact Ze<|K4 0 1 7 8 Y<|ZA<|R2 Qk Y<|Rm Y<|Za<|⟨_, h, ES []<|sd 0 Y Y<|sr 1 Y (rFn<|rld f_d)<|sd 7 Y Y<|sd 8 Y Y sn⟩
  ·
   refine ZE<|?_
   replace h := lx h ▸ ho1
   exact ⟨(), h, ES []⟩
 ·
  replace h := elr h
  replace h := t0i h
  refine Tr<|Ra Y<|Za<|?_
  obtain rfl := rt h
  exact Zi (Zs Y (.one<|rb Y))
theorem Zbl {s : List Int} {f : Int → Option Bool} {r : Bool} {f_f : FuncId} {f_c : List AV} (f_d : f_c.all datB = true) (f_h : ∀ (z0 : Int) z, f z0 = some z → CSpec Try.prog gl0 f_f ([.int .i64 z0] ++ f_c) (.bool z)) (h : Qa s f = some r) :
 CSpec Try.prog gl0 49 [.sl 3 (List.map R3 s), .fn f_f f_c] (.bool r) := by
 unfold Qa at h
 replace h := Qh h
 refine So Try.func49 Y fun w0 A=>Tr<|Ra Y<|Za<|Tr<|Rm Y<|Rm Y<|bE h fun y h_y h=>Rq Y (Zp (ZbM f_d f_h h_y)<|.cons (ov Y) (.b Y)<|.cons (ov Y) (Dat.fnC<|.refl fun x hx => .b<|List.all_eq_true.1 f_d x hx) .nil)<|R2 Zb1 Y<|Ra Y<|Za<|?_
 obtain rfl := rt h
 exact Zi (Zs Y (.one<|rb Y))
theorem Zem {d : Int} {r : Bool} (h : Jd d = some r) :
 CSpec Try.prog gl0 50 [.int .i64 d] (.bool r) := by
 unfold Jd at h
 replace h := Qh h
 refine So Try.func50 Y fun w0 A=>Tr<|Ra Y<|Za<|Tr<|Rm Y<|bE h fun y h_y h=>Rq Y (Zp (Z6 h_y)<|.cons (ov Y) (.b Y)<|.cons (ov Y) (.b Y)<|.cons (ov Y) (.b Y) .nil)<|R1 XN Y<|Ra Y<|Za<|?_
 obtain rfl := rt h
 exact Zi (Zs Y (.one<|rb Y))
theorem ZfM {c_ : api_Cell} {l : Vector (List Int) 16} {r : Int} (h : ZaG c_ l = some r) :
 CSpec Try.prog gl0 52 [.agg [.int .i64 c_.Param, .int .i64 c_.Index, .int .i64 c_.Frame, .sl 59 (List.map R59 c_.Places)], .agg (List.map C65 l.toList)] (.int .i64 r) := by
 unfold ZaG at h
 replace h := Qh h
 refine So Try.func52 Y fun w0 A=>Tr<|Rq Y (Z9 (cva<|ov Y) Y tZ_34 Y)<|Rq Y (Z9 (cva<|ov Y) arL tZ_66<|arD fun _ => Y)<|Ra Y<|Za<|K2 2 3 Y<|Tr<|Ra Y<|Za<|I1 (fun raw=>⟨[(5, .int .i64 raw)], []⟩) h (fun h=>?_) fun raw h=>?_
 ·
  refine Tr<|Rq Y (Zc (ov Y) Zbe)<|Rq Y (Zb (ov Y) Zfn Y)<|Rl tZ_59 ZcW Y<|Rm Y<|Za<|Zf<|?_
  obtain ⟨r1, hl1, ho1⟩ := QS h
  refine L2 (fun raw2 i=>⟨[(3, .rp (List.map C65 l.toList) 0), (5, .int .i64 raw2), (9, .sl 59 (List.map R59 c_.Places)), (10, .int .i64 (c_.Places.length : Int)), (11, .int .i64 i)], []⟩) hl1 (ES []) fun n1 raw2 i h=>?_
  unfold Zaf at h
  refine Tr<|R2 ZK Y<|Za<|Zh<|If h Y (fun h=>?_) fun h=>?_
  ·
   exact Ze<|Zh<|Zf<|K5 3 5 9 10 11 Y<|Tr<|bE h fun x h_x h=>Rq Y (ZF (ov Y) (ov Y) ZcW h_x)<|Rq Y (Zg (ov Y) Zeg Y Y)<|Rx Y (Zr (row := [_, _, _, _]) 0 Y ZhT Y tZ_59)<|Rx Y (Zk (ov Y) (ov Y) (Zj Zeg Y) Y Y Y (Nat.le_of_ble_eq_true Y) (Zd Y) Y)<|Za<|K6 3 5 7 9 10 11 Y<|Zfo (cw := md0) (by kernel_rfl)<|D1 0 Zv Y<|Dq 1 Y (Zm (ov Y) Y Y Zel)<|Dq 2 Y (Zl (ov Y) Y Y Y tS3 Y)<|bE h fun q h_q h=>Dq 3 Y (Zdx (ov Y) (ov Y) h_q)<|Dq 4 Y (Zm (ov Y) Y Y Zf7)<|Dq 5 Y (Zl (ov Y) Y Y Y tS3 Y)<|bE h fun x2 h_x2 h=>Dq 6 Y (Zlf (ov Y) (ov Y) ZeY h_x2)<|Dq 7 Y (Zb (ov Y) ZeB<|Zb3<|ZdC (o := 0) (o' := (x.Frame.toNat * 1)) (Z8 arL)<|ZdF h_x2)<|Dq 8 Y (Zm (ov Y) Y Y Zhe)<|Dq 9 Y (Zl (ov Y) Y Y Y tS3 Y)<|D2 10 ZcG Y<|bE h fun x3 h_x3 h=>Dq 11 Y (ZF (ov Y) (ov Y) ZaN h_x3)<|Dq 12 Y (Zb (ov Y) tS3 Y)<|Dq 13 Y (Zm (ov Y) Y Y Zf5)<|Dq 14 Y (Zl (ov Y) Y Y Y tS3 Y)<|bE h fun q2 h_q2 h=>Dq 15 Y (Zid (ov Y) (ov Y) h_q2)<|Dq 16 Y (Zm (ov Y) Y Y Zel)<|Dq 17 Y (Zl (ov Y) Y Y Y tS3 Y)<|bE h fun q3 h_q3 h=>Dq 18 Y (Zdx (ov Y) (ov Y) h_q3)<|D2 19 ZcG Y<|D2 20 Zhm Y<|D2 21 Zj7 Y<|D1 22 Jk Y<|Dd<|K5 3 5 9 10 11 Y<|ZA<|R2 Qk Y<|Rm Y<|Za<|⟨_, h, ES []⟩
  ·
   refine ZE<|?_
   replace h := lx h ▸ ho1
   exact ⟨_, h, ES []⟩
 ·
  refine Tr<|Rm Y<|Ra Y<|Za<|?_
  obtain rfl := rt h
  exact Zi (Zs Y (.one<|rb Y))
theorem ZeM {p : api_Param} {raw : Int} {r : Int × Bool} (h : JB p raw = some r) :
 CSpec Try.prog gl0 51 [.agg [.str p.Name, .int .i64 p.Kind, .sl 64 (List.map R64 p.Parts), .int .i64 p.First, .int .i64 p.Every, .int .i64 p.Times, .int .i64 p.Step, .sl 9 (List.map R9 p.Names)], .int .i64 raw] (.tuple [.int .i64 r.1, .bool r.2]) := by
 unfold JB at h
 replace h := Qh h
 refine So Try.func51 Y fun w0 A=>Tr<|Rq Y (Z9 (cva<|ov Y) Y tZ_44 Y)<|Ra Y<|Ra Y<|Za<|K2 1 2 Y<|Tr<|Rq Y (Zg (ov Y) Xy Y Y)<|bE h fun y h_y h=>Rq Y (Zp (Zb5 h_y)<|.cons (ov Y) (.aggB Y) .nil)<|Rq Y (Zkf (ov Y) Zku Y)<|Rm Y<|bE h fun y2 h_y2 h=>Rq Y (X7 (ov Y) (((XO h_y).2)).1 ((((XO h_y).2)).2 _ _ h_y2)<|.cons (ov Y) (.b Y) .nil)<|Rm Y<|Rq Y (Zy (ov Y) Y)<|Rq Y (Zy (ov Y) Y)<|Ra Y<|Ra Y<|Za<|Zh<|K2 6 7 Y<|Tr<|Rm Y<|R1 XN Y<|Za<|K2 6 17 Y<|If h Y (fun h=>?_) fun h=>?_
 ·
  refine K0<|Tr<|Ra Y<|Ra Y<|Za<|?_
  obtain rfl := rt h
  exact Zi (Zs Y (.two (rb Y)<|rb Y))
 ·
  refine Ze<|K1 6 Y<|Tr<|Rm Y<|Ra Y<|Ra Y<|Za<|?_
  obtain rfl := rt h
  exact Zi (Zs Y (.two (rb Y)<|rb Y))
theorem Zfq {m : api_Map} {l : Vector (List Int) 16} {r : (List api_Reading) × Int} (h : Zab m l = some r) :
 CSpec Try.prog gl0 28 [.agg [.int .i64 m.Version, .sl 44 (List.map R44 m.Params)], .agg (List.map C65 l.toList)] (.tuple [.sl 73 (List.map R73 r.1), .int .i64 r.2]) := by
 unfold Zab at h
 replace h := Qh h
 refine So Try.func28 Y fun w0 A=>Tr<|Rq Y (Z9 (cva<|ov Y) Y tZ_24 Y)<|Rq Y (Z9 (cva<|ov Y) arL tZ_66<|arD fun _ => Y)<|Ra Y<|Ra Y<|Za<|Zh<|K2 2 3 Y<|Tr<|Rq Y (Zg (ov Y) Zb9 Y Y)<|bE h fun y h_y h=>Rq Y (Zp (Je h_y)<|.cons (ov Y) (.aggB Y) .nil)<|Rm Y<|Rq Y (Zy (ov Y) Y)<|Rq Y (Zy (ov Y) Y)<|Ra Y<|Ra Y<|Za<|K3 2 3 7 Y<|Tr<|Rm Y<|R2 QY Y<|Za<|K4 2 3 7 23 Y<|If h Y (fun h=>?_) fun h=>?_
 ·
  refine K1 7 Y<|Tr<|Rm Y<|Ra Y<|Ra Y<|Za<|?_
  obtain rfl := rt h
  exact Zi (Zs Y (.two (.tmp Y<|View.nils 73)<|rb Y))
 ·
  refine Ze<|J0 (fun j => (.inr j)) ⟨[(2, .rp [.int .i64 m.Version, .sl 44 (List.map R44 m.Params)] 0), (3, .rp (List.map C65 l.toList) 0)], []⟩ h (fun h=>?_) fun h=>?_
  ·
   refine K2 2 3 Y<|Tr<|Rq Y (Zg (ov Y) Zde (JC<|Z8 arL) arL)<|Rm Y<|Za<|Zf<|?_
   obtain ⟨r1, hl1, ho1⟩ := QS h
   refine L1 (fun i=>⟨[(2, .rp [.int .i64 m.Version, .sl 44 (List.map R44 m.Params)] 0), (3, .rp (List.map C65 l.toList) 0), (25, .agg (List.map C65 l.toList)), (26, .int .i64 i)], []⟩) hl1 (ES []) fun n1 i h=>?_
   unfold JM at h
   refine Tr<|R2 ZK Y<|Za<|Zh<|If h Y (fun h=>?_) fun h=>?_
   ·
    refine Ze<|Zh<|Zf<|K4 2 3 25 26 Y<|Tr<|bE h fun x h_x h=>Rq Y (ZgZ (ov Y) (ov Y) ZeY ZeB h_x)<|Ra Y<|Za<|Zh<|K5 2 3 9 25 26 Y<|Tr<|Rm Y<|Rl tZ_3 ZaN Y<|R2 QY Y<|Za<|K6 2 3 9 25 26 31 Y<|If h Y (fun h=>?_) fun h=>?_
    ·
     refine K0<|Tr<|Ra Y<|Ra Y<|Za<|?_
     replace h := lx h ▸ ho1
     obtain rfl := rt h
     exact Zi (Zs Y (.two (.tmp Y<|View.nils 73)<|rb Y))
    ·
     refine Ze<|K5 2 3 9 25 26 Y<|Tr<|Rm Y<|bE h fun y2 h_y2 h=>Rq Y (Zp (Zbl Y (fun z0 _ hz=>Zem hz) h_y2)<|.cons (ov Y) (.b Y)<|.cons (ov Y) .fn .nil)<|Za<|K5 2 3 25 26 33 Y<|If h Y (fun h=>?_) fun h=>?_
     ·
      refine K0<|Tr<|Ra Y<|Ra Y<|Za<|?_
      replace h := lx h ▸ ho1
      obtain rfl := rt h
      exact Zi (Zs Y (.two (.tmp Y<|View.nils 73)<|rb Y))
     ·
      exact Ze<|K4 2 3 25 26 Y<|ZA<|R2 Qk Y<|Rm Y<|Za<|⟨_, h, ES []⟩
   ·
    refine ZE<|?_
    replace h := lx h ▸ ho1
    exact ⟨(), h, ES []⟩
  ·
   replace h := elr h
   replace h := t0i h
   refine J0 (fun j => (.inr j)) ⟨[(2, .rp [.int .i64 m.Version, .sl 44 (List.map R44 m.Params)] 0), (3, .rp (List.map C65 l.toList) 0)], []⟩ h (fun h=>?_) fun h=>?_
   ·
    refine Tr<|Rq Y (Zg (ov Y) Zde (JC<|Z8 arL) arL)<|Rm Y<|Za<|Zf<|?_
    obtain ⟨r2, hl2, ho2⟩ := QS h
    refine L1 (fun i2=>⟨[(2, .rp [.int .i64 m.Version, .sl 44 (List.map R44 m.Params)] 0), (3, .rp (List.map C65 l.toList) 0), (35, .agg (List.map C65 l.toList)), (36, .int .i64 i2)], []⟩) hl2 (ES []) fun n2 i2 h=>?_
    unfold JQ at h
    refine Tr<|R2 ZK Y<|Za<|Zh<|If h Y (fun h=>?_) fun h=>?_
    ·
     refine Ze<|Zh<|Zf<|K4 2 3 35 36 Y<|Tr<|bE h fun x2 h_x2 h=>Rq Y (ZgZ (ov Y) (ov Y) ZeY ZeB h_x2)<|Ra Y<|Za<|K5 2 3 11 35 36 Y<|Td md0<|D1 0 Zv Y<|bE h fun x3 h_x3 h=>Dq 1 Y (ZF (ov Y) (ov Y) ZaN h_x3)<|Dq 2 Y (Zb (ov Y) tS3 Y)<|Dq 3 Y (Zc (ov Y) Zg8)<|Dq 4 Y (Zb (ov Y) tS3 Y)<|D2 5 QY Y<|Dd<|K5 2 3 35 36 44 Y<|If h Y (fun h=>?_) fun h=>?_
     ·
      refine K0<|Tr<|Ra Y<|Ra Y<|Za<|?_
      replace h := lx h ▸ ho2
      obtain rfl := rt h
      exact Zi (Zs Y (.two (.tmp Y<|View.nils 73)<|rb Y))
     ·
      exact Ze<|K4 2 3 35 36 Y<|ZA<|R2 Qk Y<|Rm Y<|Za<|⟨_, h, ES []⟩
    ·
     refine ZE<|?_
     replace h := lx h ▸ ho2
     exact ⟨(), h, ES []⟩
   ·
    replace h := elr h
    replace h := t0i h
    refine Tr<|Ra Y<|Za<|I1 (fun out=>⟨[(12, .own 0 out.length)], [some ⟨73, List.map R73 out⟩]⟩) h (fun h=>?_) fun out h=>?_
    ·
     refine Tr<|Rq Y (Zg (ov Y) Zb9 Y Y)<|bE h fun y3 h_y3 h=>Rq Y (Zp (Zaj h_y3)<|.cons (ov Y) (.aggB Y) .nil)<|Rl tZ_34 Zar Y<|Rm Y<|Za<|Zf<|?_
     obtain ⟨r3, hl3, ho3⟩ := QS h
     refine L2 (fun out2 i3=>⟨[(2, .rp [.int .i64 m.Version, .sl 44 (List.map R44 m.Params)] 0), (3, .rp (List.map C65 l.toList) 0), (12, .own 0 out2.length), (47, .sl 34 (List.map R34 y3)), (48, .int .i64 (y3.length : Int)), (49, .int .i64 i3)], [some ⟨73, List.map R73 out2⟩]⟩) hl3 (ES [none]) fun n3 out2 i3 h=>?_
     unfold JP at h
     refine Tr<|R2 ZK Y<|Za<|Zh<|If h Y (fun h=>?_) fun h=>?_
     ·
      exact Ze<|Zh<|Zf<|K6 2 3 12 47 48 49 Y<|Tr<|bE h fun x4 h_x4 h=>Rq Y (ZF (ov Y) (ov Y) Zar h_x4)<|Rq Y (Zg (ov Y) ZbD Y Y)<|Rx Y (Zr (row := [_, _, _, _]) 1 Y Zfr Y tZ_34)<|Rx Y (Zk (ov Y) (ov Y) (Zj ZbD Y) Y Y Y (Nat.le_of_ble_eq_true Y) (Zd Y) Y)<|Za<|K7 2 3 12 14 47 48 49 Y<|Td md0<|Dq 0 Y (Zc (ov Y) Zap)<|Dq 1 Y (Zb (ov Y) Zeu Y)<|Dq 2 Y (Zm (ov Y) Y Y Zfs)<|Dq 3 Y (Zl (ov Y) Y Y Y tS3 Y)<|bE h fun x5 h_x5 h=>Dq 4 Y (ZF (ov Y) (ov Y) Za1 h_x5)<|Dq 5 Y (Zg (ov Y) Xy Y Y)<|Dq 6 Y (ZV (ov Y) Y Y Y ZbD Y Y)<|Dq 7 Y (Zg (ov Y) Zde (JC<|Z8 arL) arL)<|bE h fun y4 h_y4 h=>Dq 8 Y (Zp (ZfM h_y4)<|.cons (ov Y) (.aggB Y)<|.cons (ov Y) (.aggB<|arD fun _ => Y) .nil)<|bE h fun y5 h_y5 h=>Dq 9 Y (Zp (ZeM h_y5)<|.cons (ov Y) (.aggB Y)<|.cons (ov Y) (.b Y) .nil)<|D1 10 Zv Y<|Dq 11 Y (Zy (ov Y) Y)<|Dq 12 Y (Zy (ov Y) Y)<|D1 13 Jk Y<|D1 14 Jk Y<|Dd<|K9 2 3 12 14 15 16 47 48 49 Y<|ZA<|Rm Y<|Rq Y (Zm (ov Y) Y Y Zfs)<|Rq Y (Zl (ov Y) Y Y Y tS3 Y)<|Rq Y (Zm (ov Y) Y Y Zii)<|Rq Y (Zl (ov Y) Y Y Y tS3 Y)<|Rm Y<|Rm Y<|Rq Y (Jv (ys := [_, _, _, _]) ZkV ZkS Zmd (.cons (cvs (ov Y)<|Zq Y)<|.cons (cvs (ov Y)<|Zq Y)<|.cons (cvs (ov Y)<|Zq Y)<|.cons (cvs (ov Y)<|Zq Y) .nil) Y)<|R_q (.sl 73<|List.map R73 ([(api_Reading.mk x4.Param x4.Index y5.1 y5.2)] : List api_Reading)) Y (ZdG Zko (.cons (cva<|ov Y) Y (pwD Y) .nil) Y Y)<|bE h fun l2 h_l2 h=>Rx Y (Zau (ov Y) (X4 (ov Y) tZ_73) Zko Y Y Y (fun _=>Zd Y) Y h_l2)<|Ra Y<|Za<|K6 2 3 12 47 48 49 Y<|ZA<|R2 Qk Y<|Rm Y<|Za<|⟨_, h, ES [some 0]⟩
     ·
      refine ZE<|?_
      replace h := lx h ▸ ho3
      exact ⟨_, h, ES [some 0]⟩
    ·
     refine Tr<|Rm Y<|Ra Y<|Ra Y<|Za<|?_
     obtain rfl := rt h
     exact Zi (Zs Y (.two (.tmp Y<|View.ownM Y Y D73)<|rb Y))
theorem Zf0  {r : Bool} (h : Zaw  = some r) :
 CSpec Try.prog gl0 13 [] (.bool r) := by
 unfold Zaw at h
 replace h := Qh h
 refine So Try.func13 Y fun w0 A=>Tr<|Ra Y<|Za<|K0<|Tr<|Rq Y (Jv (ys := [_, _, _, _]) Zl3 ZlP ZgF (.cons (cvs (ov Y)<|Zq Y)<|.cons (cvs (ov Y)<|Zq Y)<|.cons (cvs (ov Y)<|Zq Y) .nil) Y)<|R_q (.sl 64<|List.map R64 ([(api_Part.mk 0 9 2 3)] : List api_Part)) Y (ZdG ZbB (.cons (cva<|ov Y) Y (pwD Y) .nil) Y Y)<|Rq Y (Jv (ys := [_, _, _, _, _, _, _, _]) ZlF Zmg ZgG (.cons (cvs (ov Y)<|Zq Y)<|.cons (cvs (ov Y)<|Zq Y)<|.cons (cvs (ov Y)<|Zq Y)<|.cons (cvs (ov Y)<|Zq Y)<|.cons (cvs (ov Y)<|Zq Y)<|.cons (cvs (ov Y)<|Zq Y)<|.cons (cvs (ov Y)<|Zq Y) .nil) Y)<|R_q (.sl 44<|List.map R44 ([(api_Param.mk [97] 2 ([(api_Part.mk 0 9 2 3)] : List api_Part) 2 8 2 1 [])] : List api_Param)) Y (ZdG Za1 (.cons (cva<|ov Y) Y (.cons (.b Y)<|.cons (.b Y)<|.cons (.b Y)<|.cons (.b Y)<|.cons (.b Y)<|.cons (.b Y)<|.cons (.b Y)<|.cons (Dat.nils _) .nil) .nil) Y Y)<|Rq Y (Jv (ys := [_, _]) Zl4 ZlH Zmf (.cons (cvs (ov Y)<|Zq Y)<|.cons (cvs (ov Y)<|Zq Y) .nil) Y)<|Rx Y (Zr (row := [_, _]) 0 Y Zmf Y tZ_24)<|Rx Y (Zk (ov Y) (ov Y) (Zj Zb9 Y) Y Y Y (Nat.le_of_ble_eq_true Y) (Zd Y) Y)<|Za<|K1 1 Y<|Tr<|Rq Y (ZV (ov Y) Y Y Y Zb9 Y Y)<|R_q (.sl 3<|List.map R3 ([(-1), 3, 0, (-4)] : List Int)) Y (ZdG ZaN (.cons (cvs (ov Y)<|Zq Y) Y (.cons (.b Y) .nil)<|.cons (cvs (ov Y)<|Zq Y) Y (.cons (.b Y) .nil)<|.cons (cvs (ov Y)<|Zq Y) Y (.cons (.b Y) .nil)<|.cons (cvs (ov Y)<|Zq Y) Y (.cons (.b Y) .nil) .nil) Y Y)<|bE h fun y h_y h=>Rq Y (Zp (Zf8 h_y)<|.cons (ov Y) (.aggB Y)<|.cons (ov Y) (.b Y) .nil)<|Rm Y<|Rq Y (Zy (ov Y) Y)<|Rq Y (Zy (ov Y) Y)<|Rx Y (Zr (row := [_, _, _, _, _, _, _, _, _, _, _, _, _, _, _, _]) 1 Y ZkN Y tZ_66)<|Rx Y (Zk (ov Y) (ov Y) (Zj Zde arL) Y Y Y (ZcM (Z8 Y) arL) (Zd<|arC fun _ => Y)<|ZbI<|Eq.trans Y<|Eq.symm arL)<|Ra Y<|Za<|Zh<|K3 1 2 3 Y<|Tr<|Rm Y<|R2 QY Y<|Rm Y<|bE h fun x h_x h=>Rq Y (.guarded ((!decide (y.2 = 0)) == false) Y Y Y Y fun h => Jz (ov Y) (ov Y) ZeY Y Y<|gdT h_x h)<|Rq Y (.guarded ((!decide (y.2 = 0)) == false) Y Y Y Y fun h => Zl (ow Y h) Y Y Y ZeB<|Zb3<|ZdC (o := 0) (o' := ((Int.toNat 2) * 1)) (Z8 arL)<|ZdF<|gdT h_x h)<|Rq Y (.guarded ((!decide (y.2 = 0)) == false) Y Y Y Y fun h => Zd8 (X4 (ow Y h) tZ_3) ZaN<|Zbm _ _)<|Rq Y (.guarded ((!decide (y.2 = 0)) == false) Y Y Y Y fun h => QY (ow Y h)<|ov Y)<|Rq Y (XQ (ov Y) fun hp=>ow Y<|gF hp)<|Rm Y<|bE h fun x2 h_x2 h=>Rq Y (.guarded (((!decide (y.2 = 0)) || (!decide ((x.length : Int) = 58))) == false) Y Y Y Y fun h => Jz (ov Y) (ov Y) ZeY Y Y<|gdT h_x2 h)<|Rq Y (.guarded (((!decide (y.2 = 0)) || (!decide ((x.length : Int) = 58))) == false) Y Y Y Y fun h => Zl (ow Y h) Y Y Y ZeB<|Zb3<|ZdC (o := 0) (o' := ((Int.toNat 5) * 1)) (Z8 arL)<|ZdF<|gdT h_x2 h)<|Rq Y (.guarded (((!decide (y.2 = 0)) || (!decide ((x.length : Int) = 58))) == false) Y Y Y Y fun h => Zd8 (X4 (ow Y h) tZ_3) ZaN<|Zbm _ _)<|Rq Y (.guarded (((!decide (y.2 = 0)) || (!decide ((x.length : Int) = 58))) == false) Y Y Y Y fun h => QY (ow Y h)<|ov Y)<|Rq Y (XQ (ov Y) fun hp=>ow Y<|gF hp)<|Rm Y<|bE h fun x3 h_x3 h=>Rq Y (.guarded ((((!decide (y.2 = 0)) || (!decide ((x.length : Int) = 58))) || (!decide ((x2.length : Int) = 58))) == false) Y Y Y Y fun h => Jz (ov Y) (ov Y) ZeY Y Y<|gdT h_x3 h)<|Rq Y (.guarded ((((!decide (y.2 = 0)) || (!decide ((x.length : Int) = 58))) || (!decide ((x2.length : Int) = 58))) == false) Y Y Y Y fun h => Zl (ow Y h) Y Y Y ZeB<|Zb3<|ZdC (o := 0) (o' := ((Int.toNat 10) * 1)) (Z8 arL)<|ZdF<|gdT h_x3 h)<|Rq Y (.guarded ((((!decide (y.2 = 0)) || (!decide ((x.length : Int) = 58))) || (!decide ((x2.length : Int) = 58))) == false) Y Y Y Y fun h => Zd8 (X4 (ow Y h) tZ_3) ZaN<|Zbm _ _)<|Rq Y (.guarded ((((!decide (y.2 = 0)) || (!decide ((x.length : Int) = 58))) || (!decide ((x2.length : Int) = 58))) == false) Y Y Y Y fun h => QY (ow Y h)<|ov Y)<|Rq Y (XQ (ov Y) fun hp=>ow Y<|gF hp)<|Rm Y<|bE h fun x4 h_x4 h=>Rq Y (.guarded (((((!decide (y.2 = 0)) || (!decide ((x.length : Int) = 58))) || (!decide ((x2.length : Int) = 58))) || (!decide ((x3.length : Int) = 58))) == false) Y Y Y Y fun h => Jz (ov Y) (ov Y) ZeY Y Y<|gdT h_x4 h)<|Rq Y (.guarded (((((!decide (y.2 = 0)) || (!decide ((x.length : Int) = 58))) || (!decide ((x2.length : Int) = 58))) || (!decide ((x3.length : Int) = 58))) == false) Y Y Y Y fun h => Zl (ow Y h) Y Y Y ZeB<|Zb3<|ZdC (o := 0) (o' := ((Int.toNat 2) * 1)) (Z8 arL)<|ZdF<|gdT h_x4 h)<|bE h fun x5 h_x5 h=>Rq Y (.guarded (((((!decide (y.2 = 0)) || (!decide ((x.length : Int) = 58))) || (!decide ((x2.length : Int) = 58))) || (!decide ((x3.length : Int) = 58))) == false) Y Y Y Y fun h => ZF (ow Y h) (ov Y) ZaN<|gdT h_x5 h)<|Rq Y (.guarded (((((!decide (y.2 = 0)) || (!decide ((x.length : Int) = 58))) || (!decide ((x2.length : Int) = 58))) || (!decide ((x3.length : Int) = 58))) == false) Y Y Y Y fun h => Zb (ow Y h) tS3 Y)<|Rq Y (.guarded (((((!decide (y.2 = 0)) || (!decide ((x.length : Int) = 58))) || (!decide ((x2.length : Int) = 58))) || (!decide ((x3.length : Int) = 58))) == false) Y Y Y Y fun h => QY (ow Y h)<|ov Y)<|Rq Y (XQ (ov Y) fun hp=>ow Y<|gF hp)<|Rm Y<|bE h fun x6 h_x6 h=>Rq Y (.guarded ((((((!decide (y.2 = 0)) || (!decide ((x.length : Int) = 58))) || (!decide ((x2.length : Int) = 58))) || (!decide ((x3.length : Int) = 58))) || (!decide (x5 = 28))) == false) Y Y Y Y fun h => Jz (ov Y) (ov Y) ZeY Y Y<|gdT h_x6 h)<|Rq Y (.guarded ((((((!decide (y.2 = 0)) || (!decide ((x.length : Int) = 58))) || (!decide ((x2.length : Int) = 58))) || (!decide ((x3.length : Int) = 58))) || (!decide (x5 = 28))) == false) Y Y Y Y fun h => Zl (ow Y h) Y Y Y ZeB<|Zb3<|ZdC (o := 0) (o' := ((Int.toNat 2) * 1)) (Z8 arL)<|ZdF<|gdT h_x6 h)<|bE h fun x7 h_x7 h=>Rq Y (.guarded ((((((!decide (y.2 = 0)) || (!decide ((x.length : Int) = 58))) || (!decide ((x2.length : Int) = 58))) || (!decide ((x3.length : Int) = 58))) || (!decide (x5 = 28))) == false) Y Y Y Y fun h => ZF (ow Y h) (ov Y) ZaN<|gdT h_x7 h)<|Rq Y (.guarded ((((((!decide (y.2 = 0)) || (!decide ((x.length : Int) = 58))) || (!decide ((x2.length : Int) = 58))) || (!decide ((x3.length : Int) = 58))) || (!decide (x5 = 28))) == false) Y Y Y Y fun h => Zb (ow Y h) tS3 Y)<|Rq Y (.guarded ((((((!decide (y.2 = 0)) || (!decide ((x.length : Int) = 58))) || (!decide ((x2.length : Int) = 58))) || (!decide ((x3.length : Int) = 58))) || (!decide (x5 = 28))) == false) Y Y Y Y fun h => QY (ow Y h)<|ov Y)<|Rq Y (XQ (ov Y) fun hp=>ow Y<|gF hp)<|Rm Y<|bE h fun x8 h_x8 h=>Rq Y (.guarded (((((((!decide (y.2 = 0)) || (!decide ((x.length : Int) = 58))) || (!decide ((x2.length : Int) = 58))) || (!decide ((x3.length : Int) = 58))) || (!decide (x5 = 28))) || (!decide (x7 = 12))) == false) Y Y Y Y fun h => Jz (ov Y) (ov Y) ZeY Y Y<|gdT h_x8 h)<|Rq Y (.guarded (((((((!decide (y.2 = 0)) || (!decide ((x.length : Int) = 58))) || (!decide ((x2.length : Int) = 58))) || (!decide ((x3.length : Int) = 58))) || (!decide (x5 = 28))) || (!decide (x7 = 12))) == false) Y Y Y Y fun h => Zl (ow Y h) Y Y Y ZeB<|Zb3<|ZdC (o := 0) (o' := ((Int.toNat 10) * 1)) (Z8 arL)<|ZdF<|gdT h_x8 h)<|bE h fun x9 h_x9 h=>Rq Y (.guarded (((((((!decide (y.2 = 0)) || (!decide ((x.length : Int) = 58))) || (!decide ((x2.length : Int) = 58))) || (!decide ((x3.length : Int) = 58))) || (!decide (x5 = 28))) || (!decide (x7 = 12))) == false) Y Y Y Y fun h => ZF (ow Y h) (ov Y) ZaN<|gdT h_x9 h)<|Rq Y (.guarded (((((((!decide (y.2 = 0)) || (!decide ((x.length : Int) = 58))) || (!decide ((x2.length : Int) = 58))) || (!decide ((x3.length : Int) = 58))) || (!decide (x5 = 28))) || (!decide (x7 = 12))) == false) Y Y Y Y fun h => Zb (ow Y h) tS3 Y)<|Rq Y (.guarded (((((((!decide (y.2 = 0)) || (!decide ((x.length : Int) = 58))) || (!decide ((x2.length : Int) = 58))) || (!decide ((x3.length : Int) = 58))) || (!decide (x5 = 28))) || (!decide (x7 = 12))) == false) Y Y Y Y fun h => QY (ow Y h)<|ov Y)<|Rq Y (XQ (ov Y) fun hp=>ow Y<|gF hp)<|Rm Y<|bE h fun x10 h_x10 h=>Rq Y (.guarded ((((((((!decide (y.2 = 0)) || (!decide ((x.length : Int) = 58))) || (!decide ((x2.length : Int) = 58))) || (!decide ((x3.length : Int) = 58))) || (!decide (x5 = 28))) || (!decide (x7 = 12))) || (!decide (x9 = 0))) == false) Y Y Y Y fun h => Jz (ov Y) (ov Y) ZeY Y Y<|gdT h_x10 h)<|Rq Y (.guarded ((((((((!decide (y.2 = 0)) || (!decide ((x.length : Int) = 58))) || (!decide ((x2.length : Int) = 58))) || (!decide ((x3.length : Int) = 58))) || (!decide (x5 = 28))) || (!decide (x7 = 12))) || (!decide (x9 = 0))) == false) Y Y Y Y fun h => Zl (ow Y h) Y Y Y ZeB<|Zb3<|ZdC (o := 0) (o' := ((Int.toNat 10) * 1)) (Z8 arL)<|ZdF<|gdT h_x10 h)<|bE h fun x11 h_x11 h=>Rq Y (.guarded ((((((((!decide (y.2 = 0)) || (!decide ((x.length : Int) = 58))) || (!decide ((x2.length : Int) = 58))) || (!decide ((x3.length : Int) = 58))) || (!decide (x5 = 28))) || (!decide (x7 = 12))) || (!decide (x9 = 0))) == false) Y Y Y Y fun h => ZF (ow Y h) (ov Y) ZaN<|gdT h_x11 h)<|Rq Y (.guarded ((((((((!decide (y.2 = 0)) || (!decide ((x.length : Int) = 58))) || (!decide ((x2.length : Int) = 58))) || (!decide ((x3.length : Int) = 58))) || (!decide (x5 = 28))) || (!decide (x7 = 12))) || (!decide (x9 = 0))) == false) Y Y Y Y fun h => Zb (ow Y h) tS3 Y)<|Rq Y (.guarded ((((((((!decide (y.2 = 0)) || (!decide ((x.length : Int) = 58))) || (!decide ((x2.length : Int) = 58))) || (!decide ((x3.length : Int) = 58))) || (!decide (x5 = 28))) || (!decide (x7 = 12))) || (!decide (x9 = 0))) == false) Y Y Y Y fun h => QY (ow Y h)<|ov Y)<|Rq Y (XQ (ov Y) fun hp=>ow Y<|gF hp)<|Rm Y<|bE h fun x12 h_x12 h=>Rq Y (.guarded (((((((((!decide (y.2 = 0)) || (!decide ((x.length : Int) = 58))) || (!decide ((x2.length : Int) = 58))) || (!decide ((x3.length : Int) = 58))) || (!decide (x5 = 28))) || (!decide (x7 = 12))) || (!decide (x9 = 0))) || (!decide (x11 = 16))) == false) Y Y Y Y fun h => Jz (ov Y) (ov Y) ZeY Y Y<|gdT h_x12 h)<|Rq Y (.guarded (((((((((!decide (y.2 = 0)) || (!decide ((x.length : Int) = 58))) || (!decide ((x2.length : Int) = 58))) || (!decide ((x3.length : Int) = 58))) || (!decide (x5 = 28))) || (!decide (x7 = 12))) || (!decide (x9 = 0))) || (!decide (x11 = 16))) == false) Y Y Y Y fun h => Zl (ow Y h) Y Y Y ZeB<|Zb3<|ZdC (o := 0) (o' := ((Int.toNat 5) * 1)) (Z8 arL)<|ZdF<|gdT h_x12 h)<|bE h fun x13 h_x13 h=>Rq Y (.guarded (((((((((!decide (y.2 = 0)) || (!decide ((x.length : Int) = 58))) || (!decide ((x2.length : Int) = 58))) || (!decide ((x3.length : Int) = 58))) || (!decide (x5 = 28))) || (!decide (x7 = 12))) || (!decide (x9 = 0))) || (!decide (x11 = 16))) == false) Y Y Y Y fun h => ZF (ow Y h) (ov Y) ZaN<|gdT h_x13 h)<|Rq Y (.guarded (((((((((!decide (y.2 = 0)) || (!decide ((x.length : Int) = 58))) || (!decide ((x2.length : Int) = 58))) || (!decide ((x3.length : Int) = 58))) || (!decide (x5 = 28))) || (!decide (x7 = 12))) || (!decide (x9 = 0))) || (!decide (x11 = 16))) == false) Y Y Y Y fun h => Zb (ow Y h) tS3 Y)<|Rq Y (.guarded (((((((((!decide (y.2 = 0)) || (!decide ((x.length : Int) = 58))) || (!decide ((x2.length : Int) = 58))) || (!decide ((x3.length : Int) = 58))) || (!decide (x5 = 28))) || (!decide (x7 = 12))) || (!decide (x9 = 0))) || (!decide (x11 = 16))) == false) Y Y Y Y fun h => QY (ow Y h)<|ov Y)<|Rq Y (XQ (ov Y) fun hp=>ow Y<|gF hp)<|Za<|K3 1 2 70 Y<|If h Y (fun h=>?_) fun h=>?_
 ·
  refine K0<|Tr<|Ra Y<|Za<|?_
  obtain rfl := rt h
  exact Zi (Zs Y (.one<|rb Y))
 ·
  refine Ze<|K2 1 2 Y<|Tr<|Rq Y (ZV (ov Y) Y Y Y Zb9 Y Y)<|Rq Y (ZV (ov Y) Y Y Y Zde (JC<|Z8 arL) arL (hns := (nsM fun _ => Y)))<|bE h fun y2 h_y2 h=>Rq Y (Zp (Zfq h_y2)<|.cons (ov Y) (.aggB Y)<|.cons (ov Y) (.aggB<|arD fun _ => Y) .nil)<|Rm Y<|Rq Y (Zy (ov Y) Y)<|Rq Y (Zy (ov Y) Y)<|Ra Y<|Ra Y<|Za<|K2 3 4 Y<|Tr<|Rm Y<|R2 Xa Y<|Rm Y<|Rq Y (.guarded ((decide (y2.2 = 0)) == true) Y Y Y Y fun h => Zv<|ov Y)<|Rq Y (.guarded ((decide (y2.2 = 0)) == true) Y Y Y Y fun h => Zd8 (X4 (ow Y h) tZ_73) Zko<|Zbm _ _)<|Rq Y (.guarded ((decide (y2.2 = 0)) == true) Y Y Y Y fun h => Xa (ow Y h)<|ov Y)<|Rq Y (Jc (ov Y) fun hp=>ow Y<|gT hp)<|Rm Y<|Rq Y (.guarded (((decide (y2.2 = 0)) && (decide ((y2.1.length : Int) = 4))) == true) Y Y Y Y fun h => Zv<|ov Y)<|bE h fun x14 h_x14 h=>Rq Y (.guarded (((decide (y2.2 = 0)) && (decide ((y2.1.length : Int) = 4))) == true) Y Y Y Y fun h => ZF (ow Y h) (ov Y) Zko<|gdT h_x14 h)<|Rq Y (.guarded (((decide (y2.2 = 0)) && (decide ((y2.1.length : Int) = 4))) == true) Y Y Y Y fun h => Zg (ow Y h) Zml Y Y)<|Rq Y (.guarded (((decide (y2.2 = 0)) && (decide ((y2.1.length : Int) = 4))) == true) Y Y Y Y fun h => Jv (ys := [_, _, _, _]) ZkV ZkS Zmd (.cons (cvs (ov Y)<|Zq Y)<|.cons (cvs (ov Y)<|Zq Y)<|.cons (cvs (ov Y)<|Zq Y) .nil) Y)<|Rq Y (.guarded (((decide (y2.2 = 0)) && (decide ((y2.1.length : Int) = 4))) == true) Y Y Y Y fun h => Zlg ZlJ (ow Y h) (ow Y h) (.aggB Y) (.aggB Y) Y Y)<|Rq Y (Jc (ov Y) fun hp=>ow Y<|gT hp)<|Ra Y<|Za<|?_
  obtain rfl := rt h
  exact Zi (Zs Y (.one<|rb Y))
theorem Zba {m : api_Map} {r : Bool} (h : QE m = some r) :
 CSpec Try.prog gl0 3 [.agg [.int .i64 m.Version, .sl 44 (List.map R44 m.Params)]] (.bool r) := by
 unfold QE at h
 replace h := Qh h
 refine So Try.func3 Y fun w0 A=>Tr<|Rq Y (Z9 (cva<|ov Y) Y tZ_24 Y)<|Ra Y<|Za<|K1 1 Y<|Tr<|Rq Y (Zg (ov Y) Zb9 Y Y)<|bE h fun y h_y h=>Rq Y (Zp (ZfO h_y)<|.cons (ov Y) (.aggB Y) .nil)<|Rm Y<|Rq Y (Zy (ov Y) Y)<|Rq Y (Zy (ov Y) Y)<|Ra Y<|Ra Y<|Za<|K3 1 3 4 Y<|Tr<|Rq Y (Zg (ov Y) Zb9 Y Y)<|bE h fun y2 h_y2 h=>Rq Y (Zp (Zck h_y2)<|.cons (ov Y) (.aggB Y) .nil)<|Rm Y<|Rq Y (Zy (ov Y) Y)<|Rq Y (Zy (ov Y) Y)<|Ra Y<|Ra Y<|Za<|Zh<|K5 1 3 4 5 6 Y<|Tr<|Rm Y<|Rm Y<|R2 QY Y<|Rm Y<|Rq Y (.guarded ((!decide (y.1 = y2.1)) == false) Y Y Y Y fun h => Zv<|ov Y)<|Rq Y (.guarded ((!decide (y.1 = y2.1)) == false) Y Y Y Y fun h => Zv<|ov Y)<|Rq Y (.guarded ((!decide (y.1 = y2.1)) == false) Y Y Y Y fun h => QY (ow Y h)<|ow Y h)<|Rq Y (XQ (ov Y) fun hp=>ow Y<|gF hp)<|Za<|K2 1 28 Y<|If h Y (fun h=>?_) fun h=>?_
 ·
  refine K0<|Tr<|Ra Y<|Za<|?_
  obtain rfl := rt h
  exact Zi (Zs Y (.one<|rb Y))
 ·
  refine Ze<|K1 1 Y<|Tr<|Rq Y (Zg (ov Y) Zb9 Y Y)<|bE h fun y3 h_y3 h=>Rq Y (Zp (ZfQ h_y3)<|.cons (ov Y) (.aggB Y) .nil)<|Rm Y<|Rq Y (Zy (ov Y) Y)<|Rq Y (Zy (ov Y) Y)<|Ra Y<|Ra Y<|Za<|K3 1 4 7 Y<|Tr<|Rq Y (Zg (ov Y) Zb9 Y Y)<|bE h fun y4 h_y4 h=>Rq Y (Zp (ZgH h_y4)<|.cons (ov Y) (.aggB Y) .nil)<|Rm Y<|Rq Y (Zy (ov Y) Y)<|Rq Y (Zy (ov Y) Y)<|Ra Y<|Ra Y<|Za<|Zh<|K5 1 4 6 7 8 Y<|Tr<|Rm Y<|Rm Y<|R2 QY Y<|Rm Y<|Rq Y (.guarded ((!decide (y3.2 = y4.2)) == false) Y Y Y Y fun h => Zv<|ov Y)<|Rq Y (.guarded ((!decide (y3.2 = y4.2)) == false) Y Y Y Y fun h => Zv<|ov Y)<|bE h fun y5 h_y5 h=>Rq Y (.guarded ((!decide (y3.2 = y4.2)) == false) Y Y Y Y fun h => Zp (Q2 Y (fun z0 z1 _ hz=>Zft hz)<|gdT h_y5 h)<|.cons (ow Y h) (.b Y)<|.cons (ow Y h) (.b Y)<|.cons (ov Y) .fn .nil)<|Rq Y (.guarded ((!decide (y3.2 = y4.2)) == false) Y Y Y Y fun h => XN<|ow Y h)<|Rq Y (XQ (ov Y) fun hp=>ow Y<|gF hp)<|Za<|K2 1 47 Y<|If h Y (fun h=>?_) fun h=>?_
  ·
   refine K0<|Tr<|Ra Y<|Za<|?_
   obtain rfl := rt h
   exact Zi (Zs Y (.one<|rb Y))
  ·
   refine Ze<|K1 1 Y<|Tr<|Rq Y (Zg (ov Y) Zb9 Y Y)<|bE h fun y6 h_y6 h=>Rq Y (Zp (Zgf h_y6)<|.cons (ov Y) (.aggB Y) .nil)<|Rm Y<|Rq Y (Zy (ov Y) Y)<|Rq Y (Zy (ov Y) Y)<|Rx Y (Zr (row := (List.map C3 (Vector.replicate 16 0).toList)) 0 Y Zjc Y tZ_36)<|Rx Y (Zk (ov Y) (ov Y) (Zj Zd3 arL) Y Y Y (ZcM (Z8 arL) arL) (Zd<|arC fun _ => Y)<|ZbI<|Eq.trans arL<|Eq.symm arL)<|Ra Y<|Za<|K3 1 4 9 Y<|Tr<|Rq Y (Zg (ov Y) Zb9 Y Y)<|bE h fun y7 h_y7 h=>Rq Y (Zp (Zg7 h_y7)<|.cons (ov Y) (.aggB Y) .nil)<|Rm Y<|Rq Y (Zy (ov Y) Y)<|Rq Y (Zy (ov Y) Y)<|Rx Y (Zr (row := (List.map C3 (Vector.replicate 16 0).toList)) 1 Y Zjc Y tZ_36)<|Rx Y (Zk (ov Y) (ov Y) (Zj Zd3 arL) Y Y Y (ZcM (Z8 arL) arL) (Zd<|arC fun _ => Y)<|ZbI<|Eq.trans arL<|Eq.symm arL)<|Ra Y<|Za<|K4 4 6 9 10 Y<|Tr<|Rq Y (ZV (ov Y) Y Y Y Zd3 (JC<|Z8 arL) arL (hns := (nsM fun _ => Y)))<|Rq Y (ZV (ov Y) Y Y Y Zd3 (JC<|Z8 arL) arL (hns := (nsM fun _ => Y)))<|Rq Y (Zk9 ZlT (ov Y) (ov Y) (.aggB<|arD fun _ => Y) (.aggB<|arD fun _ => Y) (fkV fun _ => Y) (fkV fun _ => Y)<|eqV fun _ _ => Y)<|Rm Y<|Rq Y (.guarded ((decide (y6.1 = y7.1)) == true) Y Y Y Y fun h => Zv<|ov Y)<|Rq Y (.guarded ((decide (y6.1 = y7.1)) == true) Y Y Y Y fun h => Zv<|ov Y)<|Rq Y (.guarded ((decide (y6.1 = y7.1)) == true) Y Y Y Y fun h => Xa (ow Y h)<|ow Y h)<|Rq Y (Jc (ov Y) fun hp=>ow Y<|gT hp)<|Rm Y<|bE h fun y8 h_y8 h=>Rq Y (.guarded (((decide (y6.1 = y7.1)) && (decide (y6.2 = y7.2))) == true) Y Y Y Y fun h => Zp (Zf0<|gdT h_y8 h) .nil)<|Rq Y (Jc (ov Y) fun hp=>ow Y<|gT hp)<|Ra Y<|Za<|?_
   obtain rfl := rt h
   exact Zi (Zs Y (.one<|rb Y))
end Go.Proofs.Ytjjlfkjacmhcmaa
