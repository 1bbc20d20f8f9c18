/- A text of the proof: a verified executor of the program form, or the contracts of the functions that the law reaches. -/
import Derived.Test.YtjjlfkjacmhcmaaOkFb
set_option linter.all false
namespace Go.Proofs.Ytjjlfkjacmhcmaa
open Go Go.Vx
set_option maxRecDepth 10000
set_option maxHeartbeats 1000000
set_option linter.unusedVariables false
theorem Za5 {s1 : List api_Part} {s2 : List api_Part} {r : Bool} (h : Z2 s1 s2 = some r) :
 CSpec Try.prog gl0 35 [.sl 64 (List.map R64 s1), .sl 64 (List.map R64 s2)] (.bool r) := by
 unfold Z2 at h
 replace h := Qf h
 refine So Try.func35 Y fun w0 A=>Tr<|Ra Y<|Za<|Zl<|K2 0 1 Y<|Tr<|Rm Y<|Rl tZ_64 Xs Y<|Rm Y<|Rl tZ_64 Xs Y<|R2 Qp Y<|Za<|K3 0 1 10 Y<|If h Y (fun h=>?_) fun h=>?_
 ·
  refine K0<|Tr<|Ra Y<|Za<|?_
  obtain rfl := rt h
  exact Zk (Zp Y (.one<|rb Y))
 ·
  refine Ze<|J0 (fun j => (.inr j)) ⟨[], []⟩ h (fun h=>?_) fun h=>?_
  ·
   refine K2 0 1 Y<|Tr<|Rm Y<|Rl tZ_64 Xs Y<|Rm Y<|Za<|Zh<|?_
   obtain ⟨r1, hl1, ho1⟩ := QA h
   refine L1 (fun i=>⟨[(0, .sl 64 (List.map R64 s1)), (1, .sl 64 (List.map R64 s2)), (12, .int .i64 (s1.length : Int)), (13, .int .i64 i)], []⟩) hl1 (ES []) fun n1 i h=>?_
   unfold Qc at h
   refine Tr<|R2 ZM Y<|Za<|Zl<|If h Y (fun h=>?_) fun h=>?_
   ·
    refine Ze<|Zl<|Zh<|K4 0 1 12 13 Y<|Tr<|Rm Y<|Ra Y<|Za<|K5 0 1 5 12 13 Y<|Td md0<|D1 0 Zz Y<|D1 1 Zz Y<|bE h fun x h_x h=>Dq 2 Y (ZE (ov Y) (ov Y) Xs h_x)<|Dq 3 Y (Zj (ov Y) X8 Y Y)<|D1 4 Zz Y<|D1 5 Zz Y<|bE h fun x2 h_x2 h=>Dq 6 Y (ZE (ov Y) (ov Y) Xs h_x2)<|Dq 7 Y (Zj (ov Y) X8 Y Y)<|Dq 8 Y (ZlV ZmT (ov Y) (ov Y) (.aggB Y) (.aggB Y) Y Y)<|Dd<|K5 0 1 12 13 24 Y<|If h Y (fun h=>?_) fun h=>?_
    ·
     refine K0<|Tr<|Ra Y<|Za<|?_
     replace h := lx h ▸ ho1
     obtain rfl := rt h
     exact Zk (Zp Y (.one<|rb Y))
    ·
     exact Ze<|K4 0 1 12 13 Y<|Zy<|R2 Z5 Y<|Rm Y<|Za<|⟨_, h, ES []⟩
   ·
    refine ZC<|?_
    replace h := lx h ▸ ho1
    exact ⟨(), h, ES []⟩
  ·
   replace h := elr h
   replace h := t0i h
   refine Tr<|Ra Y<|Za<|?_
   obtain rfl := rt h
   exact Zk (Zp Y (.one<|rb Y))
theorem Zb3 {s1 : List Str} {s2 : List Str} {r : Bool} (h : Qk s1 s2 = some r) :
 CSpec Try.prog gl0 36 [.sl 9 (List.map R9 s1), .sl 9 (List.map R9 s2)] (.bool r) := by
 unfold Qk at h
 replace h := Qf h
 refine So Try.func36 Y fun w0 A=>Tr<|Ra Y<|Za<|Zl<|K2 0 1 Y<|Tr<|Rm Y<|Rl tZ_9 ZbX Y<|Rm Y<|Rl tZ_9 ZbX Y<|R2 Qp Y<|Za<|K3 0 1 10 Y<|If h Y (fun h=>?_) fun h=>?_
 ·
  refine K0<|Tr<|Ra Y<|Za<|?_
  obtain rfl := rt h
  exact Zk (Zp Y (.one<|rb Y))
 ·
  refine Ze<|J0 (fun j => (.inr j)) ⟨[], []⟩ h (fun h=>?_) fun h=>?_
  ·
   refine K2 0 1 Y<|Tr<|Rm Y<|Rl tZ_9 ZbX Y<|Rm Y<|Za<|Zh<|?_
   obtain ⟨r1, hl1, ho1⟩ := QA h
   refine L1 (fun i=>⟨[(0, .sl 9 (List.map R9 s1)), (1, .sl 9 (List.map R9 s2)), (12, .int .i64 (s1.length : Int)), (13, .int .i64 i)], []⟩) hl1 (ES []) fun n1 i h=>?_
   unfold Qr at h
   refine Tr<|R2 ZM Y<|Za<|Zl<|If h Y (fun h=>?_) fun h=>?_
   ·
    refine Ze<|Zl<|Zh<|K4 0 1 12 13 Y<|Tr<|Rm Y<|Ra Y<|Za<|K5 0 1 5 12 13 Y<|Td md0<|D1 0 Zz Y<|D1 1 Zz Y<|bE h fun x h_x h=>Dq 2 Y (ZE (ov Y) (ov Y) ZbX h_x)<|Dq 3 Y (Zc (ov Y) tS9 Y)<|D1 4 Zz Y<|D1 5 Zz Y<|bE h fun x2 h_x2 h=>Dq 6 Y (ZE (ov Y) (ov Y) ZbX h_x2)<|Dq 7 Y (Zc (ov Y) tS9 Y)<|D2 8 Zlf Y<|Dd<|K5 0 1 12 13 24 Y<|If h Y (fun h=>?_) fun h=>?_
    ·
     refine K0<|Tr<|Ra Y<|Za<|?_
     replace h := lx h ▸ ho1
     obtain rfl := rt h
     exact Zk (Zp Y (.one<|rb Y))
    ·
     exact Ze<|K4 0 1 12 13 Y<|Zy<|R2 Z5 Y<|Rm Y<|Za<|⟨_, h, ES []⟩
   ·
    refine ZC<|?_
    replace h := lx h ▸ ho1
    exact ⟨(), h, ES []⟩
  ·
   replace h := elr h
   replace h := t0i h
   refine Tr<|Ra Y<|Za<|?_
   obtain rfl := rt h
   exact Zk (Zp Y (.one<|rb Y))
theorem Zfd {a : api_Param} {b : api_Param} {r : Bool} (h : Xc a b = some r) :
 CSpec Try.prog gl0 16 [.agg [.str a.Name, .int .i64 a.Kind, .sl 64 (List.map R64 a.Parts), .int .i64 a.First, .int .i64 a.Every, .int .i64 a.Times, .int .i64 a.Step, .sl 9 (List.map R9 a.Names)], .agg [.str b.Name, .int .i64 b.Kind, .sl 64 (List.map R64 b.Parts), .int .i64 b.First, .int .i64 b.Every, .int .i64 b.Times, .int .i64 b.Step, .sl 9 (List.map R9 b.Names)]] (.bool r) := by
 unfold Xc at h
 replace h := Qf h
 refine So Try.func16 Y fun w0 A=>Tr<|Rq Y (ZY (cva<|ov Y) Y tZ_44 Y)<|Rq Y (ZY (cva<|ov Y) Y tZ_44 Y)<|Ra Y<|Za<|K3 2 3 4 Y<|Tr<|Rq Y (Zd (ov Y) Zch)<|Rq Y (Zc (ov Y) tS9 Y)<|Rq Y (Zd (ov Y) Zch)<|Rq Y (Zc (ov Y) tS9 Y)<|R2 Zcz Y<|Rm Y<|Rq Y (.guarded ((decide (a.Name = b.Name)) == true) Y Y Y Y fun h => Zd (ov Y) ZaR)<|Rq Y (.guarded ((decide (a.Name = b.Name)) == true) Y Y Y Y fun h => Zc (ow Y h) tS3 Y)<|Rq Y (.guarded ((decide (a.Name = b.Name)) == true) Y Y Y Y fun h => Zd (ov Y) ZaR)<|Rq Y (.guarded ((decide (a.Name = b.Name)) == true) Y Y Y Y fun h => Zc (ow Y h) tS3 Y)<|Rq Y (.guarded ((decide (a.Name = b.Name)) == true) Y Y Y Y fun h => QZ (ow Y h)<|ow Y h)<|Rq Y (Xx (ov Y) fun hp=>ow Y<|gT hp)<|Rm Y<|Rq Y (.guarded (((decide (a.Name = b.Name)) && (decide (a.Kind = b.Kind))) == true) Y Y Y Y fun h => Zd (ov Y) Q4)<|Rq Y (.guarded (((decide (a.Name = b.Name)) && (decide (a.Kind = b.Kind))) == true) Y Y Y Y fun h => Zc (ow Y h) Zbv Y)<|Rq Y (.guarded (((decide (a.Name = b.Name)) && (decide (a.Kind = b.Kind))) == true) Y Y Y Y fun h => Zd (ov Y) Q4)<|Rq Y (.guarded (((decide (a.Name = b.Name)) && (decide (a.Kind = b.Kind))) == true) Y Y Y Y fun h => Zc (ow Y h) Zbv Y)<|bE h fun y h_y h=>Rq Y (.guarded (((decide (a.Name = b.Name)) && (decide (a.Kind = b.Kind))) == true) Y Y Y Y fun h => Zr (Za5<|gdT h_y h)<|.cons (ow Y h) (.b Y)<|.cons (ow Y h) (.b Y) .nil)<|Rq Y (Xx (ov Y) fun hp=>ow Y<|gT hp)<|Rm Y<|Rq Y (.guarded ((((decide (a.Name = b.Name)) && (decide (a.Kind = b.Kind))) && y) == true) Y Y Y Y fun h => Zd (ov Y) ZfY)<|Rq Y (.guarded ((((decide (a.Name = b.Name)) && (decide (a.Kind = b.Kind))) && y) == true) Y Y Y Y fun h => Zc (ow Y h) tS3 Y)<|Rq Y (.guarded ((((decide (a.Name = b.Name)) && (decide (a.Kind = b.Kind))) && y) == true) Y Y Y Y fun h => Zd (ov Y) ZfY)<|Rq Y (.guarded ((((decide (a.Name = b.Name)) && (decide (a.Kind = b.Kind))) && y) == true) Y Y Y Y fun h => Zc (ow Y h) tS3 Y)<|Rq Y (.guarded ((((decide (a.Name = b.Name)) && (decide (a.Kind = b.Kind))) && y) == true) Y Y Y Y fun h => QZ (ow Y h)<|ow Y h)<|Rq Y (Xx (ov Y) fun hp=>ow Y<|gT hp)<|Rm Y<|Rq Y (.guarded (((((decide (a.Name = b.Name)) && (decide (a.Kind = b.Kind))) && y) && (decide (a.First = b.First))) == true) Y Y Y Y fun h => Zd (ov Y) ZdS)<|Rq Y (.guarded (((((decide (a.Name = b.Name)) && (decide (a.Kind = b.Kind))) && y) && (decide (a.First = b.First))) == true) Y Y Y Y fun h => Zc (ow Y h) tS3 Y)<|Rq Y (.guarded (((((decide (a.Name = b.Name)) && (decide (a.Kind = b.Kind))) && y) && (decide (a.First = b.First))) == true) Y Y Y Y fun h => Zd (ov Y) ZdS)<|Rq Y (.guarded (((((decide (a.Name = b.Name)) && (decide (a.Kind = b.Kind))) && y) && (decide (a.First = b.First))) == true) Y Y Y Y fun h => Zc (ow Y h) tS3 Y)<|Rq Y (.guarded (((((decide (a.Name = b.Name)) && (decide (a.Kind = b.Kind))) && y) && (decide (a.First = b.First))) == true) Y Y Y Y fun h => QZ (ow Y h)<|ow Y h)<|Rq Y (Xx (ov Y) fun hp=>ow Y<|gT hp)<|Rm Y<|Rq Y (.guarded ((((((decide (a.Name = b.Name)) && (decide (a.Kind = b.Kind))) && y) && (decide (a.First = b.First))) && (decide (a.Every = b.Every))) == true) Y Y Y Y fun h => Zd (ov Y) ZaQ)<|Rq Y (.guarded ((((((decide (a.Name = b.Name)) && (decide (a.Kind = b.Kind))) && y) && (decide (a.First = b.First))) && (decide (a.Every = b.Every))) == true) Y Y Y Y fun h => Zc (ow Y h) tS3 Y)<|Rq Y (.guarded ((((((decide (a.Name = b.Name)) && (decide (a.Kind = b.Kind))) && y) && (decide (a.First = b.First))) && (decide (a.Every = b.Every))) == true) Y Y Y Y fun h => Zd (ov Y) ZaQ)<|Rq Y (.guarded ((((((decide (a.Name = b.Name)) && (decide (a.Kind = b.Kind))) && y) && (decide (a.First = b.First))) && (decide (a.Every = b.Every))) == true) Y Y Y Y fun h => Zc (ow Y h) tS3 Y)<|Rq Y (.guarded ((((((decide (a.Name = b.Name)) && (decide (a.Kind = b.Kind))) && y) && (decide (a.First = b.First))) && (decide (a.Every = b.Every))) == true) Y Y Y Y fun h => QZ (ow Y h)<|ow Y h)<|Rq Y (Xx (ov Y) fun hp=>ow Y<|gT hp)<|Rm Y<|Rq Y (.guarded (((((((decide (a.Name = b.Name)) && (decide (a.Kind = b.Kind))) && y) && (decide (a.First = b.First))) && (decide (a.Every = b.Every))) && (decide (a.Times = b.Times))) == true) Y Y Y Y fun h => Zd (ov Y) Zbp)<|Rq Y (.guarded (((((((decide (a.Name = b.Name)) && (decide (a.Kind = b.Kind))) && y) && (decide (a.First = b.First))) && (decide (a.Every = b.Every))) && (decide (a.Times = b.Times))) == true) Y Y Y Y fun h => Zc (ow Y h) tS3 Y)<|Rq Y (.guarded (((((((decide (a.Name = b.Name)) && (decide (a.Kind = b.Kind))) && y) && (decide (a.First = b.First))) && (decide (a.Every = b.Every))) && (decide (a.Times = b.Times))) == true) Y Y Y Y fun h => Zd (ov Y) Zbp)<|Rq Y (.guarded (((((((decide (a.Name = b.Name)) && (decide (a.Kind = b.Kind))) && y) && (decide (a.First = b.First))) && (decide (a.Every = b.Every))) && (decide (a.Times = b.Times))) == true) Y Y Y Y fun h => Zc (ow Y h) tS3 Y)<|Rq Y (.guarded (((((((decide (a.Name = b.Name)) && (decide (a.Kind = b.Kind))) && y) && (decide (a.First = b.First))) && (decide (a.Every = b.Every))) && (decide (a.Times = b.Times))) == true) Y Y Y Y fun h => QZ (ow Y h)<|ow Y h)<|Rq Y (Xx (ov Y) fun hp=>ow Y<|gT hp)<|Rm Y<|Rq Y (.guarded ((((((((decide (a.Name = b.Name)) && (decide (a.Kind = b.Kind))) && y) && (decide (a.First = b.First))) && (decide (a.Every = b.Every))) && (decide (a.Times = b.Times))) && (decide (a.Step = b.Step))) == true) Y Y Y Y fun h => Zd (ov Y) JI)<|Rq Y (.guarded ((((((((decide (a.Name = b.Name)) && (decide (a.Kind = b.Kind))) && y) && (decide (a.First = b.First))) && (decide (a.Every = b.Every))) && (decide (a.Times = b.Times))) && (decide (a.Step = b.Step))) == true) Y Y Y Y fun h => Zc (ow Y h) Zdj Y)<|Rq Y (.guarded ((((((((decide (a.Name = b.Name)) && (decide (a.Kind = b.Kind))) && y) && (decide (a.First = b.First))) && (decide (a.Every = b.Every))) && (decide (a.Times = b.Times))) && (decide (a.Step = b.Step))) == true) Y Y Y Y fun h => Zd (ov Y) JI)<|Rq Y (.guarded ((((((((decide (a.Name = b.Name)) && (decide (a.Kind = b.Kind))) && y) && (decide (a.First = b.First))) && (decide (a.Every = b.Every))) && (decide (a.Times = b.Times))) && (decide (a.Step = b.Step))) == true) Y Y Y Y fun h => Zc (ow Y h) Zdj Y)<|bE h fun y2 h_y2 h=>Rq Y (.guarded ((((((((decide (a.Name = b.Name)) && (decide (a.Kind = b.Kind))) && y) && (decide (a.First = b.First))) && (decide (a.Every = b.Every))) && (decide (a.Times = b.Times))) && (decide (a.Step = b.Step))) == true) Y Y Y Y fun h => Zr (Zb3<|gdT h_y2 h)<|.cons (ow Y h) (.b Y)<|.cons (ow Y h) (.b Y) .nil)<|Rq Y (Xx (ov Y) fun hp=>ow Y<|gT hp)<|Ra Y<|Za<|?_
 obtain rfl := rt h
 exact Zk (Zp Y (.one<|rb Y))
theorem Zen {v : Int} {r : Int} (h : Zbu v = some r) :
 CSpec Try.prog gl0 66 [.int .i64 v] (.int .i64 r) := by
 unfold Zbu at h
 replace h := Qf h
 refine So Try.func66 Y fun w0 A=>Tr<|Ra Y<|Za<|Tr<|Rm Y<|Ra Y<|Za<|?_
 obtain rfl := rt h
 exact Zk (Zp Y (.one<|rb Y))
theorem Zdw {raw : Int} {c0 : Int} {r : Int × Bool} (h : Zap raw c0 = some r) :
 CSpec Try.prog gl0 68 [.int .i64 raw, .rp [.int .i64 c0] 0] (.tuple [.int .i64 r.1, .bool r.2]) := by
 unfold Zap at h
 replace h := Qf h
 refine So Try.func68 Y fun w0 A=>Tr<|Ra Y<|Ra Y<|Za<|Td md0<|D1 0 Zz Y<|D1 1 Zz Y<|Dq 2 Y (Zc (ov Y) tS3 Y)<|D2 3 ZdJ Y<|D1 4 Jz Y<|D1 5 Jz Y<|Dd<|?_
 obtain rfl := rt h
 exact Zk (Zp Y (.two (rb Y)<|rb Y))
theorem JS {high : Int} {r : layout_number} (h : Qu high = some r) :
 CSpec Try.prog gl0 67 [.int .i64 high, .rp [.fn 66 []] 0] (.agg [.int .i64 r.low, .int .i64 r.high, .fn r.encode.f r.encode.c, .fn r.decode.f r.decode.c]) := by
 unfold Qu at h
 replace h := Qf h
 refine So Try.func67 Y fun w0 A=>Tr<|Rq Y (ZY (cvs (ov Y)<|Zq Y) Y tZ_3 Y)<|Rx Y (Zs (row := [_, _, _, _]) 0 Y ZfR Y tZ_90)<|Za<|K3 1 2 3 Y<|Tr<|Rq Y (Zc (ov Y) tS3 Y)<|Rq Y (Zc (ov Y) Zl4 Y)<|Rq Y (QI<|.cons (ov Y) .nil)<|Rq Y (Z7 (ys := [_, _, _, _]) ZjH Zjt ZfR (.cons (cvs (ov Y)<|Zq Y)<|.cons (cvs (ov Y)<|Zq Y)<|.cons (cvs (ov Y)<|Zq Y)<|.cons (cvs (ov Y)<|Zq Y) .nil) Y)<|Rx Y (Zg (ov Y) (ov Y) (Zf ZbM Y) Y Y Y (Nat.le_of_ble_eq_true Y) (Zb Y) Y)<|Za<|?_
 obtain rfl := rt h
 exact Zk (Zp Y (.one<|.agg Y Y Y Y ZbM Y Y<|.cons (Dat.view<|.b Y)<|.cons (Dat.view<|.b Y)<|.cons (Dat.view .fn)<|.cons (Dat.view<|.fnC<|.cons (.b Y) .nil) .nil))
theorem ZF {high : Int} {r : layout_number} (h : Qu high = some r) : Zck r.encode ∧ Zci r.decode := by
  have key : Zed (fun r => Zck r.encode ∧ Zci r.decode) (Qu high) := by
    unfold Qu
    repeat' (first | exact Zcq | with_reducible refine ZdM ?_ ?_ | with_reducible refine ZcO fun _ _ => ?_ | with_reducible refine Zgk ?_)
    all_goals first | exact J6 ⟨⟨rfl, fun z0 _ hz => Zen hz⟩, ⟨rfl, fun z0 _ hz => Zdw hz⟩⟩
  exact key r h
theorem Zd5 {c1 : Int} {r : layout_number} (h : Xl c1 = some r) :
 CSpec Try.prog gl0 69 [.rp [.fn 67 [.rp [.fn 66 []] 0]] 0, .rp [.int .i64 c1] 0] (.agg [.int .i64 r.low, .int .i64 r.high, .fn r.encode.f r.encode.c, .fn r.decode.f r.decode.c]) := by
 unfold Xl at h
 replace h := Qf h
 refine So Try.func69 Y fun w0 A=>Tr<|Rx Y (Zs (row := [_, _, _, _]) 0 Y ZfR Y tZ_90)<|Za<|Tr<|Rq Y (Zc (ov Y) Zjy Y)<|Rq Y (Zc (ov Y) tS3 Y)<|R2 Zhc Y<|R2 Zdo Y<|bE h fun y h_y h=>Rq Y (JP (ov Y) Y (JS h_y)<|.cons (ov Y) (.b Y) .nil)<|Rx Y (Zg (ov Y) (ov Y) (Zf ZbM Y) Y Y Y (Nat.le_of_ble_eq_true Y) (Zb Y) Y)<|Za<|?_
 obtain rfl := rt h
 exact Zk (Zp Y (.one<|.agg Y Y Y Y ZbM Y Y<|.cons (Dat.view<|.b Y)<|.cons (Dat.view<|.b Y)<|.cons (Dat.view<|Dat.fnC<|.refl fun x hx => .b<|List.all_eq_true.1 (((ZF h_y).1)).1 x hx)<|.cons (Dat.view<|Dat.fnC<|.refl fun x hx => .b<|List.all_eq_true.1 (((ZF h_y).2)).1 x hx) .nil))
theorem XJ {c1 : Int} {r : layout_number} (h : Xl c1 = some r) : Zck r.encode ∧ Zci r.decode := by
  have key : Zed (fun r => Zck r.encode ∧ Zci r.decode) (Xl c1) := by
    unfold Xl
    repeat' (first | exact Zcq | with_reducible refine ZdM ?_ ?_ | with_reducible refine ZcO fun _ _ => ?_ | with_reducible refine Zgk ?_)
    all_goals first | exact J6 ⟨((ZF (by assumption)).1), ((ZF (by assumption)).2)⟩
  exact key r h
theorem Zei  {r : layout_number} (h : Xg  = some r) :
 CSpec Try.prog gl0 70 [.rp [.fn 67 [.rp [.fn 66 []] 0]] 0] (.agg [.int .i64 r.low, .int .i64 r.high, .fn r.encode.f r.encode.c, .fn r.decode.f r.decode.c]) := by
 unfold Xg at h
 replace h := Qf h
 refine So Try.func70 Y fun w0 A=>Tr<|Rx Y (Zs (row := [_, _, _, _]) 0 Y ZfR Y tZ_90)<|Za<|Tr<|Rq Y (Zc (ov Y) Zjy Y)<|bE h fun y h_y h=>Rq Y (JP (ov Y) Y (JS h_y)<|.cons (ov Y) (.b Y) .nil)<|Rx Y (Zg (ov Y) (ov Y) (Zf ZbM Y) Y Y Y (Nat.le_of_ble_eq_true Y) (Zb Y) Y)<|Za<|?_
 obtain rfl := rt h
 exact Zk (Zp Y (.one<|.agg Y Y Y Y ZbM Y Y<|.cons (Dat.view<|.b Y)<|.cons (Dat.view<|.b Y)<|.cons (Dat.view<|Dat.fnC<|.refl fun x hx => .b<|List.all_eq_true.1 (((ZF h_y).1)).1 x hx)<|.cons (Dat.view<|Dat.fnC<|.refl fun x hx => .b<|List.all_eq_true.1 (((ZF h_y).2)).1 x hx) .nil))
theorem XK  {r : layout_number} (h : Xg  = some r) : Zck r.encode ∧ Zci r.decode := by
  have key : Zed (fun r => Zck r.encode ∧ Zci r.decode) (Xg ) := by
    unfold Xg
    repeat' (first | exact Zcq | with_reducible refine ZdM ?_ ?_ | with_reducible refine ZcO fun _ _ => ?_ | with_reducible refine Zgk ?_)
    all_goals first | exact J6 ⟨((ZF (by assumption)).1), ((ZF (by assumption)).2)⟩
  exact key r h
theorem Zej {c1 : api_Param} {r : layout_number} (h : Xh c1 = some r) :
 CSpec Try.prog gl0 71 [.rp [.fn 67 [.rp [.fn 66 []] 0]] 0, .rp [.str c1.Name, .int .i64 c1.Kind, .sl 64 (List.map R64 c1.Parts), .int .i64 c1.First, .int .i64 c1.Every, .int .i64 c1.Times, .int .i64 c1.Step, .sl 9 (List.map R9 c1.Names)] 0] (.agg [.int .i64 r.low, .int .i64 r.high, .fn r.encode.f r.encode.c, .fn r.decode.f r.decode.c]) := by
 unfold Xh at h
 replace h := Qf h
 refine So Try.func71 Y fun w0 A=>Tr<|Rx Y (Zs (row := [_, _, _, _]) 0 Y ZfR Y tZ_90)<|Za<|Tr<|Rq Y (Zc (ov Y) Zjy Y)<|Rq Y (Zd (ov Y) JI)<|Rq Y (Zc (ov Y) Zdj Y)<|Rl tZ_9 ZbX Y<|R2 Zdo Y<|bE h fun y h_y h=>Rq Y (JP (ov Y) Y (JS h_y)<|.cons (ov Y) (.b Y) .nil)<|Rx Y (Zg (ov Y) (ov Y) (Zf ZbM Y) Y Y Y (Nat.le_of_ble_eq_true Y) (Zb Y) Y)<|Za<|?_
 obtain rfl := rt h
 exact Zk (Zp Y (.one<|.agg Y Y Y Y ZbM Y Y<|.cons (Dat.view<|.b Y)<|.cons (Dat.view<|.b Y)<|.cons (Dat.view<|Dat.fnC<|.refl fun x hx => .b<|List.all_eq_true.1 (((ZF h_y).1)).1 x hx)<|.cons (Dat.view<|Dat.fnC<|.refl fun x hx => .b<|List.all_eq_true.1 (((ZF h_y).2)).1 x hx) .nil))
theorem XF {c1 : api_Param} {r : layout_number} (h : Xh c1 = some r) : Zck r.encode ∧ Zci r.decode := by
  have key : Zed (fun r => Zck r.encode ∧ Zci r.decode) (Xh c1) := by
    unfold Xh
    repeat' (first | exact Zcq | with_reducible refine ZdM ?_ ?_ | with_reducible refine ZcO fun _ _ => ?_ | with_reducible refine Zgk ?_)
    all_goals first | exact J6 ⟨((ZF (by assumption)).1), ((ZF (by assumption)).2)⟩
  exact key r h
theorem Zdv {v : Int} {c0 : Int} {r : Int} (h : Zan v c0 = some r) :
 CSpec Try.prog gl0 73 [.int .i64 v, .rp [.int .i64 c0] 0] (.int .i64 r) := by
 unfold Zan at h
 replace h := Qf h
 refine So Try.func73 Y fun w0 A=>Tr<|Ra Y<|Za<|Tr<|Rm Y<|Rq Y (Zc (ov Y) tS3 Y)<|R2 Zhc Y<|R2 Zdo Y<|R2 Zh8 Y<|Ra Y<|Za<|?_
 obtain rfl := rt h
 exact Zk (Zp Y (.one<|rb Y))
theorem Zdl {raw : Int} {c0 : Int} {r : Int × Bool} (h : Zat raw c0 = some r) :
 CSpec Try.prog gl0 74 [.int .i64 raw, .rp [.int .i64 c0] 0] (.tuple [.int .i64 r.1, .bool r.2]) := by
 unfold Zat at h
 replace h := Qf h
 refine So Try.func74 Y fun w0 A=>Tr<|Ra Y<|Ra Y<|Za<|Zl<|K2 0 1 Y<|Tr<|Rm Y<|Rq Y (Zc (ov Y) tS3 Y)<|R2 ZcB Y<|Za<|K3 0 1 7 Y<|If h Y (fun h=>?_) fun h=>?_
 ·
  refine K2 0 1 Y<|Zy<|Rm Y<|Rq Y (Zc (ov Y) tS3 Y)<|R2 Zhc Y<|R2 Zdo Y<|Ra Y<|Za<|K1 0 Y<|Tr<|Rm Y<|Ra Y<|Ra Y<|Za<|?_
  obtain rfl := rt h
  exact Zk (Zp Y (.two (rb Y)<|rb Y))
 ·
  refine Ze<|K1 0 Y<|Tr<|Rm Y<|Ra Y<|Ra Y<|Za<|?_
  obtain rfl := rt h
  exact Zk (Zp Y (.two (rb Y)<|rb Y))
theorem ZdN {c0 : Int} {r : layout_number} (h : Qt c0 = some r) :
 CSpec Try.prog gl0 72 [.rp [.int .i64 c0] 0] (.agg [.int .i64 r.low, .int .i64 r.high, .fn r.encode.f r.encode.c, .fn r.decode.f r.decode.c]) := by
 unfold Qt at h
 replace h := Qf h
 refine So Try.func72 Y fun w0 A=>Tr<|Rx Y (Zs (row := [_, _, _, _]) 0 Y ZfR Y tZ_90)<|Za<|Tr<|Rq Y (Zc (ov Y) tS3 Y)<|Rq Y (ZmL (ov Y) Y)<|Rq Y (Zc (ov Y) tS3 Y)<|R2 Zdo Y<|Rq Y (QI<|.cons (ov Y) .nil)<|Rq Y (QI<|.cons (ov Y) .nil)<|Rq Y (Z7 (ys := [_, _, _, _]) ZjH Zjt ZfR (.cons (cvs (ov Y)<|Zq Y)<|.cons (cvs (ov Y)<|Zq Y)<|.cons (cvs (ov Y)<|Zq Y)<|.cons (cvs (ov Y)<|Zq Y) .nil) Y)<|Rx Y (Zg (ov Y) (ov Y) (Zf ZbM Y) Y Y Y (Nat.le_of_ble_eq_true Y) (Zb Y) Y)<|Za<|?_
 obtain rfl := rt h
 exact Zk (Zp Y (.one<|.agg Y Y Y Y ZbM Y Y<|.cons (Dat.view<|.b Y)<|.cons (Dat.view<|.b Y)<|.cons (Dat.view<|.fnC<|.cons (.b Y) .nil)<|.cons (Dat.view<|.fnC<|.cons (.b Y) .nil) .nil))
theorem XI {c0 : Int} {r : layout_number} (h : Qt c0 = some r) : Zck r.encode ∧ Zci r.decode := by
  have key : Zed (fun r => Zck r.encode ∧ Zci r.decode) (Qt c0) := by
    unfold Qt
    repeat' (first | exact Zcq | with_reducible refine ZdM ?_ ?_ | with_reducible refine ZcO fun _ _ => ?_ | with_reducible refine Zgk ?_)
    all_goals first | exact J6 ⟨⟨rfl, fun z0 _ hz => Zdv hz⟩, ⟨rfl, fun z0 _ hz => Zdl hz⟩⟩
  exact key r h
theorem Zds {v : Int} {c0 : Int} {r : Int} (h : Zax v c0 = some r) :
 CSpec Try.prog gl0 76 [.int .i64 v, .rp [.int .i64 c0] 0] (.int .i64 r) := by
 unfold Zax at h
 replace h := Qf h
 refine So Try.func76 Y fun w0 A=>Tr<|Ra Y<|Za<|Zl<|K2 0 1 Y<|Tr<|Rm Y<|R2 ZM Y<|Za<|K3 0 1 5 Y<|If h Y (fun h=>?_) fun h=>?_
 ·
  refine K2 0 1 Y<|Tr<|Rq Y (Zc (ov Y) tS3 Y)<|Rm Y<|R2 Zdo Y<|Ra Y<|Za<|?_
  obtain rfl := rt h
  exact Zk (Zp Y (.one<|rb Y))
 ·
  refine Ze<|K1 0 Y<|Tr<|Rm Y<|Ra Y<|Za<|?_
  obtain rfl := rt h
  exact Zk (Zp Y (.one<|rb Y))
theorem Zdq {raw : Int} {c0 : Int} {r : Int × Bool} (h : Zaw raw c0 = some r) :
 CSpec Try.prog gl0 77 [.int .i64 raw, .rp [.int .i64 c0] 0] (.tuple [.int .i64 r.1, .bool r.2]) := by
 unfold Zaw at h
 replace h := Qf h
 refine So Try.func77 Y fun w0 A=>Tr<|Ra Y<|Ra Y<|Za<|Zl<|K2 0 1 Y<|Tr<|Rm Y<|Rq Y (Zc (ov Y) tS3 Y)<|R2 ZcB Y<|Za<|K3 0 1 7 Y<|If h Y (fun h=>?_) fun h=>?_
 ·
  refine K2 0 1 Y<|Td md0<|Dq 0 Y (Zc (ov Y) tS3 Y)<|D1 1 Zz Y<|D2 2 Zdo Y<|D1 3 Zz Y<|Dq 4 Y (Zc (ov Y) tS3 Y)<|D2 5 JC Y<|D1 6 Jz Y<|D1 7 Jz Y<|Dd<|?_
  obtain rfl := rt h
  exact Zk (Zp Y (.two (rb Y)<|rb Y))
 ·
  refine Ze<|K1 0 Y<|Tr<|Rm Y<|Ra Y<|Ra Y<|Za<|?_
  obtain rfl := rt h
  exact Zk (Zp Y (.two (rb Y)<|rb Y))
theorem Zd3 {c0 : Int} {r : layout_number} (h : Xm c0 = some r) :
 CSpec Try.prog gl0 75 [.rp [.int .i64 c0] 0] (.agg [.int .i64 r.low, .int .i64 r.high, .fn r.encode.f r.encode.c, .fn r.decode.f r.decode.c]) := by
 unfold Xm at h
 replace h := Qf h
 refine So Try.func75 Y fun w0 A=>Tr<|Rx Y (Zs (row := [_, _, _, _]) 0 Y ZfR Y tZ_90)<|Za<|Tr<|Rq Y (Zc (ov Y) tS3 Y)<|R2 Zdo Y<|Rq Y (Zc (ov Y) tS3 Y)<|R2 Zdo Y<|Rq Y (QI<|.cons (ov Y) .nil)<|Rq Y (QI<|.cons (ov Y) .nil)<|Rq Y (Z7 (ys := [_, _, _, _]) ZjH Zjt ZfR (.cons (cvs (ov Y)<|Zq Y)<|.cons (cvs (ov Y)<|Zq Y)<|.cons (cvs (ov Y)<|Zq Y)<|.cons (cvs (ov Y)<|Zq Y) .nil) Y)<|Rx Y (Zg (ov Y) (ov Y) (Zf ZbM Y) Y Y Y (Nat.le_of_ble_eq_true Y) (Zb Y) Y)<|Za<|?_
 obtain rfl := rt h
 exact Zk (Zp Y (.one<|.agg Y Y Y Y ZbM Y Y<|.cons (Dat.view<|.b Y)<|.cons (Dat.view<|.b Y)<|.cons (Dat.view<|.fnC<|.cons (.b Y) .nil)<|.cons (Dat.view<|.fnC<|.cons (.b Y) .nil) .nil))
theorem XH {c0 : Int} {r : layout_number} (h : Xm c0 = some r) : Zck r.encode ∧ Zci r.decode := by
  have key : Zed (fun r => Zck r.encode ∧ Zci r.decode) (Xm c0) := by
    unfold Xm
    repeat' (first | exact Zcq | with_reducible refine ZdM ?_ ?_ | with_reducible refine ZcO fun _ _ => ?_ | with_reducible refine Zgk ?_)
    all_goals first | exact J6 ⟨⟨rfl, fun z0 _ hz => Zds hz⟩, ⟨rfl, fun z0 _ hz => Zdq hz⟩⟩
  exact key r h
theorem Zdh {v : Int} {r : Int} (h : Zaz v = some r) :
 CSpec Try.prog gl0 79 [.int .i64 v] (.int .i64 r) := by
 unfold Zaz at h
 replace h := Qf h
 refine So Try.func79 Y fun w0 A=>Tr<|Ra Y<|Za<|K1 0 Y<|Tr<|Ra Y<|Za<|I1 (fun raw=>⟨[(3, .int .i64 raw)], []⟩) h (fun h=>?_) fun raw h=>?_
 ·
  refine Tr<|Ra Y<|Za<|Zh<|?_
  obtain ⟨r1, hl1, ho1⟩ := QA h
  refine L3 (fun v2 raw2 shift=>⟨[(0, .int .i64 v2), (3, .int .i64 raw2), (4, .int .i64 shift)], []⟩) hl1 (ES []) fun n1 v2 raw2 shift h=>?_
  unfold Zbf at h
  refine Zl<|Tr<|Rm Y<|R2 JC Y<|Za<|K4 0 3 4 6 Y<|If h Y (fun h=>?_) fun h=>?_
  ·
   exact Ze<|Zl<|Zh<|K3 0 3 4 Y<|Tr<|Rm Y<|Rm Y<|bE h fun q h_q h=>Rq Y (Zh0 (ov Y) (ov Y) h_q)<|Rm Y<|bE h fun q2 h_q2 h=>Rq Y (Zec (ov Y) (ov Y) h_q2)<|R2 ZkP Y<|Ra Y<|Za<|K3 0 3 4 Y<|Zy<|Rm Y<|bE h fun q3 h_q3 h=>Rq Y (Zkz (ov Y) (ov Y) h_q3)<|Ra Y<|Za<|K3 0 3 4 Y<|Zy<|Rm Y<|R2 Z5 Y<|Ra Y<|Za<|⟨_, h, ES []⟩
  ·
   refine ZC<|?_
   replace h := lx h ▸ ho1
   exact ⟨_, h, ES []⟩
 ·
  refine Tr<|Rm Y<|Ra Y<|Za<|?_
  obtain rfl := rt h
  exact Zk (Zp Y (.one<|rb Y))
theorem Zfx {raw : Int} {r : Int × Bool} (h : ZcK raw = some r) :
 CSpec Try.prog gl0 80 [.int .i64 raw] (.tuple [.int .i64 r.1, .bool r.2]) := by
 unfold ZcK at h
 replace h := Qf h
 refine So Try.func80 Y fun w0 A=>Tr<|Ra Y<|Ra Y<|Za<|K1 0 Y<|Tr<|Ra Y<|Ra Y<|Za<|I2 (fun v ok=>⟨[(4, .int .i64 v), (5, .bool ok)], []⟩) h (fun h=>?_) fun v ok h=>?_
 ·
  refine Tr<|Ra Y<|Za<|Zh<|?_
  obtain ⟨r1, hl1, ho1⟩ := QA h
  refine L3 (fun v2 ok2 shift=>⟨[(0, .int .i64 raw), (4, .int .i64 v2), (5, .bool ok2), (6, .int .i64 shift)], []⟩) hl1 (ES []) fun n1 v2 ok2 shift h=>?_
  unfold ZcR at h
  refine Zl<|Tr<|Rm Y<|R2 ZcB Y<|Za<|K5 0 4 5 6 9 Y<|If h Y (fun h=>?_) fun h=>?_
  ·
   exact Ze<|Zl<|Zh<|K4 0 4 5 6 Y<|Tr<|Rm Y<|Rm Y<|bE h fun q h_q h=>Rq Y (Zjg (ov Y) (ov Y) h_q)<|R2 Zh8 Y<|Ra Y<|Za<|K5 0 4 5 6 7 Y<|Zy<|Rm Y<|R2 Zhc Y<|Rm Y<|R2 Z5 Y<|Rm Y<|Rm Y<|Rq Y (.guarded (ok2 == true) Y Y Y Y fun h => Zz<|ov Y)<|Rq Y (.guarded (ok2 == true) Y Y Y Y fun h => ZM (ow Y h)<|ov Y)<|Rq Y (Xx (ov Y) fun hp=>ow Y<|gT hp)<|Ra Y<|Ra Y<|Za<|K4 0 4 5 6 Y<|Zy<|Rm Y<|R2 Zdo Y<|Ra Y<|Za<|⟨_, h, ES []⟩
  ·
   refine ZC<|?_
   replace h := lx h ▸ ho1
   exact ⟨_, h, ES []⟩
 ·
  refine Tr<|Rm Y<|Rm Y<|Ra Y<|Ra Y<|Za<|?_
  obtain rfl := rt h
  exact Zk (Zp Y (.two (rb Y)<|rb Y))
theorem Zea {c0 : Int} {r : layout_number} (h : Xk c0 = some r) :
 CSpec Try.prog gl0 78 [.rp [.int .i64 c0] 0] (.agg [.int .i64 r.low, .int .i64 r.high, .fn r.encode.f r.encode.c, .fn r.decode.f r.decode.c]) := by
 unfold Xk at h
 replace h := Qf h
 refine So Try.func78 Y fun w0 A=>Tr<|Rx Y (Zs (row := [_, _, _, _]) 0 Y ZfR Y tZ_90)<|Za<|Tr<|Ra Y<|Za<|I1 (fun high=>⟨[(1, .ptr 0 1 0 0), (2, .int .i64 high)], [some ⟨90, [[.int .i64 0, .int .i64 0, .lit .nilFunc, .lit .nilFunc]]⟩]⟩) h (fun h=>?_) fun high h=>?_
 ·
  refine Tr<|Rq Y (Zc (ov Y) tS3 Y)<|bE h fun q h_q h=>Rq Y (Zkz (ov Y) (ov Y) h_q)<|Rm Y<|Za<|Zh<|?_
  obtain ⟨r1, hl1, ho1⟩ := QA h
  refine L2 (fun high2 i=>⟨[(1, .ptr 0 1 0 0), (2, .int .i64 high2), (4, .int .i64 q), (5, .int .i64 i)], [some ⟨90, [[.int .i64 0, .int .i64 0, .lit .nilFunc, .lit .nilFunc]]⟩]⟩) hl1 (ES [some 0]) fun n1 high2 i h=>?_
  unfold ZbV at h
  refine Tr<|R2 ZM Y<|Za<|Zl<|If h Y (fun h=>?_) fun h=>?_
  ·
   exact Ze<|Zl<|Zh<|K4 1 2 4 5 Y<|Zy<|Rm Y<|R2 Zhc Y<|Ra Y<|Za<|K4 1 2 4 5 Y<|Zy<|R2 Z5 Y<|Rm Y<|Za<|⟨_, h, ES [some 0]⟩
  ·
   refine ZC<|?_
   replace h := lx h ▸ ho1
   exact ⟨_, h, ES [some 0]⟩
 ·
  refine Tr<|Rm Y<|R2 Zdo Y<|Rq Y (Z7 (ys := [_, _, _, _]) ZjH Zjt ZfR (.cons (cvs (ov Y)<|Zq Y)<|.cons (cvs (ov Y)<|Zq Y)<|.cons (cvs (ov Y)<|Zq Y)<|.cons (cvs (ov Y)<|Zq Y) .nil) Y)<|Rx Y (Zg (ov Y) (ov Y) (Zf ZbM Y) Y Y Y (Nat.le_of_ble_eq_true Y) (Zb Y) Y)<|Za<|?_
  obtain rfl := rt h
  exact Zk (Zp Y (.one<|.agg Y Y Y Y ZbM Y Y<|.cons (Dat.view<|.b Y)<|.cons (Dat.view<|.b Y)<|.cons (Dat.view .fn)<|.cons (Dat.view .fn) .nil))
theorem XG {c0 : Int} {r : layout_number} (h : Xk c0 = some r) : Zck r.encode ∧ Zci r.decode := by
  have key : Zed (fun r => Zck r.encode ∧ Zci r.decode) (Xk c0) := by
    unfold Xk
    repeat' (first | exact Zcq | with_reducible refine ZdM ?_ ?_ | with_reducible refine ZcO fun _ _ => ?_ | with_reducible refine Zgk ?_)
    all_goals first | exact J6 ⟨⟨rfl, fun z0 _ hz => Zdh hz⟩, ⟨rfl, fun z0 _ hz => Zfx hz⟩⟩
  exact key r h
theorem ZcD {p : api_Param} {r : layout_number} (h : QE p = some r) :
 CSpec Try.prog gl0 47 [.agg [.str p.Name, .int .i64 p.Kind, .sl 64 (List.map R64 p.Parts), .int .i64 p.First, .int .i64 p.Every, .int .i64 p.Times, .int .i64 p.Step, .sl 9 (List.map R9 p.Names)]] (.agg [.int .i64 r.low, .int .i64 r.high, .fn r.encode.f r.encode.c, .fn r.decode.f r.decode.c]) := by
 unfold QE at h
 replace h := Qf h
 refine So Try.func47 Y fun w0 A=>Tr<|Rq Y (ZY (cva<|ov Y) Y tZ_44 Y)<|Rx Y (Zs (row := [_, _, _, _]) 0 Y ZfR Y tZ_90)<|Za<|K2 1 2 Y<|Tr<|Rq Y (Zj (ov Y) Zw Y Y)<|bE h fun y h_y h=>Rq Y (Zr (Zag h_y)<|.cons (ov Y) (.aggB Y) .nil)<|Rx Y (Zs (row := [_]) 1 Y tZ3 Y tZ_3)<|Rx Y (Zg (ov Y) (ov Y) (Zv tS3) Y Y Y (Nat.le_of_ble_eq_true Y) (Zb Y) Y)<|Za<|K3 1 2 3 Y<|Tr<|Rq Y (Zm (ov Y) Y Y Y tS3 Y)<|R2 Zdo Y<|bE h fun q h_q h=>Rq Y (Zec (ov Y) (ov Y) h_q)<|Rx Y (Zs (row := [_]) 2 Y tZ3 Y tZ_3)<|Rx Y (Zg (ov Y) (ov Y) (Zv tS3) Y Y Y (Nat.le_of_ble_eq_true Y) (Zb Y) Y)<|Za<|K4 1 2 3 4 Y<|Tr<|Rx Y (Zs (row := [_]) 3 Y Zm7 Y tZ_87)<|Rx Y (Zg (ov Y) (ov Y) (Zv Zl4) Y Y Y (Nat.le_of_ble_eq_true Y) (Zb Y) Y)<|Za<|Tr<|ZeH (Ent.sel [some 0, some 1, some 2, none] (sd 1 Y Y<|sr 2 Y (.ptr (r' := 0) _ _ _ Y)<|sr 3 Y (.ptr (r' := 1) _ _ _ Y)<|sr 4 Y (.ptr (r' := 2) _ _ _ Y)<|sr 5 Y (.frp ⟨Y, ⟨_, Y⟩, Y, Y⟩) sn) (.cons Y (ro1 (by exact tZ_90.symm)<|rld Y)<|.cons Y (ro1 (by exact tZ_3.symm)<|rld Y)<|.cons Y (ro1 (by exact tZ_3.symm)<|rld Y)<|.row 87 .nil) Y Y)<|Rq Y (QI<|.cons (ov Y) .nil)<|Rx Y (Zs (row := [_]) 4 Y ZmR Y tZ_109)<|Rx Y (Zg (ov Y) (ov Y) (Zv Zjy) Y Y Y (Nat.le_of_ble_eq_true Y) (Zb Y) Y)<|Za<|K5 1 2 3 4 6 Y<|Tr<|Rx Y (ZaZ 5 Y ZbF)<|ZeH (Ent.sel [some 0, some 1, some 2, some 3, none, some 5] (sd 1 Y Y<|sr 2 Y (.ptr (r' := 0) _ _ _ Y)<|sr 3 Y (.ptr (r' := 1) _ _ _ Y)<|sr 4 Y (.ptr (r' := 2) _ _ _ Y)<|sr 6 Y (.frp ⟨Y, ⟨_, Y⟩, Y, Y⟩)<|sr 14 Y (.mref (r' := 5) _ Y) sn) (.cons Y (ro1 (by exact tZ_90.symm)<|rld Y)<|.cons Y (ro1 (by exact tZ_3.symm)<|rld Y)<|.cons Y (ro1 (by exact tZ_3.symm)<|rld Y)<|.cons Y roE<|.row 109<|.cons Y (Zi9 (fk := FK3) (m := ([] : List (Int × AV))) tZ_111 (fun _=>.dat Y) Y) .nil) Y Y)<|ZeH (Ent.sel [some 0, some 1, none, some 3, some 4, some 5] (sd 1 Y Y<|sr 2 Y (.ptr (r' := 0) _ _ _ Y)<|sr 3 Y (.ptr (r' := 1) _ _ _ Y)<|sr 4 Y (.frp ⟨Y, ⟨_, Y⟩, Y, Y⟩)<|sd 6 Y Y<|sr 14 Y (.mref (r' := 5) _ Y) sn) (.cons Y (ro1 (by exact tZ_90.symm)<|rld Y)<|.cons Y (ro1 (by exact tZ_3.symm)<|rld Y)<|.row 3<|.cons Y roE<|.cons Y roE<|.cons Y (Zi9 (fk := FK3) (m := ([] : List (Int × AV))) tZ_111 (fun _=>.dat Y) Y) .nil) Y Y)<|Rq Y (QI<|.cons (ov Y)<|.cons (ov Y) .nil)<|Rx Y (Zdd (m := ([] : List (Int × AV))) (fk := FK3) (fv := id) (k := 1) (v := .fn 69 [.rp [.fn 67 [.rp [.fn 66 []] 0]] 0, .rp [.int .i64 q] 0]) (m' := ([(1, .fn 69 [.rp [.fn 67 [.rp [.fn 66 []] 0]] 0, .rp [.int .i64 q] 0])] : List (Int × AV))) (ov Y) (ov Y) (ov Y) ZbF Zgn Y (fun _=>.b Y) Y)<|Rq Y (QI<|.cons (ov Y) .nil)<|Rx Y (Zdd (m := ([(1, .fn 69 [.rp [.fn 67 [.rp [.fn 66 []] 0]] 0, .rp [.int .i64 q] 0])] : List (Int × AV))) (fk := FK3) (fv := id) (k := 5) (v := .fn 70 [.rp [.fn 67 [.rp [.fn 66 []] 0]] 0]) (m' := ([(1, .fn 69 [.rp [.fn 67 [.rp [.fn 66 []] 0]] 0, .rp [.int .i64 q] 0]), (5, .fn 70 [.rp [.fn 67 [.rp [.fn 66 []] 0]] 0])] : List (Int × AV))) (ov Y) (ov Y) (ov Y) ZbF Zgn Y (fun _=>.b Y) Y)<|Rq Y (QI<|.cons (ov Y)<|.cons (ov Y) .nil)<|Rx Y (Zdd (m := ([(1, .fn 69 [.rp [.fn 67 [.rp [.fn 66 []] 0]] 0, .rp [.int .i64 q] 0]), (5, .fn 70 [.rp [.fn 67 [.rp [.fn 66 []] 0]] 0])] : List (Int × AV))) (fk := FK3) (fv := id) (k := 6) (v := .fn 71 [.rp [.fn 67 [.rp [.fn 66 []] 0]] 0, .rp [.str p.Name, .int .i64 p.Kind, .sl 64 (List.map R64 p.Parts), .int .i64 p.First, .int .i64 p.Every, .int .i64 p.Times, .int .i64 p.Step, .sl 9 (List.map R9 p.Names)] 0]) (m' := ([(1, .fn 69 [.rp [.fn 67 [.rp [.fn 66 []] 0]] 0, .rp [.int .i64 q] 0]), (5, .fn 70 [.rp [.fn 67 [.rp [.fn 66 []] 0]] 0]), (6, .fn 71 [.rp [.fn 67 [.rp [.fn 66 []] 0]] 0, .rp [.str p.Name, .int .i64 p.Kind, .sl 64 (List.map R64 p.Parts), .int .i64 p.First, .int .i64 p.Every, .int .i64 p.Times, .int .i64 p.Step, .sl 9 (List.map R9 p.Names)] 0])] : List (Int × AV))) (ov Y) (ov Y) (ov Y) ZbF Zgn Y (fun _=>.b Y) Y)<|Rq Y (QI<|.cons (ov Y) .nil)<|Rx Y (Zdd (m := ([(1, .fn 69 [.rp [.fn 67 [.rp [.fn 66 []] 0]] 0, .rp [.int .i64 q] 0]), (5, .fn 70 [.rp [.fn 67 [.rp [.fn 66 []] 0]] 0]), (6, .fn 71 [.rp [.fn 67 [.rp [.fn 66 []] 0]] 0, .rp [.str p.Name, .int .i64 p.Kind, .sl 64 (List.map R64 p.Parts), .int .i64 p.First, .int .i64 p.Every, .int .i64 p.Times, .int .i64 p.Step, .sl 9 (List.map R9 p.Names)] 0])] : List (Int × AV))) (fk := FK3) (fv := id) (k := 2) (v := .fn 72 [.rp [.int .i64 q] 0]) (m' := ([(1, .fn 69 [.rp [.fn 67 [.rp [.fn 66 []] 0]] 0, .rp [.int .i64 q] 0]), (5, .fn 70 [.rp [.fn 67 [.rp [.fn 66 []] 0]] 0]), (6, .fn 71 [.rp [.fn 67 [.rp [.fn 66 []] 0]] 0, .rp [.str p.Name, .int .i64 p.Kind, .sl 64 (List.map R64 p.Parts), .int .i64 p.First, .int .i64 p.Every, .int .i64 p.Times, .int .i64 p.Step, .sl 9 (List.map R9 p.Names)] 0]), (2, .fn 72 [.rp [.int .i64 q] 0])] : List (Int × AV))) (ov Y) (ov Y) (ov Y) ZbF Zgn Y (fun _=>.b Y) Y)<|Rq Y (QI<|.cons (ov Y) .nil)<|Rx Y (Zdd (m := ([(1, .fn 69 [.rp [.fn 67 [.rp [.fn 66 []] 0]] 0, .rp [.int .i64 q] 0]), (5, .fn 70 [.rp [.fn 67 [.rp [.fn 66 []] 0]] 0]), (6, .fn 71 [.rp [.fn 67 [.rp [.fn 66 []] 0]] 0, .rp [.str p.Name, .int .i64 p.Kind, .sl 64 (List.map R64 p.Parts), .int .i64 p.First, .int .i64 p.Every, .int .i64 p.Times, .int .i64 p.Step, .sl 9 (List.map R9 p.Names)] 0]), (2, .fn 72 [.rp [.int .i64 q] 0])] : List (Int × AV))) (fk := FK3) (fv := id) (k := 3) (v := .fn 75 [.rp [.int .i64 q] 0]) (m' := ([(1, .fn 69 [.rp [.fn 67 [.rp [.fn 66 []] 0]] 0, .rp [.int .i64 q] 0]), (5, .fn 70 [.rp [.fn 67 [.rp [.fn 66 []] 0]] 0]), (6, .fn 71 [.rp [.fn 67 [.rp [.fn 66 []] 0]] 0, .rp [.str p.Name, .int .i64 p.Kind, .sl 64 (List.map R64 p.Parts), .int .i64 p.First, .int .i64 p.Every, .int .i64 p.Times, .int .i64 p.Step, .sl 9 (List.map R9 p.Names)] 0]), (2, .fn 72 [.rp [.int .i64 q] 0]), (3, .fn 75 [.rp [.int .i64 q] 0])] : List (Int × AV))) (ov Y) (ov Y) (ov Y) ZbF Zgn Y (fun _=>.b Y) Y)<|ZeH (Ent.sel [some 0, none, some 2, some 3, some 4, some 5] (sd 1 Y Y<|sr 2 Y (.ptr (r' := 0) _ _ _ Y)<|sr 3 Y (.frp ⟨Y, ⟨_, Y⟩, Y, Y⟩)<|sd 4 Y Y<|sd 6 Y Y<|sr 14 Y (.mref (r' := 5) _ Y)<|sr 15 Y (rFn<|rlc (.dat Y)<|rlc (.dat Y) rln)<|sr 16 Y (rFn<|rlc (.dat Y) rln)<|sr 17 Y (rFn<|rlc (.dat Y)<|rlc (.dat Y) rln)<|sr 18 Y (rFn<|rlc (.dat Y) rln)<|sr 19 Y (rFn<|rlc (.dat Y) rln) sn) (.cons Y (ro1 (by exact tZ_90.symm)<|rld Y)<|.row 3<|.cons Y roE<|.cons Y roE<|.cons Y roE<|.cons Y (Zi9 (fk := FK3) (m := ([(1, .fn 69 [.rp [.fn 67 [.rp [.fn 66 []] 0]] 0, .rp [.int .i64 q] 0]), (5, .fn 70 [.rp [.fn 67 [.rp [.fn 66 []] 0]] 0]), (6, .fn 71 [.rp [.fn 67 [.rp [.fn 66 []] 0]] 0, .rp [.str p.Name, .int .i64 p.Kind, .sl 64 (List.map R64 p.Parts), .int .i64 p.First, .int .i64 p.Every, .int .i64 p.Times, .int .i64 p.Step, .sl 9 (List.map R9 p.Names)] 0]), (2, .fn 72 [.rp [.int .i64 q] 0]), (3, .fn 75 [.rp [.int .i64 q] 0])] : List (Int × AV))) tZ_111 (fun _=>.dat Y) Y) .nil) Y Y)<|Rq Y (QI<|.cons (ov Y) .nil)<|Rx Y (Zdd (m := ([(1, .fn 69 [.rp [.fn 67 [.rp [.fn 66 []] 0]] 0, .rp [.int .i64 q] 0]), (5, .fn 70 [.rp [.fn 67 [.rp [.fn 66 []] 0]] 0]), (6, .fn 71 [.rp [.fn 67 [.rp [.fn 66 []] 0]] 0, .rp [.str p.Name, .int .i64 p.Kind, .sl 64 (List.map R64 p.Parts), .int .i64 p.First, .int .i64 p.Every, .int .i64 p.Times, .int .i64 p.Step, .sl 9 (List.map R9 p.Names)] 0]), (2, .fn 72 [.rp [.int .i64 q] 0]), (3, .fn 75 [.rp [.int .i64 q] 0])] : List (Int × AV))) (fk := FK3) (fv := id) (k := 4) (v := .fn 78 [.rp [.int .i64 y] 0]) (m' := ([(1, .fn 69 [.rp [.fn 67 [.rp [.fn 66 []] 0]] 0, .rp [.int .i64 q] 0]), (5, .fn 70 [.rp [.fn 67 [.rp [.fn 66 []] 0]] 0]), (6, .fn 71 [.rp [.fn 67 [.rp [.fn 66 []] 0]] 0, .rp [.str p.Name, .int .i64 p.Kind, .sl 64 (List.map R64 p.Parts), .int .i64 p.First, .int .i64 p.Every, .int .i64 p.Times, .int .i64 p.Step, .sl 9 (List.map R9 p.Names)] 0]), (2, .fn 72 [.rp [.int .i64 q] 0]), (3, .fn 75 [.rp [.int .i64 q] 0]), (4, .fn 78 [.rp [.int .i64 y] 0])] : List (Int × AV))) (ov Y) (ov Y) (ov Y) ZbF Zgn Y (fun _=>.b Y) Y)<|Rm Y<|Ra Y<|Za<|K3 1 2 7 Y<|Tr<|Rm Y<|Rq Y (Zd (ov Y) ZaR)<|Rq Y (Zc (ov Y) tS3 Y)<|?_
 rcases ifR h with ⟨hk3_0, h⟩ | ⟨hk3_0, h⟩
 ·
  refine Rq Y (ZgX (m := ([(1, .fn 69 [.rp [.fn 67 [.rp [.fn 66 []] 0]] 0, .rp [.int .i64 q] 0]), (5, .fn 70 [.rp [.fn 67 [.rp [.fn 66 []] 0]] 0]), (6, .fn 71 [.rp [.fn 67 [.rp [.fn 66 []] 0]] 0, .rp [.str p.Name, .int .i64 p.Kind, .sl 64 (List.map R64 p.Parts), .int .i64 p.First, .int .i64 p.Every, .int .i64 p.Times, .int .i64 p.Step, .sl 9 (List.map R9 p.Names)] 0]), (2, .fn 72 [.rp [.int .i64 q] 0]), (3, .fn 75 [.rp [.int .i64 q] 0]), (4, .fn 78 [.rp [.int .i64 y] 0])] : List (Int × AV))) (fk := FK3) (fv := id) (k := p.Kind) (z0 := .lit .nilFunc) (ov Y) (ov Y) ZbF Zgn Y (fun _=>.b Y) (J8 Zf5 Y) (nsD Y)<|lkS<|mgT hk3_0)<|bE h fun y2 h_y2 h=>Rq Y (JP (ov Y) Y (Zd5 h_y2) .nil)<|Rx Y (Zg (ov Y) (ov Y) (Zf ZbM Y) Y Y Y (Nat.le_of_ble_eq_true Y) (Zb Y) Y)<|Za<|?_
  obtain rfl := rt h
  exact Zk (Zp Y (.one<|.agg Y Y Y Y ZbM Y Y<|.cons (Dat.view<|.b Y)<|.cons (Dat.view<|.b Y)<|.cons (Dat.view<|Dat.fnC<|.refl fun x hx => .b<|List.all_eq_true.1 (((XJ h_y2).1)).1 x hx)<|.cons (Dat.view<|Dat.fnC<|.refl fun x hx => .b<|List.all_eq_true.1 (((XJ h_y2).2)).1 x hx) .nil))
 ·
  rcases ifR h with ⟨hk3_1, h⟩ | ⟨hk3_1, h⟩
  ·
   refine Rq Y (ZgX (m := ([(1, .fn 69 [.rp [.fn 67 [.rp [.fn 66 []] 0]] 0, .rp [.int .i64 q] 0]), (5, .fn 70 [.rp [.fn 67 [.rp [.fn 66 []] 0]] 0]), (6, .fn 71 [.rp [.fn 67 [.rp [.fn 66 []] 0]] 0, .rp [.str p.Name, .int .i64 p.Kind, .sl 64 (List.map R64 p.Parts), .int .i64 p.First, .int .i64 p.Every, .int .i64 p.Times, .int .i64 p.Step, .sl 9 (List.map R9 p.Names)] 0]), (2, .fn 72 [.rp [.int .i64 q] 0]), (3, .fn 75 [.rp [.int .i64 q] 0]), (4, .fn 78 [.rp [.int .i64 y] 0])] : List (Int × AV))) (fk := FK3) (fv := id) (k := p.Kind) (z0 := .lit .nilFunc) (ov Y) (ov Y) ZbF Zgn Y (fun _=>.b Y) (J8 Zf5 Y) (nsD Y)<|lkS<|mgF hk3_0<|mgT hk3_1)<|bE h fun y3 h_y3 h=>Rq Y (JP (ov Y) Y (Zei h_y3) .nil)<|Rx Y (Zg (ov Y) (ov Y) (Zf ZbM Y) Y Y Y (Nat.le_of_ble_eq_true Y) (Zb Y) Y)<|Za<|?_
   obtain rfl := rt h
   exact Zk (Zp Y (.one<|.agg Y Y Y Y ZbM Y Y<|.cons (Dat.view<|.b Y)<|.cons (Dat.view<|.b Y)<|.cons (Dat.view<|Dat.fnC<|.refl fun x hx => .b<|List.all_eq_true.1 (((XK h_y3).1)).1 x hx)<|.cons (Dat.view<|Dat.fnC<|.refl fun x hx => .b<|List.all_eq_true.1 (((XK h_y3).2)).1 x hx) .nil))
  ·
   rcases ifR h with ⟨hk3_2, h⟩ | ⟨hk3_2, h⟩
   ·
    refine Rq Y (ZgX (m := ([(1, .fn 69 [.rp [.fn 67 [.rp [.fn 66 []] 0]] 0, .rp [.int .i64 q] 0]), (5, .fn 70 [.rp [.fn 67 [.rp [.fn 66 []] 0]] 0]), (6, .fn 71 [.rp [.fn 67 [.rp [.fn 66 []] 0]] 0, .rp [.str p.Name, .int .i64 p.Kind, .sl 64 (List.map R64 p.Parts), .int .i64 p.First, .int .i64 p.Every, .int .i64 p.Times, .int .i64 p.Step, .sl 9 (List.map R9 p.Names)] 0]), (2, .fn 72 [.rp [.int .i64 q] 0]), (3, .fn 75 [.rp [.int .i64 q] 0]), (4, .fn 78 [.rp [.int .i64 y] 0])] : List (Int × AV))) (fk := FK3) (fv := id) (k := p.Kind) (z0 := .lit .nilFunc) (ov Y) (ov Y) ZbF Zgn Y (fun _=>.b Y) (J8 Zf5 Y) (nsD Y)<|lkS<|mgF hk3_0<|mgF hk3_1<|mgT hk3_2)<|bE h fun y4 h_y4 h=>Rq Y (JP (ov Y) Y (Zej h_y4) .nil)<|Rx Y (Zg (ov Y) (ov Y) (Zf ZbM Y) Y Y Y (Nat.le_of_ble_eq_true Y) (Zb Y) Y)<|Za<|?_
    obtain rfl := rt h
    exact Zk (Zp Y (.one<|.agg Y Y Y Y ZbM Y Y<|.cons (Dat.view<|.b Y)<|.cons (Dat.view<|.b Y)<|.cons (Dat.view<|Dat.fnC<|.refl fun x hx => .b<|List.all_eq_true.1 (((XF h_y4).1)).1 x hx)<|.cons (Dat.view<|Dat.fnC<|.refl fun x hx => .b<|List.all_eq_true.1 (((XF h_y4).2)).1 x hx) .nil))
   ·
    rcases ifR h with ⟨hk3_3, h⟩ | ⟨hk3_3, h⟩
    ·
     refine Rq Y (ZgX (m := ([(1, .fn 69 [.rp [.fn 67 [.rp [.fn 66 []] 0]] 0, .rp [.int .i64 q] 0]), (5, .fn 70 [.rp [.fn 67 [.rp [.fn 66 []] 0]] 0]), (6, .fn 71 [.rp [.fn 67 [.rp [.fn 66 []] 0]] 0, .rp [.str p.Name, .int .i64 p.Kind, .sl 64 (List.map R64 p.Parts), .int .i64 p.First, .int .i64 p.Every, .int .i64 p.Times, .int .i64 p.Step, .sl 9 (List.map R9 p.Names)] 0]), (2, .fn 72 [.rp [.int .i64 q] 0]), (3, .fn 75 [.rp [.int .i64 q] 0]), (4, .fn 78 [.rp [.int .i64 y] 0])] : List (Int × AV))) (fk := FK3) (fv := id) (k := p.Kind) (z0 := .lit .nilFunc) (ov Y) (ov Y) ZbF Zgn Y (fun _=>.b Y) (J8 Zf5 Y) (nsD Y)<|lkS<|mgF hk3_0<|mgF hk3_1<|mgF hk3_2<|mgT hk3_3)<|bE h fun y5 h_y5 h=>Rq Y (JP (ov Y) Y (ZdN h_y5) .nil)<|Rx Y (Zg (ov Y) (ov Y) (Zf ZbM Y) Y Y Y (Nat.le_of_ble_eq_true Y) (Zb Y) Y)<|Za<|?_
     obtain rfl := rt h
     exact Zk (Zp Y (.one<|.agg Y Y Y Y ZbM Y Y<|.cons (Dat.view<|.b Y)<|.cons (Dat.view<|.b Y)<|.cons (Dat.view<|Dat.fnC<|.refl fun x hx => .b<|List.all_eq_true.1 (((XI h_y5).1)).1 x hx)<|.cons (Dat.view<|Dat.fnC<|.refl fun x hx => .b<|List.all_eq_true.1 (((XI h_y5).2)).1 x hx) .nil))
    ·
     rcases ifR h with ⟨hk3_4, h⟩ | ⟨hk3_4, h⟩
     ·
      refine Rq Y (ZgX (m := ([(1, .fn 69 [.rp [.fn 67 [.rp [.fn 66 []] 0]] 0, .rp [.int .i64 q] 0]), (5, .fn 70 [.rp [.fn 67 [.rp [.fn 66 []] 0]] 0]), (6, .fn 71 [.rp [.fn 67 [.rp [.fn 66 []] 0]] 0, .rp [.str p.Name, .int .i64 p.Kind, .sl 64 (List.map R64 p.Parts), .int .i64 p.First, .int .i64 p.Every, .int .i64 p.Times, .int .i64 p.Step, .sl 9 (List.map R9 p.Names)] 0]), (2, .fn 72 [.rp [.int .i64 q] 0]), (3, .fn 75 [.rp [.int .i64 q] 0]), (4, .fn 78 [.rp [.int .i64 y] 0])] : List (Int × AV))) (fk := FK3) (fv := id) (k := p.Kind) (z0 := .lit .nilFunc) (ov Y) (ov Y) ZbF Zgn Y (fun _=>.b Y) (J8 Zf5 Y) (nsD Y)<|lkS<|mgF hk3_0<|mgF hk3_1<|mgF hk3_2<|mgF hk3_3<|mgT hk3_4)<|bE h fun y6 h_y6 h=>Rq Y (JP (ov Y) Y (Zd3 h_y6) .nil)<|Rx Y (Zg (ov Y) (ov Y) (Zf ZbM Y) Y Y Y (Nat.le_of_ble_eq_true Y) (Zb Y) Y)<|Za<|?_
      obtain rfl := rt h
      exact Zk (Zp Y (.one<|.agg Y Y Y Y ZbM Y Y<|.cons (Dat.view<|.b Y)<|.cons (Dat.view<|.b Y)<|.cons (Dat.view<|Dat.fnC<|.refl fun x hx => .b<|List.all_eq_true.1 (((XH h_y6).1)).1 x hx)<|.cons (Dat.view<|Dat.fnC<|.refl fun x hx => .b<|List.all_eq_true.1 (((XH h_y6).2)).1 x hx) .nil))
     ·
      rcases ifR h with ⟨hk3_5, h⟩ | ⟨hk3_5, h⟩
      ·
       refine Rq Y (ZgX (m := ([(1, .fn 69 [.rp [.fn 67 [.rp [.fn 66 []] 0]] 0, .rp [.int .i64 q] 0]), (5, .fn 70 [.rp [.fn 67 [.rp [.fn 66 []] 0]] 0]), (6, .fn 71 [.rp [.fn 67 [.rp [.fn 66 []] 0]] 0, .rp [.str p.Name, .int .i64 p.Kind, .sl 64 (List.map R64 p.Parts), .int .i64 p.First, .int .i64 p.Every, .int .i64 p.Times, .int .i64 p.Step, .sl 9 (List.map R9 p.Names)] 0]), (2, .fn 72 [.rp [.int .i64 q] 0]), (3, .fn 75 [.rp [.int .i64 q] 0]), (4, .fn 78 [.rp [.int .i64 y] 0])] : List (Int × AV))) (fk := FK3) (fv := id) (k := p.Kind) (z0 := .lit .nilFunc) (ov Y) (ov Y) ZbF Zgn Y (fun _=>.b Y) (J8 Zf5 Y) (nsD Y)<|lkS<|mgF hk3_0<|mgF hk3_1<|mgF hk3_2<|mgF hk3_3<|mgF hk3_4<|mgT hk3_5)<|bE h fun y7 h_y7 h=>Rq Y (JP (ov Y) Y (Zea h_y7) .nil)<|Rx Y (Zg (ov Y) (ov Y) (Zf ZbM Y) Y Y Y (Nat.le_of_ble_eq_true Y) (Zb Y) Y)<|Za<|?_
       obtain rfl := rt h
       exact Zk (Zp Y (.one<|.agg Y Y Y Y ZbM Y Y<|.cons (Dat.view<|.b Y)<|.cons (Dat.view<|.b Y)<|.cons (Dat.view<|Dat.fnC<|.refl fun x hx => .b<|List.all_eq_true.1 (((XG h_y7).1)).1 x hx)<|.cons (Dat.view<|Dat.fnC<|.refl fun x hx => .b<|List.all_eq_true.1 (((XG h_y7).2)).1 x hx) .nil))
      ·
       exact (ZmW h).elim
theorem X9 {p : api_Param} {r : layout_number} (h : QE p = some r) : Zck r.encode ∧ Zci r.decode := by
  have key : Zed (fun r => Zck r.encode ∧ Zci r.decode) (QE p) := by
    unfold QE
    repeat' (first | exact Zcq | with_reducible refine ZdM ?_ ?_ | with_reducible refine ZcO fun _ _ => ?_ | with_reducible refine Zgk ?_)
    all_goals first | exact J6 ⟨((XJ (by assumption)).1), ((XJ (by assumption)).2)⟩ | exact J6 ⟨((XK (by assumption)).1), ((XK (by assumption)).2)⟩ | exact J6 ⟨((XF (by assumption)).1), ((XF (by assumption)).2)⟩ | exact J6 ⟨((XI (by assumption)).1), ((XI (by assumption)).2)⟩ | exact J6 ⟨((XH (by assumption)).1), ((XH (by assumption)).2)⟩ | exact J6 ⟨((XG (by assumption)).1), ((XG (by assumption)).2)⟩
  exact key r h
theorem ZgU {m : api_Map} {l : List Int} {r : (Vector (List Int) 16) × Int} (h : Zb4 m l = some r) :
 CSpec Try.prog gl0 27 [.agg [.int .i64 m.Version, .sl 44 (List.map R44 m.Params)], .sl 3 (List.map R3 l)] (.tuple [.agg (List.map C65 r.1.toList), .int .i64 r.2]) := by
 unfold Zb4 at h
 replace h := Qf h
 refine So Try.func27 Y fun w0 A=>Tr<|Rq Y (ZY (cva<|ov Y) Y tZ_24 Y)<|Rx Y (Zs (row := [_, _, _, _, _, _, _, _, _, _, _, _, _, _, _, _]) 0 Y Zlu Y tZ_66)<|Ra Y<|Za<|K3 1 2 4 Y<|Tr<|Rx Y (Zs (row := [_, _, _, _, _, _, _, _, _, _, _, _, _, _, _, _]) 1 Y Zlu Y tZ_66)<|Rx Y (Zs (row := [_, _, _, _, _, _, _, _, _, _, _, _, _, _, _, _]) 2 Y Zlu Y tZ_66)<|Za<|Zl<|Tr<|Rq Y (Zj (ov Y) Zao Y Y)<|bE h fun y h_y h=>Rq Y (Zr (Xq h_y)<|.cons (ov Y) (.aggB Y) .nil)<|Rm Y<|Rq Y (Zo (ov Y) Y)<|Rq Y (Zo (ov Y) Y)<|Ra Y<|Ra Y<|Za<|K6 1 2 4 6 7 9 Y<|Tr<|Rm Y<|R2 Qp Y<|Za<|K7 1 2 4 6 7 9 25 Y<|If h Y (fun h=>?_) fun h=>?_
 ·
  refine K3 4 7 9 Y<|Tr<|Rq Y (Zn (ov Y) Y Y Y ZdQ Y Y)<|Rm Y<|Rx Y (Zg (ov Y) (ov Y) (Zf ZdQ Y) Y Y Y (Nat.le_of_ble_eq_true Y) (Zb Y) Y)<|Ra Y<|Za<|?_
  obtain rfl := rt h
  exact Zk (Zp Y (.two (.agg Y Y Y Y ZdQ Y Y<|pwZ (m := 16) (f := C65) Y Y)<|rb Y))
 ·
  refine Ze<|K5 1 2 4 6 7 Y<|Tr<|Rq Y (Zj (ov Y) Zao Y Y)<|bE h fun y2 h_y2 h=>Rq Y (Zr (Zcb h_y2)<|.cons (ov Y) (.aggB Y) .nil)<|Ra Y<|Za<|Zl<|K6 1 2 4 6 7 10 Y<|Tr<|Rm Y<|Rl tZ_3 ZaS Y<|Rm Y<|Rl tZ_34 Zb6 Y<|R2 Qp Y<|Za<|K7 1 2 4 6 7 10 34 Y<|If h Y (fun h=>?_) fun h=>?_
  ·
   refine K2 4 7 Y<|Tr<|Rq Y (Zn (ov Y) Y Y Y ZdQ Y Y)<|Rx Y (Zg (ov Y) (ov Y) (Zf ZdQ Y) Y Y Y (Nat.le_of_ble_eq_true Y) (Zb Y) Y)<|Ra Y<|Za<|?_
   obtain rfl := rt h
   exact Zk (Zp Y (.two (.agg Y Y Y Y ZdQ Y Y<|pwZ (m := 16) (f := C65) Y Y)<|rb Y))
  ·
   refine Ze<|I1 (fun out=>⟨[(1, .sl 3 (List.map R3 l)), (2, .rp [.int .i64 m.Version, .sl 44 (List.map R44 m.Params)] 0), (4, .ptr 0 1 0 0), (6, .ptr 1 1 0 0), (7, .ptr 2 1 0 0), (10, .sl 34 (List.map R34 y2))], [some ⟨66, [[.nils, .nils, .nils, .nils, .nils, .nils, .nils, .nils, .nils, .nils, .nils, .nils, .nils, .nils, .nils, .nils]]⟩, some ⟨66, [(List.map (osF 3 R3) out.toList)]⟩, some ⟨66, [[.nils, .nils, .nils, .nils, .nils, .nils, .nils, .nils, .nils, .nils, .nils, .nils, .nils, .nils, .nils, .nils]]⟩]⟩) h (fun h=>?_) fun out h=>?_
   ·
    refine K6 1 2 4 6 7 10 Y<|Tr<|Rm Y<|Za<|Zh<|?_
    obtain ⟨r1, hl1, ho1⟩ := QA h
    refine L2 (fun out2 i=>⟨[(1, .sl 3 (List.map R3 l)), (2, .rp [.int .i64 m.Version, .sl 44 (List.map R44 m.Params)] 0), (4, .ptr 0 1 0 0), (6, .ptr 1 1 0 0), (7, .ptr 2 1 0 0), (10, .sl 34 (List.map R34 y2)), (36, .int .i64 i)], [some ⟨66, [[.nils, .nils, .nils, .nils, .nils, .nils, .nils, .nils, .nils, .nils, .nils, .nils, .nils, .nils, .nils, .nils]]⟩, some ⟨66, [(List.map (osF 3 R3) out2.toList)]⟩, some ⟨66, [[.nils, .nils, .nils, .nils, .nils, .nils, .nils, .nils, .nils, .nils, .nils, .nils, .nils, .nils, .nils, .nils]]⟩]⟩) hl1 (ES [some 0, some 1, some 2] (hhp := .cons Y (Zee (by exact tZ_66.symm) Y)<|.cons Y (Znb Y tZ_66)<|.cons Y (Zee (by exact tZ_66.symm) Y) .nil)) fun n1 out2 i h=>?_
    unfold Zbn at h
    refine Tr<|R2 ZM Y<|Za<|Zl<|If h Y (fun h=>?_) fun h=>?_
    ·
     exact Ze<|Zl<|Zh<|K7 1 2 4 6 7 10 36 Y<|Tr<|Rm Y<|Ra Y<|Za<|K8 1 2 4 6 7 10 11 36 Y<|Tr<|Rm Y<|bE h fun l2 h_l2 h=>Rx Y (Zll [none] (r := 3) (f := R3) (z0 := 0) Y (ov Y) (ov Y) ZaS Y tZ3 Y Y h_l2)<|bE h fun x h_x h=>Rq Y (ZcE (ov Y) (ov Y) Zfm Y Y h_x)<|Rx Y (Zg (ov Y) (ov Y) (Zv Zfq) Y Y Y (arB h_x) (Zb Y)<|Zmq h_x)<|ZeH (Ent.absorbA (r := 1) (q := 3) Y h_x Y Y Y)<|Za<|K8 1 2 4 6 7 10 11 36 Y<|bE h fun l3 h_l3 h=>ZhE (Ent.focusA (r := 1) Y h_l3 D3)<|ZgM (cw := md0) (by kernel_rfl)<|D1 0 Zz Y<|bE h fun x2 h_x2 h=>Dq 1 Y (ZcE (ov Y) (ov Y) Zfm Y Y h_x2)<|Dq 2 Y (Zm (ov Y) Y Y Y Zfq<|Zkf h_l3)<|Dq 3 Y (Zd (ov Y) ZhL)<|Dq 4 Y (Zc (ov Y) tS3 Y)<|bE h fun x3 h_x3 h=>Dq 5 Y (ZgB (ov Y) (ov Y) ZaS Y Y h_x3)<|Do 6 Y (Zgz (u' := m.Version) (ov Y) (ov Y) (Zv tS3) Y Y h_x3 Y (Zb Y) Y)<|ZjA (by kernel_rfl) (Ent.absorbA (r := 1) (q := 4) Y h_l3 Y ((List.length_set ..).trans Y) Y)<|K7 1 2 4 6 7 10 36 Y<|Zy<|R2 Z5 Y<|Rm Y<|Za<|⟨_, h, ES [some 0, some 1, some 2] (hhp := .cons Y (Zee (by exact tZ_66.symm) Y)<|.cons Y (Zip tZ_66 D3)<|.cons Y (Zee (by exact tZ_66.symm) Y) .nil)⟩
    ·
     refine ZC<|?_
     replace h := lx h ▸ ho1
     exact ⟨_, h, ES [some 0, some 1, some 2] (hhp := .cons Y (Zee (by exact tZ_66.symm) Y)<|.cons Y (Zip tZ_66 D3)<|.cons Y (Zee (by exact tZ_66.symm) Y) .nil)⟩
   ·
    refine J1 (fun j => (.inr j)) (fun out3=>⟨[(4, .ptr 0 1 0 0), (6, .ptr 1 1 0 0)], [some ⟨66, [[.nils, .nils, .nils, .nils, .nils, .nils, .nils, .nils, .nils, .nils, .nils, .nils, .nils, .nils, .nils, .nils]]⟩, some ⟨66, [(List.map (osF 3 R3) out3.toList)]⟩]⟩) h (fun h=>?_) fun out3 h=>?_
    ·
     refine Tr<|Rm Y<|Rl tZ_34 Zb6 Y<|Rm Y<|Za<|Zh<|?_
     obtain ⟨r2, hl2, ho2⟩ := QA h
     refine L2 (fun out4 i2=>⟨[(1, .sl 3 (List.map R3 l)), (2, .rp [.int .i64 m.Version, .sl 44 (List.map R44 m.Params)] 0), (4, .ptr 0 1 0 0), (6, .ptr 1 1 0 0), (7, .ptr 2 1 0 0), (49, .sl 34 (List.map R34 y2)), (50, .int .i64 (y2.length : Int)), (51, .int .i64 i2)], [some ⟨66, [[.nils, .nils, .nils, .nils, .nils, .nils, .nils, .nils, .nils, .nils, .nils, .nils, .nils, .nils, .nils, .nils]]⟩, some ⟨66, [(List.map (osF 3 R3) out4.toList)]⟩, some ⟨66, [[.nils, .nils, .nils, .nils, .nils, .nils, .nils, .nils, .nils, .nils, .nils, .nils, .nils, .nils, .nils, .nils]]⟩]⟩) hl2 (ES [some 0, some 1, some 2] (hhp := .cons Y (Zee (by exact tZ_66.symm) Y)<|.cons Y (Zip tZ_66 D3)<|.cons Y (Zee (by exact tZ_66.symm) Y) .nil)) fun n2 out4 i2 h=>?_
     unfold Zbi at h
     refine Tr<|R2 ZM Y<|Za<|Zl<|If h Y (fun h=>?_) fun h=>?_
     ·
      refine Ze<|J1 (fun j => (.inr j)) (fun out5=>⟨[(1, .sl 3 (List.map R3 l)), (2, .rp [.int .i64 m.Version, .sl 44 (List.map R44 m.Params)] 0), (4, .ptr 0 1 0 0), (6, .ptr 1 1 0 0), (7, .ptr 2 1 0 0), (49, .sl 34 (List.map R34 y2)), (50, .int .i64 (y2.length : Int)), (51, .int .i64 i2)], [some ⟨66, [[.nils, .nils, .nils, .nils, .nils, .nils, .nils, .nils, .nils, .nils, .nils, .nils, .nils, .nils, .nils, .nils]]⟩, some ⟨66, [(List.map (osF 3 R3) out5.toList)]⟩, some ⟨66, [[.nils, .nils, .nils, .nils, .nils, .nils, .nils, .nils, .nils, .nils, .nils, .nils, .nils, .nils, .nils, .nils]]⟩]⟩) h (fun h=>?_) fun out5 h=>?_
      ·
       refine Zh<|K8 1 2 4 6 7 49 50 51 Y<|Tr<|Rm Y<|bE h fun x4 h_x4 h=>Rq Y (ZE (ov Y) (ov Y) Zb6 h_x4)<|Rq Y (Zj (ov Y) Zdn Y Y)<|Rx Y (Zs (row := [_, _, _, _]) 3 Y ZgJ Y tZ_34)<|Ra Y<|Rx Y (Zg (ov Y) (ov Y) (Zf Zdn Y) Y Y Y (Nat.le_of_ble_eq_true Y) (Zb Y) Y)<|Za<|K10 1 2 4 6 7 12 13 49 50 51 Y<|Tr<|Rq Y (Zd (ov Y) QC)<|Rq Y (Zc (ov Y) J5 Y)<|Rq Y (Zi (ov Y) Y Y Zh1)<|Rq Y (Zm (ov Y) Y Y Y tS3 Y)<|bE h fun x5 h_x5 h=>Rq Y (ZE (ov Y) (ov Y) Qy h_x5)<|Rq Y (Zj (ov Y) Zw Y Y)<|bE h fun y3 h_y3 h=>Rq Y (Zr (ZcD h_y3)<|.cons (ov Y) (.aggB Y) .nil)<|Rx Y (Zs (row := [_, _, _, _]) 4 Y ZfR Y tZ_90)<|Rx Y (Zg (ov Y) (ov Y) (Zf ZbM Y) Y Y Y (Nat.le_of_ble_eq_true Y) (Zb Y) Y)<|Za<|Zl<|K11 1 2 4 6 7 12 13 14 49 50 51 Y<|Td md0<|D1 0 Zz Y<|D1 1 Zz Y<|bE h fun x6 h_x6 h=>Dq 2 Y (ZE (ov Y) (ov Y) ZaS h_x6)<|Dq 3 Y (Zc (ov Y) tS3 Y)<|Dq 4 Y (Zi (ov Y) Y Y Zl7)<|Dq 5 Y (Zm (ov Y) Y Y Y tS3 Y)<|Dq 6 Y (Zi (ov Y) Y Y Zml)<|Dq 7 Y (Zm (ov Y) Y Y Y tS3 Y)<|bE h fun y4 h_y4 h=>Dq 8 Y (Zr (Qe h_y4)<|.cons (ov Y) (.b Y)<|.cons (ov Y) (.b Y)<|.cons (ov Y) (.b Y) .nil)<|D1 9 Xy Y<|Dd<|K12 1 2 4 6 7 12 13 14 49 50 51 72 Y<|If h Y (fun h=>?_) fun h=>?_
       ·
        refine K2 4 7 Y<|Tr<|Rq Y (Zn (ov Y) Y Y Y ZdQ Y Y)<|Rx Y (Zg (ov Y) (ov Y) (Zf ZdQ Y) Y Y Y (Nat.le_of_ble_eq_true Y) (Zb Y) Y)<|Ra Y<|Za<|?_
        replace h := lx h ▸ ho2
        obtain rfl := rt h
        exact Zk (Zp Y (.two (.agg Y Y Y Y ZdQ Y Y<|pwZ (m := 16) (f := C65) Y Y)<|rb Y))
       ·
        refine Ze<|K11 1 2 4 6 7 12 13 14 49 50 51 Y<|Td md0<|Dq 0 Y (Zi (ov Y) Y Y Zl2)<|Dq 1 Y (Zm (ov Y) Y Y Y Zl4 Y)<|D1 2 Zz Y<|D1 3 Zz Y<|bE h fun x7 h_x7 h=>Dq 4 Y (ZE (ov Y) (ov Y) ZaS h_x7)<|Dq 5 Y (Zc (ov Y) tS3 Y)<|bE h fun y5 h_y5 h=>Dq 6 Y (JP (ov Y) (((X9 h_y3).1)).1 ((((X9 h_y3).1)).2 _ _ h_y5)<|.cons (ov Y) (.b Y) .nil)<|Dq 7 Y (Zd (ov Y) QC)<|Dq 8 Y (Zc (ov Y) J5 Y)<|Dq 9 Y (Zi (ov Y) Y Y Zh1)<|Dq 10 Y (Zm (ov Y) Y Y Y tS3 Y)<|bE h fun x8 h_x8 h=>Dq 11 Y (ZE (ov Y) (ov Y) Qy h_x8)<|Dq 12 Y (Zj (ov Y) Zw Y Y)<|bE h fun y6 h_y6 h=>Dq 13 Y (Zr (Zag h_y6)<|.cons (ov Y) (.aggB Y) .nil)<|D1 14 Jz Y<|D1 15 Jz Y<|Dd<|K11 1 2 4 6 7 13 15 16 49 50 51 Y<|Tr<|Rq Y (Zi (ov Y) Y Y ZcX)<|Rq Y (Zm (ov Y) Y Y Y Zhe Y)<|Rl tZ_59 ZdL Y<|Rm Y<|Za<|Zh<|?_
        obtain ⟨r3, hl3, ho3⟩ := bnd h
        refine L3 (fun out6 left i3=>⟨[(1, .sl 3 (List.map R3 l)), (2, .rp [.int .i64 m.Version, .sl 44 (List.map R44 m.Params)] 0), (4, .ptr 0 1 0 0), (6, .ptr 1 1 0 0), (7, .ptr 2 1 0 0), (15, .int .i64 y5), (16, .int .i64 left), (49, .sl 34 (List.map R34 y2)), (50, .int .i64 (y2.length : Int)), (51, .int .i64 i2), (89, .sl 59 (List.map R59 x4.Places)), (90, .int .i64 (x4.Places.length : Int)), (91, .int .i64 i3)], [some ⟨66, [[.nils, .nils, .nils, .nils, .nils, .nils, .nils, .nils, .nils, .nils, .nils, .nils, .nils, .nils, .nils, .nils]]⟩, some ⟨66, [(List.map (osF 3 R3) out6.toList)]⟩, some ⟨66, [[.nils, .nils, .nils, .nils, .nils, .nils, .nils, .nils, .nils, .nils, .nils, .nils, .nils, .nils, .nils, .nils]]⟩]⟩) hl3 (ES [some 0, some 1, some 2] (hhp := .cons Y (Zee (by exact tZ_66.symm) Y)<|.cons Y (Zip tZ_66 D3)<|.cons Y (Zee (by exact tZ_66.symm) Y) .nil)) fun n3 out6 left i3 h=>?_
        unfold Zbo at h
        refine Tr<|R2 ZM Y<|Za<|Zl<|If h Y (fun h=>?_) fun h=>?_
        ·
         exact Ze<|Zl<|Zh<|XE (kc 1 Y<|kc 2 Y<|kc 4 Y<|kc 6 Y<|kc 7 Y<|kc 15 Y<|kc 16 Y<|kc 49 Y<|kc 50 Y<|kc 51 Y<|kc 89 Y<|kc 90 Y<|kc 91 Y kn) Y<|Tr<|bE h fun x9 h_x9 h=>Rq Y (ZE (ov Y) (ov Y) ZdL h_x9)<|Rq Y (Zj (ov Y) Zfp Y Y)<|Rx Y (Zs (row := [_, _, _, _]) 3 Y ZhQ Y tZ_59)<|Rx Y (Zg (ov Y) (ov Y) (Zf Zfp Y) Y Y Y (Nat.le_of_ble_eq_true Y) (Zb Y) Y)<|Za<|XE (kc 1 Y<|kc 2 Y<|kc 4 Y<|kc 6 Y<|kc 7 Y<|kc 15 Y<|kc 16 Y<|kc 18 Y<|kc 49 Y<|kc 50 Y<|kc 51 Y<|kc 89 Y<|kc 90 Y<|kc 91 Y kn) Y<|Tr<|Rm Y<|Rq Y (Zi (ov Y) Y Y ZfU)<|Rq Y (Zm (ov Y) Y Y Y tS3 Y)<|R2 Zdo Y<|Ra Y<|Za<|XE (kc 1 Y<|kc 2 Y<|kc 4 Y<|kc 6 Y<|kc 7 Y<|kc 15 Y<|kc 16 Y<|kc 18 Y<|kc 49 Y<|kc 50 Y<|kc 51 Y<|kc 89 Y<|kc 90 Y<|kc 91 Y kn) Y<|bE h fun l4 h_l4 h=>ZhE (Ent.focusA (r := 1) Y h_l4 D3)<|ZgM (cw := md0) (by kernel_rfl)<|Dq 0 Y (Zi (ov Y) Y Y Zh7)<|Dq 1 Y (Zm (ov Y) Y Y Y tS3 Y)<|bE h fun x10 h_x10 h=>Dq 2 Y (ZcE (ov Y) (ov Y) Zfm Y Y h_x10)<|Dq 3 Y (Zm (ov Y) Y Y Y Zfq<|Zkf h_l4)<|Dq 4 Y (Zi (ov Y) Y Y ZhP)<|Dq 5 Y (Zm (ov Y) Y Y Y tS3 Y)<|D2 6 Zdo Y<|bE h fun x11 h_x11 h=>Dq 7 Y (ZgB (ov Y) (ov Y) ZaS Y Y h_x11)<|Dq 8 Y (ZkR (ov Y) Y Y h_x11 tS3 Y)<|D1 9 Zz Y<|D1 10 Zz Y<|bE h fun q h_q h=>Dq 11 Y (Zjg (ov Y) (ov Y) h_q)<|Dq 12 Y (Zi (ov Y) Y Y ZfU)<|Dq 13 Y (Zm (ov Y) Y Y Y tS3 Y)<|bE h fun q2 h_q2 h=>Dq 14 Y (Zec (ov Y) (ov Y) h_q2)<|D2 15 Zdo Y<|D2 16 Zh8 Y<|Dq 17 Y (Zi (ov Y) Y Y ZgI)<|Dq 18 Y (Zm (ov Y) Y Y Y tS3 Y)<|bE h fun q3 h_q3 h=>Dq 19 Y (Zec (ov Y) (ov Y) h_q3)<|D2 20 ZkP Y<|bE h fun x12 h_x12 h=>Dq 21 Y (ZgB (ov Y) (ov Y) ZaS Y Y h_x12)<|Do 22 Y (Zgz (u' := (bor .i64 x11 q3)) (ov Y) (ov Y) (Zv tS3) Y Y h_x12 Y (Zb Y) Y)<|ZjA (by kernel_rfl) (Ent.absorbA (r := 1) (q := 4) Y h_l4 Y ((List.length_set ..).trans Y) Y)<|XE (kc 1 Y<|kc 2 Y<|kc 4 Y<|kc 6 Y<|kc 7 Y<|kc 15 Y<|kc 16 Y<|kc 49 Y<|kc 50 Y<|kc 51 Y<|kc 89 Y<|kc 90 Y<|kc 91 Y kn) Y<|Zy<|R2 Z5 Y<|Rm Y<|Za<|⟨_, h, ES [some 0, some 1, some 2] (hhp := .cons Y (Zee (by exact tZ_66.symm) Y)<|.cons Y (Zip tZ_66 D3)<|.cons Y (Zee (by exact tZ_66.symm) Y) .nil)⟩
        ·
         refine ZC<|?_
         replace h := lx h ▸ ho3
         exact ⟨_, h, ES [some 0, some 1, some 2] (hhp := .cons Y (Zee (by exact tZ_66.symm) Y)<|.cons Y (Zip tZ_66 D3)<|.cons Y (Zee (by exact tZ_66.symm) Y) .nil)⟩
      ·
       replace h := elr h
       replace h := t1i h
       exact Zy<|R2 Z5 Y<|Rm Y<|Za<|⟨_, h, ES [some 0, some 1, some 2] (hhp := .cons Y (Zee (by exact tZ_66.symm) Y)<|.cons Y (Zip tZ_66 D3)<|.cons Y (Zee (by exact tZ_66.symm) Y) .nil)⟩
     ·
      refine ZC<|?_
      replace h := lx h ▸ ho2
      exact ⟨_, h, ES [some 0, some 1] (hhp := .cons Y (Zee (by exact tZ_66.symm) Y)<|.cons Y (Zip tZ_66 D3) .nil)⟩
    ·
     replace h := elr h
     replace h := t1i h
     refine Tr<|ZeH (Ent.meltA (r := 1) (f := C65) Y tZ_66 (fun _=>Y) D3)<|Rq Y (Zn (ov Y) Y Y Y ZdQ arW arL)<|Rx Y (Zg (ov Y) (ov Y) (Zf ZdQ arL) Y Y Y (Zji (Jw Y) arL) (Zb<|arC fun _ => Y)<|ZhZ<|Eq.trans Y<|Eq.symm arL)<|Ra Y<|Za<|?_
     obtain rfl := rt h
     exact Zk (Zp Y (.two (.agg Y Y Y Y ZdQ (Ze9<|Jw arL) arL (pwB<|arD fun _ => Y) (hns := (nsM fun _ => Y)))<|rb Y))
theorem Zcl {s : List Int} {f : Int → Option Bool} {r : Int} {f_f : FuncId} {f_c : List AV} (f_d : f_c.all datB = true) (f_h : ∀ (z0 : Int) z, f z0 = some z → CSpec Try.prog gl0 f_f ([.int .i64 z0] ++ f_c) (.bool z)) (h : Qz s f = some r) :
 CSpec Try.prog gl0 81 [.sl 3 (List.map R3 s), .fn f_f f_c] (.int .i64 r) := by
 unfold Qz at h
 replace h := Qf h
 refine So Try.func81 Y fun w0 A=>Tr<|Ra Y<|Za<|J0 (fun j => (.inr j)) ⟨[], []⟩ h (fun h=>?_) fun h=>?_
 ·
  refine K2 0 1 Y<|Tr<|Rm Y<|Rl tZ_3 ZaS Y<|Rm Y<|Za<|Zh<|?_
  obtain ⟨r1, hl1, ho1⟩ := QA h
  refine L1 (fun i=>⟨[(0, .sl 3 (List.map R3 s)), (1, .fn f_f f_c), (7, .int .i64 (s.length : Int)), (8, .int .i64 i)], []⟩) hl1 (ES []<|sd 0 Y Y<|sr 1 Y (rFn<|rld f_d)<|sd 7 Y Y<|sd 8 Y Y sn) fun n1 i h=>?_
  unfold QL at h
  refine Tr<|R2 ZM Y<|Za<|Zl<|If h Y (fun h=>?_) fun h=>?_
  ·
   refine Ze<|Zl<|Zh<|K4 0 1 7 8 Y<|Tr<|Rm Y<|Ra Y<|Za<|K5 0 1 5 7 8 Y<|Tr<|Rm Y<|Rm Y<|Rm Y<|bE h fun x h_x h=>Rq Y (ZE (ov Y) (ov Y) ZaS h_x)<|Rq Y (Zc (ov Y) tS3 Y)<|bE h fun y h_y h=>Rq Y (JP (ov Y) f_d (f_h _ _ h_y)<|.cons (ov Y) (.b Y) .nil)<|Za<|K6 0 1 5 7 8 16 Y<|If h Y (fun h=>?_) fun h=>?_
   ·
    refine K1 5 Y<|Tr<|Rm Y<|Ra Y<|Za<|?_
    replace h := lx h ▸ ho1
    obtain rfl := rt h
    exact Zk (Zp Y (.one<|rb Y))
   ·
    exact Ze<|K4 0 1 7 8 Y<|Zy<|R2 Z5 Y<|Rm Y<|Za<|⟨_, h, ES []<|sd 0 Y Y<|sr 1 Y (rFn<|rld f_d)<|sd 7 Y Y<|sd 8 Y Y sn⟩
  ·
   refine ZC<|?_
   replace h := lx h ▸ ho1
   exact ⟨(), h, ES []⟩
 ·
  replace h := elr h
  replace h := t0i h
  refine Tr<|Ra Y<|Za<|?_
  obtain rfl := rt h
  exact Zk (Zp Y (.one<|rb Y))
theorem ZbJ {s : List Int} {f : Int → Option Bool} {r : Bool} {f_f : FuncId} {f_c : List AV} (f_d : f_c.all datB = true) (f_h : ∀ (z0 : Int) z, f z0 = some z → CSpec Try.prog gl0 f_f ([.int .i64 z0] ++ f_c) (.bool z)) (h : Qg s f = some r) :
 CSpec Try.prog gl0 49 [.sl 3 (List.map R3 s), .fn f_f f_c] (.bool r) := by
 unfold Qg at h
 replace h := Qf h
 refine So Try.func49 Y fun w0 A=>Tr<|Ra Y<|Za<|Tr<|Rm Y<|Rm Y<|bE h fun y h_y h=>Rq Y (Zr (Zcl f_d f_h h_y)<|.cons (ov Y) (.b Y)<|.cons (ov Y) (Dat.fnC<|.refl fun x hx => .b<|List.all_eq_true.1 f_d x hx) .nil)<|R2 ZcB Y<|Ra Y<|Za<|?_
 obtain rfl := rt h
 exact Zk (Zp Y (.one<|rb Y))
theorem Zfa {d : Int} {r : Bool} (h : JD d = some r) :
 CSpec Try.prog gl0 50 [.int .i64 d] (.bool r) := by
 unfold JD at h
 replace h := Qf h
 refine So Try.func50 Y fun w0 A=>Tr<|Ra Y<|Za<|Tr<|Rm Y<|bE h fun y h_y h=>Rq Y (Zr (Qe h_y)<|.cons (ov Y) (.b Y)<|.cons (ov Y) (.b Y)<|.cons (ov Y) (.b Y) .nil)<|R1 Xy Y<|Ra Y<|Za<|?_
 obtain rfl := rt h
 exact Zk (Zp Y (.one<|rb Y))
theorem Zgm {c_ : api_Cell} {l : Vector (List Int) 16} {r : Int} (h : Zbh c_ l = some r) :
 CSpec Try.prog gl0 52 [.agg [.int .i64 c_.Param, .int .i64 c_.Index, .int .i64 c_.Frame, .sl 59 (List.map R59 c_.Places)], .agg (List.map C65 l.toList)] (.int .i64 r) := by
 unfold Zbh at h
 replace h := Qf h
 refine So Try.func52 Y fun w0 A=>Tr<|Rq Y (ZY (cva<|ov Y) Y tZ_34 Y)<|Rq Y (ZY (cva<|ov Y) arL tZ_66<|arD fun _ => Y)<|Ra Y<|Za<|K2 2 3 Y<|Tr<|Ra Y<|Za<|I1 (fun raw=>⟨[(5, .int .i64 raw)], []⟩) h (fun h=>?_) fun raw h=>?_
 ·
  refine Tr<|Rq Y (Zd (ov Y) ZcX)<|Rq Y (Zc (ov Y) Zhe Y)<|Rl tZ_59 ZdL Y<|Rm Y<|Za<|Zh<|?_
  obtain ⟨r1, hl1, ho1⟩ := QA h
  refine L2 (fun raw2 i=>⟨[(3, .rp (List.map C65 l.toList) 0), (5, .int .i64 raw2), (9, .sl 59 (List.map R59 c_.Places)), (10, .int .i64 (c_.Places.length : Int)), (11, .int .i64 i)], []⟩) hl1 (ES []) fun n1 raw2 i h=>?_
  unfold ZaK at h
  refine Tr<|R2 ZM Y<|Za<|Zl<|If h Y (fun h=>?_) fun h=>?_
  ·
   exact Ze<|Zl<|Zh<|K5 3 5 9 10 11 Y<|Tr<|bE h fun x h_x h=>Rq Y (ZE (ov Y) (ov Y) ZdL h_x)<|Rq Y (Zj (ov Y) Zfp Y Y)<|Rx Y (Zs (row := [_, _, _, _]) 0 Y ZhQ Y tZ_59)<|Rx Y (Zg (ov Y) (ov Y) (Zf Zfp Y) Y Y Y (Nat.le_of_ble_eq_true Y) (Zb Y) Y)<|Za<|K6 3 5 7 9 10 11 Y<|ZgM (cw := md0) (by kernel_rfl)<|D1 0 Zz Y<|Dq 1 Y (Zi (ov Y) Y Y ZfU)<|Dq 2 Y (Zm (ov Y) Y Y Y tS3 Y)<|bE h fun q h_q h=>Dq 3 Y (Zec (ov Y) (ov Y) h_q)<|Dq 4 Y (Zi (ov Y) Y Y Zh7)<|Dq 5 Y (Zm (ov Y) Y Y Y tS3 Y)<|bE h fun x2 h_x2 h=>Dq 6 Y (Zme (ov Y) (ov Y) Zfm h_x2)<|Dq 7 Y (Zc (ov Y) Zfq<|Zdu<|ZfD (o := 0) (o' := (x.Frame.toNat * 1)) (Jw arL)<|Zfz h_x2)<|Dq 8 Y (Zi (ov Y) Y Y ZhP)<|Dq 9 Y (Zm (ov Y) Y Y Y tS3 Y)<|D2 10 Zdo Y<|bE h fun x3 h_x3 h=>Dq 11 Y (ZE (ov Y) (ov Y) ZaS h_x3)<|Dq 12 Y (Zc (ov Y) tS3 Y)<|Dq 13 Y (Zi (ov Y) Y Y ZgI)<|Dq 14 Y (Zm (ov Y) Y Y Y tS3 Y)<|bE h fun q2 h_q2 h=>Dq 15 Y (Zjg (ov Y) (ov Y) h_q2)<|Dq 16 Y (Zi (ov Y) Y Y ZfU)<|Dq 17 Y (Zm (ov Y) Y Y Y tS3 Y)<|bE h fun q3 h_q3 h=>Dq 18 Y (Zec (ov Y) (ov Y) h_q3)<|D2 19 Zdo Y<|D2 20 Zh8 Y<|D2 21 ZkP Y<|D1 22 Jz Y<|Dd<|K5 3 5 9 10 11 Y<|Zy<|R2 Z5 Y<|Rm Y<|Za<|⟨_, h, ES []⟩
  ·
   refine ZC<|?_
   replace h := lx h ▸ ho1
   exact ⟨_, h, ES []⟩
 ·
  refine Tr<|Rm Y<|Ra Y<|Za<|?_
  obtain rfl := rt h
  exact Zk (Zp Y (.one<|rb Y))
theorem ZfL {p : api_Param} {raw : Int} {r : Int × Bool} (h : J3 p raw = some r) :
 CSpec Try.prog gl0 51 [.agg [.str p.Name, .int .i64 p.Kind, .sl 64 (List.map R64 p.Parts), .int .i64 p.First, .int .i64 p.Every, .int .i64 p.Times, .int .i64 p.Step, .sl 9 (List.map R9 p.Names)], .int .i64 raw] (.tuple [.int .i64 r.1, .bool r.2]) := by
 unfold J3 at h
 replace h := Qf h
 refine So Try.func51 Y fun w0 A=>Tr<|Rq Y (ZY (cva<|ov Y) Y tZ_44 Y)<|Ra Y<|Ra Y<|Za<|K2 1 2 Y<|Tr<|Rq Y (Zj (ov Y) Zw Y Y)<|bE h fun y h_y h=>Rq Y (Zr (ZcD h_y)<|.cons (ov Y) (.aggB Y) .nil)<|Rq Y (Zk1 (ov Y) Zlr Y)<|Rm Y<|bE h fun y2 h_y2 h=>Rq Y (JP (ov Y) (((X9 h_y).2)).1 ((((X9 h_y).2)).2 _ _ h_y2)<|.cons (ov Y) (.b Y) .nil)<|Rm Y<|Rq Y (Zo (ov Y) Y)<|Rq Y (Zo (ov Y) Y)<|Ra Y<|Ra Y<|Za<|Zl<|K2 6 7 Y<|Tr<|Rm Y<|R1 Xy Y<|Za<|K2 6 17 Y<|If h Y (fun h=>?_) fun h=>?_
 ·
  refine K0<|Tr<|Ra Y<|Ra Y<|Za<|?_
  obtain rfl := rt h
  exact Zk (Zp Y (.two (rb Y)<|rb Y))
 ·
  refine Ze<|K1 6 Y<|Tr<|Rm Y<|Ra Y<|Ra Y<|Za<|?_
  obtain rfl := rt h
  exact Zk (Zp Y (.two (rb Y)<|rb Y))
theorem Zf6 {m : api_Map} {l : Vector (List Int) 16} {r : (List api_Reading) × Int} (h : ZaE m l = some r) :
 CSpec Try.prog gl0 28 [.agg [.int .i64 m.Version, .sl 44 (List.map R44 m.Params)], .agg (List.map C65 l.toList)] (.tuple [.sl 73 (List.map R73 r.1), .int .i64 r.2]) := by
 unfold ZaE at h
 replace h := Qf h
 refine So Try.func28 Y fun w0 A=>Tr<|Rq Y (ZY (cva<|ov Y) Y tZ_24 Y)<|Rq Y (ZY (cva<|ov Y) arL tZ_66<|arD fun _ => Y)<|Ra Y<|Ra Y<|Za<|Zl<|K2 2 3 Y<|Tr<|Rq Y (Zj (ov Y) Zao Y Y)<|bE h fun y h_y h=>Rq Y (Zr (Xq h_y)<|.cons (ov Y) (.aggB Y) .nil)<|Rm Y<|Rq Y (Zo (ov Y) Y)<|Rq Y (Zo (ov Y) Y)<|Ra Y<|Ra Y<|Za<|K3 2 3 7 Y<|Tr<|Rm Y<|R2 Qp Y<|Za<|K4 2 3 7 23 Y<|If h Y (fun h=>?_) fun h=>?_
 ·
  refine K1 7 Y<|Tr<|Rm Y<|Ra Y<|Ra Y<|Za<|?_
  obtain rfl := rt h
  exact Zk (Zp Y (.two (.tmp Y<|View.nils 73)<|rb Y))
 ·
  refine Ze<|J0 (fun j => (.inr j)) ⟨[(2, .rp [.int .i64 m.Version, .sl 44 (List.map R44 m.Params)] 0), (3, .rp (List.map C65 l.toList) 0)], []⟩ h (fun h=>?_) fun h=>?_
  ·
   refine K2 2 3 Y<|Tr<|Rq Y (Zj (ov Y) ZdQ (Ze9<|Jw arL) arL)<|Rm Y<|Za<|Zh<|?_
   obtain ⟨r1, hl1, ho1⟩ := QA h
   refine L1 (fun i=>⟨[(2, .rp [.int .i64 m.Version, .sl 44 (List.map R44 m.Params)] 0), (3, .rp (List.map C65 l.toList) 0), (25, .agg (List.map C65 l.toList)), (26, .int .i64 i)], []⟩) hl1 (ES []) fun n1 i h=>?_
   unfold Zac at h
   refine Tr<|R2 ZM Y<|Za<|Zl<|If h Y (fun h=>?_) fun h=>?_
   ·
    refine Ze<|Zl<|Zh<|K4 2 3 25 26 Y<|Tr<|bE h fun x h_x h=>Rq Y (Zhq (ov Y) (ov Y) Zfm Zfq h_x)<|Ra Y<|Za<|Zl<|K5 2 3 9 25 26 Y<|Tr<|Rm Y<|Rl tZ_3 ZaS Y<|R2 Qp Y<|Za<|K6 2 3 9 25 26 31 Y<|If h Y (fun h=>?_) fun h=>?_
    ·
     refine K0<|Tr<|Ra Y<|Ra Y<|Za<|?_
     replace h := lx h ▸ ho1
     obtain rfl := rt h
     exact Zk (Zp Y (.two (.tmp Y<|View.nils 73)<|rb Y))
    ·
     refine Ze<|K5 2 3 9 25 26 Y<|Tr<|Rm Y<|bE h fun y2 h_y2 h=>Rq Y (Zr (ZbJ Y (fun z0 _ hz=>Zfa hz) h_y2)<|.cons (ov Y) (.b Y)<|.cons (ov Y) .fn .nil)<|Za<|K5 2 3 25 26 33 Y<|If h Y (fun h=>?_) fun h=>?_
     ·
      refine K0<|Tr<|Ra Y<|Ra Y<|Za<|?_
      replace h := lx h ▸ ho1
      obtain rfl := rt h
      exact Zk (Zp Y (.two (.tmp Y<|View.nils 73)<|rb Y))
     ·
      exact Ze<|K4 2 3 25 26 Y<|Zy<|R2 Z5 Y<|Rm Y<|Za<|⟨_, h, ES []⟩
   ·
    refine ZC<|?_
    replace h := lx h ▸ ho1
    exact ⟨(), h, ES []⟩
  ·
   replace h := elr h
   replace h := t0i h
   refine J0 (fun j => (.inr j)) ⟨[(2, .rp [.int .i64 m.Version, .sl 44 (List.map R44 m.Params)] 0), (3, .rp (List.map C65 l.toList) 0)], []⟩ h (fun h=>?_) fun h=>?_
   ·
    refine Tr<|Rq Y (Zj (ov Y) ZdQ (Ze9<|Jw arL) arL)<|Rm Y<|Za<|Zh<|?_
    obtain ⟨r2, hl2, ho2⟩ := QA h
    refine L1 (fun i2=>⟨[(2, .rp [.int .i64 m.Version, .sl 44 (List.map R44 m.Params)] 0), (3, .rp (List.map C65 l.toList) 0), (35, .agg (List.map C65 l.toList)), (36, .int .i64 i2)], []⟩) hl2 (ES []) fun n2 i2 h=>?_
    unfold Zah at h
    refine Tr<|R2 ZM Y<|Za<|Zl<|If h Y (fun h=>?_) fun h=>?_
    ·
     refine Ze<|Zl<|Zh<|K4 2 3 35 36 Y<|Tr<|bE h fun x2 h_x2 h=>Rq Y (Zhq (ov Y) (ov Y) Zfm Zfq h_x2)<|Ra Y<|Za<|K5 2 3 11 35 36 Y<|Td md0<|D1 0 Zz Y<|bE h fun x3 h_x3 h=>Dq 1 Y (ZE (ov Y) (ov Y) ZaS h_x3)<|Dq 2 Y (Zc (ov Y) tS3 Y)<|Dq 3 Y (Zd (ov Y) ZhL)<|Dq 4 Y (Zc (ov Y) tS3 Y)<|D2 5 Qp Y<|Dd<|K5 2 3 35 36 44 Y<|If h Y (fun h=>?_) fun h=>?_
     ·
      refine K0<|Tr<|Ra Y<|Ra Y<|Za<|?_
      replace h := lx h ▸ ho2
      obtain rfl := rt h
      exact Zk (Zp Y (.two (.tmp Y<|View.nils 73)<|rb Y))
     ·
      exact Ze<|K4 2 3 35 36 Y<|Zy<|R2 Z5 Y<|Rm Y<|Za<|⟨_, h, ES []⟩
    ·
     refine ZC<|?_
     replace h := lx h ▸ ho2
     exact ⟨(), h, ES []⟩
   ·
    replace h := elr h
    replace h := t0i h
    refine Tr<|Ra Y<|Za<|I1 (fun out=>⟨[(12, .own 0 out.length)], [some ⟨73, List.map R73 out⟩]⟩) h (fun h=>?_) fun out h=>?_
    ·
     refine Tr<|Rq Y (Zj (ov Y) Zao Y Y)<|bE h fun y3 h_y3 h=>Rq Y (Zr (Zcb h_y3)<|.cons (ov Y) (.aggB Y) .nil)<|Rl tZ_34 Zb6 Y<|Rm Y<|Za<|Zh<|?_
     obtain ⟨r3, hl3, ho3⟩ := QA h
     refine L2 (fun out2 i3=>⟨[(2, .rp [.int .i64 m.Version, .sl 44 (List.map R44 m.Params)] 0), (3, .rp (List.map C65 l.toList) 0), (12, .own 0 out2.length), (47, .sl 34 (List.map R34 y3)), (48, .int .i64 (y3.length : Int)), (49, .int .i64 i3)], [some ⟨73, List.map R73 out2⟩]⟩) hl3 (ES [none]) fun n3 out2 i3 h=>?_
     unfold Zab at h
     refine Tr<|R2 ZM Y<|Za<|Zl<|If h Y (fun h=>?_) fun h=>?_
     ·
      exact Ze<|Zl<|Zh<|K6 2 3 12 47 48 49 Y<|Tr<|bE h fun x4 h_x4 h=>Rq Y (ZE (ov Y) (ov Y) Zb6 h_x4)<|Rq Y (Zj (ov Y) Zdn Y Y)<|Rx Y (Zs (row := [_, _, _, _]) 1 Y ZgJ Y tZ_34)<|Rx Y (Zg (ov Y) (ov Y) (Zf Zdn Y) Y Y Y (Nat.le_of_ble_eq_true Y) (Zb Y) Y)<|Za<|K7 2 3 12 14 47 48 49 Y<|Td md0<|Dq 0 Y (Zd (ov Y) QC)<|Dq 1 Y (Zc (ov Y) J5 Y)<|Dq 2 Y (Zi (ov Y) Y Y Zh1)<|Dq 3 Y (Zm (ov Y) Y Y Y tS3 Y)<|bE h fun x5 h_x5 h=>Dq 4 Y (ZE (ov Y) (ov Y) Qy h_x5)<|Dq 5 Y (Zj (ov Y) Zw Y Y)<|Dq 6 Y (Zn (ov Y) Y Y Y Zdn Y Y)<|Dq 7 Y (Zj (ov Y) ZdQ (Ze9<|Jw arL) arL)<|bE h fun y4 h_y4 h=>Dq 8 Y (Zr (Zgm h_y4)<|.cons (ov Y) (.aggB Y)<|.cons (ov Y) (.aggB<|arD fun _ => Y) .nil)<|bE h fun y5 h_y5 h=>Dq 9 Y (Zr (ZfL h_y5)<|.cons (ov Y) (.aggB Y)<|.cons (ov Y) (.b Y) .nil)<|D1 10 Zz Y<|Dq 11 Y (Zo (ov Y) Y)<|Dq 12 Y (Zo (ov Y) Y)<|D1 13 Jz Y<|D1 14 Jz Y<|Dd<|K9 2 3 12 14 15 16 47 48 49 Y<|Zy<|Rm Y<|Rq Y (Zi (ov Y) Y Y Zh1)<|Rq Y (Zm (ov Y) Y Y Y tS3 Y)<|Rq Y (Zi (ov Y) Y Y Zk5)<|Rq Y (Zm (ov Y) Y Y Y tS3 Y)<|Rm Y<|Rm Y<|Rq Y (Z7 (ys := [_, _, _, _]) ZlM ZlI Zmr (.cons (cvs (ov Y)<|Zq Y)<|.cons (cvs (ov Y)<|Zq Y)<|.cons (cvs (ov Y)<|Zq Y)<|.cons (cvs (ov Y)<|Zq Y) .nil) Y)<|R_q (.sl 73<|List.map R73 ([(api_Reading.mk x4.Param x4.Index y5.1 y5.2)] : List api_Reading)) Y (X7 Zlw (.cons (cva<|ov Y) Y (pwD Y) .nil) Y Y)<|bE h fun l2 h_l2 h=>Rx Y (ZX (ov Y) (ZV (ov Y) tZ_73) Zlw Y Y Y (fun _=>Zb Y) Y h_l2)<|Ra Y<|Za<|K6 2 3 12 47 48 49 Y<|Zy<|R2 Z5 Y<|Rm Y<|Za<|⟨_, h, ES [some 0]⟩
     ·
      refine ZC<|?_
      replace h := lx h ▸ ho3
      exact ⟨_, h, ES [some 0]⟩
    ·
     refine Tr<|Rm Y<|Ra Y<|Ra Y<|Za<|?_
     obtain rfl := rt h
     exact Zk (Zp Y (.two (.tmp Y<|View.ownM Y Y D73)<|rb Y))
theorem Zbm  {r : Bool} (h : JX  = some r) :
 CSpec Try.prog gl0 13 [] (.bool r) := by
 unfold JX at h
 replace h := Qf h
 refine So Try.func13 Y fun w0 A=>Tr<|Ra Y<|Za<|K0<|Tr<|Rq Y (Z7 (ys := [_, _, _, _]) ZmD ZmN ZeR (.cons (cvs (ov Y)<|Zq Y)<|.cons (cvs (ov Y)<|Zq Y)<|.cons (cvs (ov Y)<|Zq Y) .nil) Y)<|R_q (.sl 64<|List.map R64 ([(api_Part.mk 0 9 2 3)] : List api_Part)) Y (X7 Xs (.cons (cva<|ov Y) Y (pwD Y) .nil) Y Y)<|Rq Y (Z7 (ys := [_, _, _, _, _, _, _, _]) Zby ZbA JZ (.cons (cvs (ov Y)<|Zq Y)<|.cons (cvs (ov Y)<|Zq Y)<|.cons (cvs (ov Y)<|Zq Y)<|.cons (cvs (ov Y)<|Zq Y)<|.cons (cvs (ov Y)<|Zq Y)<|.cons (cvs (ov Y)<|Zq Y)<|.cons (cvs (ov Y)<|Zq Y) .nil) Y)<|R_q (.sl 44<|List.map R44 ([(api_Param.mk [97] 2 ([(api_Part.mk 0 9 2 3)] : List api_Part) 2 8 2 1 [])] : List api_Param)) Y (X7 Qy (.cons (cva<|ov Y) Y (.cons (.b Y)<|.cons (.b Y)<|.cons (.b Y)<|.cons (.b Y)<|.cons (.b Y)<|.cons (.b Y)<|.cons (.b Y)<|.cons (Dat.nils _) .nil) .nil) Y Y)<|Rq Y (Z7 (ys := [_, _]) ZmP ZmU ZlW (.cons (cvs (ov Y)<|Zq Y)<|.cons (cvs (ov Y)<|Zq Y) .nil) Y)<|Rx Y (Zs (row := [_, _]) 0 Y ZlW Y tZ_24)<|Rx Y (Zg (ov Y) (ov Y) (Zf Zao Y) Y Y Y (Nat.le_of_ble_eq_true Y) (Zb Y) Y)<|Za<|K1 1 Y<|Tr<|Rq Y (Zn (ov Y) Y Y Y Zao Y Y)<|R_q (.sl 3<|List.map R3 ([(-1), 3, 0, (-4)] : List Int)) Y (X7 ZaS (.cons (cvs (ov Y)<|Zq Y) Y (.cons (.b Y) .nil)<|.cons (cvs (ov Y)<|Zq Y) Y (.cons (.b Y) .nil)<|.cons (cvs (ov Y)<|Zq Y) Y (.cons (.b Y) .nil)<|.cons (cvs (ov Y)<|Zq Y) Y (.cons (.b Y) .nil) .nil) Y Y)<|bE h fun y h_y h=>Rq Y (Zr (ZgU h_y)<|.cons (ov Y) (.aggB Y)<|.cons (ov Y) (.b Y) .nil)<|Rm Y<|Rq Y (Zo (ov Y) Y)<|Rq Y (Zo (ov Y) Y)<|Rx Y (Zs (row := [_, _, _, _, _, _, _, _, _, _, _, _, _, _, _, _]) 1 Y Zlu Y tZ_66)<|Rx Y (Zg (ov Y) (ov Y) (Zf ZdQ arL) Y Y Y (Zji (Jw Y) arL) (Zb<|arC fun _ => Y)<|ZhZ<|Eq.trans Y<|Eq.symm arL)<|Ra Y<|Za<|Zl<|K3 1 2 3 Y<|Tr<|Rm Y<|R2 Qp Y<|Rm Y<|bE h fun x h_x h=>Rq Y (.guarded ((!decide (y.2 = 0)) == false) Y Y Y Y fun h => ZcE (ov Y) (ov Y) Zfm Y Y<|gdT h_x h)<|Rq Y (.guarded ((!decide (y.2 = 0)) == false) Y Y Y Y fun h => Zm (ow Y h) Y Y Y Zfq<|Zdu<|ZfD (o := 0) (o' := ((Int.toNat 2) * 1)) (Jw arL)<|Zfz<|gdT h_x h)<|Rq Y (.guarded ((!decide (y.2 = 0)) == false) Y Y Y Y fun h => ZeJ (ZV (ow Y h) tZ_3) ZaS<|ZbU _ _)<|Rq Y (.guarded ((!decide (y.2 = 0)) == false) Y Y Y Y fun h => Qp (ow Y h)<|ov Y)<|Rq Y (Jk (ov Y) fun hp=>ow Y<|gF hp)<|Rm Y<|bE h fun x2 h_x2 h=>Rq Y (.guarded (((!decide (y.2 = 0)) || (!decide ((x.length : Int) = 58))) == false) Y Y Y Y fun h => ZcE (ov Y) (ov Y) Zfm Y Y<|gdT h_x2 h)<|Rq Y (.guarded (((!decide (y.2 = 0)) || (!decide ((x.length : Int) = 58))) == false) Y Y Y Y fun h => Zm (ow Y h) Y Y Y Zfq<|Zdu<|ZfD (o := 0) (o' := ((Int.toNat 5) * 1)) (Jw arL)<|Zfz<|gdT h_x2 h)<|Rq Y (.guarded (((!decide (y.2 = 0)) || (!decide ((x.length : Int) = 58))) == false) Y Y Y Y fun h => ZeJ (ZV (ow Y h) tZ_3) ZaS<|ZbU _ _)<|Rq Y (.guarded (((!decide (y.2 = 0)) || (!decide ((x.length : Int) = 58))) == false) Y Y Y Y fun h => Qp (ow Y h)<|ov Y)<|Rq Y (Jk (ov Y) fun hp=>ow Y<|gF hp)<|Rm Y<|bE h fun x3 h_x3 h=>Rq Y (.guarded ((((!decide (y.2 = 0)) || (!decide ((x.length : Int) = 58))) || (!decide ((x2.length : Int) = 58))) == false) Y Y Y Y fun h => ZcE (ov Y) (ov Y) Zfm Y Y<|gdT h_x3 h)<|Rq Y (.guarded ((((!decide (y.2 = 0)) || (!decide ((x.length : Int) = 58))) || (!decide ((x2.length : Int) = 58))) == false) Y Y Y Y fun h => Zm (ow Y h) Y Y Y Zfq<|Zdu<|ZfD (o := 0) (o' := ((Int.toNat 10) * 1)) (Jw arL)<|Zfz<|gdT h_x3 h)<|Rq Y (.guarded ((((!decide (y.2 = 0)) || (!decide ((x.length : Int) = 58))) || (!decide ((x2.length : Int) = 58))) == false) Y Y Y Y fun h => ZeJ (ZV (ow Y h) tZ_3) ZaS<|ZbU _ _)<|Rq Y (.guarded ((((!decide (y.2 = 0)) || (!decide ((x.length : Int) = 58))) || (!decide ((x2.length : Int) = 58))) == false) Y Y Y Y fun h => Qp (ow Y h)<|ov Y)<|Rq Y (Jk (ov Y) fun hp=>ow Y<|gF hp)<|Rm Y<|bE h fun x4 h_x4 h=>Rq Y (.guarded (((((!decide (y.2 = 0)) || (!decide ((x.length : Int) = 58))) || (!decide ((x2.length : Int) = 58))) || (!decide ((x3.length : Int) = 58))) == false) Y Y Y Y fun h => ZcE (ov Y) (ov Y) Zfm Y Y<|gdT h_x4 h)<|Rq Y (.guarded (((((!decide (y.2 = 0)) || (!decide ((x.length : Int) = 58))) || (!decide ((x2.length : Int) = 58))) || (!decide ((x3.length : Int) = 58))) == false) Y Y Y Y fun h => Zm (ow Y h) Y Y Y Zfq<|Zdu<|ZfD (o := 0) (o' := ((Int.toNat 2) * 1)) (Jw arL)<|Zfz<|gdT h_x4 h)<|bE h fun x5 h_x5 h=>Rq Y (.guarded (((((!decide (y.2 = 0)) || (!decide ((x.length : Int) = 58))) || (!decide ((x2.length : Int) = 58))) || (!decide ((x3.length : Int) = 58))) == false) Y Y Y Y fun h => ZE (ow Y h) (ov Y) ZaS<|gdT h_x5 h)<|Rq Y (.guarded (((((!decide (y.2 = 0)) || (!decide ((x.length : Int) = 58))) || (!decide ((x2.length : Int) = 58))) || (!decide ((x3.length : Int) = 58))) == false) Y Y Y Y fun h => Zc (ow Y h) tS3 Y)<|Rq Y (.guarded (((((!decide (y.2 = 0)) || (!decide ((x.length : Int) = 58))) || (!decide ((x2.length : Int) = 58))) || (!decide ((x3.length : Int) = 58))) == false) Y Y Y Y fun h => Qp (ow Y h)<|ov Y)<|Rq Y (Jk (ov Y) fun hp=>ow Y<|gF hp)<|Rm Y<|bE h fun x6 h_x6 h=>Rq Y (.guarded ((((((!decide (y.2 = 0)) || (!decide ((x.length : Int) = 58))) || (!decide ((x2.length : Int) = 58))) || (!decide ((x3.length : Int) = 58))) || (!decide (x5 = 28))) == false) Y Y Y Y fun h => ZcE (ov Y) (ov Y) Zfm Y Y<|gdT h_x6 h)<|Rq Y (.guarded ((((((!decide (y.2 = 0)) || (!decide ((x.length : Int) = 58))) || (!decide ((x2.length : Int) = 58))) || (!decide ((x3.length : Int) = 58))) || (!decide (x5 = 28))) == false) Y Y Y Y fun h => Zm (ow Y h) Y Y Y Zfq<|Zdu<|ZfD (o := 0) (o' := ((Int.toNat 2) * 1)) (Jw arL)<|Zfz<|gdT h_x6 h)<|bE h fun x7 h_x7 h=>Rq Y (.guarded ((((((!decide (y.2 = 0)) || (!decide ((x.length : Int) = 58))) || (!decide ((x2.length : Int) = 58))) || (!decide ((x3.length : Int) = 58))) || (!decide (x5 = 28))) == false) Y Y Y Y fun h => ZE (ow Y h) (ov Y) ZaS<|gdT h_x7 h)<|Rq Y (.guarded ((((((!decide (y.2 = 0)) || (!decide ((x.length : Int) = 58))) || (!decide ((x2.length : Int) = 58))) || (!decide ((x3.length : Int) = 58))) || (!decide (x5 = 28))) == false) Y Y Y Y fun h => Zc (ow Y h) tS3 Y)<|Rq Y (.guarded ((((((!decide (y.2 = 0)) || (!decide ((x.length : Int) = 58))) || (!decide ((x2.length : Int) = 58))) || (!decide ((x3.length : Int) = 58))) || (!decide (x5 = 28))) == false) Y Y Y Y fun h => Qp (ow Y h)<|ov Y)<|Rq Y (Jk (ov Y) fun hp=>ow Y<|gF hp)<|Rm Y<|bE h fun x8 h_x8 h=>Rq Y (.guarded (((((((!decide (y.2 = 0)) || (!decide ((x.length : Int) = 58))) || (!decide ((x2.length : Int) = 58))) || (!decide ((x3.length : Int) = 58))) || (!decide (x5 = 28))) || (!decide (x7 = 12))) == false) Y Y Y Y fun h => ZcE (ov Y) (ov Y) Zfm Y Y<|gdT h_x8 h)<|Rq Y (.guarded (((((((!decide (y.2 = 0)) || (!decide ((x.length : Int) = 58))) || (!decide ((x2.length : Int) = 58))) || (!decide ((x3.length : Int) = 58))) || (!decide (x5 = 28))) || (!decide (x7 = 12))) == false) Y Y Y Y fun h => Zm (ow Y h) Y Y Y Zfq<|Zdu<|ZfD (o := 0) (o' := ((Int.toNat 10) * 1)) (Jw arL)<|Zfz<|gdT h_x8 h)<|bE h fun x9 h_x9 h=>Rq Y (.guarded (((((((!decide (y.2 = 0)) || (!decide ((x.length : Int) = 58))) || (!decide ((x2.length : Int) = 58))) || (!decide ((x3.length : Int) = 58))) || (!decide (x5 = 28))) || (!decide (x7 = 12))) == false) Y Y Y Y fun h => ZE (ow Y h) (ov Y) ZaS<|gdT h_x9 h)<|Rq Y (.guarded (((((((!decide (y.2 = 0)) || (!decide ((x.length : Int) = 58))) || (!decide ((x2.length : Int) = 58))) || (!decide ((x3.length : Int) = 58))) || (!decide (x5 = 28))) || (!decide (x7 = 12))) == false) Y Y Y Y fun h => Zc (ow Y h) tS3 Y)<|Rq Y (.guarded (((((((!decide (y.2 = 0)) || (!decide ((x.length : Int) = 58))) || (!decide ((x2.length : Int) = 58))) || (!decide ((x3.length : Int) = 58))) || (!decide (x5 = 28))) || (!decide (x7 = 12))) == false) Y Y Y Y fun h => Qp (ow Y h)<|ov Y)<|Rq Y (Jk (ov Y) fun hp=>ow Y<|gF hp)<|Rm Y<|bE h fun x10 h_x10 h=>Rq Y (.guarded ((((((((!decide (y.2 = 0)) || (!decide ((x.length : Int) = 58))) || (!decide ((x2.length : Int) = 58))) || (!decide ((x3.length : Int) = 58))) || (!decide (x5 = 28))) || (!decide (x7 = 12))) || (!decide (x9 = 0))) == false) Y Y Y Y fun h => ZcE (ov Y) (ov Y) Zfm Y Y<|gdT h_x10 h)<|Rq Y (.guarded ((((((((!decide (y.2 = 0)) || (!decide ((x.length : Int) = 58))) || (!decide ((x2.length : Int) = 58))) || (!decide ((x3.length : Int) = 58))) || (!decide (x5 = 28))) || (!decide (x7 = 12))) || (!decide (x9 = 0))) == false) Y Y Y Y fun h => Zm (ow Y h) Y Y Y Zfq<|Zdu<|ZfD (o := 0) (o' := ((Int.toNat 10) * 1)) (Jw arL)<|Zfz<|gdT h_x10 h)<|bE h fun x11 h_x11 h=>Rq Y (.guarded ((((((((!decide (y.2 = 0)) || (!decide ((x.length : Int) = 58))) || (!decide ((x2.length : Int) = 58))) || (!decide ((x3.length : Int) = 58))) || (!decide (x5 = 28))) || (!decide (x7 = 12))) || (!decide (x9 = 0))) == false) Y Y Y Y fun h => ZE (ow Y h) (ov Y) ZaS<|gdT h_x11 h)<|Rq Y (.guarded ((((((((!decide (y.2 = 0)) || (!decide ((x.length : Int) = 58))) || (!decide ((x2.length : Int) = 58))) || (!decide ((x3.length : Int) = 58))) || (!decide (x5 = 28))) || (!decide (x7 = 12))) || (!decide (x9 = 0))) == false) Y Y Y Y fun h => Zc (ow Y h) tS3 Y)<|Rq Y (.guarded ((((((((!decide (y.2 = 0)) || (!decide ((x.length : Int) = 58))) || (!decide ((x2.length : Int) = 58))) || (!decide ((x3.length : Int) = 58))) || (!decide (x5 = 28))) || (!decide (x7 = 12))) || (!decide (x9 = 0))) == false) Y Y Y Y fun h => Qp (ow Y h)<|ov Y)<|Rq Y (Jk (ov Y) fun hp=>ow Y<|gF hp)<|Rm Y<|bE h fun x12 h_x12 h=>Rq Y (.guarded (((((((((!decide (y.2 = 0)) || (!decide ((x.length : Int) = 58))) || (!decide ((x2.length : Int) = 58))) || (!decide ((x3.length : Int) = 58))) || (!decide (x5 = 28))) || (!decide (x7 = 12))) || (!decide (x9 = 0))) || (!decide (x11 = 16))) == false) Y Y Y Y fun h => ZcE (ov Y) (ov Y) Zfm Y Y<|gdT h_x12 h)<|Rq Y (.guarded (((((((((!decide (y.2 = 0)) || (!decide ((x.length : Int) = 58))) || (!decide ((x2.length : Int) = 58))) || (!decide ((x3.length : Int) = 58))) || (!decide (x5 = 28))) || (!decide (x7 = 12))) || (!decide (x9 = 0))) || (!decide (x11 = 16))) == false) Y Y Y Y fun h => Zm (ow Y h) Y Y Y Zfq<|Zdu<|ZfD (o := 0) (o' := ((Int.toNat 5) * 1)) (Jw arL)<|Zfz<|gdT h_x12 h)<|bE h fun x13 h_x13 h=>Rq Y (.guarded (((((((((!decide (y.2 = 0)) || (!decide ((x.length : Int) = 58))) || (!decide ((x2.length : Int) = 58))) || (!decide ((x3.length : Int) = 58))) || (!decide (x5 = 28))) || (!decide (x7 = 12))) || (!decide (x9 = 0))) || (!decide (x11 = 16))) == false) Y Y Y Y fun h => ZE (ow Y h) (ov Y) ZaS<|gdT h_x13 h)<|Rq Y (.guarded (((((((((!decide (y.2 = 0)) || (!decide ((x.length : Int) = 58))) || (!decide ((x2.length : Int) = 58))) || (!decide ((x3.length : Int) = 58))) || (!decide (x5 = 28))) || (!decide (x7 = 12))) || (!decide (x9 = 0))) || (!decide (x11 = 16))) == false) Y Y Y Y fun h => Zc (ow Y h) tS3 Y)<|Rq Y (.guarded (((((((((!decide (y.2 = 0)) || (!decide ((x.length : Int) = 58))) || (!decide ((x2.length : Int) = 58))) || (!decide ((x3.length : Int) = 58))) || (!decide (x5 = 28))) || (!decide (x7 = 12))) || (!decide (x9 = 0))) || (!decide (x11 = 16))) == false) Y Y Y Y fun h => Qp (ow Y h)<|ov Y)<|Rq Y (Jk (ov Y) fun hp=>ow Y<|gF hp)<|Za<|K3 1 2 70 Y<|If h Y (fun h=>?_) fun h=>?_
 ·
  refine K0<|Tr<|Ra Y<|Za<|?_
  obtain rfl := rt h
  exact Zk (Zp Y (.one<|rb Y))
 ·
  refine Ze<|K2 1 2 Y<|Tr<|Rq Y (Zn (ov Y) Y Y Y Zao Y Y)<|Rq Y (Zn (ov Y) Y Y Y ZdQ (Ze9<|Jw arL) arL (hns := (nsM fun _ => Y)))<|bE h fun y2 h_y2 h=>Rq Y (Zr (Zf6 h_y2)<|.cons (ov Y) (.aggB Y)<|.cons (ov Y) (.aggB<|arD fun _ => Y) .nil)<|Rm Y<|Rq Y (Zo (ov Y) Y)<|Rq Y (Zo (ov Y) Y)<|Ra Y<|Ra Y<|Za<|K2 3 4 Y<|Tr<|Rm Y<|R2 QZ Y<|Rm Y<|Rq Y (.guarded ((decide (y2.2 = 0)) == true) Y Y Y Y fun h => Zz<|ov Y)<|Rq Y (.guarded ((decide (y2.2 = 0)) == true) Y Y Y Y fun h => ZeJ (ZV (ow Y h) tZ_73) Zlw<|ZbU _ _)<|Rq Y (.guarded ((decide (y2.2 = 0)) == true) Y Y Y Y fun h => QZ (ow Y h)<|ov Y)<|Rq Y (Xx (ov Y) fun hp=>ow Y<|gT hp)<|Rm Y<|Rq Y (.guarded (((decide (y2.2 = 0)) && (decide ((y2.1.length : Int) = 4))) == true) Y Y Y Y fun h => Zz<|ov Y)<|bE h fun x14 h_x14 h=>Rq Y (.guarded (((decide (y2.2 = 0)) && (decide ((y2.1.length : Int) = 4))) == true) Y Y Y Y fun h => ZE (ow Y h) (ov Y) Zlw<|gdT h_x14 h)<|Rq Y (.guarded (((decide (y2.2 = 0)) && (decide ((y2.1.length : Int) = 4))) == true) Y Y Y Y fun h => Zj (ow Y h) Zni Y Y)<|Rq Y (.guarded (((decide (y2.2 = 0)) && (decide ((y2.1.length : Int) = 4))) == true) Y Y Y Y fun h => Z7 (ys := [_, _, _, _]) ZlM ZlI Zmr (.cons (cvs (ov Y)<|Zq Y)<|.cons (cvs (ov Y)<|Zq Y)<|.cons (cvs (ov Y)<|Zq Y) .nil) Y)<|Rq Y (.guarded (((decide (y2.2 = 0)) && (decide ((y2.1.length : Int) = 4))) == true) Y Y Y Y fun h => Zl8 ZmG (ow Y h) (ow Y h) (.aggB Y) (.aggB Y) Y Y)<|Rq Y (Xx (ov Y) fun hp=>ow Y<|gT hp)<|Ra Y<|Za<|?_
  obtain rfl := rt h
  exact Zk (Zp Y (.one<|rb Y))
theorem Zca {m : api_Map} {r : Int × Int} (h : Zco m = some r) :
 CSpec Try.prog gl0 5 [.agg [.int .i64 m.Version, .sl 44 (List.map R44 m.Params)]] (.tuple [.int .i64 r.1, .int .i64 r.2]) := by
 unfold Zco at h
 replace h := Qf h
 refine So Try.func5 Y fun w0 A=>Tr<|Rq Y (ZY (cva<|ov Y) Y tZ_24 Y)<|Ra Y<|Ra Y<|Za<|K1 1 Y<|Tr<|Rq Y (Zj (ov Y) Zao Y Y)<|bE h fun y h_y h=>Rq Y (Zr (Xq h_y)<|.cons (ov Y) (.aggB Y) .nil)<|Rm Y<|Rq Y (Zo (ov Y) Y)<|Rq Y (Zo (ov Y) Y)<|Ra Y<|Ra Y<|Za<|K2 4 5 Y<|Tr<|Rm Y<|Rq Y (Zmu (ov Y) (ov Y) Y)<|Rm Y<|Ra Y<|Ra Y<|Za<|?_
 obtain rfl := rt h
 exact Zk (Zp Y (.two (rb Y)<|rb Y))
theorem Zce {m : api_Map} {p : api_Param} {r : Bool} (h : Q6 m p = some r) :
 CSpec Try.prog gl0 4 [.agg [.int .i64 m.Version, .sl 44 (List.map R44 m.Params)], .agg [.str p.Name, .int .i64 p.Kind, .sl 64 (List.map R64 p.Parts), .int .i64 p.First, .int .i64 p.Every, .int .i64 p.Times, .int .i64 p.Step, .sl 9 (List.map R9 p.Names)]] (.bool r) := by
 unfold Q6 at h
 replace h := Qf h
 refine So Try.func4 Y fun w0 A=>Tr<|Rx Y (Zic 0 Y (ov Y) Zao Y)<|Rq Y (ZY (cva<|ov Y) Y tZ_44 Y)<|Ra Y<|Za<|K2 2 3 Y<|Tr<|Rq Y (Zn (ov Y) Y Y Y Zao Y Y)<|Rq Y (Zj (ov Y) Zw Y Y)<|bE h fun y h_y h=>Rq Y (Zr (Zhd h_y)<|.cons (ov Y) (.aggB Y)<|.cons (ov Y) (.aggB Y) .nil)<|Rm Y<|Rq Y (Zo (ov Y) Y)<|Rq Y (Zo (ov Y) Y)<|Rx Y (Zs (row := [_, _, _, _, _, _, _, _]) 1 Y JZ Y tZ_44)<|Rx Y (Zg (ov Y) (ov Y) (Zf Zw Y) Y Y Y (Nat.le_of_ble_eq_true Y) (Zb Y) Y)<|Ra Y<|Za<|K4 2 3 5 6 Y<|Tr<|Rq Y (Zn (ov Y) Y Y Y Zao Y Y)<|Rq Y (Zj (ov Y) Zw Y Y)<|bE h fun y2 h_y2 h=>Rq Y (Zr (ZiQ h_y2)<|.cons (ov Y) (.aggB Y)<|.cons (ov Y) (.aggB Y) .nil)<|Rm Y<|Rq Y (Zo (ov Y) Y)<|Rq Y (Zo (ov Y) Y)<|Rx Y (Zs (row := [_, _, _, _, _, _, _, _]) 2 Y JZ Y tZ_44)<|Rx Y (Zg (ov Y) (ov Y) (Zf Zw Y) Y Y Y (Nat.le_of_ble_eq_true Y) (Zb Y) Y)<|Ra Y<|Za<|Zl<|K5 2 5 6 7 8 Y<|Tr<|Rm Y<|Rm Y<|R2 Qp Y<|Rm Y<|Rq Y (.guarded ((!decide (y.2 = y2.2)) == false) Y Y Y Y fun h => Zn (ov Y) Y Y Y Zw Y Y)<|Rq Y (.guarded ((!decide (y.2 = y2.2)) == false) Y Y Y Y fun h => Zn (ov Y) Y Y Y Zw Y Y)<|bE h fun y3 h_y3 h=>Rq Y (.guarded ((!decide (y.2 = y2.2)) == false) Y Y Y Y fun h => Zr (Zfd<|gdT h_y3 h)<|.cons (ow Y h) (.aggB Y)<|.cons (ow Y h) (.aggB Y) .nil)<|Rq Y (.guarded ((!decide (y.2 = y2.2)) == false) Y Y Y Y fun h => Xy<|ow Y h)<|Rq Y (Jk (ov Y) fun hp=>ow Y<|gF hp)<|Za<|K4 2 5 6 29 Y<|If h Y (fun h=>?_) fun h=>?_
 ·
  refine K0<|Tr<|Ra Y<|Za<|?_
  obtain rfl := rt h
  exact Zk (Zp Y (.one<|rb Y))
 ·
  refine Ze<|Zl<|K3 2 5 6 Y<|Tr<|Rm Y<|R2 Qp Y<|Za<|K3 2 5 31 Y<|If h Y (fun h=>?_) fun h=>?_
  ·
   refine K0<|Tr<|bE h fun y4 h_y4 h=>Rq Y (Zr (Zbm h_y4) .nil)<|Ra Y<|Za<|?_
   obtain rfl := rt h
   exact Zk (Zp Y (.one<|rb Y))
  ·
   refine Ze<|K2 2 5 Y<|Td ⟨true, true, [some ⟨24, [[.int .i64 m.Version, .sl 44 (List.map R44 m.Params)]]⟩, some ⟨44, [[.str y.1.Name, .int .i64 y.1.Kind, .sl 64 (List.map R64 y.1.Parts), .int .i64 y.1.First, .int .i64 y.1.Every, .int .i64 y.1.Times, .int .i64 y.1.Step, .sl 9 (List.map R9 y.1.Names)]]⟩, some ⟨44, [[.str y2.1.Name, .int .i64 y2.1.Kind, .sl 64 (List.map R64 y2.1.Parts), .int .i64 y2.1.First, .int .i64 y2.1.Every, .int .i64 y2.1.Times, .int .i64 y2.1.Step, .sl 9 (List.map R9 y2.1.Names)]]⟩], [], [0]⟩<|ZcW 0 _ Y (by kernel_rfl) Y Y Y (EL.ext<|.wr Y Y Y<|.keep<|.keep .nil) (fun hp' hx=>exW (r := 0) hx Y fun _ ho hn => Zi (ov Y) ho hn QC)<|ZcW 3 _ Y (by kernel_rfl) Y Y Y (EL.ext<|.wr Y Y Y<|.keep<|.keep .nil) (fun hp' hx=>Zn (ov Y) (hx.get Y Y) Y Y Zw Y Y)<|ZhK 1 4 Y Y (by kernel_rfl) Y Y Y Y (fun h=>by cases h) (fun _=>by exact EL.ext (.wr rfl rfl rfl <| .keep <| .keep <| .nil)) (Zm (ov Y) Y Y Y J5 Y) (ZaO<|X7 Qy (.cons (cva<|ov Y) Y (pwD Y) .nil) Y Y) ?_ ?_
   ·
    refine bE h fun y5 h_y5 h=>ZgO 2 4 Y Y (by kernel_rfl) Y Y Y Y (fun h=>by cases h) (fun h=>by cases h) (fun _=>by exact EL.ext (.wr rfl rfl rfl <| .keep <| .keep <| .nil)) (fun _=>by exact EL.ext (.wr rfl rfl rfl <| .keep <| .keep <| .nil)) (QS [] (Zae h_y5) (.cons (ov Y) (.dat Y) .nil) .nil Y (.keep Y Y<|.keep Y Y<|.keep Y Y<|.lent 0 (.inr ⟨Nat.le_of_ble_eq_true Y, Y⟩) Y (roM D44) .nil) Y Y<|.own _<|.inr ⟨Nat.le_of_ble_eq_true Y, Y⟩) (ZaO<|X7 Qy (.cons (cva<|ov Y) Y (pwD Y) .nil) Y Y) ?_ ?_
    ·
     refine QR 4 (.sl 44<|List.map R44 ([y.1] : List api_Param)) _ Y (by kernel_rfl) Y Y (fun h=>by cases h) (fun _=>by exact EL.ext (.wr rfl rfl rfl <| .keep <| .keep <| .nil)) (ZaO<|X7 Qy (.cons (cva<|ov Y) Y (pwD Y) .nil) Y Y)<|bE h fun l h_l h=>QR 5 _ _ Y (by kernel_rfl) Y Y (fun h=>by cases h) (fun _=>by exact EL.ext (.wr rfl rfl rfl <| .keep <| .keep <| .nil)) (ZX (ov Y) (ZV (ov Y) tZ_44) Qy Y Y Y (fun _=>Zb Y) Y h_l)<|Dq 6 Y (Zi (ov Y) Y Y QC)<|QR 7 _ _ Y (by kernel_rfl) Y Y (fun h=>by cases h) (fun _=>by exact EL.ext (.wr rfl rfl rfl <| .keep <| .keep <| .nil)) (Zg (ov Y) (ov Y) (Zv J5) Y Y Y (Nat.le_of_ble_eq_true Y) (Zb Y) Y)<|Dd<|K1 2 Y<|Tr<|Rq Y (Zn (ov Y) Y Y Y Zao Y Y)<|bE h fun y6 h_y6 h=>Rq Y (Ja (Zca h_y6) (.tuple<|by simp only [List.mem_cons, List.not_mem_nil, or_false, forall_eq_or_imp, forall_eq]; exact ⟨.int, .int⟩)<|.cons (ov Y) (View.aggL<|.cons (Dat.view<|.b Y)<|.cons (View.ownM Y Y D44) .nil) .nil)<|Rm Y<|Rq Y (Zo (ov Y) Y)<|Rq Y (Zo (ov Y) Y)<|Ra Y<|Za<|K1 6 Y<|Tr<|Rm Y<|R2 QZ Y<|Rm Y<|bE h fun y7 h_y7 h=>Rq Y (.guarded ((decide (y6.2 = 0)) == true) Y Y Y Y fun h => Zr (Zbm<|gdT h_y7 h) .nil)<|Rq Y (Xx (ov Y) fun hp=>ow Y<|gT hp)<|Ra Y<|Za<|?_
     obtain rfl := rt h
     exact Zk (Zp Y (.one<|rb Y))
    ·
     refine QR 2 _ _ Y (by kernel_rfl) Y Y (fun h=>by cases h) (fun _=>by exact EL.ext (.wr rfl rfl rfl <| .keep <| .keep <| .nil)) (QS [] (Zae h_y5) (.cons (ov Y) (.dat Y) .nil) .nil Y (.keep Y Y<|.keep Y Y<|.keep Y Y<|.lent 0 (.inr ⟨Nat.le_of_ble_eq_true Y, Y⟩) Y (roM D44) .nil) Y Y<|.own _<|.inr ⟨Nat.le_of_ble_eq_true Y, Y⟩)<|bE h fun l h_l h=>QR 5 _ _ Y (by kernel_rfl) Y Y (fun h=>by cases h) (fun _=>by exact EL.ext (.wr rfl rfl rfl <| .keep <| .keep <| .nil)) (ZX (ov Y) (ZV (ov Y) tZ_44) Qy Y Y Y (fun _=>Zb Y) Y h_l)<|Dq 6 Y (Zi (ov Y) Y Y QC)<|QR 7 _ _ Y (by kernel_rfl) Y Y (fun h=>by cases h) (fun _=>by exact EL.ext (.wr rfl rfl rfl <| .keep <| .keep <| .nil)) (Zg (ov Y) (ov Y) (Zv J5) Y Y Y (Nat.le_of_ble_eq_true Y) (Zb Y) Y)<|Dd<|K1 2 Y<|Tr<|Rq Y (Zn (ov Y) Y Y Y Zao Y Y)<|bE h fun y6 h_y6 h=>Rq Y (Ja (Zca h_y6) (.tuple<|by simp only [List.mem_cons, List.not_mem_nil, or_false, forall_eq_or_imp, forall_eq]; exact ⟨.int, .int⟩)<|.cons (ov Y) (View.aggL<|.cons (Dat.view<|.b Y)<|.cons (View.ownM Y Y D44) .nil) .nil)<|Rm Y<|Rq Y (Zo (ov Y) Y)<|Rq Y (Zo (ov Y) Y)<|Ra Y<|Za<|K1 6 Y<|Tr<|Rm Y<|R2 QZ Y<|Rm Y<|bE h fun y7 h_y7 h=>Rq Y (.guarded ((decide (y6.2 = 0)) == true) Y Y Y Y fun h => Zr (Zbm<|gdT h_y7 h) .nil)<|Rq Y (Xx (ov Y) fun hp=>ow Y<|gT hp)<|Ra Y<|Za<|?_
     obtain rfl := rt h
     exact Zk (Zp Y (.one<|rb Y))
   ·
    refine Dq 1 Y (Zm (ov Y) Y Y Y J5 Y)<|bE h fun y5 h_y5 h=>QR 2 _ _ Y (by kernel_rfl) Y Y (fun h=>by cases h) (fun _=>by exact EL.ext (.wr rfl rfl rfl <| .keep <| .keep <| .nil)) (QS [] (Zae h_y5) (.cons (ov Y) (.dat Y) .nil) .nil Y (.keep Y Y<|.keep Y Y<|.keep Y Y<|.lent 0 (.inr ⟨Nat.le_of_ble_eq_true Y, Y⟩) Y (roM D44) .nil) Y Y<|.own _<|.inr ⟨Nat.le_of_ble_eq_true Y, Y⟩)<|bE h fun l h_l h=>QR 5 _ _ Y (by kernel_rfl) Y Y (fun h=>by cases h) (fun _=>by exact EL.ext (.wr rfl rfl rfl <| .keep <| .keep <| .nil)) (ZX (ov Y) (ZV (ov Y) tZ_44) Qy Y Y Y (fun _=>Zb Y) Y h_l)<|Dq 6 Y (Zi (ov Y) Y Y QC)<|QR 7 _ _ Y (by kernel_rfl) Y Y (fun h=>by cases h) (fun _=>by exact EL.ext (.wr rfl rfl rfl <| .keep <| .keep <| .nil)) (Zg (ov Y) (ov Y) (Zv J5) Y Y Y (Nat.le_of_ble_eq_true Y) (Zb Y) Y)<|Dd<|K1 2 Y<|Tr<|Rq Y (Zn (ov Y) Y Y Y Zao Y Y)<|bE h fun y6 h_y6 h=>Rq Y (Ja (Zca h_y6) (.tuple<|by simp only [List.mem_cons, List.not_mem_nil, or_false, forall_eq_or_imp, forall_eq]; exact ⟨.int, .int⟩)<|.cons (ov Y) (View.aggL<|.cons (Dat.view<|.b Y)<|.cons (View.ownM Y Y D44) .nil) .nil)<|Rm Y<|Rq Y (Zo (ov Y) Y)<|Rq Y (Zo (ov Y) Y)<|Ra Y<|Za<|K1 6 Y<|Tr<|Rm Y<|R2 QZ Y<|Rm Y<|bE h fun y7 h_y7 h=>Rq Y (.guarded ((decide (y6.2 = 0)) == true) Y Y Y Y fun h => Zr (Zbm<|gdT h_y7 h) .nil)<|Rq Y (Xx (ov Y) fun hp=>ow Y<|gT hp)<|Ra Y<|Za<|?_
    obtain rfl := rt h
    exact Zk (Zp Y (.one<|rb Y))
end Go.Proofs.Ytjjlfkjacmhcmaa
