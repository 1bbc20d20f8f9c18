/- A text of the proof: a verified executor of the program form, or the contracts of the functions that the law reaches. -/
import Derived.Test.YteljlmpmdplgmaaGreatDoorOkNa
set_option linter.all false
namespace Go.Proofs.YteljlmpmdplgmaaGreatDoor
open Go Go.Vx
set_option maxRecDepth 10000
set_option maxHeartbeats 1000000
set_option linter.unusedVariables false
theorem Zhv {b : List Int} {r : Bool} (h : ZaF b = some r) :
 CSpec Tryz.prog gl0 6 [.sl 5 (List.map R5 b)] (.bool r) := by
 unfold ZaF at h
 replace h := Qf h
 refine So Tryz.func6 Y fun w0 A=>Tr<|Ra Y<|Za<|K1 0 Y<|Tr<|Rm Y<|Rq Y (JZ (ys := [_, _]) Zhx Zhy Zey (.cons (cvs (ov Y)<|ZY Y) .nil) Y)<|bE h fun y h_y h=>Rq Y (Zq (Zdd h_y)<|.cons (ov Y) (.aggB Y) .nil)<|Rm Y<|Rq Y (Zi (ov Y) Y)<|Rq Y (Zi (ov Y) Y)<|Ra Y<|Ra Y<|Za<|K2 3 4 Y<|Tr<|Rm Y<|R2 QC Y<|Rm Y<|Rq Y (.guarded ((decide (y.2 = 0)) == true) Y Y Y Y fun h => Zd<|ov Y)<|Rq Y (.guarded ((decide (y.2 = 0)) == true) Y Y Y Y fun h => Zcj (ZE (ow Y h) tZ_51) Je<|Jo _ _)<|Rq Y (.guarded ((decide (y.2 = 0)) == true) Y Y Y Y fun h => QC (ow Y h)<|ov Y)<|Rq Y (XU (ov Y) fun hp=>ow Y<|gT hp)<|Ra Y<|Za<|?_
 obtain rfl := rt h
 exact Zu (ZL Y (.one<|rb Y))
theorem Ziv {f : Vector Int 64} {r : Bool} (h : ZcZ f = some r) :
 CSpec Tryz.prog gl0 16 [.agg (List.map C26 f.toList)] (.bool r) := by
 unfold ZcZ at h
 replace h := Qf h
 refine So Tryz.func16 Y fun w0 A=>Tr<|Rq Y (Qo (cva<|ov Y) arL tZ_28<|arD fun _ => Y)<|Ra Y<|Za<|J0 (fun j => (.inr j)) ⟨[], []⟩ h (fun h=>?_) fun h=>?_
 ·
  refine K1 1 Y<|Tr<|Rq Y (ZD (ov Y) Z7 (Zr<|Zg arL) arL)<|Rm Y<|Za<|Zn<|?_
  obtain ⟨r1, hl1, ho1⟩ := Xq h
  refine L1 (fun i=>⟨[(5, .agg (List.map C26 f.toList)), (6, .int .i64 i)], []⟩) hl1 (ES []) fun n1 i h=>?_
  unfold ZaT at h
  refine Tr<|R2 Z4 Y<|Za<|Zs<|If h Y (fun h=>?_) fun h=>?_
  ·
   refine Zm<|Zs<|Zn<|K2 5 6 Y<|Tr<|bE h fun x h_x h=>Rq Y (ZaL (ov Y) (ov Y) QI QO h_x)<|Ra Y<|Za<|K3 4 5 6 Y<|Tr<|Rm Y<|R2 ZaJ Y<|Za<|K3 5 6 10 Y<|If h Y (fun h=>?_) fun h=>?_
   ·
    refine K0<|Tr<|Ra Y<|Za<|?_
    replace h := lx h ▸ ho1
    obtain rfl := rt h
    exact Zu (ZL Y (.one<|rb Y))
   ·
    exact Zm<|K2 5 6 Y<|ZC<|R2 Z2 Y<|Rm Y<|Za<|⟨_, h, ES []⟩
  ·
   refine ZT<|?_
   replace h := lx h ▸ ho1
   exact ⟨_, h, ES []⟩
 ·
  replace h := elr h
  replace h := t0i h
  refine Tr<|Ra Y<|Za<|?_
  obtain rfl := rt h
  exact Zu (ZL Y (.one<|rb Y))
theorem Ze6 {f : Vector Int 64} {n : Int} {r : Int} (h : Zb7 f n = some r) :
 CSpec Tryz.prog gl0 38 [.agg (List.map C26 f.toList), .int .i64 n] (.int .i64 r) := by
 unfold Zb7 at h
 replace h := Qf h
 refine So Tryz.func38 Y fun w0 A=>Tr<|Rq Y (Qo (cva<|ov Y) arL tZ_28<|arD fun _ => Y)<|Ra Y<|Za<|K3 1 2 4 Y<|Tr<|Rm Y<|bE h fun q h_q h=>Rq Y (Zcd (ov Y) (ov Y) h_q)<|bE h fun x h_x h=>Rq Y (QS (ov Y) (ov Y) QI h_x)<|Rq Y (Zh (ov Y) QO<|Zl<|Z8 (o := 0) (o' := (q.toNat * 1)) (Zg arL)<|Z0 h_x)<|Rq Y (QR (ov Y) Zct tI3 Y)<|Rm Y<|bE h fun q2 h_q2 h=>Rq Y (XJ (ov Y) (ov Y) h_q2)<|R2 Zdz Y<|R2 ZdT Y<|bE h fun q3 h_q3 h=>Rq Y (Zcq (ov Y) (ov Y) h_q3)<|R2 ZaE Y<|Ra Y<|Za<|?_
 obtain rfl := rt h
 exact Zu (ZL Y (.one<|rb Y))
theorem Zhm {f : Vector Int 64} {r : (List Int)} (h : Zca f = some r) :
 CSpec Tryz.prog gl0 17 [.agg (List.map C26 f.toList)] (.sl 5 (List.map R5 r)) := by
 unfold Zca at h
 replace h := Qf h
 refine So Tryz.func17 Y fun w0 A=>Tr<|Rq Y (Qo (cva<|ov Y) arL tZ_28<|arD fun _ => Y)<|Ra Y<|Za<|K1 1 Y<|Tr<|bE h fun l h_l h=>Rx Y (Ziy [none] (r := 0) (f := R5) (z0 := 0) Y (ov Y) (ov Y) Xz Y tZ5 Y Y h_l)<|Ra Y<|Za<|I1 (fun out=>⟨[(3, .own 0 out.length)], [some ⟨5, List.map R5 out⟩]⟩) h (fun h=>?_) fun out h=>?_
 ·
  refine K2 1 3 Y<|Tr<|Rm Y<|Rq Y (ZcN (ov Y) Y Y Xz)<|Rm Y<|Za<|Zn<|?_
  obtain ⟨r1, hl1, ho1⟩ := Xq h
  refine L2 (fun out2 i=>⟨[(1, .rp (List.map C26 f.toList) 0), (3, .own 0 out2.length), (7, .int .i64 (l.length : Int)), (8, .int .i64 i)], [some ⟨5, List.map R5 out2⟩]⟩) hl1 (ES [some 0]) fun n1 out2 i h=>?_
  unfold Zag at h
  refine Tr<|R2 Z4 Y<|Za<|Zs<|If h Y (fun h=>?_) fun h=>?_
  ·
   exact Zm<|Zs<|Zn<|K4 1 3 7 8 Y<|Tr<|Rm Y<|Ra Y<|Za<|K5 1 3 4 7 8 Y<|Zac (cw := md0) (by kernel_rfl)<|D1 0 Zd Y<|D1 1 Zd Y<|Dq 2 Y (ZD (ov Y) Z7 (Zr<|Zg arL) arL)<|D1 3 Zd Y<|D2 4 Zdz Y<|bE h fun y h_y h=>Dq 5 Y (Zq (Ze6 h_y)<|.cons (ov Y) (.aggB<|arD fun _ => Y)<|.cons (ov Y) (.b Y) .nil)<|D2 6 Zdz Y<|Dq 7 Y (ZD (ov Y) Z7 (Zr<|Zg arL) arL)<|D1 8 Zd Y<|D2 9 Zdz Y<|D2 10 Z2 Y<|bE h fun y2 h_y2 h=>Dq 11 Y (Zq (Ze6 h_y2)<|.cons (ov Y) (.aggB<|arD fun _ => Y)<|.cons (ov Y) (.b Y) .nil)<|D2 12 Z2 Y<|Dq 13 Y (QR (ov Y) tI3 tI5 Y)<|bE h fun x h_x h=>Dq 14 Y (Za2 (ov Y) (ov Y) Xz Y Y h_x)<|Do 15 Y (Zc2 (u' := (u8 (i64 ((i64 (16 * y)) + y2)))) (ov Y) (ov Y) (Zf tS5) Y Y h_x Y (Zb Y) Y)<|Dd<|K4 1 3 7 8 Y<|ZC<|R2 Z2 Y<|Rm Y<|Za<|⟨_, h, ES [some 0]<|sd 1 Y Y<|sr 3 Y (ZkU (Eq.symm<|(List.length_set ..).trans Y) Y)<|sd 7 Y Y<|sd 8 Y Y sn⟩
  ·
   refine ZT<|?_
   replace h := lx h ▸ ho1
   exact ⟨_, h, ES [some 0]⟩
 ·
  refine Tr<|Rm Y<|Ra Y<|Za<|?_
  obtain rfl := rt h
  exact Zu (ZL Y (.one<|.tmp Y<|View.ownM Y Y D5))
theorem Zgf {f : Vector Int 64} {r : (List Int) × Int} (h : Zbe f = some r) :
 CSpec Tryz.prog gl0 7 [.agg (List.map C26 f.toList)] (.tuple [.sl 5 (List.map R5 r.1), .int .i64 r.2]) := by
 unfold Zbe at h
 replace h := Qf h
 refine So Tryz.func7 Y fun w0 A=>Tr<|Rq Y (Qo (cva<|ov Y) arL tZ_28<|arD fun _ => Y)<|Ra Y<|Ra Y<|Za<|Zs<|K1 1 Y<|Tr<|Rq Y (ZD (ov Y) Z7 (Zr<|Zg arL) arL)<|bE h fun y h_y h=>Rq Y (Zq (Ziv h_y)<|.cons (ov Y) (.aggB<|arD fun _ => Y) .nil)<|Za<|K2 1 5 Y<|If h Y (fun h=>?_) fun h=>?_
 ·
  refine K0<|Tr<|Ra Y<|Ra Y<|Za<|?_
  obtain rfl := rt h
  exact Zu (ZL Y (.two (.tmp Y<|View.nils 5)<|rb Y))
 ·
  refine Zm<|K1 1 Y<|Tr<|Rq Y (ZD (ov Y) Z7 (Zr<|Zg arL) arL)<|bE h fun y2 h_y2 h=>Rq Y (Zq (Zhm h_y2)<|.cons (ov Y) (.aggB<|arD fun _ => Y) .nil)<|Ra Y<|Ra Y<|Za<|?_
  obtain rfl := rt h
  exact Zu (ZL Y (.two (rb Y)<|rb Y))
theorem ZgW {p : api_Piece} {r : Int × Int} (h : ZbF p = some r) :
 CSpec Tryz.prog gl0 9 [.agg [.sl 5 (List.map R5 p.Bytes), .bool p.Half]] (.tuple [.int .i64 r.1, .int .i64 r.2]) := by
 unfold ZbF at h
 replace h := Qf h
 refine So Tryz.func9 Y fun w0 A=>Tr<|Rq Y (Qo (cva<|ov Y) Y tZ_35 Y)<|Ra Y<|Ra Y<|Za<|Zs<|K1 1 Y<|Tr<|Rq Y (ZD (ov Y) XL Y Y)<|bE h fun y h_y h=>Rq Y (Zq (Zce h_y)<|.cons (ov Y) (.aggB Y) .nil)<|Ra Y<|Za<|K2 1 4 Y<|Tr<|Rm Y<|R2 XY Y<|Za<|K3 1 4 8 Y<|If h Y (fun h=>?_) fun h=>?_
 ·
  refine K1 4 Y<|Tr<|Rm Y<|Ra Y<|Ra Y<|Za<|?_
  obtain rfl := rt h
  exact Zu (ZL Y (.two (rb Y)<|rb Y))
 ·
  refine Zm<|K1 1 Y<|Tr<|Rq Y (ZD (ov Y) XL Y Y)<|bE h fun y2 h_y2 h=>Rq Y (Zq (Zd2 h_y2)<|.cons (ov Y) (.aggB Y) .nil)<|Rl tZ_5 Xz Y<|Ra Y<|Ra Y<|Za<|?_
  obtain rfl := rt h
  exact Zu (ZL Y (.two (rb Y)<|rb Y))
theorem Zbk {p : api_Piece} {r : Int} (h : Q4 p = some r) :
 CSpec Tryz.prog gl0 21 [.agg [.sl 5 (List.map R5 p.Bytes), .bool p.Half]] (.int .i64 r) := by
 unfold Q4 at h
 replace h := Qf h
 refine So Tryz.func21 Y fun w0 A=>Tr<|Rq Y (Qo (cva<|ov Y) Y tZ_35 Y)<|Ra Y<|Za<|Zs<|Zn<|K1 1 Y<|Tr<|Rq Y (ZI (ov Y) Zbm)<|Rq Y (Zh (ov Y) ZcV Y)<|Rl tZ_5 Xz Y<|R2 ZaJ Y<|Ra Y<|Za<|K2 1 3 Y<|If h Y (fun h=>?_) fun h=>?_
 ·
  refine K0<|Tr<|Ra Y<|Za<|?_
  obtain rfl := rt h
  exact Zu (ZL Y (.one<|rb Y))
 ·
  refine K1 1 Y<|Tr<|Rq Y (ZI (ov Y) ZgP)<|Rq Y (Zh (ov Y) tS4 Y)<|Rm Y<|Rq Y (.guarded (p.Half == true) Y Y Y Y fun h => ZI (ov Y) Zbm)<|Rq Y (.guarded (p.Half == true) Y Y Y Y fun h => Zh (ow Y h) ZcV Y)<|Rq Y (.guarded (p.Half == true) Y Y Y Y fun h => Zcj (ZE (ow Y h) tZ_5) Xz<|Jo _ _)<|Rq Y (.guarded (p.Half == true) Y Y Y Y fun h => QC (ow Y h)<|ov Y)<|Rq Y (.guarded (p.Half == true) Y Y Y Y fun h => Zd<|ow Y h)<|Rq Y (.guarded2 ((p.Half == true) && ((decide ((p.Bytes.length : Int) = 0)) == false)) Y Y Y Y fun h => ZI (ov Y) Zbm)<|Rq Y (.guarded2 ((p.Half == true) && ((decide ((p.Bytes.length : Int) = 0)) == false)) Y Y Y Y fun h => Zh (ow Y h) ZcV Y)<|bE h fun x h_x h=>Rq Y (.guarded2 ((p.Half == true) && ((decide ((p.Bytes.length : Int) = 0)) == false)) Y Y Y Y fun h => ZX (ow Y h) (ov Y) Xz<|gdT h_x h)<|Rq Y (.guarded2 ((p.Half == true) && ((decide ((p.Bytes.length : Int) = 0)) == false)) Y Y Y Y fun h => Zh (ow Y h) tS5 Y)<|bE h fun q h_q h=>Rq Y (.guarded2 ((p.Half == true) && ((decide ((p.Bytes.length : Int) = 0)) == false)) Y Y Y Y fun h => Zcq (ow Y h) (ov Y)<|gdT h_q h)<|Rq Y (.guarded2 ((p.Half == true) && ((decide ((p.Bytes.length : Int) = 0)) == false)) Y Y Y Y fun h => XY (ow Y h)<|ov Y)<|Rq Y (.guarded (p.Half == true) Y Y Y Y fun h => JH (ow Y h) fun hp=>ow Y<|gA h<|gF hp)<|Rq Y (XU (ov Y) fun hp=>ow Y<|gT hp)<|Ra Y<|Za<|K1 8 Y<|If h Y (fun h=>?_) fun h=>?_
  ·
   refine K0<|Tr<|Ra Y<|Za<|?_
   obtain rfl := rt h
   exact Zu (ZL Y (.one<|rb Y))
  ·
   refine Zm<|K0<|Tr<|Ra Y<|Za<|?_
   obtain rfl := rt h
   exact Zu (ZL Y (.one<|rb Y))
theorem J8 {p : api_Piece} {r : Int} (h : Xu p = some r) :
 CSpec Tryz.prog gl0 24 [.agg [.sl 5 (List.map R5 p.Bytes), .bool p.Half]] (.int .i64 r) := by
 unfold Xu at h
 replace h := Qf h
 refine So Tryz.func24 Y fun w0 A=>Tr<|Rq Y (Qo (cva<|ov Y) Y tZ_35 Y)<|Ra Y<|Za<|Zs<|K1 1 Y<|Tr<|Rq Y (ZI (ov Y) ZgP)<|Rq Y (Zh (ov Y) tS4 Y)<|Za<|K1 4 Y<|If h Y (fun h=>?_) fun h=>?_
 ·
  refine K0<|Tr<|Ra Y<|Za<|?_
  obtain rfl := rt h
  exact Zu (ZL Y (.one<|rb Y))
 ·
  refine Zm<|K0<|Tr<|Ra Y<|Za<|?_
  obtain rfl := rt h
  exact Zu (ZL Y (.one<|rb Y))
theorem ZcH {p : api_Piece} {r : Int} (h : X6 p = some r) :
 CSpec Tryz.prog gl0 22 [.agg [.sl 5 (List.map R5 p.Bytes), .bool p.Half]] (.int .i64 r) := by
 unfold X6 at h
 replace h := Qf h
 refine So Tryz.func22 Y fun w0 A=>Tr<|Rq Y (Qo (cva<|ov Y) Y tZ_35 Y)<|Ra Y<|Za<|K2 1 2 Y<|Td md0<|Dq 0 Y (ZI (ov Y) Zbm)<|Dq 1 Y (Zh (ov Y) ZcV Y)<|Dq 2 Y (Zcj (ZE (ov Y) tZ_5) Xz<|Jo _ _)<|D2 3 Zdz Y<|Dq 4 Y (ZD (ov Y) XL Y Y)<|bE h fun y h_y h=>Dq 5 Y (Zq (J8 h_y)<|.cons (ov Y) (.aggB Y) .nil)<|D2 6 ZdT Y<|D1 7 QE Y<|Dd<|?_
 obtain rfl := rt h
 exact Zu (ZL Y (.one<|rb Y))
theorem ZgK {b : List Int} {from_ : Int} {to : Int} {r : api_Piece} (h : JP b from_ to = some r) :
 CSpec Tryz.prog gl0 23 [.sl 5 (List.map R5 b), .int .i64 from_, .int .i64 to] (.agg [.sl 5 (List.map R5 r.Bytes), .bool r.Half]) := by
 unfold JP at h
 replace h := Qf h
 refine So Tryz.func23 Y fun w0 A=>Tr<|Rx Y (ZP (row := [_, _]) 0 Y Zey Y tZ_35)<|Za<|Zs<|Tr<|Rm Y<|Rm Y<|R2 QC Y<|Za<|K5 0 1 2 6 10 Y<|If h Y (fun h=>?_) fun h=>?_
 ·
  refine K1 6 Y<|Tr<|Rq Y (JZ (ys := [_, _]) Zhx Zhy Zey .nil Y)<|Rx Y (Ze (ov Y) (ov Y) (Zo XL Y) Y Y Y (Nat.le_of_ble_eq_true Y) (Zb Y) Y)<|Za<|?_
  obtain rfl := rt h
  exact Zu (ZL Y (.one<|.agg Y Y Y Y XL Y Y<|.cons (View.nils 5)<|.cons (Dat.view<|.b Y) .nil))
 ·
  refine Zm<|K4 0 1 2 6 Y<|Tr<|Rm Y<|Rm Y<|bE h fun q h_q h=>Rq Y (Zcd (ov Y) (ov Y) h_q)<|Rm Y<|R2 Z2 Y<|bE h fun q2 h_q2 h=>Rq Y (Zcd (ov Y) (ov Y) h_q2)<|bE h fun l h_l h=>Rq Y (ZeT (ov Y) Xz (oi<|ov Y) (oi<|ov Y) h_l)<|bE h fun l2 h_l2 h=>Rx Y (Zay (r := 1) Y (ov Y) (ZE (ov Y) tZ_5) Xz Y h_l2)<|Rm Y<|bE h fun q3 h_q3 h=>Rq Y (XJ (ov Y) (ov Y) h_q3)<|R2 QC Y<|Rq Y (JZ (ys := [_, _]) Zhx Zhy Zey (.cons (cvs (ov Y)<|ZY Y)<|.cons (cvs (ov Y)<|ZY Y) .nil) Y)<|Rx Y (ZP (row := [_, _]) 2 Y Zey Y tZ_35)<|Rx Y (Ze (ov Y) (ov Y) (Zo XL Y) Y Y Y (Nat.le_of_ble_eq_true Y) (Zb Y) Y)<|Za<|I1 (fun Bytes=>⟨[(2, .int .i64 to), (6, .ptr 0 1 0 0), (7, .ptr 1 1 0 0)], [some ⟨35, [[.nils, .bool false]]⟩, some ⟨35, [[.own 2 Bytes.length, .bool (decide (q3 = 1))]]⟩, some ⟨5, List.map R5 Bytes⟩]⟩) h (fun h=>?_) fun Bytes h=>?_
  ·
   refine K3 2 6 7 Y<|Tr<|Rq Y (Zc (ov Y) Y Y ZgP)<|Rq Y (Zj (ov Y) Y Y Y tS4 Y)<|Za<|K4 2 6 7 25 Y<|If h Y (fun h=>?_) fun h=>?_
   ·
    exact K3 2 6 7 Y<|ZC<|Rq Y (Zc (ov Y) Y Y Zbm)<|Rq Y (Zj (ov Y) Y Y Y ZcV Y)<|bE h fun x h_x h=>Rq Y (Za2 (ov Y) (ov Y) Xz Y Y h_x)<|Rq Y (Zc1 (ov Y) Y Y h_x tS5 Y)<|R2 ZaE Y<|bE h fun x2 h_x2 h=>Rq Y (Za2 (ov Y) (ov Y) Xz Y Y h_x2)<|Rx Y (Zc2 (u' := (Xe .u8 x 15)) (ov Y) (ov Y) (Zf tS5) Y Y h_x2 Y (Zb Y) Y)<|Za<|⟨_, h, ES [some 0, some 2, some 1] (hhp := .cons Y (ro1 (by exact tZ_35.symm)<|rld Y)<|.cons Y (ro1 (by exact tZ_35.symm)<|rlc (ZkU (Eq.symm<|(List.length_set ..).trans Y) Y)<|rlc (.dat Y) rln)<|.cons Y (roM D5) .nil)⟩
   ·
    exact Zm<|⟨_, h, ES [some 0, some 2, some 1]⟩
  ·
   refine Zs<|Tr<|Rm Y<|bE h fun q4 h_q4 h=>Rq Y (XJ (ov Y) (ov Y) h_q4)<|R2 QC Y<|Za<|K3 6 7 34 Y<|If h Y (fun h=>?_) fun h=>?_
   ·
    refine K2 6 7 Y<|ZC<|Rq Y (Zc (ov Y) Y Y Zbm)<|Rq Y (Zj (ov Y) Y Y Y ZcV Y)<|Rq Y (Zc (ov Y) Y Y Zbm)<|Rq Y (Zj (ov Y) Y Y Y ZcV Y)<|Rq Y (ZcN (ov Y) Y Y Xz)<|R2 ZdT Y<|bE h fun x3 h_x3 h=>Rq Y (Za2 (ov Y) (ov Y) Xz Y Y h_x3)<|Rq Y (Zc1 (ov Y) Y Y h_x3 tS5 Y)<|R2 ZaE Y<|bE h fun x4 h_x4 h=>Rq Y (Za2 (ov Y) (ov Y) Xz Y Y h_x4)<|Rx Y (Zc2 (u' := (Xe .u8 x3 240)) (ov Y) (ov Y) (Zf tS5) Y Y h_x4 Y (Zb Y) Y)<|Za<|K2 6 7 Y<|Tr<|Rq Y (ZB (ov Y) Y Y Y XL Y Y)<|Rx Y (Ze (ov Y) (ov Y) (Zo XL Y) Y Y Y (Nat.le_of_ble_eq_true Y) (Zb Y) Y)<|Za<|?_
    obtain rfl := rt h
    exact Zu (ZL Y (.one<|.agg Y Y Y Y XL Y Y<|.cons (View.ownM Y ((List.length_set ..).trans Y) D5)<|.cons (Dat.view<|.b Y) .nil))
   ·
    refine Zm<|K2 6 7 Y<|Tr<|Rq Y (ZB (ov Y) Y Y Y XL Y Y)<|Rx Y (Ze (ov Y) (ov Y) (Zo XL Y) Y Y Y (Nat.le_of_ble_eq_true Y) (Zb Y) Y)<|Za<|?_
    obtain rfl := rt h
    exact Zu (ZL Y (.one<|.agg Y Y Y Y XL Y Y<|.cons (View.ownM Y Y D5)<|.cons (Dat.view<|.b Y) .nil))
theorem ZdR {p : api_Piece} {from_ : Int} {to : Int} {r : api_Piece × Int} (h : ZaN p from_ to = some r) :
 CSpec Tryz.prog gl0 10 [.agg [.sl 5 (List.map R5 p.Bytes), .bool p.Half], .int .i64 from_, .int .i64 to] (.tuple [.agg [.sl 5 (List.map R5 r.1.Bytes), .bool r.1.Half], .int .i64 r.2]) := by
 unfold ZaN at h
 replace h := Qf h
 refine So Tryz.func10 Y fun w0 A=>Tr<|Rq Y (Qo (cva<|ov Y) Y tZ_35 Y)<|Rx Y (ZP (row := [_, _]) 0 Y Zey Y tZ_35)<|Ra Y<|Za<|Zs<|K4 1 2 3 6 Y<|Tr<|Rq Y (ZD (ov Y) XL Y Y)<|bE h fun y h_y h=>Rq Y (Zq (Zbk h_y)<|.cons (ov Y) (.aggB Y) .nil)<|Ra Y<|Za<|K5 1 2 3 6 8 Y<|Tr<|Rm Y<|R2 XY Y<|Za<|K6 1 2 3 6 8 12 Y<|If h Y (fun h=>?_) fun h=>?_
 ·
  refine K2 6 8 Y<|Tr<|Rq Y (JZ (ys := [_, _]) Zhx Zhy Zey .nil Y)<|Rm Y<|Rx Y (Ze (ov Y) (ov Y) (Zo XL Y) Y Y Y (Nat.le_of_ble_eq_true Y) (Zb Y) Y)<|Ra Y<|Za<|?_
  obtain rfl := rt h
  exact Zu (ZL Y (.two (.agg Y Y Y Y XL Y Y<|.cons (View.nils 5)<|.cons (Dat.view<|.b Y) .nil)<|rb Y))
 ·
  refine Zm<|Zs<|K4 1 2 3 6 Y<|Tr<|Rm Y<|R2 Z4 Y<|Rm Y<|Rq Y (.guarded ((decide (from_ < 0)) == false) Y Y Y Y fun h => Zd<|ov Y)<|Rq Y (.guarded ((decide (from_ < 0)) == false) Y Y Y Y fun h => Zd<|ov Y)<|Rq Y (.guarded ((decide (from_ < 0)) == false) Y Y Y Y fun h => ZaJ (ow Y h)<|ow Y h)<|Rq Y (JH (ov Y) fun hp=>ow Y<|gF hp)<|Rm Y<|Rq Y (.guarded (((decide (from_ < 0)) || (decide (to < from_))) == false) Y Y Y Y fun h => Zd<|ov Y)<|Rq Y (.guarded (((decide (from_ < 0)) || (decide (to < from_))) == false) Y Y Y Y fun h => ZD (ov Y) XL Y Y)<|bE h fun y2 h_y2 h=>Rq Y (.guarded (((decide (from_ < 0)) || (decide (to < from_))) == false) Y Y Y Y fun h => Zq (ZcH<|gdT h_y2 h)<|.cons (ow Y h) (.aggB Y) .nil)<|Rq Y (.guarded (((decide (from_ < 0)) || (decide (to < from_))) == false) Y Y Y Y fun h => ZaJ (ow Y h)<|ow Y h)<|Rq Y (JH (ov Y) fun hp=>ow Y<|gF hp)<|Za<|K5 1 2 3 6 27 Y<|If h Y (fun h=>?_) fun h=>?_
  ·
   refine K1 6 Y<|Tr<|Rq Y (JZ (ys := [_, _]) Zhx Zhy Zey .nil Y)<|Rx Y (Ze (ov Y) (ov Y) (Zo XL Y) Y Y Y (Nat.le_of_ble_eq_true Y) (Zb Y) Y)<|Ra Y<|Za<|?_
   obtain rfl := rt h
   exact Zu (ZL Y (.two (.agg Y Y Y Y XL Y Y<|.cons (View.nils 5)<|.cons (Dat.view<|.b Y) .nil)<|rb Y))
  ·
   refine Zm<|K4 1 2 3 6 Y<|Td md0<|Dq 0 Y (ZI (ov Y) Zbm)<|Dq 1 Y (Zh (ov Y) ZcV Y)<|D1 2 Zd Y<|Dq 3 Y (ZD (ov Y) XL Y Y)<|bE h fun y3 h_y3 h=>Dq 4 Y (Zq (J8 h_y3)<|.cons (ov Y) (.aggB Y) .nil)<|D2 5 Z2 Y<|D1 6 Zd Y<|Dq 7 Y (ZD (ov Y) XL Y Y)<|bE h fun y4 h_y4 h=>Dq 8 Y (Zq (J8 h_y4)<|.cons (ov Y) (.aggB Y) .nil)<|D2 9 Z2 Y<|bE h fun y5 h_y5 h=>Dq 10 Y (Zq (ZgK h_y5)<|.cons (ov Y) (.b Y)<|.cons (ov Y) (.b Y)<|.cons (ov Y) (.b Y) .nil)<|Do 11 Y (Ze (ov Y) (ov Y) (Zo XL Y) Y Y Y (Nat.le_of_ble_eq_true Y) (Zb Y) Y)<|D1 12 QE Y<|Dd<|?_
   obtain rfl := rt h
   exact Zu (ZL Y (.two (.agg Y Y Y Y XL Y Y<|pwB Y)<|rb Y))
theorem ZeY {b : List Int} {i : Int} {r : Int} (h : JV b i = some r) :
 CSpec Tryz.prog gl0 44 [.sl 5 (List.map R5 b), .int .i64 i] (.int .u8 r) := by
 unfold JV at h
 replace h := Qf h
 refine So Tryz.func44 Y fun w0 A=>Tr<|Ra Y<|Za<|Tr<|Rm Y<|Rm Y<|bE h fun q h_q h=>Rq Y (Zcd (ov Y) (ov Y) h_q)<|bE h fun x h_x h=>Rq Y (ZX (ov Y) (ov Y) Xz h_x)<|Rq Y (Zh (ov Y) tS5 Y)<|Rm Y<|bE h fun q2 h_q2 h=>Rq Y (XJ (ov Y) (ov Y) h_q2)<|R2 Zdz Y<|R2 ZdT Y<|bE h fun q3 h_q3 h=>Rq Y (Zcq (ov Y) (ov Y) h_q3)<|R2 ZaE Y<|Ra Y<|Za<|?_
 obtain rfl := rt h
 exact Zu (ZL Y (.one<|rb Y))
theorem Zfb {p : api_Piece} {r : (List Int)} (h : Jc p = some r) :
 CSpec Tryz.prog gl0 26 [.agg [.sl 5 (List.map R5 p.Bytes), .bool p.Half]] (.sl 5 (List.map R5 r)) := by
 unfold Jc at h
 replace h := Qf h
 refine So Tryz.func26 Y fun w0 A=>Tr<|Rq Y (Qo (cva<|ov Y) Y tZ_35 Y)<|Ra Y<|Za<|K1 1 Y<|Tr<|Rq Y (ZD (ov Y) XL Y Y)<|bE h fun y h_y h=>Rq Y (Zq (ZcH h_y)<|.cons (ov Y) (.aggB Y) .nil)<|bE h fun l h_l h=>Rx Y (Ziy [none] (r := 0) (f := R5) (z0 := 0) Y (ov Y) (ov Y) Xz Y tZ5 Y Y h_l)<|Ra Y<|Za<|I1 (fun out=>⟨[(3, .own 0 out.length)], [some ⟨5, List.map R5 out⟩]⟩) h (fun h=>?_) fun out h=>?_
 ·
  refine K2 1 3 Y<|Tr<|Rm Y<|Rq Y (ZcN (ov Y) Y Y Xz)<|Rm Y<|Za<|Zn<|?_
  obtain ⟨r1, hl1, ho1⟩ := Xq h
  refine L2 (fun out2 i=>⟨[(1, .rp [.sl 5 (List.map R5 p.Bytes), .bool p.Half] 0), (3, .own 0 out2.length), (9, .int .i64 (l.length : Int)), (10, .int .i64 i)], [some ⟨5, List.map R5 out2⟩]⟩) hl1 (ES [some 0]) fun n1 out2 i h=>?_
  unfold XP at h
  refine Tr<|R2 Z4 Y<|Za<|Zs<|If h Y (fun h=>?_) fun h=>?_
  ·
   exact Zm<|Zs<|Zn<|K4 1 3 9 10 Y<|Tr<|Rm Y<|Ra Y<|Za<|K5 1 3 4 9 10 Y<|Zac (cw := md0) (by kernel_rfl)<|D1 0 Zd Y<|D1 1 Zd Y<|Dq 2 Y (ZI (ov Y) Zbm)<|Dq 3 Y (Zh (ov Y) ZcV Y)<|D1 4 Zd Y<|Dq 5 Y (ZD (ov Y) XL Y Y)<|bE h fun y2 h_y2 h=>Dq 6 Y (Zq (J8 h_y2)<|.cons (ov Y) (.aggB Y) .nil)<|D2 7 Z2 Y<|bE h fun y3 h_y3 h=>Dq 8 Y (Zq (ZeY h_y3)<|.cons (ov Y) (.b Y)<|.cons (ov Y) (.b Y) .nil)<|bE h fun x h_x h=>Dq 9 Y (Za2 (ov Y) (ov Y) Xz Y Y h_x)<|Do 10 Y (Zc2 (u' := y3) (ov Y) (ov Y) (Zf tS5) Y Y h_x Y (Zb Y) Y)<|Dd<|K4 1 3 9 10 Y<|ZC<|R2 Z2 Y<|Rm Y<|Za<|⟨_, h, ES [some 0]<|sd 1 Y Y<|sr 3 Y (ZkU (Eq.symm<|(List.length_set ..).trans Y) Y)<|sd 9 Y Y<|sd 10 Y Y sn⟩
  ·
   refine ZT<|?_
   replace h := lx h ▸ ho1
   exact ⟨_, h, ES [some 0]⟩
 ·
  refine Tr<|Rm Y<|Ra Y<|Za<|?_
  obtain rfl := rt h
  exact Zu (ZL Y (.one<|.tmp Y<|View.ownM Y Y D5))
theorem Za9 {h_ : List Int} {r : Int} (h : Xh h_ = some r) :
 CSpec Tryz.prog gl0 78 [.sl 5 (List.map R5 h_)] (.int .u16 r) := by
 unfold Xh at h
 replace h := Qf h
 refine So Tryz.func78 Y fun w0 A=>Tr<|Ra Y<|Za<|Td md0<|D1 0 Zd Y<|bE h fun x h_x h=>Dq 1 Y (ZX (ov Y) (ov Y) Xz h_x)<|Dq 2 Y (Zh (ov Y) tS5 Y)<|Dq 3 Y (QR (ov Y) tI5 Zct Y)<|bE h fun q h_q h=>Dq 4 Y (Zhh (ov Y) (ov Y) h_q)<|D1 5 Zd Y<|bE h fun x2 h_x2 h=>Dq 6 Y (ZX (ov Y) (ov Y) Xz h_x2)<|Dq 7 Y (Zh (ov Y) tS5 Y)<|Dq 8 Y (QR (ov Y) tI5 Zct Y)<|bE h fun q2 h_q2 h=>Dq 9 Y (Zhh (ov Y) (ov Y) h_q2)<|D2 10 Zjf Y<|D1 11 Zd Y<|bE h fun x3 h_x3 h=>Dq 12 Y (ZX (ov Y) (ov Y) Xz h_x3)<|Dq 13 Y (Zh (ov Y) tS5 Y)<|Dq 14 Y (QR (ov Y) tI5 Zct Y)<|D2 15 Zjf Y<|D1 16 QE Y<|Dd<|?_
 obtain rfl := rt h
 exact Zu (ZL Y (.one<|rb Y))
theorem ZcS {number : Int} {r : Int × Int} (h : JR number = some r) :
 CSpec Tryz.prog gl0 82 [.int .i64 number] (.tuple [.int .i64 r.1, .int .i64 r.2]) := by
 unfold JR at h
 replace h := Qf h
 refine So Tryz.func82 Y fun w0 A=>Tr<|Ra Y<|Ra Y<|Za<|Zs<|K1 0 Y<|Tr<|Rm Y<|R2 Z4 Y<|Rm Y<|Rq Y (.guarded ((decide (number < 0)) == false) Y Y Y Y fun h => Zd<|ov Y)<|Rq Y (.guarded ((decide (number < 0)) == false) Y Y Y Y fun h => ZbR (ow Y h)<|ov Y)<|Rq Y (JH (ov Y) fun hp=>ow Y<|gF hp)<|Za<|K2 0 9 Y<|If h Y (fun h=>?_) fun h=>?_
 ·
  refine K0<|Tr<|Ra Y<|Ra Y<|Za<|?_
  obtain rfl := rt h
  exact Zu (ZL Y (.two (rb Y)<|rb Y))
 ·
  refine Zm<|K1 0 Y<|Tr<|Rm Y<|bE h fun q h_q h=>Rq Y (XJ (ov Y) (ov Y) h_q)<|bE h fun x h_x h=>Rq Y (QS (og (v := gv_frame_syncs) (k := .u16) (f := C26) (by simp [gl0]) fun _=>Y) (ov Y) Zku h_x)<|Rq Y (Zh (ov Y) QO<|Zl<|Z8 (o := 0) (o' := (q.toNat * 1)) (Zg arL)<|Z0 h_x)<|Rq Y (QR (ov Y) Zct tI3 Y)<|Ra Y<|Ra Y<|Za<|?_
  obtain rfl := rt h
  exact Zu (ZL Y (.two (rb Y)<|rb Y))
theorem Zfk {w : Int} {r : Bool} (h : JU w = some r) :
 CSpec Tryz.prog gl0 108 [.int .u16 w] (.bool r) := by
 unfold JU at h
 replace h := Qf h
 refine So Tryz.func108 Y fun w0 A=>Tr<|Ra Y<|Za<|J0 (fun j => (.inr j)) ⟨[], []⟩ h (fun h=>?_) fun h=>?_
 ·
  refine K1 0 Y<|Tr<|Rm Y<|Za<|Zn<|?_
  obtain ⟨r1, hl1, ho1⟩ := Xq h
  refine L1 (fun i=>⟨[(0, .int .u16 w), (6, .int .i64 i)], []⟩) hl1 (ES []) fun n1 i h=>?_
  unfold XW at h
  refine Tr<|R2 Z4 Y<|Za<|Zs<|If h Y (fun h=>?_) fun h=>?_
  ·
   refine Zm<|Zs<|Zn<|K2 0 6 Y<|Tr<|Rm Y<|Ra Y<|Za<|K3 0 3 6 Y<|Tr<|Rm Y<|bE h fun y h_y h=>Rq Y (Zq (ZcS h_y)<|.cons (ov Y) (.b Y) .nil)<|Rm Y<|Rq Y (Zi (ov Y) Y)<|Rq Y (Zi (ov Y) Y)<|Ra Y<|Ra Y<|Za<|K3 0 4 6 Y<|Tr<|Rm Y<|Rq Y (QR (ov Y) tI3 Zct Y)<|Rm Y<|R2 QC Y<|Za<|K3 0 6 17 Y<|If h Y (fun h=>?_) fun h=>?_
   ·
    refine K0<|Tr<|Ra Y<|Za<|?_
    replace h := lx h ▸ ho1
    obtain rfl := rt h
    exact Zu (ZL Y (.one<|rb Y))
   ·
    exact Zm<|K2 0 6 Y<|ZC<|R2 Z2 Y<|Rm Y<|Za<|⟨_, h, ES []⟩
  ·
   refine ZT<|?_
   replace h := lx h ▸ ho1
   exact ⟨_, h, ES []⟩
 ·
  replace h := elr h
  replace h := t0i h
  refine Tr<|Ra Y<|Za<|?_
  obtain rfl := rt h
  exact Zu (ZL Y (.one<|rb Y))
theorem ZeB {w : Vector Int 192} {r : (Vector Int 64)} (h : Jr w = some r) :
 CSpec Tryz.prog gl0 109 [.agg (List.map C5 w.toList)] (.agg (List.map C26 r.toList)) := by
 unfold Jr at h
 replace h := Qf h
 refine So Tryz.func109 Y fun w0 A=>Tr<|Rq Y (Qo (cva<|ov Y) arL tZ_152<|arD fun _ => Y)<|Rx Y (ZP (row := (List.map C26 (Vector.replicate 64 0).toList)) 0 Y ZbV Y tZ_28)<|Za<|K2 1 2 Y<|Tr<|Rx Y (ZP (row := (List.map C26 (Vector.replicate 64 0).toList)) 1 Y ZbV Y tZ_28)<|Za<|I1 (fun f=>⟨[(2, .ptr 0 1 0 0), (3, .ptr 1 1 0 0)], [some ⟨28, [(List.map C26 (Vector.replicate 64 0).toList)]⟩, some ⟨28, [(List.map C26 f.toList)]⟩]⟩) h (fun h=>?_) fun f h=>?_
 ·
  refine Tr<|Rm Y<|Za<|Zn<|?_
  obtain ⟨r1, hl1, ho1⟩ := Xq h
  refine L2 (fun f2 i=>⟨[(1, .rp (List.map C5 w.toList) 0), (2, .ptr 0 1 0 0), (3, .ptr 1 1 0 0), (5, .int .i64 i)], [some ⟨28, [(List.map C26 (Vector.replicate 64 0).toList)]⟩, some ⟨28, [(List.map C26 f2.toList)]⟩]⟩) hl1 (ES [some 0, some 1]) fun n1 f2 i h=>?_
  unfold XC at h
  refine Tr<|R2 Z4 Y<|Za<|Zs<|If h Y (fun h=>?_) fun h=>?_
  ·
   exact Zm<|Zs<|Zn<|K4 1 2 3 5 Y<|Tr<|Rm Y<|Ra Y<|Za<|K5 1 2 3 4 5 Y<|ZC<|Rm Y<|Rm Y<|R2 Zdz Y<|Rm Y<|R2 Zdz Y<|R2 Z2 Y<|bE h fun l h_l h=>Rq Y (ZlM (f := C5) (ov Y) ZnO tZ_5 (Zg arL) Y (oi<|ov Y) (oi<|ov Y) h_l)<|bE h fun y h_y h=>Rq Y (Zq (Za9 h_y)<|.cons (ov Y) (.b Y) .nil)<|bE h fun x h_x h=>Rq Y (Z5 (ov Y) (ov Y) QI Y Y h_x)<|Rx Y (Ze (ov Y) (ov Y) (Zf QO) Y Y Y (arB h_x) (Zb Y)<|arS h_x)<|Za<|K4 1 2 3 5 Y<|ZC<|R2 Z2 Y<|Rm Y<|Za<|⟨_, h, ES [some 0, some 1]⟩
  ·
   refine ZT<|?_
   replace h := lx h ▸ ho1
   exact ⟨_, h, ES [some 0, some 1]⟩
 ·
  refine Tr<|Rq Y (ZB (ov Y) Y Y Y Z7 (Zr<|Zg arL) arL (hns := (nsM fun _ => Y)))<|Rx Y (Ze (ov Y) (ov Y) (Zo Z7 arL) Y Y Y (ZF (Zg arL) arL) (Zb<|arC fun _ => Y)<|ZK<|Eq.trans arL<|Eq.symm arL)<|Za<|?_
  obtain rfl := rt h
  exact Zu (ZL Y (.one<|.agg Y Y Y Y Z7 (Zr<|Zg arL) arL (pwB<|arD fun _ => Y) (hns := (nsM fun _ => Y))))
theorem Zew {f : Vector Int 64} {r : Bool} (h : Zbp f = some r) :
 CSpec Tryz.prog gl0 69 [.rp (List.map C26 f.toList) 0] (.bool r) := by
 unfold Zbp at h
 replace h := Qf h
 refine So Tryz.func69 Y fun w0 A=>Tr<|Ra Y<|Za<|J0 (fun j => (.inr j)) ⟨[], []⟩ h (fun h=>?_) fun h=>?_
 ·
  refine K1 0 Y<|Tr<|Rm Y<|Za<|Zn<|?_
  obtain ⟨r1, hl1, ho1⟩ := Xq h
  refine L1 (fun i=>⟨[(0, .rp (List.map C26 f.toList) 0), (4, .int .i64 i)], []⟩) hl1 (ES []) fun n1 i h=>?_
  unfold Zal at h
  refine Tr<|R2 Z4 Y<|Za<|Zs<|If h Y (fun h=>?_) fun h=>?_
  ·
   refine Zm<|Zs<|Zn<|K2 0 4 Y<|Tr<|Rm Y<|Ra Y<|Za<|K3 0 3 4 Y<|Tr<|Rm Y<|Rm Y<|R1 ZQ Y<|bE h fun x h_x h=>Rq Y (QS (ov Y) (ov Y) QI h_x)<|Rq Y (Zh (ov Y) QO<|Zl<|Z8 (o := 0) (o' := (i.toNat * 1)) (Zg arL)<|Z0 h_x)<|R2 ZaJ Y<|Za<|K3 0 4 12 Y<|If h Y (fun h=>?_) fun h=>?_
   ·
    refine K0<|Tr<|Ra Y<|Za<|?_
    replace h := lx h ▸ ho1
    obtain rfl := rt h
    exact Zu (ZL Y (.one<|rb Y))
   ·
    exact Zm<|K2 0 4 Y<|ZC<|R2 Z2 Y<|Rm Y<|Za<|⟨_, h, ES []⟩
  ·
   refine ZT<|?_
   replace h := lx h ▸ ho1
   exact ⟨_, h, ES []⟩
 ·
  replace h := elr h
  replace h := t0i h
  refine Tr<|Ra Y<|Za<|?_
  obtain rfl := rt h
  exact Zu (ZL Y (.one<|rb Y))
theorem ZdG {f : Vector Int 64} {r : Bool} (h : ZaM f = some r) :
 CSpec Tryz.prog gl0 71 [.rp (List.map C26 f.toList) 0] (.bool r) := by
 unfold ZaM at h
 replace h := Qf h
 refine So Tryz.func71 Y fun w0 A=>Tr<|Ra Y<|Za<|Zs<|K1 0 Y<|Td md0<|D1 0 Zd Y<|bE h fun y h_y h=>Dq 1 Y (Zq (Zew h_y)<|.cons (ov Y) (.b Y) .nil)<|D1 2 Zd Y<|Dq 3 Y (.guarded (y == false) Y Y Y Y fun h => Zd<|ov Y)<|Dq 4 Y (.guarded (y == false) Y Y Y Y fun h => ZQ<|ow Y h)<|bE h fun x h_x h=>Dq 5 Y (.guarded (y == false) Y Y Y Y fun h => QS (ow Y h) (ov Y) QI<|gdT h_x h)<|Dq 6 Y (.guarded (y == false) Y Y Y Y fun h => Zh (ow Y h) QO<|Zl<|Z8 (o := 0) (o' := ((Int.toNat 0) * 1)) (Zg arL)<|Z0<|gdT h_x h)<|Dq 7 Y (.guarded (y == false) Y Y Y Y fun h => Zd<|ov Y)<|bE h fun y2 h_y2 h=>Dq 8 Y (.guarded (y == false) Y Y Y Y fun h => Zq (JD<|gdT h_y2 h)<|.cons (ow Y h) (.b Y) .nil)<|bE h fun q h_q h=>Dq 9 Y (.guarded (y == false) Y Y Y Y fun h => XJ (ow Y h) (ov Y)<|gdT h_q h)<|bE h fun x2 h_x2 h=>Dq 10 Y (.guarded (y == false) Y Y Y Y fun h => QS (og (v := gv_frame_syncs) (k := .u16) (f := C26) (by simp [gl0]) fun _=>Y) (ow Y h) Zku<|gdT h_x2 h)<|Dq 11 Y (.guarded (y == false) Y Y Y Y fun h => Zh (ow Y h) QO<|Zl<|Z8 (o := 0) (o' := (q.toNat * 1)) (Zg arL)<|Z0<|gdT h_x2 h)<|Dq 12 Y (.guarded (y == false) Y Y Y Y fun h => XY (ow Y h)<|ow Y h)<|Dq 13 Y (JH (ov Y) fun hp=>ow Y<|gF hp)<|D1 14 Zd Y<|Dq 15 Y (.guarded ((y || (!decide (x = x2))) == false) Y Y Y Y fun h => Zd<|ov Y)<|Dq 16 Y (.guarded ((y || (!decide (x = x2))) == false) Y Y Y Y fun h => ZQ<|ow Y h)<|bE h fun x3 h_x3 h=>Dq 17 Y (.guarded ((y || (!decide (x = x2))) == false) Y Y Y Y fun h => QS (ow Y h) (ov Y) QI<|gdT h_x3 h)<|Dq 18 Y (.guarded ((y || (!decide (x = x2))) == false) Y Y Y Y fun h => Zh (ow Y h) QO<|Zl<|Z8 (o := 0) (o' := ((Int.toNat 61) * 1)) (Zg arL)<|Z0<|gdT h_x3 h)<|bE h fun y3 h_y3 h=>Dq 19 Y (.guarded ((y || (!decide (x = x2))) == false) Y Y Y Y fun h => Zq (Xw<|gdT h_y3 h)<|.cons (ow Y h) (.b Y) .nil)<|Dq 20 Y (.guarded ((y || (!decide (x = x2))) == false) Y Y Y Y fun h => Zd<|ov Y)<|bE h fun y4 h_y4 h=>Dq 21 Y (.guarded ((y || (!decide (x = x2))) == false) Y Y Y Y fun h => Zq (ZaX<|gdT h_y4 h)<|.cons (ow Y h) (.b Y) .nil)<|Dq 22 Y (.guarded ((y || (!decide (x = x2))) == false) Y Y Y Y fun h => XY (ow Y h)<|ow Y h)<|Dq 23 Y (JH (ov Y) fun hp=>ow Y<|gF hp)<|Dd<|K2 0 27 Y<|If h Y (fun h=>?_) fun h=>?_
 ·
  refine K0<|Tr<|Ra Y<|Za<|?_
  obtain rfl := rt h
  exact Zu (ZL Y (.one<|rb Y))
 ·
  refine Zm<|J0 (fun j => (.inr j)) ⟨[(0, .rp (List.map C26 f.toList) 0)], []⟩ h (fun h=>?_) fun h=>?_
  ·
   refine K1 0 Y<|Tr<|Ra Y<|Za<|Zn<|?_
   obtain ⟨r1, hl1, ho1⟩ := Xq h
   refine L1 (fun i=>⟨[(0, .rp (List.map C26 f.toList) 0), (3, .int .i64 i)], []⟩) hl1 (ES []) fun n1 i h=>?_
   unfold JK at h
   refine Zs<|Tr<|Rm Y<|R2 Z4 Y<|Za<|K3 0 3 29 Y<|If h Y (fun h=>?_) fun h=>?_
   ·
    refine Zm<|Zs<|Zn<|K2 0 3 Y<|Tr<|Rm Y<|Rm Y<|R1 ZQ Y<|bE h fun x4 h_x4 h=>Rq Y (QS (ov Y) (ov Y) QI h_x4)<|Rq Y (Zh (ov Y) QO<|Zl<|Z8 (o := 0) (o' := (i.toNat * 1)) (Zg arL)<|Z0 h_x4)<|bE h fun y5 h_y5 h=>Rq Y (Zq (Zbc h_y5)<|.cons (ov Y) (.b Y) .nil)<|R1 Ji Y<|Za<|K3 0 3 38 Y<|If h Y (fun h=>?_) fun h=>?_
    ·
     refine K0<|Tr<|Ra Y<|Za<|?_
     replace h := lx h ▸ ho1
     obtain rfl := rt h
     exact Zu (ZL Y (.one<|rb Y))
    ·
     exact Zm<|K2 0 3 Y<|ZC<|Rm Y<|R2 Z2 Y<|Ra Y<|Za<|⟨_, h, ES []⟩
   ·
    refine ZT<|?_
    replace h := lx h ▸ ho1
    exact ⟨_, h, ES []⟩
  ·
   replace h := elr h
   replace h := t0i h
   refine Td md0<|D1 0 Zd Y<|D1 1 ZQ Y<|bE h fun x5 h_x5 h=>Dq 2 Y (QS (ov Y) (ov Y) QI h_x5)<|Dq 3 Y (Zh (ov Y) QO<|Zl<|Z8 (o := 0) (o' := ((Int.toNat 62) * 1)) (Zg arL)<|Z0 h_x5)<|bE h fun y6 h_y6 h=>Dq 4 Y (Zq (Xw h_y6)<|.cons (ov Y) (.b Y) .nil)<|bE h fun q2 h_q2 h=>Dq 5 Y (Zhh (ov Y) (ov Y) h_q2)<|D1 6 Zd Y<|D1 7 ZQ Y<|bE h fun x6 h_x6 h=>Dq 8 Y (QS (ov Y) (ov Y) QI h_x6)<|Dq 9 Y (Zh (ov Y) QO<|Zl<|Z8 (o := 0) (o' := ((Int.toNat 63) * 1)) (Zg arL)<|Z0 h_x6)<|bE h fun y7 h_y7 h=>Dq 10 Y (Zq (Xw h_y7)<|.cons (ov Y) (.b Y) .nil)<|D2 11 Zjf Y<|D1 12 Zd Y<|bE h fun y8 h_y8 h=>Dq 13 Y (Zq (J4 h_y8)<|.cons (ov Y) (.b Y) .nil)<|D2 14 QC Y<|D1 15 QE Y<|Dd<|?_
   obtain rfl := rt h
   exact Zu (ZL Y (.one<|rb Y))
theorem ZdV {f : Vector Int 64} {r : Bool} (h : ZaO f = some r) :
 CSpec Tryz.prog gl0 72 [.agg (List.map C26 f.toList)] (.bool r) := by
 unfold ZaO at h
 replace h := Qf h
 refine So Tryz.func72 Y fun w0 A=>Tr<|Rq Y (Qo (cva<|ov Y) arL tZ_28<|arD fun _ => Y)<|Ra Y<|Za<|K2 1 2 Y<|Tr<|bE h fun y h_y h=>Rq Y (Zq (ZdG h_y)<|.cons (ov Y) (.b Y) .nil)<|Ra Y<|Za<|?_
 obtain rfl := rt h
 exact Zu (ZL Y (.one<|rb Y))
theorem Zny {h_ : List Int} {out r : List api_Found} {l Bx : Nat} {rec : Loop} (hY : ∀ (x : api_Found) (xs ys : List api_Found), app xs [x] = some ys → ZlF Tryz.prog gl0 l rec Bx [.int .i64 x.At, .agg (List.map C26 x.Frame.toList)] [some ⟨36, [[.own 1 xs.length]]⟩, some ⟨51, List.map R51 xs⟩] [some ⟨36, [[.own 1 ys.length]]⟩, some ⟨51, List.map R51 ys⟩]) (h : Zap h_ out = some r) :
 Zkn Tryz.prog gl0 107 l rec Bx [.lit (.func (.yield l) #[] #[]), .rp [.sl 5 (List.map R5 h_)] 0] [some ⟨36, [[.own 1 out.length]]⟩, some ⟨51, List.map R51 out⟩] [some ⟨36, [[.own 1 r.length]]⟩, some ⟨51, List.map R51 r⟩] := by
 unfold Zap at h
 replace h := Qf h
 refine Zpw Tryz.func107 Y Y Y Y<|?_
 intro w0 A W φ0 hrec hlW hB1 hB2 hB3
 refine Tr<|Ra Y<|Za<|Zn<|?_
 obtain ⟨r1, hl1, ho1⟩ := Xq h
 refine L2 (fun o at_=>⟨[(0, .lit (.func (.yield l) #[] #[])), (1, .rp [.sl 5 (List.map R5 h_)] 0), (3, .int .i64 at_)], [some ⟨36, [[.own 1 o.length]]⟩, some ⟨51, List.map R51 o⟩]⟩) hl1 (ES [some 0, some 1]) fun n1 o at_ h=>?_
 unfold XE at h
 refine Zs<|Tr<|Rm Y<|R2 Z2 Y<|Rq Y (Zh (ov Y) ZcV Y)<|Rl tZ_5 Xz Y<|R2 Zf5 Y<|Za<|K4 0 1 3 9 Y<|If h Y (fun h=>?_) fun h=>?_
 ·
  refine Zm<|J1 (fun j => (.inr j)) (fun o2=>⟨[(0, .lit (.func (.yield l) #[] #[])), (1, .rp [.sl 5 (List.map R5 h_)] 0), (3, .int .i64 at_)], [some ⟨36, [[.own 1 o2.length]]⟩, some ⟨51, List.map R51 o2⟩]⟩) h (fun h=>?_) fun o2 h=>?_
  ·
   refine Zn<|Zs<|K3 0 1 3 Y<|Tr<|Rq Y (Zh (ov Y) ZcV Y)<|Rm Y<|Rm Y<|R2 Z2 Y<|bE h fun l h_l h=>Rq Y (ZeT (ov Y) Xz (oi<|ov Y) (oi<|ov Y) h_l)<|bE h fun y h_y h=>Rq Y (Zq (Za9 h_y)<|.cons (ov Y) (.b Y) .nil)<|bE h fun y2 h_y2 h=>Rq Y (Zq (Zfk h_y2)<|.cons (ov Y) (.b Y) .nil)<|R1 Ji Y<|Za<|K4 0 1 3 19 Y<|If h Y (fun h=>?_) fun h=>?_
   ·
    exact ZT<|⟨_, h, ES [some 0, some 1]⟩
   ·
    refine Zm<|K3 0 1 3 Y<|Tr<|Rq Y (Zh (ov Y) ZcV Y)<|Rm Y<|Rm Y<|R2 Z2 Y<|bE h fun l2 h_l2 h=>Rq Y (ZeT (ov Y) Xz (oi<|ov Y) (oi<|ov Y) h_l2)<|bE h fun v h_v h=>Rq Y (ZoC (f := C5) (ov Y) ZnO tZ_5 Y h_v)<|Rq Y (ZD (ov Y) ZoU (Zr<|Zg arL) arL)<|bE h fun y3 h_y3 h=>Rq Y (Zq (ZeB h_y3)<|.cons (ov Y) (.aggB<|arD fun _ => Y) .nil)<|Rx Y (ZP (row := (List.map C26 (Vector.replicate 64 0).toList)) 2 Y ZbV Y tZ_28)<|Rx Y (Ze (ov Y) (ov Y) (Zo Z7 arL) Y Y Y (ZF (Zg arL) arL) (Zb<|arC fun _ => Y)<|ZK<|Eq.trans arL<|Eq.symm arL)<|Za<|K4 0 1 3 4 Y<|Zs<|Zps<|ZeE<|Zfd _ Y Y (ZB (ov Y) Y Y Y Z7 (Zr<|Zg arL) arL (hns := (nsM fun _ => Y)))<|bE h fun y4 h_y4 h=>Zfd _ Y Y (Zq (ZdV h_y4)<|.cons (ov Y) (.aggB<|arD fun _ => Y) .nil)<|Zfd _ Y Y (Zd<|ov Y)<|?_
    rcases ifR h with ⟨hg, h⟩ | ⟨hg, h⟩
    ·
     refine Zl8 (d := 30) (b' := true) Y (Zpy hg)<|Zkq _ Y Y Y Y Y (Zd<|ov Y)<|Zkq _ Y Y Y Y Y (Zd<|ov Y)<|Zkq _ Y Y Y Y Y (ZB (ov Y) Y Y Y Z7 (Zr<|Zg arL) arL (hns := (nsM fun _ => Y)))<|bE h fun out2 h_out2 h=>ZmI Y [0, 1] (.cons (ov Y) (.dat Y)<|.cons (ov Y) (ZoF<|rld<|arD fun _ => Y) .nil) (hY (api_Found.mk at_ y3) _ _ h_out2) Y hrec hlW (by exact Nat.zero_lt_succ _) hB1 hB2 hB3 Y Y (.cons Y (ro1 (by exact tZ_36.symm)<|rlc (.own _ Y) rln)<|.cons Y (roM D51) .nil) Y (.lent 0 (.inl Y) Y (ro1 (by exact tZ_36.symm)<|rlc (.own _<|.inl Y) rln)<|.lent 1 (.inl Y) Y (roM D51)<|.keep Y Y .nil) Y Y (fun _ _ _ hc=>ZjU Y Y Y hc) Y<|Zkq _ Y Y Y Y Y (Ji<|ov Y)<|Zfd _ Y Y (Znw (ov Y)<|ov Y)<|Zd3<|K4 0 1 3 36 Y<|If h Y (fun h=>?_) fun h=>?_
     ·
      replace h := lx h ▸ ho1
      obtain rfl := rt h
      exact Zu<|Zlv [some 0, some 1] Y .nil (.cons Y (ro1 (by exact tZ_36.symm)<|rlc (.own _ Y) rln)<|.cons Y (roM D51) .nil) Y Y<|ZgF<|rld Y
     ·
      exact Zm<|⟨_, h, ES [some 0, some 1]⟩
    ·
     refine Zl8 (d := 30) (b' := false) Y (Zpq hg)<|Zd1 Y Y Y Y Y<|Zd1 Y Y Y Y Y<|Zd1 Y Y Y Y Y<|Zd1 Y Y Y Y Y<|Zd1 Y Y Y Y Y<|Zfd _ Y Y (Zm0 (ov Y)<|ov Y)<|Zd3<|K4 0 1 3 36 Y<|Zk7 h Y (fun b36 h=>?_) fun b36 h=>?_
     ·
      exact Bool.noConfusion b36
     ·
      exact Zm<|⟨_, h, ES [some 0, some 1]⟩
  ·
   replace h := elr h
   replace h := t1i h
   exact ZC<|Rm Y<|R2 Z2 Y<|Ra Y<|Za<|⟨_, h, ES [some 0, some 1]⟩
 ·
  refine ZT<|?_
  replace h := lx h ▸ ho1
  obtain rfl := rt h
  exact Zkd [some 0, some 1] Y .nil (.cons Y (ro1 (by exact tZ_36.symm)<|rlc (.own _ Y) rln)<|.cons Y (roM D51) .nil) Y Y<|ZgF<|rld Y
theorem ZkW (h_ : List Int) : CSpec Tryz.prog gl0 99 [.sl 5 (List.map R5 h_)] (.fn 107 [.rp [.sl 5 (List.map R5 h_)] 0]) := by
 refine So Tryz.func99 Y fun w0 A=>Tr<|Rq Y (Qo (cvs (ov Y)<|ZY Y) Y tZ_25 Y)<|Ra Y<|Za<|Tr<|Rq Y (ZeJ<|.cons (ov Y) .nil)<|Ra Y<|Za<|Zu<|ZL Y<|.one<|.tmp Y<|Dat.view<|.fnC<|.cons (.b Y) .nil
theorem Zgh {h_ : List Int} {r : List api_Found} (h : ZaZ h_ = some r) :
 CSpec Tryz.prog gl0 75 [.sl 5 (List.map R5 h_)] (.sl 51 (List.map R51 r)) := by
 unfold ZaZ at h
 refine Zi7 (by kernel_rfl) Tryz.func75 Y Y<|?_
 intro w0 A
 refine Zh6<|ZeE<|Zfd _ Y Y (QE<|ov Y)<|Zd3<|Zh6<|ZeE<|ZlJ _ _ Y Y (ZP (row := [_]) 0 Y Zpp Y tZ_36)<|Zd3<|ZoI<|Zh6<|ZeE<|Zfd _ Y Y (Zd<|ov Y)<|Zfd _ Y Y (Zq (ZkW h_)<|.cons (ov Y) (.b Y) .nil)<|ZlP (Ent.sel [some 0, none] (sd 0 Y Y<|sd 2 Y Y<|sr 3 Y (.ptr (r' := 0) _ _ _ Y)<|sd 6 Y Y<|sr 7 Y (rFn<|rlc (.dat Y) rln) sn) (.cons Y (ro1 (by exact tZ_36.symm)<|rlc (.row (r' := 1) Y) rln)<|.row 51 .nil) Y Y)<|Zd3<|Zmd (n := 3) (os := [some ⟨36, [[.own 1 ([] : List api_Found).length]]⟩, some ⟨51, List.map R51 ([] : List api_Found)⟩]) (os' := [some ⟨36, [[.own 1 r.length]]⟩, some ⟨51, List.map R51 r⟩]) (hp' := [some ⟨36, [[.own 1 r.length]]⟩, some ⟨51, List.map R51 r⟩]) [0, 1] Y Y Y (by kernel_rfl) Y Y (fun Bx l fn φ a w hc hBx hmp=>?_) (.cons Y (ro1 (by exact tZ_36.symm)<|rlc (.own _ Y) rln)<|.cons Y (roM D51) .nil) Y (.lent 0 (.inl Y) Y (ro1 (by exact tZ_36.symm)<|rlc (.own _<|.inl Y) rln)<|.lent 1 (.inl Y) Y (roM D51) .nil) Y Y (tp := 3) Y ?_
 ·
  refine Zny (fun x xs l h_l=>?_) h
  refine Zpn (tm := [(3, .ptr 0 1 0 0), (8, .int .i64 x.At), (9, .agg (List.map C26 x.Frame.toList))]) (st1 := ⟨(5, .ptr 2 1 0 0) :: (4, .int .i64 x.At) :: [(3, .ptr 0 1 0 0), (8, .int .i64 x.At), (9, .agg (List.map C26 x.Frame.toList))], [some ⟨36, [[.own 1 xs.length]]⟩, some ⟨51, List.map R51 xs⟩, some ⟨28, [(List.map C26 x.Frame.toList)]⟩]⟩) Y Y Y hc.size (ZnZ Y (by show Nat.blt _ a.tmps.size = true; rw [hc.size]; rfl) (by show Nat.blt _ a.tmps.size = true; rw [hc.size]; rfl) Y Y Y Y Y<|Zmy hc Y Y Y hBx) (fun w0 A W φ0=>?_) fun w0 A W φ0=>?_
  ·
   exact Zn1<|ZeE<|Zfd _ Y Y (QE<|ov Y)<|Zd3<|ZeE<|ZlJ _ _ Y Y (ZP (row := (List.map C26 (Vector.replicate 64 0).toList)) 2 Y ZbV Y tZ_28)<|ZlJ _ _ Y Y (Ze (ov Y) (ov Y) (Zo Z7 arL) Y Y Y (ZF (Zg arL) arL) (Zb<|arC fun _ => Y)<|ZK<|Eq.trans arL<|Eq.symm arL)<|Zd3 ⟨Y, Y⟩
  ·
   exact Zlf<|ZeE<|Zfd _ Y Y (Zj (ov Y) Y Y Y Zep Y)<|Zfd _ Y Y (Zd<|ov Y)<|Zfd _ Y Y (ZB (ov Y) Y Y Y Z7 (Zr<|Zg arL) arL (hns := (nsM fun _ => Y)))<|Zfd _ Y Y (Zcb (zr := (.int .i64 0) :: ((List.map C26 (Vector.replicate 64 0).toList) ++ ([]))) ZnD ZnN ZjB (by kernel_rfl) (.cons (cvs (ov Y)<|ZY Y)<|.cons (cva<|ov Y) .nil)<|JC Y Y QK pt1<|JC Y arL at2 pt3 ZeI)<|Zfd _ Y Y (X5 Je (.cons (cva<|ov Y) ln4 (pwD al5) .nil) Y Y)<|ZlJ _ _ Y Y (Zv (ov Y) (ZE (ov Y) tZ_51) Je Y Y Y (fun x=>Zb<|E51 x) Y h_l)<|ZlJ _ _ Y Y (Ze (ov Y) (ov Y) (Zf Zep) Y Y Y (Nat.le_of_ble_eq_true Y) (Zb Y) Y)<|ZlP (Ent.sel [some 0, some 1] sn (.cons Y (ro1 (by exact tZ_36.symm)<|rlc (.own (r' := 1) _ Y) rln)<|.cons Y (roM D51) .nil) Y Y)<|Zd3 ⟨Y, Y⟩
 ·
  exact Zox<|ZoO _ Y Y Y (Zj (ov Y) Y Y Y Zep Y)<|ZoO _ Y Y Y (QE<|ov Y)<|Zoi<|Zow (.one<|.tmp Y<|View.ownM Y Y D51) Y Y
theorem Zd5 {h_ : List Int} {r : (List api_Found)} (h : Jw h_ = some r) :
 GSpec Tryz.prog gl0 54 [.sl 5 (List.map R5 h_)] [] (.own 0 r.length) [some ⟨51, List.map R51 r⟩] := by
 unfold Jw at h
 replace h := Qf h
 refine ZdL (by kernel_rfl) Tryz.func54 Y Y<|?_
 intro w0 A W φ0
 refine Tr<|Ra Y<|Za<|K1 0 Y<|Tr<|Rm Y<|bE h fun y h_y h=>Rq Y (Zq (Zgh h_y)<|.cons (ov Y) (.b Y) .nil)<|Ra Y<|Za<|K1 3 Y<|Tr<|Ra Y<|Za<|I1 (fun out=>⟨[(4, .own 0 out.length)], [some ⟨51, List.map R51 out⟩]⟩) h (fun h=>?_) fun out h=>?_
 ·
  refine Tr<|Rm Y<|Rl tZ_51 Je Y<|Rm Y<|Za<|Zn<|?_
  obtain ⟨r1, hl1, ho1⟩ := Xq h
  refine L2 (fun out2 i=>⟨[(3, .sl 51 (List.map R51 y)), (4, .own 0 out2.length), (9, .sl 51 (List.map R51 y)), (10, .int .i64 (y.length : Int)), (11, .int .i64 i)], [some ⟨51, List.map R51 out2⟩]⟩) hl1 (ES [none]) fun n1 out2 i h=>?_
  unfold Q3 at h
  refine Tr<|R2 Z4 Y<|Za<|Zs<|If h Y (fun h=>?_) fun h=>?_
  ·
   refine Zm<|Zs<|Zn<|K5 3 4 9 10 11 Y<|Tr<|Rm Y<|bE h fun x h_x h=>Rq Y (ZX (ov Y) (ov Y) Je h_x)<|Rq Y (ZD (ov Y) Zek (Zr<|Zg ln4) ln4)<|Rx Y (ZP (row := (.int .i64 0) :: ((List.map C26 (Vector.replicate 64 0).toList) ++ ([]))) 1 Y ZjB (by kernel_rfl)<|by exact Eq.symm (Eq.trans (b := 65) ln4 tZ_51.symm))<|Ra Y<|Rx Y (Ze (ov Y) (ov Y) (Zo Zek ln4) Y Y Y (ZF (Zg ln4) ln4) (Zb al6)<|ZK<|Eq.trans ln4<|Eq.symm ln4)<|Za<|K7 3 4 5 6 9 10 11 Y<|Td md0<|D1 0 Zd Y<|D2 1 QC Y<|D1 2 Zd Y<|Dq 3 Y (.guarded ((decide (i = 0)) == false) Y Y Y Y fun h => Zc (ov Y) Y Y QL)<|Dq 4 Y (.guarded ((decide (i = 0)) == false) Y Y Y Y fun h => Zj (ow Y h) Y Y Y tS3<|Zl QK)<|Dq 5 Y (.guarded ((decide (i = 0)) == false) Y Y Y Y fun h => Zd<|ov Y)<|Dq 6 Y (.guarded ((decide (i = 0)) == false) Y Y Y Y fun h => Zd<|ov Y)<|Dq 7 Y (.guarded ((decide (i = 0)) == false) Y Y Y Y fun h => Zdv (ow Y h) (ov Y) Y)<|bE h fun x2 h_x2 h=>Dq 8 Y (.guarded ((decide (i = 0)) == false) Y Y Y Y fun h => ZX (ow Y h) (ow Y h) Je<|gdT h_x2 h)<|Dq 9 Y (.guarded ((decide (i = 0)) == false) Y Y Y Y fun h => ZI (ow Y h) QL)<|Dq 10 Y (.guarded ((decide (i = 0)) == false) Y Y Y Y fun h => Zh (ow Y h) tS3<|Zl QK)<|Dq 11 Y (.guarded ((decide (i = 0)) == false) Y Y Y Y fun h => Zdv (ow Y h) (ow Y h) Y)<|Dq 12 Y (.guarded ((decide (i = 0)) == false) Y Y Y Y fun h => ZbR (ow Y h)<|ov Y)<|Dq 13 Y (JH (ov Y) fun hp=>ow Y<|gF hp)<|D1 14 Zd Y<|Dq 15 Y (.guarded (((decide (i = 0)) || (decide (192 ≤ (i64 (x.At - x2.At))))) == true) Y Y Y Y fun h => Zd<|ov Y)<|Dq 16 Y (.guarded (((decide (i = 0)) || (decide (192 ≤ (i64 (x.At - x2.At))))) == true) Y Y Y Y fun h => Zd<|ov Y)<|Dq 17 Y (.guarded (((decide (i = 0)) || (decide (192 ≤ (i64 (x.At - x2.At))))) == true) Y Y Y Y fun h => Zcj (ZE (ow Y h) tZ_51) Je<|Jo _ _)<|Dq 18 Y (.guarded (((decide (i = 0)) || (decide (192 ≤ (i64 (x.At - x2.At))))) == true) Y Y Y Y fun h => Zdv (ow Y h) (ov Y) Y)<|Dq 19 Y (.guarded (((decide (i = 0)) || (decide (192 ≤ (i64 (x.At - x2.At))))) == true) Y Y Y Y fun h => QC (ow Y h)<|ow Y h)<|Dq 20 Y (.guarded (((decide (i = 0)) || (decide (192 ≤ (i64 (x.At - x2.At))))) == true) Y Y Y Y fun h => Zd<|ow Y h)<|Dq 21 Y (.guarded2 ((((decide (i = 0)) || (decide (192 ≤ (i64 (x.At - x2.At))))) == true) && ((decide (i = (i64 ((y.length : Int) - 1)))) == false)) Y Y Y Y fun h => Zd<|ov Y)<|Dq 22 Y (.guarded2 ((((decide (i = 0)) || (decide (192 ≤ (i64 (x.At - x2.At))))) == true) && ((decide (i = (i64 ((y.length : Int) - 1)))) == false)) Y Y Y Y fun h => Zd<|ov Y)<|Dq 23 Y (.guarded2 ((((decide (i = 0)) || (decide (192 ≤ (i64 (x.At - x2.At))))) == true) && ((decide (i = (i64 ((y.length : Int) - 1)))) == false)) Y Y Y Y fun h => ZhD (ow Y h) (ov Y) Y)<|bE h fun x3 h_x3 h=>Dq 24 Y (.guarded2 ((((decide (i = 0)) || (decide (192 ≤ (i64 (x.At - x2.At))))) == true) && ((decide (i = (i64 ((y.length : Int) - 1)))) == false)) Y Y Y Y fun h => ZX (ow Y h) (ow Y h) Je<|gdT h_x3 h)<|Dq 25 Y (.guarded2 ((((decide (i = 0)) || (decide (192 ≤ (i64 (x.At - x2.At))))) == true) && ((decide (i = (i64 ((y.length : Int) - 1)))) == false)) Y Y Y Y fun h => ZI (ow Y h) QL)<|Dq 26 Y (.guarded2 ((((decide (i = 0)) || (decide (192 ≤ (i64 (x.At - x2.At))))) == true) && ((decide (i = (i64 ((y.length : Int) - 1)))) == false)) Y Y Y Y fun h => Zh (ow Y h) tS3<|Zl QK)<|Dq 27 Y (.guarded2 ((((decide (i = 0)) || (decide (192 ≤ (i64 (x.At - x2.At))))) == true) && ((decide (i = (i64 ((y.length : Int) - 1)))) == false)) Y Y Y Y fun h => Zc (ov Y) Y Y QL)<|Dq 28 Y (.guarded2 ((((decide (i = 0)) || (decide (192 ≤ (i64 (x.At - x2.At))))) == true) && ((decide (i = (i64 ((y.length : Int) - 1)))) == false)) Y Y Y Y fun h => Zj (ow Y h) Y Y Y tS3<|Zl QK)<|Dq 29 Y (.guarded2 ((((decide (i = 0)) || (decide (192 ≤ (i64 (x.At - x2.At))))) == true) && ((decide (i = (i64 ((y.length : Int) - 1)))) == false)) Y Y Y Y fun h => Zdv (ow Y h) (ow Y h) Y)<|Dq 30 Y (.guarded2 ((((decide (i = 0)) || (decide (192 ≤ (i64 (x.At - x2.At))))) == true) && ((decide (i = (i64 ((y.length : Int) - 1)))) == false)) Y Y Y Y fun h => ZbR (ow Y h)<|ov Y)<|Dq 31 Y (.guarded (((decide (i = 0)) || (decide (192 ≤ (i64 (x.At - x2.At))))) == true) Y Y Y Y fun h => JH (ow Y h) fun hp=>ow Y<|gA h<|gF hp)<|Dq 32 Y (XU (ov Y) fun hp=>ow Y<|gT hp)<|Dd<|K7 3 4 6 9 10 11 48 Y<|If h Y (fun h=>?_) fun h=>?_
   ·
    exact K6 3 4 6 9 10 11 Y<|ZC<|Rm Y<|Rq Y (ZB (ov Y) Y Y Y Zek (Zr<|Zg ln4) ln4 (hns := ns7))<|R_q (.sl 51<|List.map R51 ([x] : List api_Found)) Y (X5 Je (.cons (cva<|ov Y) ln4 (pwD al5) .nil) Y Y)<|bE h fun l h_l h=>Rx Y (Zv (ov Y) (ZE (ov Y) tZ_51) Je Y Y Y (fun x=>Zb<|E51 x) Y h_l)<|Ra Y<|Za<|K5 3 4 9 10 11 Y<|ZC<|R2 Z2 Y<|Rm Y<|Za<|⟨_, h, ES [some 0]⟩
   ·
    exact Zm<|K5 3 4 9 10 11 Y<|ZC<|R2 Z2 Y<|Rm Y<|Za<|⟨_, h, ES [some 0]⟩
  ·
   refine ZT<|?_
   replace h := lx h ▸ ho1
   exact ⟨_, h, ES [some 0]⟩
 ·
  refine Tr<|Rm Y<|Ra Y<|Za<|?_
  obtain rfl := rt h
  exact Zu<|Zlv [some 0] Y (.cons (.tmp Y) .nil) (.cons Y (roM D51) .nil) Y Y<|.own _ Y
theorem ZbQ {f : Vector Int 64} {r : Int × Bool} (h : Jj f = some r) :
 CSpec Tryz.prog gl0 55 [.agg (List.map C26 f.toList)] (.tuple [.int .i64 r.1, .bool r.2]) := by
 unfold Jj at h
 replace h := Qf h
 refine So Tryz.func55 Y fun w0 A=>Tr<|Rq Y (Qo (cva<|ov Y) arL tZ_28<|arD fun _ => Y)<|Ra Y<|Ra Y<|Za<|Zs<|K1 1 Y<|Tr<|bE h fun x h_x h=>Rq Y (QS (ov Y) (ov Y) QI h_x)<|Rq Y (Zh (ov Y) QO<|Zl<|Z8 (o := 0) (o' := ((Int.toNat 1) * 1)) (Zg arL)<|Z0 h_x)<|bE h fun y h_y h=>Rq Y (Zq (Zbc h_y)<|.cons (ov Y) (.b Y) .nil)<|R1 Ji Y<|Rm Y<|bE h fun x2 h_x2 h=>Rq Y (.guarded ((!y) == false) Y Y Y Y fun h => QS (ov Y) (ov Y) QI<|gdT h_x2 h)<|Rq Y (.guarded ((!y) == false) Y Y Y Y fun h => Zh (ow Y h) QO<|Zl<|Z8 (o := 0) (o' := ((Int.toNat 2) * 1)) (Zg arL)<|Z0<|gdT h_x2 h)<|bE h fun y2 h_y2 h=>Rq Y (.guarded ((!y) == false) Y Y Y Y fun h => Zq (Zbc<|gdT h_y2 h)<|.cons (ow Y h) (.b Y) .nil)<|Rq Y (.guarded ((!y) == false) Y Y Y Y fun h => Ji<|ow Y h)<|Rq Y (JH (ov Y) fun hp=>ow Y<|gF hp)<|Za<|K2 1 13 Y<|If h Y (fun h=>?_) fun h=>?_
 ·
  refine K0<|Tr<|Ra Y<|Ra Y<|Za<|?_
  obtain rfl := rt h
  exact Zu (ZL Y (.two (rb Y)<|rb Y))
 ·
  refine Zm<|K1 1 Y<|Tr<|bE h fun y3 h_y3 h=>Rq Y (Zq (JD h_y3)<|.cons (ov Y) (.b Y) .nil)<|Ra Y<|Ra Y<|Za<|?_
  obtain rfl := rt h
  exact Zu (ZL Y (.two (rb Y)<|rb Y))
theorem ZdU {h_ : List Int} {r : salvage_finder} (h : XT h_ = some r) :
 CSpec Tryz.prog gl0 40 [.sl 5 (List.map R5 h_)] (.rp [.sl 5 (List.map R5 r.h_), .sl 51 (List.map R51 r.certain), .sl 3 (List.map R3 r.numbers), .any] 0) := by
 unfold XT at h
 replace h := Qf h
 refine So Tryz.func40 Y fun w0 A=>Tr<|Ra Y<|Za<|K1 0 Y<|Tr<|Rm Y<|Rm Y<|bE h fun y h_y h=>Rx Y (Zdj [] (Zd5 h_y) (.cons (ov Y) (.dat Y) .nil) .nil Y (.lent 0 (.inr ⟨Nat.le_of_ble_eq_true Y, Y⟩) Y (roM D51) .nil) Y Y<|.own _<|.inr ⟨Nat.le_of_ble_eq_true Y, Y⟩)<|Rx Y (ZfO 1 Y ZH)<|Rq Y (JZ (ys := [_, _, _, _]) ZoJ ZoQ Zpu (.cons (cvs (ov Y)<|ZY Y)<|.cons (cvs (ov Y)<|ZY Y)<|.cons (cvs (ov Y)<|ZY Y) .nil) Y)<|Rx Y (Zkt 2 Y (ov Y) Zpz Y)<|Ra Y<|Za<|I2 (fun numbers at__=>⟨[(3, .ptr 0 1 0 0)], [some ⟨87, [[.sl 5 (List.map R5 h_), .own 1 y.length, .own 2 numbers.length, .mref 3 1]]⟩, some ⟨51, List.map R51 y⟩, some ⟨3, List.map R3 numbers⟩, some ⟨85, [[.mcon (List.map (Qw FK3 FV3) at__)]]⟩]⟩) h (fun h=>?_) fun numbers at__ h=>?_
 ·
  refine K1 3 Y<|Tr<|Rm Y<|Rq Y (Zk (ov Y) Y Y)<|Rq Y (Zc (ov Y) Y Y Zbq)<|Rq Y (Zj (ov Y) Y Y Y Zep Y)<|Rq Y (ZcN (ov Y) Y Y Je)<|Rm Y<|Za<|Zn<|?_
  obtain ⟨r1, hl1, ho1⟩ := Xq h
  refine L3 (fun numbers2 at__2 i=>⟨[(3, .ptr 0 1 0 0), (17, .own 1 y.length), (18, .int .i64 (y.length : Int)), (19, .int .i64 i)], [some ⟨87, [[.sl 5 (List.map R5 h_), .own 1 y.length, .own 2 numbers2.length, .mref 3 1]]⟩, some ⟨51, List.map R51 y⟩, some ⟨3, List.map R3 numbers2⟩, some ⟨85, [[.mcon (List.map (Qw FK3 FV3) at__2)]]⟩]⟩) hl1 (ES [some 2, some 0, none, some 1] (hhp := .cons Y (ro1 (by exact tZ_87.symm)<|rlc (.dat Y)<|rlc (.own _ Y)<|rlc (.row Y)<|rlc (.mref _ Y) rln)<|.cons Y (roM D51)<|.row 3<|.cons Y (ZS (fk := FK3) (fv := FV3) (m := ([] : List (Int × Int))) tZ_85 (fun _=>.dat Y) fun _=>.ren<|.dat Y) .nil)) fun n1 numbers2 at__2 i h=>?_
  unfold Xg at h
  refine Tr<|R2 Z4 Y<|Za<|Zs<|If h Y (fun h=>?_) fun h=>?_
  ·
   refine Zm<|I2 (fun numbers3 at__3=>⟨[(3, .ptr 0 1 0 0), (17, .own 1 y.length), (18, .int .i64 (y.length : Int)), (19, .int .i64 i)], [some ⟨87, [[.sl 5 (List.map R5 h_), .own 1 y.length, .own 2 numbers3.length, .mref 3 1]]⟩, some ⟨51, List.map R51 y⟩, some ⟨3, List.map R3 numbers3⟩, some ⟨85, [[.mcon (List.map (Qw FK3 FV3) at__3)]]⟩]⟩) h (fun h=>?_) fun numbers3 at__3 h=>?_
   ·
    refine Zn<|K4 3 17 18 19 Y<|Tr<|Rm Y<|bE h fun x h_x h=>Rq Y (Za2 (ov Y) (ov Y) Je Y Y h_x)<|Rq Y (Zjs (ov Y) Y Y h_x Zek (Zr<|Zg ln4) ln4 (hns := ns7))<|Rx Y (ZP (row := (.int .i64 0) :: ((List.map C26 (Vector.replicate 64 0).toList) ++ ([]))) 4 Y ZjB (by kernel_rfl)<|by exact Eq.symm (Eq.trans (b := 65) ln4 tZ_51.symm))<|Ra Y<|Rx Y (Ze (ov Y) (ov Y) (Zo Zek ln4) Y Y Y (ZF (Zg ln4) ln4) (Zb al6)<|ZK<|Eq.trans ln4<|Eq.symm ln4)<|Za<|K6 3 4 5 17 18 19 Y<|Tr<|Rq Y (Zc (ov Y) Y Y ZjN)<|Rq Y (ZB (ov Y) Y Y Y Z7 (Zr at2) arL (hns := (nsM fun _ => Y)))<|bE h fun y2 h_y2 h=>Rq Y (Zq (ZbQ h_y2)<|.cons (ov Y) (.aggB<|arD fun _ => Y) .nil)<|Rm Y<|Rq Y (Zi (ov Y) Y)<|Rq Y (Zi (ov Y) Y)<|Ra Y<|Ra Y<|Za<|K7 3 4 5 6 17 18 19 Y<|Zac (cw := md0) (by kernel_rfl)<|D1 7 Zd Y<|Dq 8 Y (Zk (ov Y) Y Y)<|Dq 9 Y (Zc (ov Y) Y Y Ql)<|Dq 10 Y (Zj (ov Y) Y Y Y QZ Y)<|D1 11 Zd Y<|Zin 12 (.sl 3<|List.map R3 ([y2.1] : List Int)) Y (by kernel_rfl) Y Y (X5 QQ (.cons (cvs (ov Y)<|ZY Y) Y (.cons (.b Y) .nil) .nil) Y Y)<|ZaG 0 _ Y (by kernel_rfl) Y Y (fun hp'=>Zd<|ov Y)<|ZaG 1 _ Y (by kernel_rfl) Y Y (fun hp'=>Zd<|ov Y)<|ZaG 14 _ Y (by kernel_rfl) Y Y (fun hp'=>Zd<|ov Y)<|bE h fun l h_l h=>Zdr [2, 5, 13] (by kernel_rfl)<|.q Y Y Y (Zk (ov Y) Y Y) ?_<|.q Y Y Y (Zc (ov Y) Y Y QL) ?_<|.w Y Y Y (fun h=>by cases h) (fun h=>by cases h) (Zv (ov Y) (ZE (ov Y) tZ_3) QQ Y Y Y (fun _=>Zb Y) Y h_l) ?_ .nil
    ·
     refine Zdr [3, 5, 13] (by kernel_rfl)<|.q Y Y Y (Zc (ov Y) Y Y Zaz) ?_<|.q Y Y Y (Zc (ov Y) Y Y QL) ?_<|.w Y Y Y (fun h=>by cases h) (fun h=>by cases h) (Zv (ov Y) (ZE (ov Y) tZ_3) QQ Y Y Y (fun _=>Zb Y) Y h_l) ?_ .nil
     ·
      refine Zdr [4, 5, 13] (by kernel_rfl)<|.q Y Y Y (Zj (ov Y) Y Y Y Zbf Y) ?_<|.q Y Y Y (Zc (ov Y) Y Y QL) ?_<|.w Y Y Y (fun h=>by cases h) (fun h=>by cases h) (Zv (ov Y) (ZE (ov Y) tZ_3) QQ Y Y Y (fun _=>Zb Y) Y h_l) ?_ .nil
      ·
       refine Dw 5 13 Y (Zc (ov Y) Y Y QL) (Zv (ov Y) (ZE (ov Y) tZ_3) QQ Y Y Y (fun _=>Zb Y) Y h_l) ?_ ?_
       ·
        refine Dw 6 13 Y (Zj (ov Y) Y Y Y tS3<|Zl QK) (Zv (ov Y) (ZE (ov Y) tZ_3) QQ Y Y Y (fun _=>Zb Y) Y h_l) ?_ ?_
        ·
         exact Do 13 Y (Zv (ov Y) (ZE (ov Y) tZ_3) QQ Y Y Y (fun _=>Zb Y) Y h_l)<|Dq 15 Y (Zk (ov Y) Y Y)<|Dq 16 Y (Zc (ov Y) Y Y Ql)<|Do 17 Y (Ze (ov Y) (ov Y) (Zf QZ) Y Y Y (Nat.le_of_ble_eq_true Y) (Zb Y) Y)<|Do 18 Y (Zw (m := at__2) (fk := FK3) (fv := FV3) (k := x.At) (z0 := 0) (ov Y) (ov Y) ZH Qn Y (fun _=>.b Y)<|Zt Xj Y)<|Dq 19 Y (Zi (ov Y) Y)<|Do 20 Y (Zp (m := at__2) (fk := FK3) (fv := FV3) (k := x.At) (v := i) (ov Y) (ov Y) (ov Y) ZH Y)<|Dd<|⟨_, h, ES [some 0, some 1, some 2, some 3] (hhp := .cons Y (ro1 (by exact tZ_87.symm)<|rlc (.dat Y)<|rlc (.own _ Y)<|rlc (.own _ Y)<|rlc (.mref _ Y) rln)<|.cons Y (roM D51)<|.cons Y (roM D3)<|.cons Y (ZS (fk := FK3) (fv := FV3) (m := (ZV kqI at__2 x.At i)) tZ_85 (fun _=>.dat Y) fun _=>.ren<|.dat Y) .nil)⟩
        ·
         refine Dq 15 Y (Zk (ov Y) Y Y)<|Dq 16 Y (Zc (ov Y) Y Y Ql)<|Dw 6 17 Y (Zj (ov Y) Y Y Y tS3<|Zl QK) (Ze (ov Y) (ov Y) (Zf QZ) Y Y Y (Nat.le_of_ble_eq_true Y) (Zb Y) Y) ?_ ?_
         ·
          exact Do 17 Y (Ze (ov Y) (ov Y) (Zf QZ) Y Y Y (Nat.le_of_ble_eq_true Y) (Zb Y) Y)<|Do 18 Y (Zw (m := at__2) (fk := FK3) (fv := FV3) (k := x.At) (z0 := 0) (ov Y) (ov Y) ZH Qn Y (fun _=>.b Y)<|Zt Xj Y)<|Dq 19 Y (Zi (ov Y) Y)<|Do 20 Y (Zp (m := at__2) (fk := FK3) (fv := FV3) (k := x.At) (v := i) (ov Y) (ov Y) (ov Y) ZH Y)<|Dd<|⟨_, h, ES [some 0, some 1, some 2, some 3] (hhp := .cons Y (ro1 (by exact tZ_87.symm)<|rlc (.dat Y)<|rlc (.own _ Y)<|rlc (.own _ Y)<|rlc (.mref _ Y) rln)<|.cons Y (roM D51)<|.cons Y (roM D3)<|.cons Y (ZS (fk := FK3) (fv := FV3) (m := (ZV kqI at__2 x.At i)) tZ_85 (fun _=>.dat Y) fun _=>.ren<|.dat Y) .nil)⟩
         ·
          exact Dq 6 Y (Zj (ov Y) Y Y Y tS3<|Zl QK)<|Do 18 Y (Zw (m := at__2) (fk := FK3) (fv := FV3) (k := x.At) (z0 := 0) (ov Y) (ov Y) ZH Qn Y (fun _=>.b Y)<|Zt Xj Y)<|Dq 19 Y (Zi (ov Y) Y)<|Do 20 Y (Zp (m := at__2) (fk := FK3) (fv := FV3) (k := x.At) (v := i) (ov Y) (ov Y) (ov Y) ZH Y)<|Dd<|⟨_, h, ES [some 0, some 1, some 2, some 3] (hhp := .cons Y (ro1 (by exact tZ_87.symm)<|rlc (.dat Y)<|rlc (.own _ Y)<|rlc (.own _ Y)<|rlc (.mref _ Y) rln)<|.cons Y (roM D51)<|.cons Y (roM D3)<|.cons Y (ZS (fk := FK3) (fv := FV3) (m := (ZV kqI at__2 x.At i)) tZ_85 (fun _=>.dat Y) fun _=>.ren<|.dat Y) .nil)⟩
       ·
        refine Dq 15 Y (Zk (ov Y) Y Y)<|Dq 16 Y (Zc (ov Y) Y Y Ql)<|Dw 5 17 Y (Zc (ov Y) Y Y QL) (Ze (ov Y) (ov Y) (Zf QZ) Y Y Y (Nat.le_of_ble_eq_true Y) (Zb Y) Y) ?_ ?_
        ·
         refine Dw 6 17 Y (Zj (ov Y) Y Y Y tS3<|Zl QK) (Ze (ov Y) (ov Y) (Zf QZ) Y Y Y (Nat.le_of_ble_eq_true Y) (Zb Y) Y) ?_ ?_
         ·
          exact Do 17 Y (Ze (ov Y) (ov Y) (Zf QZ) Y Y Y (Nat.le_of_ble_eq_true Y) (Zb Y) Y)<|Do 18 Y (Zw (m := at__2) (fk := FK3) (fv := FV3) (k := x.At) (z0 := 0) (ov Y) (ov Y) ZH Qn Y (fun _=>.b Y)<|Zt Xj Y)<|Dq 19 Y (Zi (ov Y) Y)<|Do 20 Y (Zp (m := at__2) (fk := FK3) (fv := FV3) (k := x.At) (v := i) (ov Y) (ov Y) (ov Y) ZH Y)<|Dd<|⟨_, h, ES [some 0, some 1, some 2, some 3] (hhp := .cons Y (ro1 (by exact tZ_87.symm)<|rlc (.dat Y)<|rlc (.own _ Y)<|rlc (.own _ Y)<|rlc (.mref _ Y) rln)<|.cons Y (roM D51)<|.cons Y (roM D3)<|.cons Y (ZS (fk := FK3) (fv := FV3) (m := (ZV kqI at__2 x.At i)) tZ_85 (fun _=>.dat Y) fun _=>.ren<|.dat Y) .nil)⟩
         ·
          exact Dq 6 Y (Zj (ov Y) Y Y Y tS3<|Zl QK)<|Do 18 Y (Zw (m := at__2) (fk := FK3) (fv := FV3) (k := x.At) (z0 := 0) (ov Y) (ov Y) ZH Qn Y (fun _=>.b Y)<|Zt Xj Y)<|Dq 19 Y (Zi (ov Y) Y)<|Do 20 Y (Zp (m := at__2) (fk := FK3) (fv := FV3) (k := x.At) (v := i) (ov Y) (ov Y) (ov Y) ZH Y)<|Dd<|⟨_, h, ES [some 0, some 1, some 2, some 3] (hhp := .cons Y (ro1 (by exact tZ_87.symm)<|rlc (.dat Y)<|rlc (.own _ Y)<|rlc (.own _ Y)<|rlc (.mref _ Y) rln)<|.cons Y (roM D51)<|.cons Y (roM D3)<|.cons Y (ZS (fk := FK3) (fv := FV3) (m := (ZV kqI at__2 x.At i)) tZ_85 (fun _=>.dat Y) fun _=>.ren<|.dat Y) .nil)⟩
        ·
         exact Dq 5 Y (Zc (ov Y) Y Y QL)<|Dq 6 Y (Zj (ov Y) Y Y Y tS3<|Zl QK)<|Do 18 Y (Zw (m := at__2) (fk := FK3) (fv := FV3) (k := x.At) (z0 := 0) (ov Y) (ov Y) ZH Qn Y (fun _=>.b Y)<|Zt Xj Y)<|Dq 19 Y (Zi (ov Y) Y)<|Do 20 Y (Zp (m := at__2) (fk := FK3) (fv := FV3) (k := x.At) (v := i) (ov Y) (ov Y) (ov Y) ZH Y)<|Dd<|⟨_, h, ES [some 0, some 1, some 2, some 3] (hhp := .cons Y (ro1 (by exact tZ_87.symm)<|rlc (.dat Y)<|rlc (.own _ Y)<|rlc (.own _ Y)<|rlc (.mref _ Y) rln)<|.cons Y (roM D51)<|.cons Y (roM D3)<|.cons Y (ZS (fk := FK3) (fv := FV3) (m := (ZV kqI at__2 x.At i)) tZ_85 (fun _=>.dat Y) fun _=>.ren<|.dat Y) .nil)⟩
      ·
       refine Zdr [4, 6, 13] (by kernel_rfl)<|.q Y Y Y (Zj (ov Y) Y Y Y Zbf Y) ?_<|.q Y Y Y (Zj (ov Y) Y Y Y tS3<|Zl QK) ?_<|.w Y Y Y (fun h=>by cases h) (fun h=>by cases h) (Zv (ov Y) (ZE (ov Y) tZ_3) QQ Y Y Y (fun _=>Zb Y) Y h_l) ?_ .nil
       ·
        refine Dw 6 13 Y (Zj (ov Y) Y Y Y tS3<|Zl QK) (Zv (ov Y) (ZE (ov Y) tZ_3) QQ Y Y Y (fun _=>Zb Y) Y h_l) ?_ ?_
        ·
         exact Do 13 Y (Zv (ov Y) (ZE (ov Y) tZ_3) QQ Y Y Y (fun _=>Zb Y) Y h_l)<|Dq 15 Y (Zk (ov Y) Y Y)<|Dq 16 Y (Zc (ov Y) Y Y Ql)<|Do 17 Y (Ze (ov Y) (ov Y) (Zf QZ) Y Y Y (Nat.le_of_ble_eq_true Y) (Zb Y) Y)<|Do 18 Y (Zw (m := at__2) (fk := FK3) (fv := FV3) (k := x.At) (z0 := 0) (ov Y) (ov Y) ZH Qn Y (fun _=>.b Y)<|Zt Xj Y)<|Dq 19 Y (Zi (ov Y) Y)<|Do 20 Y (Zp (m := at__2) (fk := FK3) (fv := FV3) (k := x.At) (v := i) (ov Y) (ov Y) (ov Y) ZH Y)<|Dd<|⟨_, h, ES [some 0, some 1, some 2, some 3] (hhp := .cons Y (ro1 (by exact tZ_87.symm)<|rlc (.dat Y)<|rlc (.own _ Y)<|rlc (.own _ Y)<|rlc (.mref _ Y) rln)<|.cons Y (roM D51)<|.cons Y (roM D3)<|.cons Y (ZS (fk := FK3) (fv := FV3) (m := (ZV kqI at__2 x.At i)) tZ_85 (fun _=>.dat Y) fun _=>.ren<|.dat Y) .nil)⟩
        ·
         refine Dq 15 Y (Zk (ov Y) Y Y)<|Dq 16 Y (Zc (ov Y) Y Y Ql)<|Dw 6 17 Y (Zj (ov Y) Y Y Y tS3<|Zl QK) (Ze (ov Y) (ov Y) (Zf QZ) Y Y Y (Nat.le_of_ble_eq_true Y) (Zb Y) Y) ?_ ?_
         ·
          exact Do 17 Y (Ze (ov Y) (ov Y) (Zf QZ) Y Y Y (Nat.le_of_ble_eq_true Y) (Zb Y) Y)<|Do 18 Y (Zw (m := at__2) (fk := FK3) (fv := FV3) (k := x.At) (z0 := 0) (ov Y) (ov Y) ZH Qn Y (fun _=>.b Y)<|Zt Xj Y)<|Dq 19 Y (Zi (ov Y) Y)<|Do 20 Y (Zp (m := at__2) (fk := FK3) (fv := FV3) (k := x.At) (v := i) (ov Y) (ov Y) (ov Y) ZH Y)<|Dd<|⟨_, h, ES [some 0, some 1, some 2, some 3] (hhp := .cons Y (ro1 (by exact tZ_87.symm)<|rlc (.dat Y)<|rlc (.own _ Y)<|rlc (.own _ Y)<|rlc (.mref _ Y) rln)<|.cons Y (roM D51)<|.cons Y (roM D3)<|.cons Y (ZS (fk := FK3) (fv := FV3) (m := (ZV kqI at__2 x.At i)) tZ_85 (fun _=>.dat Y) fun _=>.ren<|.dat Y) .nil)⟩
         ·
          exact Dq 6 Y (Zj (ov Y) Y Y Y tS3<|Zl QK)<|Do 18 Y (Zw (m := at__2) (fk := FK3) (fv := FV3) (k := x.At) (z0 := 0) (ov Y) (ov Y) ZH Qn Y (fun _=>.b Y)<|Zt Xj Y)<|Dq 19 Y (Zi (ov Y) Y)<|Do 20 Y (Zp (m := at__2) (fk := FK3) (fv := FV3) (k := x.At) (v := i) (ov Y) (ov Y) (ov Y) ZH Y)<|Dd<|⟨_, h, ES [some 0, some 1, some 2, some 3] (hhp := .cons Y (ro1 (by exact tZ_87.symm)<|rlc (.dat Y)<|rlc (.own _ Y)<|rlc (.own _ Y)<|rlc (.mref _ Y) rln)<|.cons Y (roM D51)<|.cons Y (roM D3)<|.cons Y (ZS (fk := FK3) (fv := FV3) (m := (ZV kqI at__2 x.At i)) tZ_85 (fun _=>.dat Y) fun _=>.ren<|.dat Y) .nil)⟩
       ·
        refine Dw 4 13 Y (Zj (ov Y) Y Y Y Zbf Y) (Zv (ov Y) (ZE (ov Y) tZ_3) QQ Y Y Y (fun _=>Zb Y) Y h_l) ?_ ?_
        ·
         exact Do 13 Y (Zv (ov Y) (ZE (ov Y) tZ_3) QQ Y Y Y (fun _=>Zb Y) Y h_l)<|Dq 15 Y (Zk (ov Y) Y Y)<|Dq 16 Y (Zc (ov Y) Y Y Ql)<|Do 17 Y (Ze (ov Y) (ov Y) (Zf QZ) Y Y Y (Nat.le_of_ble_eq_true Y) (Zb Y) Y)<|Do 18 Y (Zw (m := at__2) (fk := FK3) (fv := FV3) (k := x.At) (z0 := 0) (ov Y) (ov Y) ZH Qn Y (fun _=>.b Y)<|Zt Xj Y)<|Dq 19 Y (Zi (ov Y) Y)<|Do 20 Y (Zp (m := at__2) (fk := FK3) (fv := FV3) (k := x.At) (v := i) (ov Y) (ov Y) (ov Y) ZH Y)<|Dd<|⟨_, h, ES [some 0, some 1, some 2, some 3] (hhp := .cons Y (ro1 (by exact tZ_87.symm)<|rlc (.dat Y)<|rlc (.own _ Y)<|rlc (.own _ Y)<|rlc (.mref _ Y) rln)<|.cons Y (roM D51)<|.cons Y (roM D3)<|.cons Y (ZS (fk := FK3) (fv := FV3) (m := (ZV kqI at__2 x.At i)) tZ_85 (fun _=>.dat Y) fun _=>.ren<|.dat Y) .nil)⟩
        ·
         exact Dq 4 Y (Zj (ov Y) Y Y Y Zbf Y)<|Dq 15 Y (Zk (ov Y) Y Y)<|Dq 16 Y (Zc (ov Y) Y Y Ql)<|Do 17 Y (Ze (ov Y) (ov Y) (Zf QZ) Y Y Y (Nat.le_of_ble_eq_true Y) (Zb Y) Y)<|Do 18 Y (Zw (m := at__2) (fk := FK3) (fv := FV3) (k := x.At) (z0 := 0) (ov Y) (ov Y) ZH Qn Y (fun _=>.b Y)<|Zt Xj Y)<|Dq 19 Y (Zi (ov Y) Y)<|Do 20 Y (Zp (m := at__2) (fk := FK3) (fv := FV3) (k := x.At) (v := i) (ov Y) (ov Y) (ov Y) ZH Y)<|Dd<|⟨_, h, ES [some 0, some 1, some 2, some 3] (hhp := .cons Y (ro1 (by exact tZ_87.symm)<|rlc (.dat Y)<|rlc (.own _ Y)<|rlc (.own _ Y)<|rlc (.mref _ Y) rln)<|.cons Y (roM D51)<|.cons Y (roM D3)<|.cons Y (ZS (fk := FK3) (fv := FV3) (m := (ZV kqI at__2 x.At i)) tZ_85 (fun _=>.dat Y) fun _=>.ren<|.dat Y) .nil)⟩
       ·
        refine Dq 4 Y (Zj (ov Y) Y Y Y Zbf Y)<|Dq 15 Y (Zk (ov Y) Y Y)<|Dq 16 Y (Zc (ov Y) Y Y Ql)<|Dw 6 17 Y (Zj (ov Y) Y Y Y tS3<|Zl QK) (Ze (ov Y) (ov Y) (Zf QZ) Y Y Y (Nat.le_of_ble_eq_true Y) (Zb Y) Y) ?_ ?_
        ·
         exact Do 17 Y (Ze (ov Y) (ov Y) (Zf QZ) Y Y Y (Nat.le_of_ble_eq_true Y) (Zb Y) Y)<|Do 18 Y (Zw (m := at__2) (fk := FK3) (fv := FV3) (k := x.At) (z0 := 0) (ov Y) (ov Y) ZH Qn Y (fun _=>.b Y)<|Zt Xj Y)<|Dq 19 Y (Zi (ov Y) Y)<|Do 20 Y (Zp (m := at__2) (fk := FK3) (fv := FV3) (k := x.At) (v := i) (ov Y) (ov Y) (ov Y) ZH Y)<|Dd<|⟨_, h, ES [some 0, some 1, some 2, some 3] (hhp := .cons Y (ro1 (by exact tZ_87.symm)<|rlc (.dat Y)<|rlc (.own _ Y)<|rlc (.own _ Y)<|rlc (.mref _ Y) rln)<|.cons Y (roM D51)<|.cons Y (roM D3)<|.cons Y (ZS (fk := FK3) (fv := FV3) (m := (ZV kqI at__2 x.At i)) tZ_85 (fun _=>.dat Y) fun _=>.ren<|.dat Y) .nil)⟩
        ·
         exact Dq 6 Y (Zj (ov Y) Y Y Y tS3<|Zl QK)<|Do 18 Y (Zw (m := at__2) (fk := FK3) (fv := FV3) (k := x.At) (z0 := 0) (ov Y) (ov Y) ZH Qn Y (fun _=>.b Y)<|Zt Xj Y)<|Dq 19 Y (Zi (ov Y) Y)<|Do 20 Y (Zp (m := at__2) (fk := FK3) (fv := FV3) (k := x.At) (v := i) (ov Y) (ov Y) (ov Y) ZH Y)<|Dd<|⟨_, h, ES [some 0, some 1, some 2, some 3] (hhp := .cons Y (ro1 (by exact tZ_87.symm)<|rlc (.dat Y)<|rlc (.own _ Y)<|rlc (.own _ Y)<|rlc (.mref _ Y) rln)<|.cons Y (roM D51)<|.cons Y (roM D3)<|.cons Y (ZS (fk := FK3) (fv := FV3) (m := (ZV kqI at__2 x.At i)) tZ_85 (fun _=>.dat Y) fun _=>.ren<|.dat Y) .nil)⟩
      ·
       refine Dq 4 Y (Zj (ov Y) Y Y Y Zbf Y)<|Dq 15 Y (Zk (ov Y) Y Y)<|Dq 16 Y (Zc (ov Y) Y Y Ql)<|Dw 5 17 Y (Zc (ov Y) Y Y QL) (Ze (ov Y) (ov Y) (Zf QZ) Y Y Y (Nat.le_of_ble_eq_true Y) (Zb Y) Y) ?_ ?_
       ·
        refine Dw 6 17 Y (Zj (ov Y) Y Y Y tS3<|Zl QK) (Ze (ov Y) (ov Y) (Zf QZ) Y Y Y (Nat.le_of_ble_eq_true Y) (Zb Y) Y) ?_ ?_
        ·
         exact Do 17 Y (Ze (ov Y) (ov Y) (Zf QZ) Y Y Y (Nat.le_of_ble_eq_true Y) (Zb Y) Y)<|Do 18 Y (Zw (m := at__2) (fk := FK3) (fv := FV3) (k := x.At) (z0 := 0) (ov Y) (ov Y) ZH Qn Y (fun _=>.b Y)<|Zt Xj Y)<|Dq 19 Y (Zi (ov Y) Y)<|Do 20 Y (Zp (m := at__2) (fk := FK3) (fv := FV3) (k := x.At) (v := i) (ov Y) (ov Y) (ov Y) ZH Y)<|Dd<|⟨_, h, ES [some 0, some 1, some 2, some 3] (hhp := .cons Y (ro1 (by exact tZ_87.symm)<|rlc (.dat Y)<|rlc (.own _ Y)<|rlc (.own _ Y)<|rlc (.mref _ Y) rln)<|.cons Y (roM D51)<|.cons Y (roM D3)<|.cons Y (ZS (fk := FK3) (fv := FV3) (m := (ZV kqI at__2 x.At i)) tZ_85 (fun _=>.dat Y) fun _=>.ren<|.dat Y) .nil)⟩
        ·
         exact Dq 6 Y (Zj (ov Y) Y Y Y tS3<|Zl QK)<|Do 18 Y (Zw (m := at__2) (fk := FK3) (fv := FV3) (k := x.At) (z0 := 0) (ov Y) (ov Y) ZH Qn Y (fun _=>.b Y)<|Zt Xj Y)<|Dq 19 Y (Zi (ov Y) Y)<|Do 20 Y (Zp (m := at__2) (fk := FK3) (fv := FV3) (k := x.At) (v := i) (ov Y) (ov Y) (ov Y) ZH Y)<|Dd<|⟨_, h, ES [some 0, some 1, some 2, some 3] (hhp := .cons Y (ro1 (by exact tZ_87.symm)<|rlc (.dat Y)<|rlc (.own _ Y)<|rlc (.own _ Y)<|rlc (.mref _ Y) rln)<|.cons Y (roM D51)<|.cons Y (roM D3)<|.cons Y (ZS (fk := FK3) (fv := FV3) (m := (ZV kqI at__2 x.At i)) tZ_85 (fun _=>.dat Y) fun _=>.ren<|.dat Y) .nil)⟩
       ·
        exact Dq 5 Y (Zc (ov Y) Y Y QL)<|Dq 6 Y (Zj (ov Y) Y Y Y tS3<|Zl QK)<|Do 18 Y (Zw (m := at__2) (fk := FK3) (fv := FV3) (k := x.At) (z0 := 0) (ov Y) (ov Y) ZH Qn Y (fun _=>.b Y)<|Zt Xj Y)<|Dq 19 Y (Zi (ov Y) Y)<|Do 20 Y (Zp (m := at__2) (fk := FK3) (fv := FV3) (k := x.At) (v := i) (ov Y) (ov Y) (ov Y) ZH Y)<|Dd<|⟨_, h, ES [some 0, some 1, some 2, some 3] (hhp := .cons Y (ro1 (by exact tZ_87.symm)<|rlc (.dat Y)<|rlc (.own _ Y)<|rlc (.own _ Y)<|rlc (.mref _ Y) rln)<|.cons Y (roM D51)<|.cons Y (roM D3)<|.cons Y (ZS (fk := FK3) (fv := FV3) (m := (ZV kqI at__2 x.At i)) tZ_85 (fun _=>.dat Y) fun _=>.ren<|.dat Y) .nil)⟩
     ·
      refine Zdr [3, 6, 13] (by kernel_rfl)<|.q Y Y Y (Zc (ov Y) Y Y Zaz) ?_<|.q Y Y Y (Zj (ov Y) Y Y Y tS3<|Zl QK) ?_<|.w Y Y Y (fun h=>by cases h) (fun h=>by cases h) (Zv (ov Y) (ZE (ov Y) tZ_3) QQ Y Y Y (fun _=>Zb Y) Y h_l) ?_ .nil
      ·
       refine Zdr [4, 6, 13] (by kernel_rfl)<|.q Y Y Y (Zj (ov Y) Y Y Y Zbf Y) ?_<|.q Y Y Y (Zj (ov Y) Y Y Y tS3<|Zl QK) ?_<|.w Y Y Y (fun h=>by cases h) (fun h=>by cases h) (Zv (ov Y) (ZE (ov Y) tZ_3) QQ Y Y Y (fun _=>Zb Y) Y h_l) ?_ .nil
       ·
        refine Dw 6 13 Y (Zj (ov Y) Y Y Y tS3<|Zl QK) (Zv (ov Y) (ZE (ov Y) tZ_3) QQ Y Y Y (fun _=>Zb Y) Y h_l) ?_ ?_
        ·
         exact Do 13 Y (Zv (ov Y) (ZE (ov Y) tZ_3) QQ Y Y Y (fun _=>Zb Y) Y h_l)<|Dq 15 Y (Zk (ov Y) Y Y)<|Dq 16 Y (Zc (ov Y) Y Y Ql)<|Do 17 Y (Ze (ov Y) (ov Y) (Zf QZ) Y Y Y (Nat.le_of_ble_eq_true Y) (Zb Y) Y)<|Do 18 Y (Zw (m := at__2) (fk := FK3) (fv := FV3) (k := x.At) (z0 := 0) (ov Y) (ov Y) ZH Qn Y (fun _=>.b Y)<|Zt Xj Y)<|Dq 19 Y (Zi (ov Y) Y)<|Do 20 Y (Zp (m := at__2) (fk := FK3) (fv := FV3) (k := x.At) (v := i) (ov Y) (ov Y) (ov Y) ZH Y)<|Dd<|⟨_, h, ES [some 0, some 1, some 2, some 3] (hhp := .cons Y (ro1 (by exact tZ_87.symm)<|rlc (.dat Y)<|rlc (.own _ Y)<|rlc (.own _ Y)<|rlc (.mref _ Y) rln)<|.cons Y (roM D51)<|.cons Y (roM D3)<|.cons Y (ZS (fk := FK3) (fv := FV3) (m := (ZV kqI at__2 x.At i)) tZ_85 (fun _=>.dat Y) fun _=>.ren<|.dat Y) .nil)⟩
        ·
         refine Dq 15 Y (Zk (ov Y) Y Y)<|Dq 16 Y (Zc (ov Y) Y Y Ql)<|Dw 6 17 Y (Zj (ov Y) Y Y Y tS3<|Zl QK) (Ze (ov Y) (ov Y) (Zf QZ) Y Y Y (Nat.le_of_ble_eq_true Y) (Zb Y) Y) ?_ ?_
         ·
          exact Do 17 Y (Ze (ov Y) (ov Y) (Zf QZ) Y Y Y (Nat.le_of_ble_eq_true Y) (Zb Y) Y)<|Do 18 Y (Zw (m := at__2) (fk := FK3) (fv := FV3) (k := x.At) (z0 := 0) (ov Y) (ov Y) ZH Qn Y (fun _=>.b Y)<|Zt Xj Y)<|Dq 19 Y (Zi (ov Y) Y)<|Do 20 Y (Zp (m := at__2) (fk := FK3) (fv := FV3) (k := x.At) (v := i) (ov Y) (ov Y) (ov Y) ZH Y)<|Dd<|⟨_, h, ES [some 0, some 1, some 2, some 3] (hhp := .cons Y (ro1 (by exact tZ_87.symm)<|rlc (.dat Y)<|rlc (.own _ Y)<|rlc (.own _ Y)<|rlc (.mref _ Y) rln)<|.cons Y (roM D51)<|.cons Y (roM D3)<|.cons Y (ZS (fk := FK3) (fv := FV3) (m := (ZV kqI at__2 x.At i)) tZ_85 (fun _=>.dat Y) fun _=>.ren<|.dat Y) .nil)⟩
         ·
          exact Dq 6 Y (Zj (ov Y) Y Y Y tS3<|Zl QK)<|Do 18 Y (Zw (m := at__2) (fk := FK3) (fv := FV3) (k := x.At) (z0 := 0) (ov Y) (ov Y) ZH Qn Y (fun _=>.b Y)<|Zt Xj Y)<|Dq 19 Y (Zi (ov Y) Y)<|Do 20 Y (Zp (m := at__2) (fk := FK3) (fv := FV3) (k := x.At) (v := i) (ov Y) (ov Y) (ov Y) ZH Y)<|Dd<|⟨_, h, ES [some 0, some 1, some 2, some 3] (hhp := .cons Y (ro1 (by exact tZ_87.symm)<|rlc (.dat Y)<|rlc (.own _ Y)<|rlc (.own _ Y)<|rlc (.mref _ Y) rln)<|.cons Y (roM D51)<|.cons Y (roM D3)<|.cons Y (ZS (fk := FK3) (fv := FV3) (m := (ZV kqI at__2 x.At i)) tZ_85 (fun _=>.dat Y) fun _=>.ren<|.dat Y) .nil)⟩
       ·
        refine Dw 4 13 Y (Zj (ov Y) Y Y Y Zbf Y) (Zv (ov Y) (ZE (ov Y) tZ_3) QQ Y Y Y (fun _=>Zb Y) Y h_l) ?_ ?_
        ·
         exact Do 13 Y (Zv (ov Y) (ZE (ov Y) tZ_3) QQ Y Y Y (fun _=>Zb Y) Y h_l)<|Dq 15 Y (Zk (ov Y) Y Y)<|Dq 16 Y (Zc (ov Y) Y Y Ql)<|Do 17 Y (Ze (ov Y) (ov Y) (Zf QZ) Y Y Y (Nat.le_of_ble_eq_true Y) (Zb Y) Y)<|Do 18 Y (Zw (m := at__2) (fk := FK3) (fv := FV3) (k := x.At) (z0 := 0) (ov Y) (ov Y) ZH Qn Y (fun _=>.b Y)<|Zt Xj Y)<|Dq 19 Y (Zi (ov Y) Y)<|Do 20 Y (Zp (m := at__2) (fk := FK3) (fv := FV3) (k := x.At) (v := i) (ov Y) (ov Y) (ov Y) ZH Y)<|Dd<|⟨_, h, ES [some 0, some 1, some 2, some 3] (hhp := .cons Y (ro1 (by exact tZ_87.symm)<|rlc (.dat Y)<|rlc (.own _ Y)<|rlc (.own _ Y)<|rlc (.mref _ Y) rln)<|.cons Y (roM D51)<|.cons Y (roM D3)<|.cons Y (ZS (fk := FK3) (fv := FV3) (m := (ZV kqI at__2 x.At i)) tZ_85 (fun _=>.dat Y) fun _=>.ren<|.dat Y) .nil)⟩
        ·
         exact Dq 4 Y (Zj (ov Y) Y Y Y Zbf Y)<|Dq 15 Y (Zk (ov Y) Y Y)<|Dq 16 Y (Zc (ov Y) Y Y Ql)<|Do 17 Y (Ze (ov Y) (ov Y) (Zf QZ) Y Y Y (Nat.le_of_ble_eq_true Y) (Zb Y) Y)<|Do 18 Y (Zw (m := at__2) (fk := FK3) (fv := FV3) (k := x.At) (z0 := 0) (ov Y) (ov Y) ZH Qn Y (fun _=>.b Y)<|Zt Xj Y)<|Dq 19 Y (Zi (ov Y) Y)<|Do 20 Y (Zp (m := at__2) (fk := FK3) (fv := FV3) (k := x.At) (v := i) (ov Y) (ov Y) (ov Y) ZH Y)<|Dd<|⟨_, h, ES [some 0, some 1, some 2, some 3] (hhp := .cons Y (ro1 (by exact tZ_87.symm)<|rlc (.dat Y)<|rlc (.own _ Y)<|rlc (.own _ Y)<|rlc (.mref _ Y) rln)<|.cons Y (roM D51)<|.cons Y (roM D3)<|.cons Y (ZS (fk := FK3) (fv := FV3) (m := (ZV kqI at__2 x.At i)) tZ_85 (fun _=>.dat Y) fun _=>.ren<|.dat Y) .nil)⟩
       ·
        refine Dq 4 Y (Zj (ov Y) Y Y Y Zbf Y)<|Dq 15 Y (Zk (ov Y) Y Y)<|Dq 16 Y (Zc (ov Y) Y Y Ql)<|Dw 6 17 Y (Zj (ov Y) Y Y Y tS3<|Zl QK) (Ze (ov Y) (ov Y) (Zf QZ) Y Y Y (Nat.le_of_ble_eq_true Y) (Zb Y) Y) ?_ ?_
        ·
         exact Do 17 Y (Ze (ov Y) (ov Y) (Zf QZ) Y Y Y (Nat.le_of_ble_eq_true Y) (Zb Y) Y)<|Do 18 Y (Zw (m := at__2) (fk := FK3) (fv := FV3) (k := x.At) (z0 := 0) (ov Y) (ov Y) ZH Qn Y (fun _=>.b Y)<|Zt Xj Y)<|Dq 19 Y (Zi (ov Y) Y)<|Do 20 Y (Zp (m := at__2) (fk := FK3) (fv := FV3) (k := x.At) (v := i) (ov Y) (ov Y) (ov Y) ZH Y)<|Dd<|⟨_, h, ES [some 0, some 1, some 2, some 3] (hhp := .cons Y (ro1 (by exact tZ_87.symm)<|rlc (.dat Y)<|rlc (.own _ Y)<|rlc (.own _ Y)<|rlc (.mref _ Y) rln)<|.cons Y (roM D51)<|.cons Y (roM D3)<|.cons Y (ZS (fk := FK3) (fv := FV3) (m := (ZV kqI at__2 x.At i)) tZ_85 (fun _=>.dat Y) fun _=>.ren<|.dat Y) .nil)⟩
        ·
         exact Dq 6 Y (Zj (ov Y) Y Y Y tS3<|Zl QK)<|Do 18 Y (Zw (m := at__2) (fk := FK3) (fv := FV3) (k := x.At) (z0 := 0) (ov Y) (ov Y) ZH Qn Y (fun _=>.b Y)<|Zt Xj Y)<|Dq 19 Y (Zi (ov Y) Y)<|Do 20 Y (Zp (m := at__2) (fk := FK3) (fv := FV3) (k := x.At) (v := i) (ov Y) (ov Y) (ov Y) ZH Y)<|Dd<|⟨_, h, ES [some 0, some 1, some 2, some 3] (hhp := .cons Y (ro1 (by exact tZ_87.symm)<|rlc (.dat Y)<|rlc (.own _ Y)<|rlc (.own _ Y)<|rlc (.mref _ Y) rln)<|.cons Y (roM D51)<|.cons Y (roM D3)<|.cons Y (ZS (fk := FK3) (fv := FV3) (m := (ZV kqI at__2 x.At i)) tZ_85 (fun _=>.dat Y) fun _=>.ren<|.dat Y) .nil)⟩
      ·
       refine Dw 3 13 Y (Zc (ov Y) Y Y Zaz) (Zv (ov Y) (ZE (ov Y) tZ_3) QQ Y Y Y (fun _=>Zb Y) Y h_l) ?_ ?_
       ·
        refine Dw 4 13 Y (Zj (ov Y) Y Y Y Zbf Y) (Zv (ov Y) (ZE (ov Y) tZ_3) QQ Y Y Y (fun _=>Zb Y) Y h_l) ?_ ?_
        ·
         exact Do 13 Y (Zv (ov Y) (ZE (ov Y) tZ_3) QQ Y Y Y (fun _=>Zb Y) Y h_l)<|Dq 15 Y (Zk (ov Y) Y Y)<|Dq 16 Y (Zc (ov Y) Y Y Ql)<|Do 17 Y (Ze (ov Y) (ov Y) (Zf QZ) Y Y Y (Nat.le_of_ble_eq_true Y) (Zb Y) Y)<|Do 18 Y (Zw (m := at__2) (fk := FK3) (fv := FV3) (k := x.At) (z0 := 0) (ov Y) (ov Y) ZH Qn Y (fun _=>.b Y)<|Zt Xj Y)<|Dq 19 Y (Zi (ov Y) Y)<|Do 20 Y (Zp (m := at__2) (fk := FK3) (fv := FV3) (k := x.At) (v := i) (ov Y) (ov Y) (ov Y) ZH Y)<|Dd<|⟨_, h, ES [some 0, some 1, some 2, some 3] (hhp := .cons Y (ro1 (by exact tZ_87.symm)<|rlc (.dat Y)<|rlc (.own _ Y)<|rlc (.own _ Y)<|rlc (.mref _ Y) rln)<|.cons Y (roM D51)<|.cons Y (roM D3)<|.cons Y (ZS (fk := FK3) (fv := FV3) (m := (ZV kqI at__2 x.At i)) tZ_85 (fun _=>.dat Y) fun _=>.ren<|.dat Y) .nil)⟩
        ·
         exact Dq 4 Y (Zj (ov Y) Y Y Y Zbf Y)<|Dq 15 Y (Zk (ov Y) Y Y)<|Dq 16 Y (Zc (ov Y) Y Y Ql)<|Do 17 Y (Ze (ov Y) (ov Y) (Zf QZ) Y Y Y (Nat.le_of_ble_eq_true Y) (Zb Y) Y)<|Do 18 Y (Zw (m := at__2) (fk := FK3) (fv := FV3) (k := x.At) (z0 := 0) (ov Y) (ov Y) ZH Qn Y (fun _=>.b Y)<|Zt Xj Y)<|Dq 19 Y (Zi (ov Y) Y)<|Do 20 Y (Zp (m := at__2) (fk := FK3) (fv := FV3) (k := x.At) (v := i) (ov Y) (ov Y) (ov Y) ZH Y)<|Dd<|⟨_, h, ES [some 0, some 1, some 2, some 3] (hhp := .cons Y (ro1 (by exact tZ_87.symm)<|rlc (.dat Y)<|rlc (.own _ Y)<|rlc (.own _ Y)<|rlc (.mref _ Y) rln)<|.cons Y (roM D51)<|.cons Y (roM D3)<|.cons Y (ZS (fk := FK3) (fv := FV3) (m := (ZV kqI at__2 x.At i)) tZ_85 (fun _=>.dat Y) fun _=>.ren<|.dat Y) .nil)⟩
       ·
        exact Dq 3 Y (Zc (ov Y) Y Y Zaz)<|Dq 4 Y (Zj (ov Y) Y Y Y Zbf Y)<|Dq 15 Y (Zk (ov Y) Y Y)<|Dq 16 Y (Zc (ov Y) Y Y Ql)<|Do 17 Y (Ze (ov Y) (ov Y) (Zf QZ) Y Y Y (Nat.le_of_ble_eq_true Y) (Zb Y) Y)<|Do 18 Y (Zw (m := at__2) (fk := FK3) (fv := FV3) (k := x.At) (z0 := 0) (ov Y) (ov Y) ZH Qn Y (fun _=>.b Y)<|Zt Xj Y)<|Dq 19 Y (Zi (ov Y) Y)<|Do 20 Y (Zp (m := at__2) (fk := FK3) (fv := FV3) (k := x.At) (v := i) (ov Y) (ov Y) (ov Y) ZH Y)<|Dd<|⟨_, h, ES [some 0, some 1, some 2, some 3] (hhp := .cons Y (ro1 (by exact tZ_87.symm)<|rlc (.dat Y)<|rlc (.own _ Y)<|rlc (.own _ Y)<|rlc (.mref _ Y) rln)<|.cons Y (roM D51)<|.cons Y (roM D3)<|.cons Y (ZS (fk := FK3) (fv := FV3) (m := (ZV kqI at__2 x.At i)) tZ_85 (fun _=>.dat Y) fun _=>.ren<|.dat Y) .nil)⟩
      ·
       refine Dq 3 Y (Zc (ov Y) Y Y Zaz)<|Dq 4 Y (Zj (ov Y) Y Y Y Zbf Y)<|Dq 15 Y (Zk (ov Y) Y Y)<|Dq 16 Y (Zc (ov Y) Y Y Ql)<|Dw 6 17 Y (Zj (ov Y) Y Y Y tS3<|Zl QK) (Ze (ov Y) (ov Y) (Zf QZ) Y Y Y (Nat.le_of_ble_eq_true Y) (Zb Y) Y) ?_ ?_
       ·
        exact Do 17 Y (Ze (ov Y) (ov Y) (Zf QZ) Y Y Y (Nat.le_of_ble_eq_true Y) (Zb Y) Y)<|Do 18 Y (Zw (m := at__2) (fk := FK3) (fv := FV3) (k := x.At) (z0 := 0) (ov Y) (ov Y) ZH Qn Y (fun _=>.b Y)<|Zt Xj Y)<|Dq 19 Y (Zi (ov Y) Y)<|Do 20 Y (Zp (m := at__2) (fk := FK3) (fv := FV3) (k := x.At) (v := i) (ov Y) (ov Y) (ov Y) ZH Y)<|Dd<|⟨_, h, ES [some 0, some 1, some 2, some 3] (hhp := .cons Y (ro1 (by exact tZ_87.symm)<|rlc (.dat Y)<|rlc (.own _ Y)<|rlc (.own _ Y)<|rlc (.mref _ Y) rln)<|.cons Y (roM D51)<|.cons Y (roM D3)<|.cons Y (ZS (fk := FK3) (fv := FV3) (m := (ZV kqI at__2 x.At i)) tZ_85 (fun _=>.dat Y) fun _=>.ren<|.dat Y) .nil)⟩
       ·
        exact Dq 6 Y (Zj (ov Y) Y Y Y tS3<|Zl QK)<|Do 18 Y (Zw (m := at__2) (fk := FK3) (fv := FV3) (k := x.At) (z0 := 0) (ov Y) (ov Y) ZH Qn Y (fun _=>.b Y)<|Zt Xj Y)<|Dq 19 Y (Zi (ov Y) Y)<|Do 20 Y (Zp (m := at__2) (fk := FK3) (fv := FV3) (k := x.At) (v := i) (ov Y) (ov Y) (ov Y) ZH Y)<|Dd<|⟨_, h, ES [some 0, some 1, some 2, some 3] (hhp := .cons Y (ro1 (by exact tZ_87.symm)<|rlc (.dat Y)<|rlc (.own _ Y)<|rlc (.own _ Y)<|rlc (.mref _ Y) rln)<|.cons Y (roM D51)<|.cons Y (roM D3)<|.cons Y (ZS (fk := FK3) (fv := FV3) (m := (ZV kqI at__2 x.At i)) tZ_85 (fun _=>.dat Y) fun _=>.ren<|.dat Y) .nil)⟩
     ·
      refine Dq 3 Y (Zc (ov Y) Y Y Zaz)<|Dq 4 Y (Zj (ov Y) Y Y Y Zbf Y)<|Dq 15 Y (Zk (ov Y) Y Y)<|Dq 16 Y (Zc (ov Y) Y Y Ql)<|Dw 5 17 Y (Zc (ov Y) Y Y QL) (Ze (ov Y) (ov Y) (Zf QZ) Y Y Y (Nat.le_of_ble_eq_true Y) (Zb Y) Y) ?_ ?_
      ·
       refine Dw 6 17 Y (Zj (ov Y) Y Y Y tS3<|Zl QK) (Ze (ov Y) (ov Y) (Zf QZ) Y Y Y (Nat.le_of_ble_eq_true Y) (Zb Y) Y) ?_ ?_
       ·
        exact Do 17 Y (Ze (ov Y) (ov Y) (Zf QZ) Y Y Y (Nat.le_of_ble_eq_true Y) (Zb Y) Y)<|Do 18 Y (Zw (m := at__2) (fk := FK3) (fv := FV3) (k := x.At) (z0 := 0) (ov Y) (ov Y) ZH Qn Y (fun _=>.b Y)<|Zt Xj Y)<|Dq 19 Y (Zi (ov Y) Y)<|Do 20 Y (Zp (m := at__2) (fk := FK3) (fv := FV3) (k := x.At) (v := i) (ov Y) (ov Y) (ov Y) ZH Y)<|Dd<|⟨_, h, ES [some 0, some 1, some 2, some 3] (hhp := .cons Y (ro1 (by exact tZ_87.symm)<|rlc (.dat Y)<|rlc (.own _ Y)<|rlc (.own _ Y)<|rlc (.mref _ Y) rln)<|.cons Y (roM D51)<|.cons Y (roM D3)<|.cons Y (ZS (fk := FK3) (fv := FV3) (m := (ZV kqI at__2 x.At i)) tZ_85 (fun _=>.dat Y) fun _=>.ren<|.dat Y) .nil)⟩
       ·
        exact Dq 6 Y (Zj (ov Y) Y Y Y tS3<|Zl QK)<|Do 18 Y (Zw (m := at__2) (fk := FK3) (fv := FV3) (k := x.At) (z0 := 0) (ov Y) (ov Y) ZH Qn Y (fun _=>.b Y)<|Zt Xj Y)<|Dq 19 Y (Zi (ov Y) Y)<|Do 20 Y (Zp (m := at__2) (fk := FK3) (fv := FV3) (k := x.At) (v := i) (ov Y) (ov Y) (ov Y) ZH Y)<|Dd<|⟨_, h, ES [some 0, some 1, some 2, some 3] (hhp := .cons Y (ro1 (by exact tZ_87.symm)<|rlc (.dat Y)<|rlc (.own _ Y)<|rlc (.own _ Y)<|rlc (.mref _ Y) rln)<|.cons Y (roM D51)<|.cons Y (roM D3)<|.cons Y (ZS (fk := FK3) (fv := FV3) (m := (ZV kqI at__2 x.At i)) tZ_85 (fun _=>.dat Y) fun _=>.ren<|.dat Y) .nil)⟩
      ·
       exact Dq 5 Y (Zc (ov Y) Y Y QL)<|Dq 6 Y (Zj (ov Y) Y Y Y tS3<|Zl QK)<|Do 18 Y (Zw (m := at__2) (fk := FK3) (fv := FV3) (k := x.At) (z0 := 0) (ov Y) (ov Y) ZH Qn Y (fun _=>.b Y)<|Zt Xj Y)<|Dq 19 Y (Zi (ov Y) Y)<|Do 20 Y (Zp (m := at__2) (fk := FK3) (fv := FV3) (k := x.At) (v := i) (ov Y) (ov Y) (ov Y) ZH Y)<|Dd<|⟨_, h, ES [some 0, some 1, some 2, some 3] (hhp := .cons Y (ro1 (by exact tZ_87.symm)<|rlc (.dat Y)<|rlc (.own _ Y)<|rlc (.own _ Y)<|rlc (.mref _ Y) rln)<|.cons Y (roM D51)<|.cons Y (roM D3)<|.cons Y (ZS (fk := FK3) (fv := FV3) (m := (ZV kqI at__2 x.At i)) tZ_85 (fun _=>.dat Y) fun _=>.ren<|.dat Y) .nil)⟩
    ·
     refine Zdr [2, 6, 13] (by kernel_rfl)<|.q Y Y Y (Zk (ov Y) Y Y) ?_<|.q Y Y Y (Zj (ov Y) Y Y Y tS3<|Zl QK) ?_<|.w Y Y Y (fun h=>by cases h) (fun h=>by cases h) (Zv (ov Y) (ZE (ov Y) tZ_3) QQ Y Y Y (fun _=>Zb Y) Y h_l) ?_ .nil
     ·
      refine Zdr [3, 6, 13] (by kernel_rfl)<|.q Y Y Y (Zc (ov Y) Y Y Zaz) ?_<|.q Y Y Y (Zj (ov Y) Y Y Y tS3<|Zl QK) ?_<|.w Y Y Y (fun h=>by cases h) (fun h=>by cases h) (Zv (ov Y) (ZE (ov Y) tZ_3) QQ Y Y Y (fun _=>Zb Y) Y h_l) ?_ .nil
      ·
       refine Zdr [4, 6, 13] (by kernel_rfl)<|.q Y Y Y (Zj (ov Y) Y Y Y Zbf Y) ?_<|.q Y Y Y (Zj (ov Y) Y Y Y tS3<|Zl QK) ?_<|.w Y Y Y (fun h=>by cases h) (fun h=>by cases h) (Zv (ov Y) (ZE (ov Y) tZ_3) QQ Y Y Y (fun _=>Zb Y) Y h_l) ?_ .nil
       ·
        refine Dw 6 13 Y (Zj (ov Y) Y Y Y tS3<|Zl QK) (Zv (ov Y) (ZE (ov Y) tZ_3) QQ Y Y Y (fun _=>Zb Y) Y h_l) ?_ ?_
        ·
         exact Do 13 Y (Zv (ov Y) (ZE (ov Y) tZ_3) QQ Y Y Y (fun _=>Zb Y) Y h_l)<|Dq 15 Y (Zk (ov Y) Y Y)<|Dq 16 Y (Zc (ov Y) Y Y Ql)<|Do 17 Y (Ze (ov Y) (ov Y) (Zf QZ) Y Y Y (Nat.le_of_ble_eq_true Y) (Zb Y) Y)<|Do 18 Y (Zw (m := at__2) (fk := FK3) (fv := FV3) (k := x.At) (z0 := 0) (ov Y) (ov Y) ZH Qn Y (fun _=>.b Y)<|Zt Xj Y)<|Dq 19 Y (Zi (ov Y) Y)<|Do 20 Y (Zp (m := at__2) (fk := FK3) (fv := FV3) (k := x.At) (v := i) (ov Y) (ov Y) (ov Y) ZH Y)<|Dd<|⟨_, h, ES [some 0, some 1, some 2, some 3] (hhp := .cons Y (ro1 (by exact tZ_87.symm)<|rlc (.dat Y)<|rlc (.own _ Y)<|rlc (.own _ Y)<|rlc (.mref _ Y) rln)<|.cons Y (roM D51)<|.cons Y (roM D3)<|.cons Y (ZS (fk := FK3) (fv := FV3) (m := (ZV kqI at__2 x.At i)) tZ_85 (fun _=>.dat Y) fun _=>.ren<|.dat Y) .nil)⟩
        ·
         refine Dq 15 Y (Zk (ov Y) Y Y)<|Dq 16 Y (Zc (ov Y) Y Y Ql)<|Dw 6 17 Y (Zj (ov Y) Y Y Y tS3<|Zl QK) (Ze (ov Y) (ov Y) (Zf QZ) Y Y Y (Nat.le_of_ble_eq_true Y) (Zb Y) Y) ?_ ?_
         ·
          exact Do 17 Y (Ze (ov Y) (ov Y) (Zf QZ) Y Y Y (Nat.le_of_ble_eq_true Y) (Zb Y) Y)<|Do 18 Y (Zw (m := at__2) (fk := FK3) (fv := FV3) (k := x.At) (z0 := 0) (ov Y) (ov Y) ZH Qn Y (fun _=>.b Y)<|Zt Xj Y)<|Dq 19 Y (Zi (ov Y) Y)<|Do 20 Y (Zp (m := at__2) (fk := FK3) (fv := FV3) (k := x.At) (v := i) (ov Y) (ov Y) (ov Y) ZH Y)<|Dd<|⟨_, h, ES [some 0, some 1, some 2, some 3] (hhp := .cons Y (ro1 (by exact tZ_87.symm)<|rlc (.dat Y)<|rlc (.own _ Y)<|rlc (.own _ Y)<|rlc (.mref _ Y) rln)<|.cons Y (roM D51)<|.cons Y (roM D3)<|.cons Y (ZS (fk := FK3) (fv := FV3) (m := (ZV kqI at__2 x.At i)) tZ_85 (fun _=>.dat Y) fun _=>.ren<|.dat Y) .nil)⟩
         ·
          exact Dq 6 Y (Zj (ov Y) Y Y Y tS3<|Zl QK)<|Do 18 Y (Zw (m := at__2) (fk := FK3) (fv := FV3) (k := x.At) (z0 := 0) (ov Y) (ov Y) ZH Qn Y (fun _=>.b Y)<|Zt Xj Y)<|Dq 19 Y (Zi (ov Y) Y)<|Do 20 Y (Zp (m := at__2) (fk := FK3) (fv := FV3) (k := x.At) (v := i) (ov Y) (ov Y) (ov Y) ZH Y)<|Dd<|⟨_, h, ES [some 0, some 1, some 2, some 3] (hhp := .cons Y (ro1 (by exact tZ_87.symm)<|rlc (.dat Y)<|rlc (.own _ Y)<|rlc (.own _ Y)<|rlc (.mref _ Y) rln)<|.cons Y (roM D51)<|.cons Y (roM D3)<|.cons Y (ZS (fk := FK3) (fv := FV3) (m := (ZV kqI at__2 x.At i)) tZ_85 (fun _=>.dat Y) fun _=>.ren<|.dat Y) .nil)⟩
       ·
        refine Dw 4 13 Y (Zj (ov Y) Y Y Y Zbf Y) (Zv (ov Y) (ZE (ov Y) tZ_3) QQ Y Y Y (fun _=>Zb Y) Y h_l) ?_ ?_
        ·
         exact Do 13 Y (Zv (ov Y) (ZE (ov Y) tZ_3) QQ Y Y Y (fun _=>Zb Y) Y h_l)<|Dq 15 Y (Zk (ov Y) Y Y)<|Dq 16 Y (Zc (ov Y) Y Y Ql)<|Do 17 Y (Ze (ov Y) (ov Y) (Zf QZ) Y Y Y (Nat.le_of_ble_eq_true Y) (Zb Y) Y)<|Do 18 Y (Zw (m := at__2) (fk := FK3) (fv := FV3) (k := x.At) (z0 := 0) (ov Y) (ov Y) ZH Qn Y (fun _=>.b Y)<|Zt Xj Y)<|Dq 19 Y (Zi (ov Y) Y)<|Do 20 Y (Zp (m := at__2) (fk := FK3) (fv := FV3) (k := x.At) (v := i) (ov Y) (ov Y) (ov Y) ZH Y)<|Dd<|⟨_, h, ES [some 0, some 1, some 2, some 3] (hhp := .cons Y (ro1 (by exact tZ_87.symm)<|rlc (.dat Y)<|rlc (.own _ Y)<|rlc (.own _ Y)<|rlc (.mref _ Y) rln)<|.cons Y (roM D51)<|.cons Y (roM D3)<|.cons Y (ZS (fk := FK3) (fv := FV3) (m := (ZV kqI at__2 x.At i)) tZ_85 (fun _=>.dat Y) fun _=>.ren<|.dat Y) .nil)⟩
        ·
         exact Dq 4 Y (Zj (ov Y) Y Y Y Zbf Y)<|Dq 15 Y (Zk (ov Y) Y Y)<|Dq 16 Y (Zc (ov Y) Y Y Ql)<|Do 17 Y (Ze (ov Y) (ov Y) (Zf QZ) Y Y Y (Nat.le_of_ble_eq_true Y) (Zb Y) Y)<|Do 18 Y (Zw (m := at__2) (fk := FK3) (fv := FV3) (k := x.At) (z0 := 0) (ov Y) (ov Y) ZH Qn Y (fun _=>.b Y)<|Zt Xj Y)<|Dq 19 Y (Zi (ov Y) Y)<|Do 20 Y (Zp (m := at__2) (fk := FK3) (fv := FV3) (k := x.At) (v := i) (ov Y) (ov Y) (ov Y) ZH Y)<|Dd<|⟨_, h, ES [some 0, some 1, some 2, some 3] (hhp := .cons Y (ro1 (by exact tZ_87.symm)<|rlc (.dat Y)<|rlc (.own _ Y)<|rlc (.own _ Y)<|rlc (.mref _ Y) rln)<|.cons Y (roM D51)<|.cons Y (roM D3)<|.cons Y (ZS (fk := FK3) (fv := FV3) (m := (ZV kqI at__2 x.At i)) tZ_85 (fun _=>.dat Y) fun _=>.ren<|.dat Y) .nil)⟩
       ·
        refine Dq 4 Y (Zj (ov Y) Y Y Y Zbf Y)<|Dq 15 Y (Zk (ov Y) Y Y)<|Dq 16 Y (Zc (ov Y) Y Y Ql)<|Dw 6 17 Y (Zj (ov Y) Y Y Y tS3<|Zl QK) (Ze (ov Y) (ov Y) (Zf QZ) Y Y Y (Nat.le_of_ble_eq_true Y) (Zb Y) Y) ?_ ?_
        ·
         exact Do 17 Y (Ze (ov Y) (ov Y) (Zf QZ) Y Y Y (Nat.le_of_ble_eq_true Y) (Zb Y) Y)<|Do 18 Y (Zw (m := at__2) (fk := FK3) (fv := FV3) (k := x.At) (z0 := 0) (ov Y) (ov Y) ZH Qn Y (fun _=>.b Y)<|Zt Xj Y)<|Dq 19 Y (Zi (ov Y) Y)<|Do 20 Y (Zp (m := at__2) (fk := FK3) (fv := FV3) (k := x.At) (v := i) (ov Y) (ov Y) (ov Y) ZH Y)<|Dd<|⟨_, h, ES [some 0, some 1, some 2, some 3] (hhp := .cons Y (ro1 (by exact tZ_87.symm)<|rlc (.dat Y)<|rlc (.own _ Y)<|rlc (.own _ Y)<|rlc (.mref _ Y) rln)<|.cons Y (roM D51)<|.cons Y (roM D3)<|.cons Y (ZS (fk := FK3) (fv := FV3) (m := (ZV kqI at__2 x.At i)) tZ_85 (fun _=>.dat Y) fun _=>.ren<|.dat Y) .nil)⟩
        ·
         exact Dq 6 Y (Zj (ov Y) Y Y Y tS3<|Zl QK)<|Do 18 Y (Zw (m := at__2) (fk := FK3) (fv := FV3) (k := x.At) (z0 := 0) (ov Y) (ov Y) ZH Qn Y (fun _=>.b Y)<|Zt Xj Y)<|Dq 19 Y (Zi (ov Y) Y)<|Do 20 Y (Zp (m := at__2) (fk := FK3) (fv := FV3) (k := x.At) (v := i) (ov Y) (ov Y) (ov Y) ZH Y)<|Dd<|⟨_, h, ES [some 0, some 1, some 2, some 3] (hhp := .cons Y (ro1 (by exact tZ_87.symm)<|rlc (.dat Y)<|rlc (.own _ Y)<|rlc (.own _ Y)<|rlc (.mref _ Y) rln)<|.cons Y (roM D51)<|.cons Y (roM D3)<|.cons Y (ZS (fk := FK3) (fv := FV3) (m := (ZV kqI at__2 x.At i)) tZ_85 (fun _=>.dat Y) fun _=>.ren<|.dat Y) .nil)⟩
      ·
       refine Dw 3 13 Y (Zc (ov Y) Y Y Zaz) (Zv (ov Y) (ZE (ov Y) tZ_3) QQ Y Y Y (fun _=>Zb Y) Y h_l) ?_ ?_
       ·
        refine Dw 4 13 Y (Zj (ov Y) Y Y Y Zbf Y) (Zv (ov Y) (ZE (ov Y) tZ_3) QQ Y Y Y (fun _=>Zb Y) Y h_l) ?_ ?_
        ·
         exact Do 13 Y (Zv (ov Y) (ZE (ov Y) tZ_3) QQ Y Y Y (fun _=>Zb Y) Y h_l)<|Dq 15 Y (Zk (ov Y) Y Y)<|Dq 16 Y (Zc (ov Y) Y Y Ql)<|Do 17 Y (Ze (ov Y) (ov Y) (Zf QZ) Y Y Y (Nat.le_of_ble_eq_true Y) (Zb Y) Y)<|Do 18 Y (Zw (m := at__2) (fk := FK3) (fv := FV3) (k := x.At) (z0 := 0) (ov Y) (ov Y) ZH Qn Y (fun _=>.b Y)<|Zt Xj Y)<|Dq 19 Y (Zi (ov Y) Y)<|Do 20 Y (Zp (m := at__2) (fk := FK3) (fv := FV3) (k := x.At) (v := i) (ov Y) (ov Y) (ov Y) ZH Y)<|Dd<|⟨_, h, ES [some 0, some 1, some 2, some 3] (hhp := .cons Y (ro1 (by exact tZ_87.symm)<|rlc (.dat Y)<|rlc (.own _ Y)<|rlc (.own _ Y)<|rlc (.mref _ Y) rln)<|.cons Y (roM D51)<|.cons Y (roM D3)<|.cons Y (ZS (fk := FK3) (fv := FV3) (m := (ZV kqI at__2 x.At i)) tZ_85 (fun _=>.dat Y) fun _=>.ren<|.dat Y) .nil)⟩
        ·
         exact Dq 4 Y (Zj (ov Y) Y Y Y Zbf Y)<|Dq 15 Y (Zk (ov Y) Y Y)<|Dq 16 Y (Zc (ov Y) Y Y Ql)<|Do 17 Y (Ze (ov Y) (ov Y) (Zf QZ) Y Y Y (Nat.le_of_ble_eq_true Y) (Zb Y) Y)<|Do 18 Y (Zw (m := at__2) (fk := FK3) (fv := FV3) (k := x.At) (z0 := 0) (ov Y) (ov Y) ZH Qn Y (fun _=>.b Y)<|Zt Xj Y)<|Dq 19 Y (Zi (ov Y) Y)<|Do 20 Y (Zp (m := at__2) (fk := FK3) (fv := FV3) (k := x.At) (v := i) (ov Y) (ov Y) (ov Y) ZH Y)<|Dd<|⟨_, h, ES [some 0, some 1, some 2, some 3] (hhp := .cons Y (ro1 (by exact tZ_87.symm)<|rlc (.dat Y)<|rlc (.own _ Y)<|rlc (.own _ Y)<|rlc (.mref _ Y) rln)<|.cons Y (roM D51)<|.cons Y (roM D3)<|.cons Y (ZS (fk := FK3) (fv := FV3) (m := (ZV kqI at__2 x.At i)) tZ_85 (fun _=>.dat Y) fun _=>.ren<|.dat Y) .nil)⟩
       ·
        exact Dq 3 Y (Zc (ov Y) Y Y Zaz)<|Dq 4 Y (Zj (ov Y) Y Y Y Zbf Y)<|Dq 15 Y (Zk (ov Y) Y Y)<|Dq 16 Y (Zc (ov Y) Y Y Ql)<|Do 17 Y (Ze (ov Y) (ov Y) (Zf QZ) Y Y Y (Nat.le_of_ble_eq_true Y) (Zb Y) Y)<|Do 18 Y (Zw (m := at__2) (fk := FK3) (fv := FV3) (k := x.At) (z0 := 0) (ov Y) (ov Y) ZH Qn Y (fun _=>.b Y)<|Zt Xj Y)<|Dq 19 Y (Zi (ov Y) Y)<|Do 20 Y (Zp (m := at__2) (fk := FK3) (fv := FV3) (k := x.At) (v := i) (ov Y) (ov Y) (ov Y) ZH Y)<|Dd<|⟨_, h, ES [some 0, some 1, some 2, some 3] (hhp := .cons Y (ro1 (by exact tZ_87.symm)<|rlc (.dat Y)<|rlc (.own _ Y)<|rlc (.own _ Y)<|rlc (.mref _ Y) rln)<|.cons Y (roM D51)<|.cons Y (roM D3)<|.cons Y (ZS (fk := FK3) (fv := FV3) (m := (ZV kqI at__2 x.At i)) tZ_85 (fun _=>.dat Y) fun _=>.ren<|.dat Y) .nil)⟩
      ·
       refine Dq 3 Y (Zc (ov Y) Y Y Zaz)<|Dq 4 Y (Zj (ov Y) Y Y Y Zbf Y)<|Dq 15 Y (Zk (ov Y) Y Y)<|Dq 16 Y (Zc (ov Y) Y Y Ql)<|Dw 6 17 Y (Zj (ov Y) Y Y Y tS3<|Zl QK) (Ze (ov Y) (ov Y) (Zf QZ) Y Y Y (Nat.le_of_ble_eq_true Y) (Zb Y) Y) ?_ ?_
       ·
        exact Do 17 Y (Ze (ov Y) (ov Y) (Zf QZ) Y Y Y (Nat.le_of_ble_eq_true Y) (Zb Y) Y)<|Do 18 Y (Zw (m := at__2) (fk := FK3) (fv := FV3) (k := x.At) (z0 := 0) (ov Y) (ov Y) ZH Qn Y (fun _=>.b Y)<|Zt Xj Y)<|Dq 19 Y (Zi (ov Y) Y)<|Do 20 Y (Zp (m := at__2) (fk := FK3) (fv := FV3) (k := x.At) (v := i) (ov Y) (ov Y) (ov Y) ZH Y)<|Dd<|⟨_, h, ES [some 0, some 1, some 2, some 3] (hhp := .cons Y (ro1 (by exact tZ_87.symm)<|rlc (.dat Y)<|rlc (.own _ Y)<|rlc (.own _ Y)<|rlc (.mref _ Y) rln)<|.cons Y (roM D51)<|.cons Y (roM D3)<|.cons Y (ZS (fk := FK3) (fv := FV3) (m := (ZV kqI at__2 x.At i)) tZ_85 (fun _=>.dat Y) fun _=>.ren<|.dat Y) .nil)⟩
       ·
        exact Dq 6 Y (Zj (ov Y) Y Y Y tS3<|Zl QK)<|Do 18 Y (Zw (m := at__2) (fk := FK3) (fv := FV3) (k := x.At) (z0 := 0) (ov Y) (ov Y) ZH Qn Y (fun _=>.b Y)<|Zt Xj Y)<|Dq 19 Y (Zi (ov Y) Y)<|Do 20 Y (Zp (m := at__2) (fk := FK3) (fv := FV3) (k := x.At) (v := i) (ov Y) (ov Y) (ov Y) ZH Y)<|Dd<|⟨_, h, ES [some 0, some 1, some 2, some 3] (hhp := .cons Y (ro1 (by exact tZ_87.symm)<|rlc (.dat Y)<|rlc (.own _ Y)<|rlc (.own _ Y)<|rlc (.mref _ Y) rln)<|.cons Y (roM D51)<|.cons Y (roM D3)<|.cons Y (ZS (fk := FK3) (fv := FV3) (m := (ZV kqI at__2 x.At i)) tZ_85 (fun _=>.dat Y) fun _=>.ren<|.dat Y) .nil)⟩
     ·
      refine Dw 2 13 Y (Zk (ov Y) Y Y) (Zv (ov Y) (ZE (ov Y) tZ_3) QQ Y Y Y (fun _=>Zb Y) Y h_l) ?_ ?_
      ·
       refine Dw 3 13 Y (Zc (ov Y) Y Y Zaz) (Zv (ov Y) (ZE (ov Y) tZ_3) QQ Y Y Y (fun _=>Zb Y) Y h_l) ?_ ?_
       ·
        refine Dw 4 13 Y (Zj (ov Y) Y Y Y Zbf Y) (Zv (ov Y) (ZE (ov Y) tZ_3) QQ Y Y Y (fun _=>Zb Y) Y h_l) ?_ ?_
        ·
         exact Do 13 Y (Zv (ov Y) (ZE (ov Y) tZ_3) QQ Y Y Y (fun _=>Zb Y) Y h_l)<|Dq 15 Y (Zk (ov Y) Y Y)<|Dq 16 Y (Zc (ov Y) Y Y Ql)<|Do 17 Y (Ze (ov Y) (ov Y) (Zf QZ) Y Y Y (Nat.le_of_ble_eq_true Y) (Zb Y) Y)<|Do 18 Y (Zw (m := at__2) (fk := FK3) (fv := FV3) (k := x.At) (z0 := 0) (ov Y) (ov Y) ZH Qn Y (fun _=>.b Y)<|Zt Xj Y)<|Dq 19 Y (Zi (ov Y) Y)<|Do 20 Y (Zp (m := at__2) (fk := FK3) (fv := FV3) (k := x.At) (v := i) (ov Y) (ov Y) (ov Y) ZH Y)<|Dd<|⟨_, h, ES [some 0, some 1, some 2, some 3] (hhp := .cons Y (ro1 (by exact tZ_87.symm)<|rlc (.dat Y)<|rlc (.own _ Y)<|rlc (.own _ Y)<|rlc (.mref _ Y) rln)<|.cons Y (roM D51)<|.cons Y (roM D3)<|.cons Y (ZS (fk := FK3) (fv := FV3) (m := (ZV kqI at__2 x.At i)) tZ_85 (fun _=>.dat Y) fun _=>.ren<|.dat Y) .nil)⟩
        ·
         exact Dq 4 Y (Zj (ov Y) Y Y Y Zbf Y)<|Dq 15 Y (Zk (ov Y) Y Y)<|Dq 16 Y (Zc (ov Y) Y Y Ql)<|Do 17 Y (Ze (ov Y) (ov Y) (Zf QZ) Y Y Y (Nat.le_of_ble_eq_true Y) (Zb Y) Y)<|Do 18 Y (Zw (m := at__2) (fk := FK3) (fv := FV3) (k := x.At) (z0 := 0) (ov Y) (ov Y) ZH Qn Y (fun _=>.b Y)<|Zt Xj Y)<|Dq 19 Y (Zi (ov Y) Y)<|Do 20 Y (Zp (m := at__2) (fk := FK3) (fv := FV3) (k := x.At) (v := i) (ov Y) (ov Y) (ov Y) ZH Y)<|Dd<|⟨_, h, ES [some 0, some 1, some 2, some 3] (hhp := .cons Y (ro1 (by exact tZ_87.symm)<|rlc (.dat Y)<|rlc (.own _ Y)<|rlc (.own _ Y)<|rlc (.mref _ Y) rln)<|.cons Y (roM D51)<|.cons Y (roM D3)<|.cons Y (ZS (fk := FK3) (fv := FV3) (m := (ZV kqI at__2 x.At i)) tZ_85 (fun _=>.dat Y) fun _=>.ren<|.dat Y) .nil)⟩
       ·
        exact Dq 3 Y (Zc (ov Y) Y Y Zaz)<|Dq 4 Y (Zj (ov Y) Y Y Y Zbf Y)<|Dq 15 Y (Zk (ov Y) Y Y)<|Dq 16 Y (Zc (ov Y) Y Y Ql)<|Do 17 Y (Ze (ov Y) (ov Y) (Zf QZ) Y Y Y (Nat.le_of_ble_eq_true Y) (Zb Y) Y)<|Do 18 Y (Zw (m := at__2) (fk := FK3) (fv := FV3) (k := x.At) (z0 := 0) (ov Y) (ov Y) ZH Qn Y (fun _=>.b Y)<|Zt Xj Y)<|Dq 19 Y (Zi (ov Y) Y)<|Do 20 Y (Zp (m := at__2) (fk := FK3) (fv := FV3) (k := x.At) (v := i) (ov Y) (ov Y) (ov Y) ZH Y)<|Dd<|⟨_, h, ES [some 0, some 1, some 2, some 3] (hhp := .cons Y (ro1 (by exact tZ_87.symm)<|rlc (.dat Y)<|rlc (.own _ Y)<|rlc (.own _ Y)<|rlc (.mref _ Y) rln)<|.cons Y (roM D51)<|.cons Y (roM D3)<|.cons Y (ZS (fk := FK3) (fv := FV3) (m := (ZV kqI at__2 x.At i)) tZ_85 (fun _=>.dat Y) fun _=>.ren<|.dat Y) .nil)⟩
      ·
       exact Dq 2 Y (Zk (ov Y) Y Y)<|Dq 3 Y (Zc (ov Y) Y Y Zaz)<|Dq 4 Y (Zj (ov Y) Y Y Y Zbf Y)<|Dq 15 Y (Zk (ov Y) Y Y)<|Dq 16 Y (Zc (ov Y) Y Y Ql)<|Do 17 Y (Ze (ov Y) (ov Y) (Zf QZ) Y Y Y (Nat.le_of_ble_eq_true Y) (Zb Y) Y)<|Do 18 Y (Zw (m := at__2) (fk := FK3) (fv := FV3) (k := x.At) (z0 := 0) (ov Y) (ov Y) ZH Qn Y (fun _=>.b Y)<|Zt Xj Y)<|Dq 19 Y (Zi (ov Y) Y)<|Do 20 Y (Zp (m := at__2) (fk := FK3) (fv := FV3) (k := x.At) (v := i) (ov Y) (ov Y) (ov Y) ZH Y)<|Dd<|⟨_, h, ES [some 0, some 1, some 2, some 3] (hhp := .cons Y (ro1 (by exact tZ_87.symm)<|rlc (.dat Y)<|rlc (.own _ Y)<|rlc (.own _ Y)<|rlc (.mref _ Y) rln)<|.cons Y (roM D51)<|.cons Y (roM D3)<|.cons Y (ZS (fk := FK3) (fv := FV3) (m := (ZV kqI at__2 x.At i)) tZ_85 (fun _=>.dat Y) fun _=>.ren<|.dat Y) .nil)⟩
     ·
      refine Dq 2 Y (Zk (ov Y) Y Y)<|Dq 3 Y (Zc (ov Y) Y Y Zaz)<|Dq 4 Y (Zj (ov Y) Y Y Y Zbf Y)<|Dq 15 Y (Zk (ov Y) Y Y)<|Dq 16 Y (Zc (ov Y) Y Y Ql)<|Dw 6 17 Y (Zj (ov Y) Y Y Y tS3<|Zl QK) (Ze (ov Y) (ov Y) (Zf QZ) Y Y Y (Nat.le_of_ble_eq_true Y) (Zb Y) Y) ?_ ?_
      ·
       exact Do 17 Y (Ze (ov Y) (ov Y) (Zf QZ) Y Y Y (Nat.le_of_ble_eq_true Y) (Zb Y) Y)<|Do 18 Y (Zw (m := at__2) (fk := FK3) (fv := FV3) (k := x.At) (z0 := 0) (ov Y) (ov Y) ZH Qn Y (fun _=>.b Y)<|Zt Xj Y)<|Dq 19 Y (Zi (ov Y) Y)<|Do 20 Y (Zp (m := at__2) (fk := FK3) (fv := FV3) (k := x.At) (v := i) (ov Y) (ov Y) (ov Y) ZH Y)<|Dd<|⟨_, h, ES [some 0, some 1, some 2, some 3] (hhp := .cons Y (ro1 (by exact tZ_87.symm)<|rlc (.dat Y)<|rlc (.own _ Y)<|rlc (.own _ Y)<|rlc (.mref _ Y) rln)<|.cons Y (roM D51)<|.cons Y (roM D3)<|.cons Y (ZS (fk := FK3) (fv := FV3) (m := (ZV kqI at__2 x.At i)) tZ_85 (fun _=>.dat Y) fun _=>.ren<|.dat Y) .nil)⟩
      ·
       exact Dq 6 Y (Zj (ov Y) Y Y Y tS3<|Zl QK)<|Do 18 Y (Zw (m := at__2) (fk := FK3) (fv := FV3) (k := x.At) (z0 := 0) (ov Y) (ov Y) ZH Qn Y (fun _=>.b Y)<|Zt Xj Y)<|Dq 19 Y (Zi (ov Y) Y)<|Do 20 Y (Zp (m := at__2) (fk := FK3) (fv := FV3) (k := x.At) (v := i) (ov Y) (ov Y) (ov Y) ZH Y)<|Dd<|⟨_, h, ES [some 0, some 1, some 2, some 3] (hhp := .cons Y (ro1 (by exact tZ_87.symm)<|rlc (.dat Y)<|rlc (.own _ Y)<|rlc (.own _ Y)<|rlc (.mref _ Y) rln)<|.cons Y (roM D51)<|.cons Y (roM D3)<|.cons Y (ZS (fk := FK3) (fv := FV3) (m := (ZV kqI at__2 x.At i)) tZ_85 (fun _=>.dat Y) fun _=>.ren<|.dat Y) .nil)⟩
    ·
     refine Dq 2 Y (Zk (ov Y) Y Y)<|Dq 3 Y (Zc (ov Y) Y Y Zaz)<|Dq 4 Y (Zj (ov Y) Y Y Y Zbf Y)<|Dq 15 Y (Zk (ov Y) Y Y)<|Dq 16 Y (Zc (ov Y) Y Y Ql)<|Dw 5 17 Y (Zc (ov Y) Y Y QL) (Ze (ov Y) (ov Y) (Zf QZ) Y Y Y (Nat.le_of_ble_eq_true Y) (Zb Y) Y) ?_ ?_
     ·
      refine Dw 6 17 Y (Zj (ov Y) Y Y Y tS3<|Zl QK) (Ze (ov Y) (ov Y) (Zf QZ) Y Y Y (Nat.le_of_ble_eq_true Y) (Zb Y) Y) ?_ ?_
      ·
       exact Do 17 Y (Ze (ov Y) (ov Y) (Zf QZ) Y Y Y (Nat.le_of_ble_eq_true Y) (Zb Y) Y)<|Do 18 Y (Zw (m := at__2) (fk := FK3) (fv := FV3) (k := x.At) (z0 := 0) (ov Y) (ov Y) ZH Qn Y (fun _=>.b Y)<|Zt Xj Y)<|Dq 19 Y (Zi (ov Y) Y)<|Do 20 Y (Zp (m := at__2) (fk := FK3) (fv := FV3) (k := x.At) (v := i) (ov Y) (ov Y) (ov Y) ZH Y)<|Dd<|⟨_, h, ES [some 0, some 1, some 2, some 3] (hhp := .cons Y (ro1 (by exact tZ_87.symm)<|rlc (.dat Y)<|rlc (.own _ Y)<|rlc (.own _ Y)<|rlc (.mref _ Y) rln)<|.cons Y (roM D51)<|.cons Y (roM D3)<|.cons Y (ZS (fk := FK3) (fv := FV3) (m := (ZV kqI at__2 x.At i)) tZ_85 (fun _=>.dat Y) fun _=>.ren<|.dat Y) .nil)⟩
      ·
       exact Dq 6 Y (Zj (ov Y) Y Y Y tS3<|Zl QK)<|Do 18 Y (Zw (m := at__2) (fk := FK3) (fv := FV3) (k := x.At) (z0 := 0) (ov Y) (ov Y) ZH Qn Y (fun _=>.b Y)<|Zt Xj Y)<|Dq 19 Y (Zi (ov Y) Y)<|Do 20 Y (Zp (m := at__2) (fk := FK3) (fv := FV3) (k := x.At) (v := i) (ov Y) (ov Y) (ov Y) ZH Y)<|Dd<|⟨_, h, ES [some 0, some 1, some 2, some 3] (hhp := .cons Y (ro1 (by exact tZ_87.symm)<|rlc (.dat Y)<|rlc (.own _ Y)<|rlc (.own _ Y)<|rlc (.mref _ Y) rln)<|.cons Y (roM D51)<|.cons Y (roM D3)<|.cons Y (ZS (fk := FK3) (fv := FV3) (m := (ZV kqI at__2 x.At i)) tZ_85 (fun _=>.dat Y) fun _=>.ren<|.dat Y) .nil)⟩
     ·
      exact Dq 5 Y (Zc (ov Y) Y Y QL)<|Dq 6 Y (Zj (ov Y) Y Y Y tS3<|Zl QK)<|Do 18 Y (Zw (m := at__2) (fk := FK3) (fv := FV3) (k := x.At) (z0 := 0) (ov Y) (ov Y) ZH Qn Y (fun _=>.b Y)<|Zt Xj Y)<|Dq 19 Y (Zi (ov Y) Y)<|Do 20 Y (Zp (m := at__2) (fk := FK3) (fv := FV3) (k := x.At) (v := i) (ov Y) (ov Y) (ov Y) ZH Y)<|Dd<|⟨_, h, ES [some 0, some 1, some 2, some 3] (hhp := .cons Y (ro1 (by exact tZ_87.symm)<|rlc (.dat Y)<|rlc (.own _ Y)<|rlc (.own _ Y)<|rlc (.mref _ Y) rln)<|.cons Y (roM D51)<|.cons Y (roM D3)<|.cons Y (ZS (fk := FK3) (fv := FV3) (m := (ZV kqI at__2 x.At i)) tZ_85 (fun _=>.dat Y) fun _=>.ren<|.dat Y) .nil)⟩
   ·
    exact ZC<|R2 Z2 Y<|Rm Y<|Za<|⟨_, h, ES [some 0, some 1, some 2, some 3] (hhp := .cons Y (ro1 (by exact tZ_87.symm)<|rlc (.dat Y)<|rlc (.own _ Y)<|rlc (.own _ Y)<|rlc (.mref _ Y) rln)<|.cons Y (roM D51)<|.cons Y (roM D3)<|.cons Y (ZS (fk := FK3) (fv := FV3) (m := at__3) tZ_85 (fun _=>.dat Y) fun _=>.ren<|.dat Y) .nil)⟩
  ·
   refine ZT<|?_
   replace h := lx h ▸ ho1
   exact ⟨_, h, ES [some 0, some 1, some 2, some 3] (hhp := .cons Y (ro1 (by exact tZ_87.symm)<|rlc (.dat Y)<|rlc (.own _ Y)<|rlc (.own _ Y)<|rlc (.mref _ Y) rln)<|.cons Y (roM D51)<|.cons Y (roM D3)<|.cons Y (ZS (fk := FK3) (fv := FV3) (m := at__2) tZ_85 (fun _=>.dat Y) fun _=>.ren<|.dat Y) .nil)⟩
 ·
  refine Tr<|Rm Y<|Ra Y<|Za<|?_
  obtain rfl := rt h
  exact ZgV (Ent.sel [some 0, none, none, some 3] (sr 2 Y (.ptr (r' := 0) _ _ _ Y)<|sr 3 Y (.ptr (r' := 0) _ _ _ Y)<|sr 50 Y (.ptr (r' := 0) _ _ _ Y) sn) (.cons Y (ro1 (by exact tZ_87.symm)<|rlc (.dat Y)<|rlc (ZiZ Y Y Y D51)<|rlc (ZiZ Y Y Y D3)<|rlc (.mref (r' := 3) _ Y) rln)<|.row 51<|.row 3<|.cons Y (ZS (fk := FK3) (fv := FV3) (m := at__) tZ_85 (fun _=>.dat Y) fun _=>.ren<|.dat Y) .nil) Y Y)<|ZgV (Ent.sel [some 0, some 1, some 2, some 3] (sr 2 Y (.ptr (r' := 0) _ _ _ Y)<|sr 3 Y (.ptr (r' := 0) _ _ _ Y)<|sr 50 Y (.ptr (r' := 0) _ _ _ Y) sn) (.cons Y (ro1 (by exact tZ_87.symm)<|rlc (.dat Y)<|rlc (.dat Y)<|rlc (.dat Y)<|rlc (.out _) rln)<|.cons Y roE<|.cons Y roE<|.cons Y (ZS (fk := FK3) (fv := FV3) (m := at__) tZ_85 (fun _=>.dat Y) fun _=>.ren<|.dat Y) .nil) Y Y)<|ZgV (Ent.sel [none, some 1, some 2, some 3] (sr 2 Y (.frp ⟨Y, ⟨_, Y⟩, Y, Y⟩)<|sr 3 Y (.frp ⟨Y, ⟨_, Y⟩, Y, Y⟩)<|sr 50 Y (.frp ⟨Y, ⟨_, Y⟩, Y, Y⟩) sn) (.row 87<|.cons Y roE<|.cons Y roE<|.cons Y (ZS (fk := FK3) (fv := FV3) (m := at__) tZ_85 (fun _=>.dat Y) fun _=>.ren<|.dat Y) .nil) Y Y)<|Zu (ZL Y (.one<|rb Y))
end Go.Proofs.YteljlmpmdplgmaaGreatDoor
