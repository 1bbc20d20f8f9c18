/- A text of the proof: a verified executor of the program form, or the contracts of the functions that the law reaches. -/
import Derived.Test.YtjfoenlooacoiabGreatDoorOkPb
set_option linter.all false
namespace Go.Proofs.YtjfoenlooacoiabGreatDoor
open Go Go.Vx
set_option maxRecDepth 10000
set_option maxHeartbeats 1000000
set_option linter.unusedVariables false
theorem Zee {f : Vector Int 64} {r : (List api_Flaw)} (h : Zbm f = some r) :
 CSpec Tryz.prog gl0 22 [.agg (List.map C26 f.toList)] (.sl 95 (List.map R95 r)) := by
 unfold Zbm at h
 replace h := Qo h
 refine So Tryz.func22 Y fun w0 A=>Tr<|Rq Y (ZaC (cva<|ov Y) arL tZ_28<|arD fun _ => Y)<|Ra Y<|Za<|K1 1 Y<|Tr<|Ra Y<|Za<|I1 (fun out=>⟨[(1, .rp (List.map C26 f.toList) 0), (3, .own 0 out.length)], [some ⟨95, List.map R95 out⟩]⟩) h (fun h=>?_) fun out h=>?_
 ·
  refine Tr<|Rq Y (ZP (ov Y) Xn (Qb<|Zl arL) arL)<|Rm Y<|Za<|Zf<|?_
  obtain ⟨r1, hl1, ho1⟩ := QO h
  refine L2 (fun out2 i=>⟨[(1, .rp (List.map C26 f.toList) 0), (3, .own 0 out2.length), (7, .agg (List.map C26 f.toList)), (8, .int .i64 i)], [some ⟨95, List.map R95 out2⟩]⟩) hl1 (ES [none]) fun n1 out2 i h=>?_
  unfold Zal at h
  refine Tr<|R2 ZH Y<|Za<|Zg<|If h Y (fun h=>?_) fun h=>?_
  ·
   refine Ze<|Zg<|Zf<|K4 1 3 7 8 Y<|Tr<|Rm Y<|bE h fun x h_x h=>Rq Y (Zf3 (ov Y) (ov Y) X8 Je h_x)<|Ra Y<|Ra Y<|Za<|K6 1 3 4 5 7 8 Y<|Tr<|Rm Y<|R2 Zaw Y<|Za<|K6 1 3 4 7 8 13 Y<|If h Y (fun h=>?_) fun h=>?_
   ·
    exact K5 1 3 4 7 8 Y<|Zk<|Rm Y<|Rm Y<|Rq Y (Jz (ys := [_, _]) ZeT ZeW ZhF (.cons (cvs (ov Y)<|ZT Y)<|.cons (cvs (ov Y)<|ZT Y) .nil) Y)<|R_q (.sl 95<|List.map R95 ([(api_Flaw.mk i 5)] : List api_Flaw)) Y (ZaV Zcb (.cons (cva<|ov Y) Y (pwD Y) .nil) Y Y)<|bE h fun l h_l h=>Rx Y (QC (ov Y) (QX (ov Y) tZ_95) Zcb Y Y Y (fun _=>Zc Y) Y h_l)<|Ra Y<|Za<|K4 1 3 7 8 Y<|Zk<|R2 ZN Y<|Rm Y<|Za<|⟨_, h, ES [some 0]⟩
   ·
    exact Ze<|K4 1 3 7 8 Y<|Zk<|R2 ZN Y<|Rm Y<|Za<|⟨_, h, ES [some 0]⟩
  ·
   refine Zw<|?_
   replace h := lx h ▸ ho1
   exact ⟨_, h, ES [some 0]⟩
 ·
  refine Zg<|Tr<|Rm Y<|Rq Y (Zd6 (ov Y) Y Y Zcb)<|R2 Zaw Y<|Za<|K3 1 3 22 Y<|If h Y (fun h=>?_) fun h=>?_
  ·
   refine K1 3 Y<|Tr<|Rm Y<|Ra Y<|Za<|?_
   obtain rfl := rt h
   exact Zj (ZE Y (.one<|.tmp Y<|View.ownM Y Y D95))
  ·
   refine Ze<|I1 (fun out3=>⟨[(1, .rp (List.map C26 f.toList) 0), (3, .own 0 out3.length)], [some ⟨95, List.map R95 out3⟩]⟩) h (fun h=>?_) fun out3 h=>?_
   ·
    refine Zg<|K2 1 3 Y<|Qn (cw := md0) (by kernel_rfl)<|bE h fun x2 h_x2 h=>Dq 0 Y (QB (ov Y) (ov Y) X8 h_x2)<|Dq 1 Y (Zd (ov Y) Je<|Z8<|QV (o := 0) (o' := ((Int.toNat 0) * 1)) (Zl arL)<|QW h_x2)<|bE h fun y h_y h=>Dq 2 Y (Zn (ZbF h_y)<|.cons (ov Y) (.b Y) .nil)<|bE h fun q h_q h=>Dq 3 Y (Zab (ov Y) (ov Y) h_q)<|bE h fun x3 h_x3 h=>Dq 4 Y (QB (og (v := gv_frame_syncs) (k := .u16) (f := C26) (by simp [gl0]) fun _=>Y) (ov Y) ZnK h_x3)<|Dq 5 Y (Zd (ov Y) Je<|Z8<|QV (o := 0) (o' := (q.toNat * 1)) (Zl arL)<|QW h_x3)<|D2 6 QR Y<|Dd<|K3 1 3 30 Y<|If h Y (fun h=>?_) fun h=>?_
    ·
     exact K2 1 3 Y<|Zk<|Rm Y<|Rq Y (Jz (ys := [_, _]) ZeT ZeW ZhF (.cons (cvs (ov Y)<|ZT Y)<|.cons (cvs (ov Y)<|ZT Y) .nil) Y)<|R_q (.sl 95<|List.map R95 ([(api_Flaw.mk 0 1)] : List api_Flaw)) Y (ZaV Zcb (.cons (cva<|ov Y) Y (pwD Y) .nil) Y Y)<|bE h fun l2 h_l2 h=>Rx Y (QC (ov Y) (QX (ov Y) tZ_95) Zcb Y Y Y (fun _=>Zc Y) Y h_l2)<|Ra Y<|Za<|⟨_, h, ES [some 0]⟩
    ·
     exact Ze<|⟨_, h, ES [some 0]⟩
   ·
    refine I1 (fun out4=>⟨[(1, .rp (List.map C26 f.toList) 0), (3, .own 0 out4.length)], [some ⟨95, List.map R95 out4⟩]⟩) h (fun h=>?_) fun out4 h=>?_
    ·
     refine Tr<|Ra Y<|Za<|Zf<|?_
     obtain ⟨r2, hl2, ho2⟩ := QO h
     refine L2 (fun out5 i2=>⟨[(1, .rp (List.map C26 f.toList) 0), (3, .own 0 out5.length), (6, .int .i64 i2)], [some ⟨95, List.map R95 out5⟩]⟩) hl2 (ES [some 0]) fun n2 out5 i2 h=>?_
     unfold Zac at h
     refine Zg<|Tr<|Rm Y<|R2 ZH Y<|Za<|K4 1 3 6 36 Y<|If h Y (fun h=>?_) fun h=>?_
     ·
      refine Ze<|Zg<|Zf<|K3 1 3 6 Y<|Tr<|Rm Y<|bE h fun x4 h_x4 h=>Rq Y (QB (ov Y) (ov Y) X8 h_x4)<|Rq Y (Zd (ov Y) Je<|Z8<|QV (o := 0) (o' := (i2.toNat * 1)) (Zl arL)<|QW h_x4)<|bE h fun y2 h_y2 h=>Rq Y (Zn (Zco h_y2)<|.cons (ov Y) (.b Y) .nil)<|R1 Xv Y<|Za<|K4 1 3 6 43 Y<|If h Y (fun h=>?_) fun h=>?_
      ·
       exact K3 1 3 6 Y<|Zk<|Rm Y<|Rm Y<|Rq Y (Jz (ys := [_, _]) ZeT ZeW ZhF (.cons (cvs (ov Y)<|ZT Y)<|.cons (cvs (ov Y)<|ZT Y) .nil) Y)<|R_q (.sl 95<|List.map R95 ([(api_Flaw.mk i2 2)] : List api_Flaw)) Y (ZaV Zcb (.cons (cva<|ov Y) Y (pwD Y) .nil) Y Y)<|bE h fun l3 h_l3 h=>Rx Y (QC (ov Y) (QX (ov Y) tZ_95) Zcb Y Y Y (fun _=>Zc Y) Y h_l3)<|Ra Y<|Za<|K3 1 3 6 Y<|Zk<|Rm Y<|R2 ZN Y<|Ra Y<|Za<|⟨_, h, ES [some 0]⟩
      ·
       exact Ze<|K3 1 3 6 Y<|Zk<|Rm Y<|R2 ZN Y<|Ra Y<|Za<|⟨_, h, ES [some 0]⟩
     ·
      refine Zw<|?_
      replace h := lx h ▸ ho2
      exact ⟨_, h, ES [some 0]⟩
    ·
     refine I1 (fun out6=>⟨[(1, .rp (List.map C26 f.toList) 0), (3, .own 0 out6.length)], [some ⟨95, List.map R95 out6⟩]⟩) h (fun h=>?_) fun out6 h=>?_
     ·
      refine Tr<|bE h fun x5 h_x5 h=>Rq Y (QB (ov Y) (ov Y) X8 h_x5)<|Rq Y (Zd (ov Y) Je<|Z8<|QV (o := 0) (o' := ((Int.toNat 61) * 1)) (Zl arL)<|QW h_x5)<|bE h fun y3 h_y3 h=>Rq Y (Zn (JY h_y3)<|.cons (ov Y) (.b Y) .nil)<|bE h fun y4 h_y4 h=>Rq Y (Zn (ZdX h_y4)<|.cons (ov Y) (.b Y) .nil)<|R2 QR Y<|Za<|K3 1 3 53 Y<|If h Y (fun h=>?_) fun h=>?_
      ·
       exact K2 1 3 Y<|Zk<|Rm Y<|Rq Y (Jz (ys := [_, _]) ZeT ZeW ZhF (.cons (cvs (ov Y)<|ZT Y)<|.cons (cvs (ov Y)<|ZT Y) .nil) Y)<|R_q (.sl 95<|List.map R95 ([(api_Flaw.mk 61 3)] : List api_Flaw)) Y (ZaV Zcb (.cons (cva<|ov Y) Y (pwD Y) .nil) Y Y)<|bE h fun l4 h_l4 h=>Rx Y (QC (ov Y) (QX (ov Y) tZ_95) Zcb Y Y Y (fun _=>Zc Y) Y h_l4)<|Ra Y<|Za<|⟨_, h, ES [some 0]⟩
      ·
       exact Ze<|⟨_, h, ES [some 0]⟩
     ·
      refine Zg<|Zg<|Qn (cw := md0) (by kernel_rfl)<|bE h fun x6 h_x6 h=>Dq 0 Y (QB (ov Y) (ov Y) X8 h_x6)<|Dq 1 Y (Zd (ov Y) Je<|Z8<|QV (o := 0) (o' := ((Int.toNat 62) * 1)) (Zl arL)<|QW h_x6)<|bE h fun y5 h_y5 h=>Dq 2 Y (Zn (JY h_y5)<|.cons (ov Y) (.b Y) .nil)<|bE h fun q2 h_q2 h=>Dq 3 Y (Zdx (ov Y) (ov Y) h_q2)<|bE h fun x7 h_x7 h=>Dq 4 Y (QB (ov Y) (ov Y) X8 h_x7)<|Dq 5 Y (Zd (ov Y) Je<|Z8<|QV (o := 0) (o' := ((Int.toNat 63) * 1)) (Zl arL)<|QW h_x7)<|bE h fun y6 h_y6 h=>Dq 6 Y (Zn (JY h_y6)<|.cons (ov Y) (.b Y) .nil)<|D2 7 Zeo Y<|bE h fun y7 h_y7 h=>Dq 8 Y (Zn (Zdo h_y7)<|.cons (ov Y) (.b Y) .nil)<|D2 9 QR Y<|Dd<|K2 3 67 Y<|If h Y (fun h=>?_) fun h=>?_
      ·
       refine K1 3 Y<|Zk<|Rm Y<|Rq Y (Jz (ys := [_, _]) ZeT ZeW ZhF (.cons (cvs (ov Y)<|ZT Y)<|.cons (cvs (ov Y)<|ZT Y) .nil) Y)<|R_q (.sl 95<|List.map R95 ([(api_Flaw.mk 62 4)] : List api_Flaw)) Y (ZaV Zcb (.cons (cva<|ov Y) Y (pwD Y) .nil) Y Y)<|bE h fun l5 h_l5 h=>Rx Y (QC (ov Y) (QX (ov Y) tZ_95) Zcb Y Y Y (fun _=>Zc Y) Y h_l5)<|Ra Y<|Za<|K1 3 Y<|Tr<|Rm Y<|Ra Y<|Za<|?_
       obtain rfl := rt h
       exact Zj (ZE Y (.one<|.tmp Y<|View.ownM Y Y D95))
      ·
       refine Ze<|K1 3 Y<|Tr<|Rm Y<|Ra Y<|Za<|?_
       obtain rfl := rt h
       exact Zj (ZE Y (.one<|.tmp Y<|View.ownM Y Y D95))
theorem ZdP {f : Vector Int 64} {r : Int × Bool} (h : XY f = some r) :
 CSpec Tryz.prog gl0 23 [.agg (List.map C26 f.toList)] (.tuple [.int .i64 r.1, .bool r.2]) := by
 unfold XY at h
 replace h := Qo h
 refine So Tryz.func23 Y fun w0 A=>Tr<|Rq Y (ZaC (cva<|ov Y) arL tZ_28<|arD fun _ => Y)<|Ra Y<|Ra Y<|Za<|Zg<|K1 1 Y<|Tr<|bE h fun x h_x h=>Rq Y (QB (ov Y) (ov Y) X8 h_x)<|Rq Y (Zd (ov Y) Je<|Z8<|QV (o := 0) (o' := ((Int.toNat 1) * 1)) (Zl arL)<|QW h_x)<|bE h fun y h_y h=>Rq Y (Zn (Zco h_y)<|.cons (ov Y) (.b Y) .nil)<|R1 Xv Y<|Rm Y<|bE h fun x2 h_x2 h=>Rq Y (.guarded ((!y) == false) Y Y Y Y fun h => QB (ov Y) (ov Y) X8<|gdT h_x2 h)<|Rq Y (.guarded ((!y) == false) Y Y Y Y fun h => Zd (ow Y h) Je<|Z8<|QV (o := 0) (o' := ((Int.toNat 2) * 1)) (Zl arL)<|QW<|gdT h_x2 h)<|bE h fun y2 h_y2 h=>Rq Y (.guarded ((!y) == false) Y Y Y Y fun h => Zn (Zco<|gdT h_y2 h)<|.cons (ow Y h) (.b Y) .nil)<|Rq Y (.guarded ((!y) == false) Y Y Y Y fun h => Xv<|ow Y h)<|Rq Y (Zb9 (ov Y) fun hp=>ow Y<|gF hp)<|Za<|K2 1 13 Y<|If h Y (fun h=>?_) fun h=>?_
 ·
  refine K0<|Tr<|Ra Y<|Ra Y<|Za<|?_
  obtain rfl := rt h
  exact Zj (ZE Y (.two (rb Y)<|rb Y))
 ·
  refine Ze<|K1 1 Y<|Tr<|bE h fun y3 h_y3 h=>Rq Y (Zn (ZbF h_y3)<|.cons (ov Y) (.b Y) .nil)<|Ra Y<|Ra Y<|Za<|?_
  obtain rfl := rt h
  exact Zj (ZE Y (.two (rb Y)<|rb Y))
theorem Zgq {number : Int} {memories : Int} {copies : Int} {r : (List Int)} (h : Zbr number memories copies = some r) :
 CSpec Tryz.prog gl0 34 [.int .i64 number, .int .i64 memories, .int .i64 copies] (.sl 3 (List.map R3 r)) := by
 unfold Zbr at h
 replace h := Qo h
 refine So Tryz.func34 Y fun w0 A=>Tr<|Ra Y<|Za<|K3 0 1 2 Y<|Tr<|Ra Y<|Za<|I1 (fun out=>⟨[(7, .own 0 out.length)], [some ⟨3, List.map R3 out⟩]⟩) h (fun h=>?_) fun out h=>?_
 ·
  refine Tr<|Rm Y<|Rm Y<|Za<|Zf<|?_
  obtain ⟨r1, hl1, ho1⟩ := QO h
  refine L2 (fun out2 i=>⟨[(0, .int .i64 number), (1, .int .i64 memories), (7, .own 0 out2.length), (9, .int .i64 copies), (10, .int .i64 i)], [some ⟨3, List.map R3 out2⟩]⟩) hl1 (ES [none]) fun n1 out2 i h=>?_
  unfold JP at h
  refine Tr<|R2 ZH Y<|Za<|Zg<|If h Y (fun h=>?_) fun h=>?_
  ·
   exact Ze<|Zg<|Zf<|K5 0 1 7 9 10 Y<|Tr<|Rm Y<|Ra Y<|Za<|K6 0 1 7 8 9 10 Y<|Zk<|Rm Y<|Rm Y<|Rm Y<|R2 ZN Y<|Rm Y<|bE h fun q h_q h=>Rq Y (Zab (ov Y) (ov Y) h_q)<|R_q (.sl 3<|List.map R3 ([q] : List Int)) Y (ZaV Q5 (.cons (cvs (ov Y)<|ZT Y) Y (.cons (.b Y) .nil) .nil) Y Y)<|bE h fun l h_l h=>Rx Y (QC (ov Y) (QX (ov Y) tZ_3) Q5 Y Y Y (fun _=>Zc Y) Y h_l)<|Ra Y<|Za<|K5 0 1 7 9 10 Y<|Zk<|R2 ZN Y<|Rm Y<|Za<|⟨_, h, ES [some 0]⟩
  ·
   refine Zw<|?_
   replace h := lx h ▸ ho1
   exact ⟨_, h, ES [some 0]⟩
 ·
  refine Tr<|Rm Y<|Ra Y<|Za<|?_
  obtain rfl := rt h
  exact Zj (ZE Y (.one<|.tmp Y<|View.ownM Y Y D3))
theorem Zay {b : ring_bank} {k : Int} {r : Bool} (h : Q2 b k = some r) :
 CSpec Tryz.prog gl0 58 [.rp [.sl 55 (List.map R55 b.memories), .sl 78 (List.map R78 b.spots)] 0, .int .i64 k] (.bool r) := by
 unfold Q2 at h
 replace h := Qo h
 refine So Tryz.func58 Y fun w0 A=>Tr<|Ra Y<|Za<|Zg<|Qn (cw := md0) (by kernel_rfl)<|D1 0 Zb Y<|D1 1 ZG Y<|Dq 2 Y (ZS (ov Y) Ze0)<|Dq 3 Y (Zd (ov Y) Zj3 Y)<|D1 4 Zb Y<|bE h fun x h_x h=>Dq 5 Y (ZX (ov Y) (ov Y) ZjL h_x)<|Dq 6 Y (ZS (ov Y) ZfU)<|Dq 7 Y (Zd (ov Y) tS3 Y)<|D2 8 ZH Y<|D1 9 Zb Y<|Dq 10 Y (.guarded ((decide (x.sector < 0)) == false) Y Y Y Y fun h => Zb<|ov Y)<|Dq 11 Y (.guarded ((decide (x.sector < 0)) == false) Y Y Y Y fun h => ZG<|ow Y h)<|Dq 12 Y (.guarded ((decide (x.sector < 0)) == false) Y Y Y Y fun h => ZS (ow Y h) Ze0)<|Dq 13 Y (.guarded ((decide (x.sector < 0)) == false) Y Y Y Y fun h => Zd (ow Y h) Zj3 Y)<|Dq 14 Y (.guarded ((decide (x.sector < 0)) == false) Y Y Y Y fun h => Zb<|ov Y)<|bE h fun x2 h_x2 h=>Dq 15 Y (.guarded ((decide (x.sector < 0)) == false) Y Y Y Y fun h => ZX (ow Y h) (ow Y h) ZjL<|gdT h_x2 h)<|Dq 16 Y (.guarded ((decide (x.sector < 0)) == false) Y Y Y Y fun h => ZS (ow Y h) ZgZ)<|Dq 17 Y (.guarded ((decide (x.sector < 0)) == false) Y Y Y Y fun h => Zd (ow Y h) tS3 Y)<|Dq 18 Y (.guarded ((decide (x.sector < 0)) == false) Y Y Y Y fun h => Zb<|ov Y)<|Dq 19 Y (.guarded ((decide (x.sector < 0)) == false) Y Y Y Y fun h => ZG<|ow Y h)<|Dq 20 Y (.guarded ((decide (x.sector < 0)) == false) Y Y Y Y fun h => ZS (ow Y h) ZdH)<|Dq 21 Y (.guarded ((decide (x.sector < 0)) == false) Y Y Y Y fun h => Zd (ow Y h) ZiQ Y)<|Dq 22 Y (.guarded ((decide (x.sector < 0)) == false) Y Y Y Y fun h => Zb<|ov Y)<|bE h fun x3 h_x3 h=>Dq 23 Y (.guarded ((decide (x.sector < 0)) == false) Y Y Y Y fun h => ZX (ow Y h) (ow Y h) ZaB<|gdT h_x3 h)<|Dq 24 Y (.guarded ((decide (x.sector < 0)) == false) Y Y Y Y fun h => ZS (ow Y h) Zet)<|Dq 25 Y (.guarded ((decide (x.sector < 0)) == false) Y Y Y Y fun h => Zd (ow Y h) tS3 Y)<|Dq 26 Y (.guarded ((decide (x.sector < 0)) == false) Y Y Y Y fun h => Za1 (ow Y h)<|ow Y h)<|Dq 27 Y (Zb9 (ov Y) fun hp=>ow Y<|gF hp)<|D1 28 Q1 Y<|Dd<|?_
 obtain rfl := rt h
 exact Zj (ZE Y (.one<|rb Y))
theorem Zbs {b : ring_bank} {k : Int} {r : Int} (h : Xr b k = some r) :
 CSpec Tryz.prog gl0 59 [.rp [.sl 55 (List.map R55 b.memories), .sl 78 (List.map R78 b.spots)] 0, .int .i64 k] (.int .i64 r) := by
 unfold Xr at h
 replace h := Qo h
 refine So Tryz.func59 Y fun w0 A=>Tr<|Ra Y<|Za<|K2 0 1 Y<|Tr<|Rm Y<|R1 ZG Y<|Rq Y (ZS (ov Y) ZdH)<|Rq Y (Zd (ov Y) ZiQ Y)<|Rm Y<|bE h fun x h_x h=>Rq Y (ZX (ov Y) (ov Y) ZaB h_x)<|Rq Y (ZP (ov Y) Za2 Y Y)<|Rx Y (Ql (row := [_, _, _, _, _]) 0 Y ZhO Y tZ_55)<|Rx Y (Zs (ov Y) (ov Y) (ZK Za2 Y) Y Y Y (Nat.le_of_ble_eq_true Y) (Zc Y) Y)<|Za<|K3 0 1 5 Y<|Tr<|Rq Y (Zr (ov Y) Y Y Jw)<|Rq Y (ZV (ov Y) Y Y Y ZdB Y)<|Rl tZ_56 Zcd Y<|Ra Y<|Za<|J0 (fun j => (.inr j)) ⟨[], []⟩ h (fun h=>?_) fun h=>?_
 ·
  refine K4 0 1 5 6 Y<|Tr<|Rm Y<|Rm Y<|Za<|Zf<|?_
  obtain ⟨r1, hl1, ho1⟩ := QO h
  refine L1 (fun i=>⟨[(0, .rp [.sl 55 (List.map R55 b.memories), .sl 78 (List.map R78 b.spots)] 0), (1, .int .i64 k), (5, .ptr 0 1 0 0), (6, .int .i64 (x.Sectors.length : Int)), (19, .int .i64 (x.Sectors.length : Int)), (20, .int .i64 i)], [some ⟨55, [[.int .i64 x.Slots, .int .i64 x.Limit, .sl 56 (List.map R56 x.Sectors), .sl 3 (List.map R3 x.Wear), .sl 4 (List.map R4 x.Bad)]]⟩]⟩) hl1 (ES [some 0]) fun n1 i h=>?_
  unfold X0 at h
  refine Tr<|R2 ZH Y<|Za<|Zg<|If h Y (fun h=>?_) fun h=>?_
  ·
   refine Ze<|Zg<|Zf<|K6 0 1 5 6 19 20 Y<|Tr<|Rm Y<|Ra Y<|Za<|K7 0 1 5 6 7 19 20 Y<|Tr<|Rm Y<|R1 ZG Y<|Rq Y (ZS (ov Y) Ze0)<|Rq Y (Zd (ov Y) Zj3 Y)<|Rm Y<|bE h fun x2 h_x2 h=>Rq Y (ZX (ov Y) (ov Y) ZjL h_x2)<|Rq Y (ZS (ov Y) ZfU)<|Rq Y (Zd (ov Y) tS3 Y)<|R2 ZN Y<|Rm Y<|R2 ZN Y<|Rm Y<|bE h fun q h_q h=>Rq Y (Zab (ov Y) (ov Y) h_q)<|Ra Y<|Za<|Zg<|K7 0 1 5 6 8 19 20 Y<|Qn (cw := md0) (by kernel_rfl)<|Dq 0 Y (Zr (ov Y) Y Y ZdK)<|Dq 1 Y (ZV (ov Y) Y Y Y ZhM Y)<|D1 2 Zb Y<|bE h fun x3 h_x3 h=>Dq 3 Y (ZX (ov Y) (ov Y) Zix h_x3)<|Dq 4 Y (Zd (ov Y) tS4 Y)<|D1 5 Xv Y<|D1 6 Zb Y<|Dq 7 Y (.guarded ((!x3) == true) Y Y Y Y fun h => Zr (ov Y) Y Y Zc9)<|Dq 8 Y (.guarded ((!x3) == true) Y Y Y Y fun h => ZV (ow Y h) Y Y Y ZhN Y)<|Dq 9 Y (.guarded ((!x3) == true) Y Y Y Y fun h => Zb<|ov Y)<|bE h fun x4 h_x4 h=>Dq 10 Y (.guarded ((!x3) == true) Y Y Y Y fun h => ZX (ow Y h) (ow Y h) Q5<|gdT h_x4 h)<|Dq 11 Y (.guarded ((!x3) == true) Y Y Y Y fun h => Zd (ow Y h) tS3 Y)<|Dq 12 Y (.guarded ((!x3) == true) Y Y Y Y fun h => Zr (ov Y) Y Y Zf7)<|Dq 13 Y (.guarded ((!x3) == true) Y Y Y Y fun h => ZV (ow Y h) Y Y Y tS3 Y)<|Dq 14 Y (.guarded ((!x3) == true) Y Y Y Y fun h => ZH (ow Y h)<|ow Y h)<|Dq 15 Y (Zb2 (ov Y) fun hp=>ow Y<|gT hp)<|Dd<|K8 0 1 5 6 8 19 20 51 Y<|If h Y (fun h=>?_) fun h=>?_
   ·
    refine K1 8 Y<|Tr<|Rm Y<|Ra Y<|Za<|?_
    replace h := lx h ▸ ho1
    obtain rfl := rt h
    exact Zj (ZE Y (.one<|rb Y))
   ·
    exact Ze<|K6 0 1 5 6 19 20 Y<|Zk<|R2 ZN Y<|Rm Y<|Za<|⟨_, h, ES [some 0]⟩
  ·
   refine Zw<|?_
   replace h := lx h ▸ ho1
   exact ⟨(), h, ES []⟩
 ·
  replace h := elr h
  replace h := t0i h
  refine Tr<|Ra Y<|Za<|?_
  obtain rfl := rt h
  exact Zj (ZE Y (.one<|rb Y))
theorem ZbN {b : ring_bank} {k : Int} {sector : Int} {r : Int} (h : Q0 b k sector = some r) :
 CSpec Tryz.prog gl0 60 [.rp [.sl 55 (List.map R55 b.memories), .sl 78 (List.map R78 b.spots)] 0, .int .i64 k, .int .i64 sector] (.int .i64 r) := by
 unfold Q0 at h
 replace h := Qo h
 refine So Tryz.func60 Y fun w0 A=>Tr<|Ra Y<|Za<|K3 0 1 2 Y<|Tr<|Ra Y<|Za<|I1 (fun most=>⟨[(7, .int .i64 most)], []⟩) h (fun h=>?_) fun most h=>?_
 ·
  refine Tr<|Rm Y<|R1 ZG Y<|Rq Y (ZS (ov Y) ZdH)<|Rq Y (Zd (ov Y) ZiQ Y)<|Rm Y<|bE h fun x h_x h=>Rq Y (ZX (ov Y) (ov Y) ZaB h_x)<|Rq Y (ZS (ov Y) Jw)<|Rq Y (Zd (ov Y) ZdB Y)<|Rl tZ_56 Zcd Y<|Rm Y<|Za<|Zf<|?_
  obtain ⟨r1, hl1, ho1⟩ := QO h
  refine L2 (fun most2 i=>⟨[(2, .int .i64 sector), (7, .int .i64 most2), (20, .sl 56 (List.map R56 x.Sectors)), (21, .int .i64 (x.Sectors.length : Int)), (22, .int .i64 i)], []⟩) hl1 (ES []) fun n1 most2 i h=>?_
  unfold Xf at h
  refine Tr<|R2 ZH Y<|Za<|Zg<|If h Y (fun h=>?_) fun h=>?_
  ·
   refine Ze<|Zg<|Zf<|K5 2 7 20 21 22 Y<|Tr<|Rm Y<|bE h fun x2 h_x2 h=>Rq Y (ZX (ov Y) (ov Y) Zcd h_x2)<|Rq Y (Zd (ov Y) Zfl Y)<|Ra Y<|Ra Y<|Za<|K7 2 7 8 9 20 21 22 Y<|Tr<|Rm Y<|bE h fun y h_y h=>Rq Y (Zn (ZbL h_y)<|.cons (ov Y) (.b Y) .nil)<|Rm Y<|Rq Y (Zi (ov Y) Y)<|Rq Y (Zi (ov Y) Y)<|Rq Y (Zi (ov Y) Y)<|Ra Y<|Ra Y<|Ra Y<|Za<|K8 2 7 8 10 12 20 21 22 Y<|Tr<|Rm Y<|Rm Y<|Rq Y (.guarded (y.2.2 == true) Y Y Y Y fun h => Zb<|ov Y)<|Rq Y (.guarded (y.2.2 == true) Y Y Y Y fun h => Zb<|ov Y)<|Rq Y (.guarded (y.2.2 == true) Y Y Y Y fun h => QR (ow Y h)<|ow Y h)<|Rq Y (Zb2 (ov Y) fun hp=>ow Y<|gT hp)<|Za<|K7 2 7 10 20 21 22 38 Y<|If h Y (fun h=>?_) fun h=>?_
   ·
    exact K6 2 7 10 20 21 22 Y<|Zk<|Rm Y<|Rm Y<|Rq Y (ZhT (ov Y) (ov Y) Y)<|Ra Y<|Za<|K5 2 7 20 21 22 Y<|Zk<|R2 ZN Y<|Rm Y<|Za<|⟨_, h, ES []⟩
   ·
    exact Ze<|K5 2 7 20 21 22 Y<|Zk<|R2 ZN Y<|Rm Y<|Za<|⟨_, h, ES []⟩
  ·
   refine Zw<|?_
   replace h := lx h ▸ ho1
   exact ⟨_, h, ES []⟩
 ·
  refine Tr<|Rm Y<|R2 ZN Y<|Ra Y<|Za<|?_
  obtain rfl := rt h
  exact Zj (ZE Y (.one<|rb Y))
theorem Ze7 {b : ring_bank} {l : List Int} {r : Int} (h : JO b l = some r) :
 CSpec Tryz.prog gl0 35 [.rp [.sl 55 (List.map R55 b.memories), .sl 78 (List.map R78 b.spots)] 0, .sl 3 (List.map R3 l)] (.int .i64 r) := by
 unfold JO at h
 replace h := Qo h
 refine So Tryz.func35 Y fun w0 A=>Tr<|Ra Y<|Za<|J0 (fun j => (.inr j)) ⟨[(0, .rp [.sl 55 (List.map R55 b.memories), .sl 78 (List.map R78 b.spots)] 0), (1, .sl 3 (List.map R3 l))], []⟩ h (fun h=>?_) fun h=>?_
 ·
  refine K2 0 1 Y<|Tr<|Rm Y<|Rl tZ_3 Q5 Y<|Rm Y<|Za<|Zf<|?_
  obtain ⟨r1, hl1, ho1⟩ := QO h
  refine L1 (fun i=>⟨[(0, .rp [.sl 55 (List.map R55 b.memories), .sl 78 (List.map R78 b.spots)] 0), (1, .sl 3 (List.map R3 l)), (9, .sl 3 (List.map R3 l)), (10, .int .i64 (l.length : Int)), (11, .int .i64 i)], []⟩) hl1 (ES []) fun n1 i h=>?_
  unfold XJ at h
  refine Tr<|R2 ZH Y<|Za<|Zg<|If h Y (fun h=>?_) fun h=>?_
  ·
   refine Ze<|Zg<|Zf<|K5 0 1 9 10 11 Y<|Tr<|bE h fun x h_x h=>Rq Y (ZX (ov Y) (ov Y) Q5 h_x)<|Rq Y (Zd (ov Y) tS3 Y)<|Ra Y<|Za<|K6 0 1 6 9 10 11 Y<|Tr<|Rm Y<|Rm Y<|bE h fun y h_y h=>Rq Y (Zn (Zay h_y)<|.cons (ov Y) (.b Y)<|.cons (ov Y) (.b Y) .nil)<|Rm Y<|Rq Y (.guarded (y == true) Y Y Y Y fun h => Zb<|ov Y)<|Rq Y (.guarded (y == true) Y Y Y Y fun h => Zb<|ov Y)<|bE h fun y2 h_y2 h=>Rq Y (.guarded (y == true) Y Y Y Y fun h => Zn (Zbs<|gdT h_y2 h)<|.cons (ow Y h) (.b Y)<|.cons (ow Y h) (.b Y) .nil)<|Rq Y (.guarded (y == true) Y Y Y Y fun h => ZH (ow Y h)<|ov Y)<|Rq Y (Zb2 (ov Y) fun hp=>ow Y<|gT hp)<|Za<|K6 0 1 9 10 11 23 Y<|If h Y (fun h=>?_) fun h=>?_
   ·
    refine K0<|Tr<|Ra Y<|Za<|?_
    replace h := lx h ▸ ho1
    obtain rfl := rt h
    exact Zj (ZE Y (.one<|rb Y))
   ·
    exact Ze<|K5 0 1 9 10 11 Y<|Zk<|R2 ZN Y<|Rm Y<|Za<|⟨_, h, ES []⟩
  ·
   refine Zw<|?_
   replace h := lx h ▸ ho1
   exact ⟨(), h, ES []⟩
 ·
  replace h := elr h
  replace h := t0i h
  refine J0 (fun j => (.inr j)) ⟨[], []⟩ h (fun h=>?_) fun h=>?_
  ·
   refine Tr<|Rm Y<|Rl tZ_3 Q5 Y<|Rm Y<|Za<|Zf<|?_
   obtain ⟨r2, hl2, ho2⟩ := QO h
   refine L1 (fun i2=>⟨[(0, .rp [.sl 55 (List.map R55 b.memories), .sl 78 (List.map R78 b.spots)] 0), (25, .sl 3 (List.map R3 l)), (26, .int .i64 (l.length : Int)), (27, .int .i64 i2)], []⟩) hl2 (ES []) fun n2 i2 h=>?_
   unfold XI at h
   refine Tr<|R2 ZH Y<|Za<|Zg<|If h Y (fun h=>?_) fun h=>?_
   ·
    refine Ze<|Zg<|Zf<|K4 0 25 26 27 Y<|Tr<|bE h fun x2 h_x2 h=>Rq Y (ZX (ov Y) (ov Y) Q5 h_x2)<|Rq Y (Zd (ov Y) tS3 Y)<|Ra Y<|Za<|K5 0 8 25 26 27 Y<|Tr<|Rm Y<|Rm Y<|bE h fun y3 h_y3 h=>Rq Y (Zn (Zay h_y3)<|.cons (ov Y) (.b Y)<|.cons (ov Y) (.b Y) .nil)<|Rm Y<|Rq Y (.guarded (y3 == true) Y Y Y Y fun h => Zb<|ov Y)<|Rq Y (.guarded (y3 == true) Y Y Y Y fun h => Zb<|ov Y)<|Rq Y (.guarded (y3 == true) Y Y Y Y fun h => Zb<|ov Y)<|Rq Y (.guarded (y3 == true) Y Y Y Y fun h => Zb<|ov Y)<|bE h fun y4 h_y4 h=>Rq Y (.guarded (y3 == true) Y Y Y Y fun h => Zn (Zbs<|gdT h_y4 h)<|.cons (ow Y h) (.b Y)<|.cons (ow Y h) (.b Y) .nil)<|bE h fun y5 h_y5 h=>Rq Y (.guarded (y3 == true) Y Y Y Y fun h => Zn (ZbN<|gdT h_y5 h)<|.cons (ow Y h) (.b Y)<|.cons (ow Y h) (.b Y)<|.cons (ow Y h) (.b Y) .nil)<|Rq Y (.guarded (y3 == true) Y Y Y Y fun h => Zaw (ow Y h)<|ov Y)<|Rq Y (Zb2 (ov Y) fun hp=>ow Y<|gT hp)<|Za<|K5 0 25 26 27 42 Y<|If h Y (fun h=>?_) fun h=>?_
    ·
     refine K0<|Tr<|Ra Y<|Za<|?_
     replace h := lx h ▸ ho2
     obtain rfl := rt h
     exact Zj (ZE Y (.one<|rb Y))
    ·
     exact Ze<|K4 0 25 26 27 Y<|Zk<|R2 ZN Y<|Rm Y<|Za<|⟨_, h, ES []⟩
   ·
    refine Zw<|?_
    replace h := lx h ▸ ho2
    exact ⟨(), h, ES []⟩
  ·
   replace h := elr h
   replace h := t0i h
   refine Tr<|Ra Y<|Za<|?_
   obtain rfl := rt h
   exact Zj (ZE Y (.one<|rb Y))
theorem ZhI {f : Vector Int 64} {r : Bool} (h : ZcG f = some r) :
 CSpec Tryz.prog gl0 61 [.rp (List.map C26 f.toList) 0] (.bool r) := by
 unfold ZcG at h
 replace h := Qo h
 refine So Tryz.func61 Y fun w0 A=>Tr<|Ra Y<|Za<|J0 (fun j => (.inr j)) ⟨[], []⟩ h (fun h=>?_) fun h=>?_
 ·
  refine K1 0 Y<|Tr<|Rm Y<|Za<|Zf<|?_
  obtain ⟨r1, hl1, ho1⟩ := QO h
  refine L1 (fun i=>⟨[(0, .rp (List.map C26 f.toList) 0), (4, .int .i64 i)], []⟩) hl1 (ES []) fun n1 i h=>?_
  unfold ZaZ at h
  refine Tr<|R2 ZH Y<|Za<|Zg<|If h Y (fun h=>?_) fun h=>?_
  ·
   refine Ze<|Zg<|Zf<|K2 0 4 Y<|Tr<|Rm Y<|Ra Y<|Za<|K3 0 3 4 Y<|Tr<|Rm Y<|Rm Y<|R1 ZG Y<|bE h fun x h_x h=>Rq Y (QB (ov Y) (ov Y) X8 h_x)<|Rq Y (Zd (ov Y) Je<|Z8<|QV (o := 0) (o' := (i.toNat * 1)) (Zl arL)<|QW h_x)<|R2 Zaw Y<|Za<|K3 0 4 12 Y<|If h Y (fun h=>?_) fun h=>?_
   ·
    refine K0<|Tr<|Ra Y<|Za<|?_
    replace h := lx h ▸ ho1
    obtain rfl := rt h
    exact Zj (ZE Y (.one<|rb Y))
   ·
    exact Ze<|K2 0 4 Y<|Zk<|R2 ZN Y<|Rm Y<|Za<|⟨_, h, ES []⟩
  ·
   refine Zw<|?_
   replace h := lx h ▸ ho1
   exact ⟨(), h, ES []⟩
 ·
  replace h := elr h
  replace h := t0i h
  refine Tr<|Ra Y<|Za<|?_
  obtain rfl := rt h
  exact Zj (ZE Y (.one<|rb Y))
theorem ZdY {p : Vector Int 96} {i : Int} {w : Int} {r : (Vector Int 96)} (h : JJ p i w = some r) :
 GSpec Tryz.prog gl0 88 [.ptr 0 1 0 0, .int .i64 i, .int .u16 w] [some ⟨114, [(List.map C5 p.toList)]⟩] (.tuple []) [some ⟨114, [(List.map C5 r.toList)]⟩] := by
 unfold JJ at h
 replace h := Qo h
 refine QQ (by kernel_rfl) Tryz.func88 Y Y<|?_
 intro w0 A W φ0
 refine Tr<|Rm Y<|bE h fun q h_q h=>Rq Y (Zf1 (ov Y) (ov Y) h_q)<|R2 Zft Y<|Ra Y<|Za<|Zg<|K4 0 1 2 6 Y<|Tr<|Rm Y<|bE h fun q2 h_q2 h=>Rq Y (Zab (ov Y) (ov Y) h_q2)<|R2 Za1 Y<|Za<|K4 0 2 6 12 Y<|If h Y (fun h=>?_) fun h=>?_
 ·
  refine Zg<|K3 0 2 6 Y<|Qn (cw := ⟨false, false, [], [20, 24], []⟩) (by kernel_rfl)<|D1 0 Zb Y<|D1 1 Zb Y<|D1 5 Zb Y<|bE h fun q3 h_q3 h=>Dq 6 Y (ZbQ (ov Y) (ov Y) h_q3)<|Dq 7 Y (QI (ov Y) Zdg tI5 Y)<|D1 12 Zb Y<|D1 13 Zb Y<|D2 14 ZN Y<|Dq 15 Y (Zq (ov Y) Y Y)<|bE h fun x h_x h=>Dq 16 Y (Jc (ov Y) (ov Y) ZcY Y Y h_x)<|Dq 17 Y (ZV (ov Y) Y Y Y tS5<|Z8<|QV (o := 0) (o' := ((i64 ((i64 (q * 3)) + 1)).toNat * 1)) (Zl arL)<|QW h_x)<|Dq 20 Y (Zq (ov Y) Y Y)<|bE h fun x2 h_x2 h=>Dq 21 Y (Jc (ov Y) (ov Y) ZcY Y Y h_x2)<|Qc 2 _ Y (by kernel_rfl) Y Y (fun hp'=>Zb<|ov Y)<|Qc 3 _ Y (by kernel_rfl) Y Y (fun hp'=>Zb<|ov Y)<|Qc 4 _ Y (by kernel_rfl) Y Y (fun hp'=>ZhS (ov Y) (ov Y) Y)<|Qc 8 _ Y (by kernel_rfl) Y Y (fun hp'=>Zb<|ov Y)<|Qc 9 _ Y (by kernel_rfl) Y Y (fun hp'=>ZbG (ov Y)<|ov Y)<|bE h fun q4 h_q4 h=>Qc 10 _ Y (by kernel_rfl) Y Y (fun hp'=>Zdx (ov Y) (ov Y) h_q4)<|Qc 11 _ Y (by kernel_rfl) Y Y (fun hp'=>QI (ov Y) Zdg tI5 Y)<|Qc 18 _ Y (by kernel_rfl) Y Y (fun hp'=>ZbG (ov Y)<|ov Y)<|Qc 19 _ Y (by kernel_rfl) Y Y (fun hp'=>Zeo (ov Y)<|ov Y)<|Dw 23 22 Y (Zq (ov Y) Y Y) (Zs (ov Y) (ov Y) (Zo tS5) Y Y Y (arB h_x2) (Zc Y)<|arS h_x2) ?_ ?_
  ·
   refine Do 22 Y (Zs (ov Y) (ov Y) (Zo tS5) Y Y Y (arB h_x2) (Zc Y)<|arS h_x2)<|bE h fun x3 h_x3 h=>Dq 24 Y (Jc (ov Y) (ov Y) ZcY Y Y h_x3)<|Do 25 Y (Zs (ov Y) (ov Y) (Zo tS5) Y Y Y (arB h_x3) (Zc Y)<|arS h_x3)<|Dd<|?_
   obtain rfl := rt h
   exact Zj<|Zbo [some 0] Y .nil (.cons Y (ro1 (by exact Eq.trans (b := 96) arL tZ_114.symm)<|rld<|arD fun _ => Y) .nil) Y Y<|Q6 rln
  ·
   refine Dq 23 Y (Zq (ov Y) Y Y)<|bE h fun x3 h_x3 h=>Dq 24 Y (Jc (ov Y) (ov Y) ZcY Y Y h_x3)<|Do 25 Y (Zs (ov Y) (ov Y) (Zo tS5) Y Y Y (arB h_x3) (Zc Y)<|arS h_x3)<|Dd<|?_
   obtain rfl := rt h
   exact Zj<|Zbo [some 0] Y .nil (.cons Y (ro1 (by exact Eq.trans (b := 96) arL tZ_114.symm)<|rld<|arD fun _ => Y) .nil) Y Y<|Q6 rln
 ·
  refine Ze<|K3 0 2 6 Y<|Qn (cw := ⟨false, false, [], [52, 55], []⟩) (by kernel_rfl)<|D1 0 Zb Y<|D1 1 Zb Y<|D2 2 ZN Y<|D1 6 Zb Y<|D1 7 Zb Y<|D2 8 ZN Y<|Dq 9 Y (Zq (ov Y) Y Y)<|bE h fun x4 h_x4 h=>Dq 10 Y (Jc (ov Y) (ov Y) ZcY Y Y h_x4)<|Dq 11 Y (ZV (ov Y) Y Y Y tS5<|Z8<|QV (o := 0) (o' := ((i64 ((i64 (q * 3)) + 1)).toNat * 1)) (Zl arL)<|QW h_x4)<|D2 12 ZbG Y<|D1 13 Zb Y<|bE h fun q5 h_q5 h=>Dq 14 Y (ZbQ (ov Y) (ov Y) h_q5)<|Dq 15 Y (QI (ov Y) Zdg tI5 Y)<|D2 16 Zeo Y<|Dq 19 Y (Zq (ov Y) Y Y)<|bE h fun x5 h_x5 h=>Dq 20 Y (Jc (ov Y) (ov Y) ZcY Y Y h_x5)<|Qc 3 _ Y (by kernel_rfl) Y Y (fun hp'=>Zb<|ov Y)<|Qc 4 _ Y (by kernel_rfl) Y Y (fun hp'=>Zb<|ov Y)<|Qc 5 _ Y (by kernel_rfl) Y Y (fun hp'=>ZhS (ov Y) (ov Y) Y)<|Qc 17 _ Y (by kernel_rfl) Y Y (fun hp'=>Zb<|ov Y)<|Qc 18 _ Y (by kernel_rfl) Y Y (fun hp'=>QI (ov Y) Zdg tI5 Y)<|Dw 22 21 Y (Zq (ov Y) Y Y) (Zs (ov Y) (ov Y) (Zo tS5) Y Y Y (arB h_x5) (Zc Y)<|arS h_x5) ?_ ?_
  ·
   refine Do 21 Y (Zs (ov Y) (ov Y) (Zo tS5) Y Y Y (arB h_x5) (Zc Y)<|arS h_x5)<|bE h fun x6 h_x6 h=>Dq 23 Y (Jc (ov Y) (ov Y) ZcY Y Y h_x6)<|Do 24 Y (Zs (ov Y) (ov Y) (Zo tS5) Y Y Y (arB h_x6) (Zc Y)<|arS h_x6)<|Dd<|?_
   obtain rfl := rt h
   exact ZdS [some 0] Y .nil (.cons Y (ro1 (by exact Eq.trans (b := 96) arL tZ_114.symm)<|rld<|arD fun _ => Y) .nil) Y Y<|Q6 rln
  ·
   refine Dq 22 Y (Zq (ov Y) Y Y)<|bE h fun x6 h_x6 h=>Dq 23 Y (Jc (ov Y) (ov Y) ZcY Y Y h_x6)<|Do 24 Y (Zs (ov Y) (ov Y) (Zo tS5) Y Y Y (arB h_x6) (Zc Y)<|arS h_x6)<|Dd<|?_
   obtain rfl := rt h
   exact ZdS [some 0] Y .nil (.cons Y (ro1 (by exact Eq.trans (b := 96) arL tZ_114.symm)<|rld<|arD fun _ => Y) .nil) Y Y<|Q6 rln
theorem Zgx {p : Vector Int 96} {f : Vector Int 64} {r : (Vector Int 96)} (h : Zdy p f = some r) :
 GSpec Tryz.prog gl0 62 [.ptr 0 1 0 0, .rp (List.map C26 f.toList) 0] [some ⟨114, [(List.map C5 p.toList)]⟩] (.tuple []) [some ⟨114, [(List.map C5 r.toList)]⟩] := by
 unfold Zdy at h
 replace h := Qo h
 refine QQ (by kernel_rfl) Tryz.func62 Y Y<|?_
 intro w0 A W φ0
 refine Tr<|Rm Y<|Za<|Zf<|?_
 obtain ⟨r1, hl1, ho1⟩ := QO h
 refine L2 (fun o i=>⟨[(0, .ptr 0 1 0 0), (1, .rp (List.map C26 f.toList) 0), (5, .int .i64 i)], [some ⟨114, [(List.map C5 o.toList)]⟩]⟩) hl1 (ES [some 0]) fun n1 o i h=>?_
 unfold ZaD at h
 refine Tr<|R2 ZH Y<|Za<|Zg<|If h Y (fun h=>?_) fun h=>?_
 ·
  exact Ze<|Zg<|Zf<|K3 0 1 5 Y<|Tr<|Rm Y<|Ra Y<|Za<|K4 0 1 4 5 Y<|Zk<|Rm Y<|Rm Y<|Rm Y<|Rm Y<|R1 ZG Y<|bE h fun x h_x h=>Rq Y (QB (ov Y) (ov Y) X8 h_x)<|Rq Y (Zd (ov Y) Je<|Z8<|QV (o := 0) (o' := (i.toNat * 1)) (Zl arL)<|QW h_x)<|bE h fun y h_y h=>Rx Y (Z4 [0] (ZdY h_y) (.cons (ov Y) (.ptr _ _ _ Y)<|.cons (ov Y) (.dat Y)<|.cons (ov Y) (.dat Y) .nil) (.cons Y (ro1 (by exact Eq.trans (b := 96) arL tZ_114.symm)<|rld<|arD fun _ => Y) .nil) Y (.lent 0 (.inl Y) Y (ro1 (by exact Eq.trans (b := 96) arL tZ_114.symm)<|rld<|arD fun _ => Y) .nil) Y Y<|Q6<|rld Y)<|Za<|K3 0 1 5 Y<|Zk<|R2 ZN Y<|Rm Y<|Za<|⟨_, h, ES [some 0]⟩
 ·
  refine Zw<|?_
  replace h := lx h ▸ ho1
  obtain rfl := rt h
  exact ZdS [some 0] Y .nil (.cons Y (ro1 (by exact Eq.trans (b := 96) arL tZ_114.symm)<|rld<|arD fun _ => Y) .nil) Y Y<|Q6 rln
theorem ZfW {f : Vector Int 64} {r : (List Int) × Int} (h : ZaW f = some r) :
 CSpec Tryz.prog gl0 36 [.agg (List.map C26 f.toList)] (.tuple [.sl 5 (List.map R5 r.1), .int .i64 r.2]) := by
 unfold ZaW at h
 replace h := Qo h
 refine So Tryz.func36 Y fun w0 A=>Tr<|Rq Y (ZaC (cva<|ov Y) arL tZ_28<|arD fun _ => Y)<|Ra Y<|Ra Y<|Za<|Zg<|K1 1 Y<|Tr<|bE h fun y h_y h=>Rq Y (Zn (ZhI h_y)<|.cons (ov Y) (.b Y) .nil)<|Za<|If h Y (fun h=>?_) fun h=>?_
 ·
  refine K0<|Tr<|Ra Y<|Ra Y<|Za<|?_
  obtain rfl := rt h
  exact Zj (ZE Y (.two (.tmp Y<|View.nils 5)<|rb Y))
 ·
  refine Ze<|K1 1 Y<|Tr<|Rx Y (Ql (row := (List.map C5 (Vector.replicate 96 0).toList)) 0 Y ZnX Y tZ_114)<|Za<|Tr<|bE h fun y2 h_y2 h=>Rx Y (Z4 [0] (Zgx h_y2) (.cons (ov Y) (.ptr _ _ _ Y)<|.cons (ov Y) (.dat Y) .nil) (.cons Y (ro1 (by exact Eq.trans (b := 96) arL tZ_114.symm)<|rld<|arD fun _ => Y) .nil) Y (.lent 0 (.inl Y) Y (ro1 (by exact Eq.trans (b := 96) arL tZ_114.symm)<|rld<|arD fun _ => Y) .nil) Y Y<|Q6<|rld Y)<|Za<|K1 4 Y<|Tr<|bE h fun l h_l h=>Xg (Ent.sel [none] (sr 4 Y (.frp ⟨Y, ⟨_, Y⟩, Y, (arD fun _ => Y)⟩) sn) (.row 114 .nil) Y Y)<|Rq Y (Zkv (f := C5) (ov Y) ZcY tZ_5 (Zl arL) Y on on h_l)<|Ra Y<|Ra Y<|Za<|?_
  obtain rfl := rt h
  exact Zj (ZE Y (.two (rb Y)<|rb Y))
theorem ZeM {s : List Int} {power : Int} {r : Int × Bool × (List Int)} (h : Xk s power = some r) :
 GSpec Tryz.prog gl0 89 [.own 0 s.length, .int .i64 power] [some ⟨5, List.map R5 s⟩] (.tuple [.int .i64 r.1, .bool r.2.1]) [some ⟨5, List.map R5 r.2.2⟩] := by
 unfold Xk at h
 replace h := Qo h
 refine QQ (by kernel_rfl) Tryz.func89 Y Y<|?_
 intro w0 A W φ0
 refine Tr<|Ra Y<|Ra Y<|Za<|K2 0 1 Y<|Tr<|Rm Y<|Ra Y<|Za<|Zg<|K3 0 1 6 Y<|Tr<|Rm Y<|R2 Za1 Y<|Za<|K4 0 1 6 10 Y<|If h Y (fun h=>?_) fun h=>?_
 ·
  refine K3 0 1 6 Y<|Zk<|Rm Y<|Rm Y<|Rq Y (Zd6 (ov Y) Y Y XR)<|bE h fun q h_q h=>Rq Y (Zf1 (ov Y) (ov Y) h_q)<|bE h fun u h_u h=>Rq Y (Zn3 (ov Y) Y Y XR on (oi<|ov Y) h_u)<|Ra Y<|Za<|I1 (fun o=>⟨[(1, .int .i64 power)], [some ⟨5, List.map R5 o⟩]⟩) h (fun h=>?_) fun o h=>?_
  ·
   refine K2 1 6 Y<|Tr<|Rm Y<|Rq Y (ZlI (ov Y) Y (List.length_map ..) XR)<|Rm Y<|Za<|Zf<|?_
   obtain ⟨r1, hl1, ho1⟩ := QO h
   refine L2 (fun o2 i=>⟨[(1, .int .i64 power), (6, .osl 0 o2.length (Int.toNat 0) (Int.toNat (q - 0))), (17, .int .i64 ((Int.toNat (q - 0) : Nat) : Int)), (18, .int .i64 i)], [some ⟨5, List.map R5 o2⟩]⟩) hl1 (ES [some 0]<|sd 1 Y Y<|sr 6 Y (.osl _ _ _ Y)<|sd 17 Y Y<|sd 18 Y Y sn) fun n1 o2 i h=>?_
   unfold QL at h
   refine Tr<|R2 ZH Y<|Za<|Zg<|If h Y (fun h=>?_) fun h=>?_
   ·
    exact Ze<|Zg<|Zf<|K4 1 6 17 18 Y<|Tr<|Rm Y<|Ra Y<|Za<|K5 1 6 7 17 18 Y<|Zk<|Rm Y<|Rm Y<|bE h fun u2 h_u2 h=>bE h fun x2 h_x2 h=>Rq Y (ZlP (ov Y) (ov Y) XR Y Y (Zfw h_u).1 h_u2 h_x2)<|Rx Y (Xx (u' := 255) (ov Y) (ov Y) (Zo tS5) Y Y h_x2 Y (Zc Y) Y)<|Za<|K4 1 6 17 18 Y<|Zk<|R2 ZN Y<|Rm Y<|Za<|⟨_, h, ES [some 0]<|sd 1 Y Y<|sr 6 Y (Zqa (Eq.symm<|(List.length_set ..).trans Y) Y)<|sd 17 Y Y<|sd 18 Y Y sn⟩
   ·
    refine Zw<|?_
    replace h := lx h ▸ ho1
    exact ⟨_, h, ES [some 0]⟩
  ·
   refine Tr<|Rm Y<|R2 ZaF Y<|Rq Y (ZhT (ov Y) (ov Y) Y)<|Rm Y<|R2 Zaw Y<|Ra Y<|Ra Y<|Za<|?_
   obtain rfl := rt h
   exact Zj<|Zbo [some 0] Y (.cons (.tmp Y)<|.cons (.tmp Y) .nil) (.cons Y (roM D5) .nil) Y Y<|Q6<|rlc (.dat Y)<|rlc (.dat Y) rln
 ·
  refine Ze<|I1 (fun o3=>⟨[(1, .int .i64 power)], [some ⟨5, List.map R5 o3⟩]⟩) h (fun h=>?_) fun o3 h=>?_
  ·
   refine K2 1 6 Y<|Tr<|Rm Y<|Rq Y (Zd6 (ov Y) Y Y XR)<|Rm Y<|Za<|Zf<|?_
   obtain ⟨r2, hl2, ho2⟩ := QO h
   refine L2 (fun o4 i2=>⟨[(1, .int .i64 power), (6, .own 0 o4.length), (17, .int .i64 (s.length : Int)), (18, .int .i64 i2)], [some ⟨5, List.map R5 o4⟩]⟩) hl2 (ES [some 0]) fun n2 o4 i2 h=>?_
   unfold QM at h
   refine Tr<|R2 ZH Y<|Za<|Zg<|If h Y (fun h=>?_) fun h=>?_
   ·
    exact Ze<|Zg<|Zf<|K4 1 6 17 18 Y<|Tr<|Rm Y<|Ra Y<|Za<|K5 1 6 7 17 18 Y<|Zk<|Rm Y<|Rm Y<|bE h fun x3 h_x3 h=>Rq Y (Qk (ov Y) (ov Y) XR Y Y h_x3)<|Rx Y (Xx (u' := 255) (ov Y) (ov Y) (Zo tS5) Y Y h_x3 Y (Zc Y) Y)<|Za<|K4 1 6 17 18 Y<|Zk<|R2 ZN Y<|Rm Y<|Za<|⟨_, h, ES [some 0]<|sd 1 Y Y<|sr 6 Y (Zc7 (Eq.symm<|(List.length_set ..).trans Y) Y)<|sd 17 Y Y<|sd 18 Y Y sn⟩
   ·
    refine Zw<|?_
    replace h := lx h ▸ ho2
    exact ⟨_, h, ES [some 0]⟩
  ·
   refine Tr<|Rm Y<|R2 ZaF Y<|Rq Y (ZhT (ov Y) (ov Y) Y)<|Rm Y<|R2 Zaw Y<|Ra Y<|Ra Y<|Za<|?_
   obtain rfl := rt h
   exact Zj<|Zbo [some 0] Y (.cons (.tmp Y)<|.cons (.tmp Y) .nil) (.cons Y (roM D5) .nil) Y Y<|Q6<|rlc (.dat Y)<|rlc (.dat Y) rln
theorem Zdj {s : List Int} {at_ : Int} {data : List Int} {power : Int} {r : Int × Bool × (List Int)} (h : Q7 s at_ data power = some r) :
 GSpec Tryz.prog gl0 64 [.own 0 s.length, .int .i64 at_, .sl 5 (List.map R5 data), .int .i64 power] [some ⟨5, List.map R5 s⟩] (.tuple [.int .i64 r.1, .bool r.2.1]) [some ⟨5, List.map R5 r.2.2⟩] := by
 unfold Q7 at h
 replace h := Qo h
 refine QQ (by kernel_rfl) Tryz.func64 Y Y<|?_
 intro w0 A W φ0
 refine Tr<|Ra Y<|Ra Y<|Za<|J2 (fun j => (.inr j)) (fun o power2=>⟨[(3, .int .i64 power2)], [some ⟨5, List.map R5 o⟩]⟩) h (fun h=>?_) fun o power2 h=>?_
 ·
  refine K4 0 1 2 3 Y<|Tr<|Rm Y<|Rl tZ_5 XR Y<|Rm Y<|Za<|Zf<|?_
  obtain ⟨r1, hl1, ho1⟩ := QO h
  refine L3 (fun o2 power3 i=>⟨[(0, .own 0 o2.length), (1, .int .i64 at_), (3, .int .i64 power3), (12, .sl 5 (List.map R5 data)), (13, .int .i64 (data.length : Int)), (14, .int .i64 i)], [some ⟨5, List.map R5 o2⟩]⟩) hl1 (ES [some 0]) fun n1 o2 power3 i h=>?_
  unfold Q3 at h
  refine Tr<|R2 ZH Y<|Za<|Zg<|If h Y (fun h=>?_) fun h=>?_
  ·
   refine Ze<|Zg<|Zf<|K6 0 1 3 12 13 14 Y<|Tr<|Rm Y<|bE h fun x h_x h=>Rq Y (ZX (ov Y) (ov Y) XR h_x)<|Rq Y (Zd (ov Y) tS5 Y)<|Ra Y<|Ra Y<|Za<|Zg<|K8 0 1 3 10 11 12 13 14 Y<|Tr<|Rm Y<|R2 Za1 Y<|Za<|K9 0 1 3 10 11 12 13 14 20 Y<|If h Y (fun h=>?_) fun h=>?_
   ·
    refine K4 0 1 10 11 Y<|Tr<|Rm Y<|Rm Y<|Rm Y<|R2 ZN Y<|bE h fun x2 h_x2 h=>Rq Y (Qk (ov Y) (ov Y) XR Y Y h_x2)<|Rq Y (Qp (ov Y) Y Y h_x2 tS5 Y)<|Rm Y<|R2 Zeo Y<|R2 ZbG Y<|bE h fun x3 h_x3 h=>Rq Y (Qk (ov Y) (ov Y) XR Y Y h_x3)<|Rx Y (Xx (u' := (QJ .u8 x2 (bor .u8 x 15))) (ov Y) (ov Y) (Zo tS5) Y Y h_x3 Y (Zc Y) Y)<|Za<|K0<|Tr<|Ra Y<|Ra Y<|Za<|?_
    replace h := lx h ▸ ho1
    obtain rfl := rt h
    exact Zj<|Zbo [some 0] Y (.cons (.tmp Y)<|.cons (.tmp Y) .nil) (.cons Y (roM D5) .nil) Y Y<|Q6<|rlc (.dat Y)<|rlc (.dat Y) rln
   ·
    exact Ze<|K8 0 1 3 10 11 12 13 14 Y<|Tr<|Rm Y<|Rm Y<|Rm Y<|R2 ZN Y<|bE h fun x4 h_x4 h=>Rq Y (Qk (ov Y) (ov Y) XR Y Y h_x4)<|Rq Y (Qp (ov Y) Y Y h_x4 tS5 Y)<|Rm Y<|R2 ZbG Y<|bE h fun x5 h_x5 h=>Rq Y (Qk (ov Y) (ov Y) XR Y Y h_x5)<|Rx Y (Xx (u' := (QJ .u8 x4 x)) (ov Y) (ov Y) (Zo tS5) Y Y h_x5 Y (Zc Y) Y)<|Za<|K6 0 1 3 12 13 14 Y<|Zk<|Rm Y<|R2 ZaF Y<|Ra Y<|Za<|K6 0 1 3 12 13 14 Y<|Zk<|R2 ZN Y<|Rm Y<|Za<|⟨_, h, ES [some 0]<|sr 0 Y (Zc7 (Eq.symm<|(List.length_set ..).trans Y) Y)<|sd 1 Y Y<|sd 3 Y Y<|sd 12 Y Y<|sd 13 Y Y<|sd 14 Y Y sn⟩
  ·
   refine Zw<|?_
   replace h := lx h ▸ ho1
   exact ⟨_, h, ES [some 0]⟩
 ·
  replace h := elr h
  replace h := t2i h
  refine Tr<|Rm Y<|Ra Y<|Ra Y<|Za<|?_
  obtain rfl := rt h
  exact Zj<|Zbo [some 0] Y (.cons (.tmp Y)<|.cons (.tmp Y) .nil) (.cons Y (roM D5) .nil) Y Y<|Q6<|rlc (.dat Y)<|rlc (.dat Y) rln
theorem Zcz {b : ring_Recorder} {k : Int} {power : Int} {r : Int × Bool × ring_Recorder} (h : X4 b k power = some r) :
 GSpec Tryz.prog gl0 63 [.ptr 0 1 0 0, .int .i64 k, .int .i64 power] [some ⟨75, [[.own 1 b.bank.memories.length, .own 2 b.bank.spots.length, .int .i64 b.copies, .bool b.frozen, .bool b.stopped, .int .i64 b.last, .bool b.some_]]⟩, some ⟨55, List.map O55 b.bank.memories⟩, some ⟨78, List.map R78 b.bank.spots⟩] (.tuple [.int .i64 r.1, .bool r.2.1]) [some ⟨75, [[.own 3 r.2.2.bank.memories.length, .own 4 r.2.2.bank.spots.length, .int .i64 r.2.2.copies, .bool r.2.2.frozen, .bool r.2.2.stopped, .int .i64 r.2.2.last, .bool r.2.2.some_]]⟩, none, none, some ⟨55, List.map O55 r.2.2.bank.memories⟩, some ⟨78, List.map R78 r.2.2.bank.spots⟩] := by
 unfold X4 at h
 replace h := Qo h
 refine QQ (by kernel_rfl) Tryz.func63 Y Y<|?_
 intro w0 A W φ0
 refine ZeV (Ent.sel [some 0, some 1, some 2, some 1, some 2] (sr 0 Y (.ptr (r' := 0) _ _ _ Y)<|sd 1 Y Y<|sd 2 Y Y sn) (.cons Y (ro1 (by exact tZ_75.symm)<|rlc (.own (r' := 3) _ Y)<|rlc (.own (r' := 4) _ Y)<|rlc (.dat Y)<|rlc (.dat Y)<|rlc (.dat Y)<|rlc (.dat Y)<|rlc (.dat Y) rln)<|.dead<|.dead<|.cons Y (roO Xj)<|.cons Y (roM D78) .nil) Y Y)<|QZ [some ⟨75, [[.own 3 b.bank.memories.length, .own 4 b.bank.spots.length, .int .i64 b.copies, .bool b.frozen, .bool b.stopped, .int .i64 b.last, .bool b.some_]]⟩, none, none, some ⟨55, List.map O55 b.bank.memories⟩, some ⟨78, List.map R78 b.bank.spots⟩] Y<|Tr<|Ra Y<|Ra Y<|Za<|Zg<|K3 0 1 2 Y<|Qn (cw := md0) (by kernel_rfl)<|D1 0 Zb Y<|Dq 1 Y (Zq (ov Y) Y Y)<|Dq 2 Y (Zr (ov Y) Y Y ZdH)<|Dq 3 Y (ZV (ov Y) Y Y Y ZiQ Y)<|D1 4 Zb Y<|bE h fun x h_x h=>Dq 5 Y (Qk (ov Y) (ov Y) ZaB Y Y h_x)<|D1 6 Zb Y<|D1 7 Zb Y<|bE h fun y h_y h=>Dq 8 Y (J5 (Zbs h_y) .int<|.cons (ov Y) (View.ptrS (j := 0) (k := 2) Y Y Y (Nat.le_of_ble_eq_true Y)<|.cons (View.ownO Y Y Xj (fun x=>(D55 x).1) Zj2)<|.cons (View.ownM Y Y D78) .nil)<|.cons (ov Y) (Dat.view<|.b Y) .nil)<|D1 9 Q1 Y<|D1 10 Q1 Y<|Dd<|K5 0 1 2 8 9 Y<|Tr<|Rm Y<|Rm Y<|Rm Y<|bE h fun y2 h_y2 h=>Rq Y (J5 (ZbN h_y2) .int<|.cons (ov Y) (View.ptrS (j := 0) (k := 2) Y Y Y (Nat.le_of_ble_eq_true Y)<|.cons (View.ownO Y Y Xj (fun x=>(D55 x).1) Zj2)<|.cons (View.ownM Y Y D78) .nil)<|.cons (ov Y) (Dat.view<|.b Y)<|.cons (ov Y) (Dat.view<|.b Y) .nil)<|Ra Y<|Za<|K6 0 1 2 8 9 10 Y<|Tr<|Rm Y<|Rq Y (Zq (ov Y) Y<|List.length_map ..)<|Rq Y (Zcs (ov Y) Y Y Zc9)<|Xg (Ent.focusH (r := 3) (j := 3) (e' := 3) (g := R3) (ys := x.Wear) Y (ZB h_x).2 Y DR3)<|Rq Y (Zb0 (ov Y) Y Y (ZB h_x).2 ZhN Y)<|Rm Y<|bE h fun x2 h_x2 h=>Rq Y (Qk (ov Y) (ov Y) Q5 Y Y h_x2)<|Rq Y (Qp (ov Y) Y Y h_x2 tS3 Y)<|R2 ZN Y<|bE h fun x3 h_x3 h=>Rq Y (Qk (ov Y) (ov Y) Q5 Y Y h_x3)<|Rx Y (Xx (u' := (i64 (x2 + 1))) (ov Y) (ov Y) (Zo tS3) Y Y h_x3 Y (Zc Y) Y)<|Zd4 [some ⟨75, [[.own 3 b.bank.memories.length, .own 4 b.bank.spots.length, .int .i64 b.copies, .bool b.frozen, .bool b.stopped, .int .i64 b.last, .bool b.some_]]⟩, none, none, some ⟨55, List.set (List.map O55 b.bank.memories) k.toNat [.int .i64 x.Slots, .int .i64 x.Limit, .osub 56 (List.map O56 x.Sectors), .own 5 x.Wear.length, .osub 4 (List.map R4 x.Bad)]⟩, some ⟨78, List.map R78 b.bank.spots⟩, some ⟨3, List.map R3 (x.Wear.set y.toNat (i64 (x2 + 1)))⟩] Y<|?_
 have h_x4 := X7 (y := (api_Memory.mk x.Slots x.Limit x.Sectors (x.Wear.set y.toNat (i64 (x2 + 1))) x.Bad)) h_x
 have h_x5 := X7 (y := (api_Memory.mk x.Slots x.Limit x.Sectors (x.Wear.set y.toNat (i64 (x2 + 1))) x.Bad)) h_x
 have h_x6 := X7 (y := (api_Memory.mk x.Slots x.Limit x.Sectors (x.Wear.set y.toNat (i64 (x2 + 1))) x.Bad)) h_x
 have h_x7 := X7 (y := (api_Memory.mk x.Slots x.Limit x.Sectors (x.Wear.set y.toNat (i64 (x2 + 1))) x.Bad)) h_x
 refine Xg (Ent.absorbH (r := 3) (j := 3) (q := 5) Y (ZB h_x).2 Y Y ((List.length_map ..).trans<|(List.length_set ..).trans Y) Y)<|Xg (Ent.closeH (r := 3) (y := (api_Memory.mk x.Slots x.Limit x.Sectors (x.Wear.set y.toNat (i64 (x2 + 1))) x.Bad)) Y Y)<|Za<|K6 0 1 2 8 9 10 Y<|QZ [some ⟨75, [[.own 3 b.bank.memories.length, .own 4 b.bank.spots.length, .int .i64 b.copies, .bool b.frozen, .bool b.stopped, .int .i64 b.last, .bool b.some_]]⟩, none, none, some ⟨55, List.map O55 (b.bank.memories.set k.toNat (api_Memory.mk x.Slots x.Limit x.Sectors (x.Wear.set y.toNat (i64 (x2 + 1))) x.Bad))⟩, some ⟨78, List.map R78 b.bank.spots⟩, none] Y<|Tr<|Rm Y<|Rq Y (Zq (ov Y) Y<|(List.length_map ..).trans<|(List.length_set ..).trans Y)<|Rq Y (Zcs (ov Y) Y ((List.length_set ..).trans Y) Jw)<|Xg (Ent.focusH (r := 3) (j := 2) (e' := 56) (g := O56) (ys := x.Sectors) Y (ZB h_x4).2 Y ZfS)<|Rq Y (Zb0 (ov Y) Y ((List.length_set ..).trans Y) (ZB h_x4).2 ZdB Y)<|Rm Y<|bE h fun x8 h_x8 h=>Rq Y (Qk (ov Y) (ov Y) Zcd Y Y h_x8)<|Xg (Ent.focusH (r := 6) (j := 0) (e' := 5) (g := R5) (ys := x8) Y (ZB h_x8).2 Y DR5)<|Rq Y (Zb0 (ov Y) Y Y (ZB h_x8).2 Zfl Y)<|Rm Y<|bE h fun y3 h_y3 h=>Rx Y (Z4 [7] (ZeM h_y3) (.cons (ov Y) (.own _ Y)<|.cons (ov Y) (.dat Y) .nil) (.cons Y (roM D5) .nil) Y (.keep Y Y<|.none<|.none<|.keep Y Y<|.keep Y Y<|.none<|.keep Y Y<|.lent 0 (.inl Y) Y (roM D5) .nil) Y Y<|Q6<|rld Y)<|Rm Y<|Rq Y (Zi (ov Y) Y)<|Rq Y (Zi (ov Y) Y)<|Ra Y<|Ra Y<|Zd4 [some ⟨75, [[.own 3 b.bank.memories.length, .own 4 b.bank.spots.length, .int .i64 b.copies, .bool b.frozen, .bool b.stopped, .int .i64 b.last, .bool b.some_]]⟩, none, none, some ⟨55, List.set (List.map O55 (b.bank.memories.set k.toNat (api_Memory.mk x.Slots x.Limit x.Sectors (x.Wear.set y.toNat (i64 (x2 + 1))) x.Bad))) k.toNat [.int .i64 x.Slots, .int .i64 x.Limit, .own 6 x.Sectors.length, .osub 3 (List.map R3 (x.Wear.set y.toNat (i64 (x2 + 1)))), .osub 4 (List.map R4 x.Bad)]⟩, some ⟨78, List.map R78 b.bank.spots⟩, none, some ⟨56, List.set (List.map O56 x.Sectors) y.toNat [.own 7 x8.length]⟩, some ⟨5, List.map R5 y3.2.2⟩] Y<|?_
 have h_x9 := X7 (y := y3.2.2) h_x8
 have h_x10 := X7 (y := (api_Memory.mk x.Slots x.Limit (x.Sectors.set y.toNat y3.2.2) (x.Wear.set y.toNat (i64 (x2 + 1))) x.Bad)) h_x4
 have h_x11 := X7 (y := (api_Memory.mk x.Slots x.Limit (x.Sectors.set y.toNat y3.2.2) (x.Wear.set y.toNat (i64 (x2 + 1))) x.Bad)) h_x4
 have h_x12 := X7 (y := (api_Memory.mk x.Slots x.Limit (x.Sectors.set y.toNat y3.2.2) (x.Wear.set y.toNat (i64 (x2 + 1))) x.Bad)) h_x4
 have h_x13 := X7 (y := (api_Memory.mk x.Slots x.Limit (x.Sectors.set y.toNat y3.2.2) (x.Wear.set y.toNat (i64 (x2 + 1))) x.Bad)) h_x4
 refine Xg (Ent.absorbH (r := 6) (j := 0) (q := 7) Y (ZB h_x8).2 Y Y ((List.length_map ..).trans<|ZeJ h_y3) Y)<|Xg (Ent.closeH (r := 6) (y := y3.2.2) Y Y)<|Xg (Ent.absorbH (r := 3) (j := 2) (q := 6) Y (ZB h_x4).2 Y Y ((List.length_map ..).trans<|(List.length_set ..).trans Y) Y)<|Xg (Ent.closeH (r := 3) (y := (api_Memory.mk x.Slots x.Limit (x.Sectors.set y.toNat y3.2.2) (x.Wear.set y.toNat (i64 (x2 + 1))) x.Bad)) Y Y)<|Za<|Zg<|K7 0 1 2 8 9 10 11 Y<|QZ [some ⟨75, [[.own 3 b.bank.memories.length, .own 4 b.bank.spots.length, .int .i64 b.copies, .bool b.frozen, .bool b.stopped, .int .i64 b.last, .bool b.some_]]⟩, none, none, some ⟨55, List.map O55 ((b.bank.memories.set k.toNat (api_Memory.mk x.Slots x.Limit x.Sectors (x.Wear.set y.toNat (i64 (x2 + 1))) x.Bad)).set k.toNat (api_Memory.mk x.Slots x.Limit (x.Sectors.set y.toNat y3.2.2) (x.Wear.set y.toNat (i64 (x2 + 1))) x.Bad))⟩, some ⟨78, List.map R78 b.bank.spots⟩, none, none, none] Y<|Tr<|Rm Y<|R1 Xv Y<|Za<|K7 0 1 2 8 9 10 47 Y<|If h Y (fun h=>?_) fun h=>?_
 ·
  refine K1 2 Y<|Tr<|Rm Y<|Ra Y<|Ra Y<|Za<|?_
  obtain rfl := rt h
  exact Zj<|Zbo [some 0, some 1, some 2, some 3, some 4] Y (.cons (.tmp Y)<|.cons (.tmp Y) .nil) (.cons Y (ro1 (by exact tZ_75.symm)<|rlc (Zc7 (Eq.symm<|(List.length_set ..).trans<|(List.length_set ..).trans Y) Y)<|rlc (.own _ Y)<|rlc (.dat Y)<|rlc (.dat Y)<|rlc (.dat Y)<|rlc (.dat Y)<|rlc (.dat Y) rln)<|.dead<|.dead<|.cons Y (roO Xj)<|.cons Y (roM D78) .nil) Y Y<|Q6<|rlc (.dat Y)<|rlc (.dat Y) rln
 ·
  refine Ze<|I4 (fun memories spots power2 all=>⟨[(2, .int .i64 power2), (11, .bool all)], [some ⟨75, [[.own 3 memories.length, .own 4 spots.length, .int .i64 b.copies, .bool b.frozen, .bool b.stopped, .int .i64 b.last, .bool b.some_]]⟩, none, none, some ⟨55, List.map O55 memories⟩, some ⟨78, List.map R78 spots⟩]⟩) h (fun h=>?_) fun memories spots power2 all h=>?_
  ·
   refine Zg<|K6 0 1 2 8 9 10 Y<|bE h fun x14 h_x14 h=>ZeV (Ent.focusH (r := 3) (j := 2) (e' := 56) (g := O56) (ys := x14.Sectors) Y (ZB h_x14).2 Y ZfS)<|bE h fun x15 h_x15 h=>ZeV (Ent.focusH (r := 8) (j := 0) (e' := 5) (g := R5) (ys := x15) Y (ZB h_x15).2 Y DR5)<|Qn (cw := ⟨true, true, [some ⟨75, [[.own 3 b.bank.memories.length, .own 4 b.bank.spots.length, .int .i64 b.copies, .bool b.frozen, .bool b.stopped, .int .i64 b.last, .bool b.some_]]⟩, none, none, some ⟨55, List.set (List.map O55 ((b.bank.memories.set k.toNat (api_Memory.mk x.Slots x.Limit x.Sectors (x.Wear.set y.toNat (i64 (x2 + 1))) x.Bad)).set k.toNat (api_Memory.mk x.Slots x.Limit (x.Sectors.set y.toNat y3.2.2) (x.Wear.set y.toNat (i64 (x2 + 1))) x.Bad))) k.toNat [.int .i64 x14.Slots, .int .i64 x14.Limit, .own 8 x14.Sectors.length, .osub 3 (List.map R3 x14.Wear), .osub 4 (List.map R4 x14.Bad)]⟩, some ⟨78, List.map R78 b.bank.spots⟩, none, none, none, some ⟨56, List.set (List.map O56 x14.Sectors) y.toNat [.own 9 x15.length]⟩, some ⟨5, List.map R5 x15⟩], [], [9]⟩) (by kernel_rfl)<|D1 7 Zb Y<|Qc 0 _ Y (by kernel_rfl) Y Y (fun hp'=>Zb<|ov Y)<|XS 1 _ Y (by kernel_rfl) Y Y Y (EL.ext<|.keep<|.keep<|.keep<|.keep<|.keep<|.keep<|.keep<|.keep<|.keep<|.wr Y Y Y .nil) (fun hp' hx=>Zq (ov Y) (hx.get Y Y)<|((List.length_set ..).trans (List.length_map ..)).trans<|(List.length_set ..).trans<|(List.length_set ..).trans Y)<|XS 2 _ Y (by kernel_rfl) Y Y Y (EL.ext<|.keep<|.keep<|.keep<|.keep<|.keep<|.keep<|.keep<|.keep<|.keep<|.wr Y Y Y .nil) (fun hp' hx=>ZhV (ov Y) (hx.get Y Y) ((List.length_set ..).trans<|(List.length_set ..).trans Y) Jw)<|XS 3 _ Y (by kernel_rfl) Y Y Y (EL.ext<|.keep<|.keep<|.keep<|.keep<|.keep<|.keep<|.keep<|.keep<|.keep<|.wr Y Y Y .nil) (fun hp' hx=>Zb0 (ov Y) (hx.get Y Y) ((List.length_set ..).trans<|(List.length_set ..).trans Y) (ZB h_x14).2 ZdB Y)<|Qc 4 _ Y (by kernel_rfl) Y Y (fun hp'=>Zb<|ov Y)<|bE h fun x16 h_x16 h=>XS 5 _ Y (by kernel_rfl) Y Y Y (EL.ext<|.keep<|.keep<|.keep<|.keep<|.keep<|.keep<|.keep<|.keep<|.keep<|.wr Y Y Y .nil) (fun hp' hx=>Zj0 (ov Y) (ov Y) Zcd (hx.get Y Y) Y h_x16)<|XS 6 _ Y (by kernel_rfl) Y Y Y (EL.ext<|.keep<|.keep<|.keep<|.keep<|.keep<|.keep<|.keep<|.keep<|.keep<|.wr Y Y Y .nil) (fun hp' hx=>Zb0 (ov Y) (hx.get Y Y) Y (ZB h_x15).2 Zfl Y)<|Qc 9 _ Y (by kernel_rfl) Y Y (fun hp'=>Zb<|ov Y)<|bE h fun y4 h_y4 h=>ZcA 8 _ _ Y (by kernel_rfl) Y Y (fun h=>by cases h) (fun _=>by exact EL.ext (.keep <| .keep <| .keep <| .keep <| .keep <| .keep <| .keep <| .keep <| .keep <| .wr rfl rfl rfl <| .nil)) (Zj1<|Zn (Zem h_y4)<|.cons (ov Y) (.b Y) .nil)<|bE h fun y5 h_y5 h=>ZcA 10 _ _ Y (by kernel_rfl) Y Y (fun h=>by cases h) (fun _=>by exact EL.ext (.keep <| .keep <| .keep <| .keep <| .keep <| .keep <| .keep <| .keep <| .keep <| .wr rfl rfl ((List.length_map ..).trans (Eq.trans (Zan h_y5) (Eq.symm ((List.length_map ..).trans rfl)))) <| .nil)) (Z4 [9] (Zdj h_y5) (.cons (ov Y) (.own _ Y)<|.cons (ov Y) (.dat Y)<|.cons (ov Y) (.dat Y)<|.cons (ov Y) (.dat Y) .nil) (.cons Y (roM D5) .nil) Y (.keep Y Y<|.none<|.none<|.keep Y Y<|.keep Y Y<|.none<|.none<|.none<|.keep Y Y<|.lent 0 (.inl Y) Y (roM D5) .nil) Y Y<|Q6<|rld Y)<|D1 11 Zb Y<|Dq 12 Y (Zi (ov Y) Y)<|Dq 13 Y (Zi (ov Y) Y)<|D1 14 Q1 Y<|D1 15 Q1 Y<|?_
   have h_x17 := X7 (y := y5.2.2) h_x16
   have h_x18 := X7 (y := (api_Memory.mk x14.Slots x14.Limit (x14.Sectors.set y.toNat y5.2.2) x14.Wear x14.Bad)) h_x10
   have h_x19 := X7 (y := (api_Memory.mk x14.Slots x14.Limit (x14.Sectors.set y.toNat y5.2.2) x14.Wear x14.Bad)) h_x10
   have h_x20 := X7 (y := (api_Memory.mk x14.Slots x14.Limit (x14.Sectors.set y.toNat y5.2.2) x14.Wear x14.Bad)) h_x10
   have h_x21 := X7 (y := (api_Memory.mk x14.Slots x14.Limit (x14.Sectors.set y.toNat y5.2.2) x14.Wear x14.Bad)) h_x10
   refine ZkD (by kernel_rfl) (Ent.trans (Ent.absorbH (r := 8) (j := 0) (q := 9) Y (ZB h_x15).2 Y Y ((List.length_map ..).trans<|Zan h_y5) Y)<|Ent.trans (Ent.closeH (r := 8) (y := y5.2.2) Y Y)<|Ent.trans (Ent.absorbH (r := 3) (j := 2) (q := 8) Y (ZB h_x14).2 Y Y ((List.length_map ..).trans<|(List.length_set ..).trans Y) Y)<|Ent.closeH (r := 3) (y := (api_Memory.mk x14.Slots x14.Limit (x14.Sectors.set y.toNat y5.2.2) x14.Wear x14.Bad)) Y Y)<|K5 0 1 2 9 11 Y<|QZ [some ⟨75, [[.own 3 b.bank.memories.length, .own 4 b.bank.spots.length, .int .i64 b.copies, .bool b.frozen, .bool b.stopped, .int .i64 b.last, .bool b.some_]]⟩, none, none, some ⟨55, List.map O55 (((b.bank.memories.set k.toNat (api_Memory.mk x.Slots x.Limit x.Sectors (x.Wear.set y.toNat (i64 (x2 + 1))) x.Bad)).set k.toNat (api_Memory.mk x.Slots x.Limit (x.Sectors.set y.toNat y3.2.2) (x.Wear.set y.toNat (i64 (x2 + 1))) x.Bad)).set k.toNat (api_Memory.mk x14.Slots x14.Limit (x14.Sectors.set y.toNat y5.2.2) x14.Wear x14.Bad))⟩, some ⟨78, List.map R78 b.bank.spots⟩, none, none, none, none, none] Y<|Tr<|Rm Y<|Za<|If h Y (fun h=>?_) fun h=>?_
   ·
    exact K5 0 1 2 9 11 Y<|Zk<|Rm Y<|Rq Y (Zq (ov Y) Y Y)<|Rq Y (Zr (ov Y) Y Y Ze0)<|Rq Y (ZV (ov Y) Y Y Y Zj3 Y)<|Rm Y<|Rm Y<|Rq Y (Jz (ys := [_, _]) Zmi ZlT Zk0 (.cons (cvs (ov Y)<|ZT Y) .nil) Y)<|bE h fun x22 h_x22 h=>Rq Y (Qk (ov Y) (ov Y) ZjL Y Y h_x22)<|Rx Y (Xx (u' := (ring_spot.mk y 0)) (ov Y) (ov Y) (ZK ZiR Y) Y Y h_x22 Y (Zc Y) Y)<|Za<|⟨_, h, ES [some 0, some 1, some 2, some 3, some 4] (hhp := .cons Y (ro1 (by exact tZ_75.symm)<|rlc (Zc7 (Eq.symm<|(List.length_set ..).trans<|(List.length_set ..).trans<|(List.length_set ..).trans Y) Y)<|rlc (Zc7 (Eq.symm<|(List.length_set ..).trans Y) Y)<|rlc (.dat Y)<|rlc (.dat Y)<|rlc (.dat Y)<|rlc (.dat Y)<|rlc (.dat Y) rln)<|.dead<|.dead<|.cons Y (roO Xj)<|.cons Y (roM D78) .nil)⟩
   ·
    exact Ze<|⟨_, h, ES [some 0, some 1, some 2, some 3, some 4] (hhp := .cons Y (ro1 (by exact tZ_75.symm)<|rlc (Zc7 (Eq.symm<|(List.length_set ..).trans<|(List.length_set ..).trans<|(List.length_set ..).trans Y) Y)<|rlc (.own _ Y)<|rlc (.dat Y)<|rlc (.dat Y)<|rlc (.dat Y)<|rlc (.dat Y)<|rlc (.dat Y) rln)<|.dead<|.dead<|.cons Y (roO Xj)<|.cons Y (roM D78) .nil)⟩
  ·
   refine Tr<|Rm Y<|Rm Y<|Ra Y<|Ra Y<|Za<|?_
   obtain rfl := rt h
   exact Zj<|Zbo [some 0, some 1, some 2, some 3, some 4] Y (.cons (.tmp Y)<|.cons (.tmp Y) .nil) (.cons Y (ro1 (by exact tZ_75.symm)<|rlc (.own _ Y)<|rlc (.own _ Y)<|rlc (.dat Y)<|rlc (.dat Y)<|rlc (.dat Y)<|rlc (.dat Y)<|rlc (.dat Y) rln)<|.dead<|.dead<|.cons Y (roO Xj)<|.cons Y (roM D78) .nil) Y Y<|Q6<|rlc (.dat Y)<|rlc (.dat Y) rln
theorem ZcQ {b : ring_Recorder} {k : Int} {data : List Int} {power : Int} {r : Int × Bool × ring_Recorder} (h : JF b k data power = some r) :
 GSpec Tryz.prog gl0 37 [.ptr 0 1 0 0, .int .i64 k, .slf 5 (List.map R5 data), .int .i64 power] [some ⟨75, [[.own 1 b.bank.memories.length, .own 2 b.bank.spots.length, .int .i64 b.copies, .bool b.frozen, .bool b.stopped, .int .i64 b.last, .bool b.some_]]⟩, some ⟨55, List.map O55 b.bank.memories⟩, some ⟨78, List.map R78 b.bank.spots⟩] (.tuple [.int .i64 r.1, .bool r.2.1]) [some ⟨75, [[.own 3 r.2.2.bank.memories.length, .own 4 r.2.2.bank.spots.length, .int .i64 r.2.2.copies, .bool r.2.2.frozen, .bool r.2.2.stopped, .int .i64 r.2.2.last, .bool r.2.2.some_]]⟩, none, none, some ⟨55, List.map O55 r.2.2.bank.memories⟩, some ⟨78, List.map R78 r.2.2.bank.spots⟩] := by
 unfold JF at h
 replace h := Qo h
 refine QQ (by kernel_rfl) Tryz.func37 Y Y<|?_
 intro w0 A W φ0
 refine ZeV (Ent.sel [some 0, some 1, some 2, some 1, some 2] (sr 0 Y (.ptr (r' := 0) _ _ _ Y)<|sd 1 Y Y<|sd 2 Y Y<|sd 3 Y Y sn) (.cons Y (ro1 (by exact tZ_75.symm)<|rlc (.own (r' := 3) _ Y)<|rlc (.own (r' := 4) _ Y)<|rlc (.dat Y)<|rlc (.dat Y)<|rlc (.dat Y)<|rlc (.dat Y)<|rlc (.dat Y) rln)<|.dead<|.dead<|.cons Y (roO Xj)<|.cons Y (roM D78) .nil) Y Y)<|QZ [some ⟨75, [[.own 3 b.bank.memories.length, .own 4 b.bank.spots.length, .int .i64 b.copies, .bool b.frozen, .bool b.stopped, .int .i64 b.last, .bool b.some_]]⟩, none, none, some ⟨55, List.map O55 b.bank.memories⟩, some ⟨78, List.map R78 b.bank.spots⟩] Y<|Tr<|Ra Y<|Ra Y<|Za<|J8 (fun j => (.inr j)) (fun memories spots copies frozen stopped last some_ power2=>⟨[(0, .ptr 0 1 0 0), (1, .int .i64 k), (2, .slf 5 (List.map R5 data)), (3, .int .i64 power2)], [some ⟨75, [[.own 3 memories.length, .own 4 spots.length, .int .i64 copies, .bool frozen, .bool stopped, .int .i64 last, .bool some_]]⟩, none, none, some ⟨55, List.map O55 memories⟩, some ⟨78, List.map R78 spots⟩]⟩) h (fun h=>?_) fun memories spots copies frozen stopped last some_ power2 h=>?_
 ·
  refine K4 0 1 2 3 Y<|Tr<|Rm Y<|Rm Y<|bE h fun y h_y h=>Rq Y (J5 (Zay h_y) .bool<|.cons (ov Y) (View.ptrS (j := 0) (k := 2) Y Y Y (Nat.le_of_ble_eq_true Y)<|.cons (View.ownO Y Y Xj (fun x=>(D55 x).1) Zj2)<|.cons (View.ownM Y Y D78) .nil)<|.cons (ov Y) (Dat.view<|.b Y) .nil)<|Za<|K5 0 1 2 3 15 Y<|If h Y (fun h=>?_) fun h=>?_
  ·
   refine K4 0 1 2 3 Y<|Tr<|Ra Y<|Za<|Tr<|Rm Y<|Rm Y<|Rm Y<|bE h fun y2 h_y2 h=>Rx Y (Z4 [0, 3, 4] (Zcz h_y2) (.cons (ov Y) (.ptr _ _ _ Y)<|.cons (ov Y) (.dat Y)<|.cons (ov Y) (.dat Y) .nil) (.cons Y (ro1 (by exact tZ_75.symm)<|rlc (.own _ Y)<|rlc (.own _ Y)<|rlc (.dat Y)<|rlc (.dat Y)<|rlc (.dat Y)<|rlc (.dat Y)<|rlc (.dat Y) rln)<|.cons Y (roO Xj)<|.cons Y (roM D78) .nil) Y (.lent 0 (.inl Y) Y (ro1 (by exact tZ_75.symm)<|rlc (.own _<|.inr ⟨Nat.le_of_ble_eq_true Y, Y⟩)<|rlc (.own _<|.inr ⟨Nat.le_of_ble_eq_true Y, Y⟩)<|rlc (.dat Y)<|rlc (.dat Y)<|rlc (.dat Y)<|rlc (.dat Y)<|rlc (.dat Y) rln)<|.none<|.none<|.none<|.none<|.lent 3 (.inr ⟨Nat.le_of_ble_eq_true Y, Y⟩) Y (roO Xj)<|.lent 4 (.inr ⟨Nat.le_of_ble_eq_true Y, Y⟩) Y (roM D78) .nil) Y Y<|Q6<|rld Y)<|Rm Y<|Rq Y (Zi (ov Y) Y)<|Rq Y (Zi (ov Y) Y)<|Ra Y<|Ra Y<|Za<|K5 0 1 2 3 10 Y<|QZ [some ⟨75, [[.own 5 y2.2.2.bank.memories.length, .own 6 y2.2.2.bank.spots.length, .int .i64 y2.2.2.copies, .bool y2.2.2.frozen, .bool y2.2.2.stopped, .int .i64 y2.2.2.last, .bool y2.2.2.some_]]⟩, none, none, none, none, some ⟨55, List.map O55 y2.2.2.bank.memories⟩, some ⟨78, List.map R78 y2.2.2.bank.spots⟩] Y<|Tr<|Rm Y<|R1 Xv Y<|Za<|K5 0 1 2 3 24 Y<|If h Y (fun h=>?_) fun h=>?_
   ·
    refine K1 3 Y<|Tr<|Rm Y<|Ra Y<|Ra Y<|Za<|?_
    obtain rfl := rt h
    exact Zj<|Zbo [some 0, some 1, some 2, some 5, some 6] Y (.cons (.tmp Y)<|.cons (.tmp Y) .nil) (.cons Y (ro1 (by exact tZ_75.symm)<|rlc (.own _ Y)<|rlc (.own _ Y)<|rlc (.dat Y)<|rlc (.dat Y)<|rlc (.dat Y)<|rlc (.dat Y)<|rlc (.dat Y) rln)<|.dead<|.dead<|.cons Y (roO Xj)<|.cons Y (roM D78) .nil) Y Y<|Q6<|rlc (.dat Y)<|rlc (.dat Y) rln
   ·
    exact Ze<|⟨_, h, ES [some 0, some 1, some 2, some 5, some 6] (hhp := .cons Y (ro1 (by exact tZ_75.symm)<|rlc (.own _ Y)<|rlc (.own _ Y)<|rlc (.dat Y)<|rlc (.dat Y)<|rlc (.dat Y)<|rlc (.dat Y)<|rlc (.dat Y) rln)<|.dead<|.dead<|.cons Y (roO Xj)<|.cons Y (roM D78) .nil)⟩
  ·
   exact Ze<|⟨_, h, ES [some 0, some 1, some 2, some 3, some 4] (hhp := .cons Y (ro1 (by exact tZ_75.symm)<|rlc (.own _ Y)<|rlc (.own _ Y)<|rlc (.dat Y)<|rlc (.dat Y)<|rlc (.dat Y)<|rlc (.dat Y)<|rlc (.dat Y) rln)<|.dead<|.dead<|.cons Y (roO Xj)<|.cons Y (roM D78) .nil)⟩
 ·
  replace h := elr h
  replace h := t8i h
  refine Tr<|Rm Y<|Rq Y (Zq (ov Y) Y Y)<|Rq Y (Zr (ov Y) Y Y Ze0)<|Rq Y (ZV (ov Y) Y Y Y Zj3 Y)<|Rm Y<|bE h fun x h_x h=>Rq Y (Qk (ov Y) (ov Y) ZjL Y Y h_x)<|Ra Y<|Za<|Zg<|K5 0 1 2 3 11 Y<|bE h fun x2 h_x2 h=>ZeV (Ent.focusH (r := 3) (j := 2) (e' := 56) (g := O56) (ys := x2.Sectors) Y (ZB h_x2).2 Y ZfS)<|bE h fun x3 h_x3 h=>ZeV (Ent.focusH (r := 5) (j := 0) (e' := 5) (g := R5) (ys := x3) Y (ZB h_x3).2 Y DR5)<|Qn (cw := ⟨true, true, [some ⟨75, [[.own 3 memories.length, .own 4 spots.length, .int .i64 copies, .bool frozen, .bool stopped, .int .i64 last, .bool some_]]⟩, none, none, some ⟨55, List.set (List.map O55 memories) k.toNat [.int .i64 x2.Slots, .int .i64 x2.Limit, .own 5 x2.Sectors.length, .osub 3 (List.map R3 x2.Wear), .osub 4 (List.map R4 x2.Bad)]⟩, some ⟨78, List.map R78 spots⟩, some ⟨56, List.set (List.map O56 x2.Sectors) x.sector.toNat [.own 6 x3.length]⟩, some ⟨5, List.map R5 x3⟩], [], [6]⟩) (by kernel_rfl)<|Qc 0 _ Y (by kernel_rfl) Y Y (fun hp'=>Zb<|ov Y)<|XS 1 _ Y (by kernel_rfl) Y Y Y (EL.ext<|.keep<|.keep<|.keep<|.keep<|.keep<|.keep<|.wr Y Y Y .nil) (fun hp' hx=>Zq (ov Y) (hx.get Y Y) Y)<|XS 2 _ Y (by kernel_rfl) Y Y Y (EL.ext<|.keep<|.keep<|.keep<|.keep<|.keep<|.keep<|.wr Y Y Y .nil) (fun hp' hx=>Zr (ov Y) (hx.get Y Y) Y ZdH)<|XS 3 _ Y (by kernel_rfl) Y Y Y (EL.ext<|.keep<|.keep<|.keep<|.keep<|.keep<|.keep<|.wr Y Y Y .nil) (fun hp' hx=>ZV (ov Y) (hx.get Y Y) Y Y ZiQ Y)<|Qc 4 _ Y (by kernel_rfl) Y Y (fun hp'=>Zb<|ov Y)<|bE h fun x4 h_x4 h=>XS 5 _ Y (by kernel_rfl) Y Y Y (EL.ext<|.keep<|.keep<|.keep<|.keep<|.keep<|.keep<|.wr Y Y Y .nil) (fun hp' hx=>Zj0 (ov Y) (ov Y) ZaB (hx.get Y Y) Y h_x4)<|XS 6 _ Y (by kernel_rfl) Y Y Y (EL.ext<|.keep<|.keep<|.keep<|.keep<|.keep<|.keep<|.wr Y Y Y .nil) (fun hp' hx=>ZhV (ov Y) (hx.get Y Y) Y Jw)<|XS 7 _ Y (by kernel_rfl) Y Y Y (EL.ext<|.keep<|.keep<|.keep<|.keep<|.keep<|.keep<|.wr Y Y Y .nil) (fun hp' hx=>Zb0 (ov Y) (hx.get Y Y) Y (ZB h_x2).2 ZdB Y)<|Qc 8 _ Y (by kernel_rfl) Y Y (fun hp'=>Zb<|ov Y)<|XS 9 _ Y (by kernel_rfl) Y Y Y (EL.ext<|.keep<|.keep<|.keep<|.keep<|.keep<|.keep<|.wr Y Y Y .nil) (fun hp' hx=>Zq (ov Y) (hx.get Y Y)<|List.length_map ..)<|XS 10 _ Y (by kernel_rfl) Y Y Y (EL.ext<|.keep<|.keep<|.keep<|.keep<|.keep<|.keep<|.wr Y Y Y .nil) (fun hp' hx=>Zcs (ov Y) (hx.get Y Y) Y ZfU)<|XS 11 _ Y (by kernel_rfl) Y Y Y (EL.ext<|.keep<|.keep<|.keep<|.keep<|.keep<|.keep<|.wr Y Y Y .nil) (fun hp' hx=>Qp (ov Y) (hx.get Y Y) Y h_x tS3 Y)<|bE h fun x5 h_x5 h=>XS 12 _ Y (by kernel_rfl) Y Y Y (EL.ext<|.keep<|.keep<|.keep<|.keep<|.keep<|.keep<|.wr Y Y Y .nil) (fun hp' hx=>Zj0 (ov Y) (ov Y) Zcd (hx.get Y Y) Y h_x5)<|XS 13 _ Y (by kernel_rfl) Y Y Y (EL.ext<|.keep<|.keep<|.keep<|.keep<|.keep<|.keep<|.wr Y Y Y .nil) (fun hp' hx=>Zb0 (ov Y) (hx.get Y Y) Y (ZB h_x3).2 Zfl Y)<|Qc 14 _ Y (by kernel_rfl) Y Y (fun hp'=>Zb<|ov Y)<|XS 15 _ Y (by kernel_rfl) Y Y Y (EL.ext<|.keep<|.keep<|.keep<|.keep<|.keep<|.keep<|.wr Y Y Y .nil) (fun hp' hx=>Zq (ov Y) (hx.get Y Y)<|List.length_map ..)<|XS 16 _ Y (by kernel_rfl) Y Y Y (EL.ext<|.keep<|.keep<|.keep<|.keep<|.keep<|.keep<|.wr Y Y Y .nil) (fun hp' hx=>Zcs (ov Y) (hx.get Y Y) Y ZgZ)<|XS 17 _ Y (by kernel_rfl) Y Y Y (EL.ext<|.keep<|.keep<|.keep<|.keep<|.keep<|.keep<|.wr Y Y Y .nil) (fun hp' hx=>Qp (ov Y) (hx.get Y Y) Y h_x tS3 Y)<|Qc 18 _ Y (by kernel_rfl) Y Y (fun hp'=>ZnQ (ov Y) (ov Y) Y)<|Qc 19 _ Y (by kernel_rfl) Y Y (fun hp'=>ZhS (ov Y) (ov Y) Y)<|Qc 20 _ Y (by kernel_rfl) Y Y (fun hp'=>Zb<|ov Y)<|Qc 23 _ Y (by kernel_rfl) Y Y (fun hp'=>Zb<|ov Y)<|ZcA 21 (.sl 5<|List.map R5 ([0] : List Int)) _ Y (by kernel_rfl) Y Y (fun h=>by cases h) (fun _=>by exact EL.ext (.keep <| .keep <| .keep <| .keep <| .keep <| .keep <| .wr rfl rfl rfl <| .nil)) (Zj1<|ZaV XR (.cons (cvs (ov Y)<|ZT Y) Y (.cons (.b Y) .nil) .nil) Y Y)<|bE h fun l h_l h=>ZcA 22 _ _ Y (by kernel_rfl) Y Y (fun h=>by cases h) (fun _=>by exact EL.ext (.keep <| .keep <| .keep <| .keep <| .keep <| .keep <| .wr rfl rfl rfl <| .nil)) (Zj1<|ZkQ (f := R5) (ov Y) (QX (ov Y) tZ_5) XR Y Y (fun x=>(D5 x).2) h_l)<|bE h fun y3 h_y3 h=>ZcA 24 _ _ Y (by kernel_rfl) Y Y (fun h=>by cases h) (fun _=>by exact EL.ext (.keep <| .keep <| .keep <| .keep <| .keep <| .keep <| .wr rfl rfl ((List.length_map ..).trans (Eq.trans (Zan h_y3) (Eq.symm ((List.length_map ..).trans rfl)))) <| .nil)) (Z4 [6] (Zdj h_y3) (.cons (ov Y) (.own _ Y)<|.cons (ov Y) (.dat Y)<|.cons (ov Y) (.dat Y)<|.cons (ov Y) (.dat Y) .nil) (.cons Y (roM D5) .nil) Y (.keep Y Y<|.none<|.none<|.keep Y Y<|.keep Y Y<|.keep Y Y<|.lent 0 (.inl Y) Y (roM D5) .nil) Y Y<|Q6<|rld Y)<|D1 25 Zb Y<|Dq 26 Y (Zi (ov Y) Y)<|Dq 27 Y (Zi (ov Y) Y)<|D1 28 Q1 Y<|D1 29 Q1 Y<|?_
  have h_x6 := X7 (y := y3.2.2) h_x5
  have h_x7 := X7 (y := (api_Memory.mk x2.Slots x2.Limit (x2.Sectors.set x.sector.toNat y3.2.2) x2.Wear x2.Bad)) h_x4
  have h_x8 := X7 (y := (api_Memory.mk x2.Slots x2.Limit (x2.Sectors.set x.sector.toNat y3.2.2) x2.Wear x2.Bad)) h_x4
  refine ZkD (by kernel_rfl) (Ent.trans (Ent.absorbH (r := 5) (j := 0) (q := 6) Y (ZB h_x3).2 Y Y ((List.length_map ..).trans<|Zan h_y3) Y)<|Ent.trans (Ent.closeH (r := 5) (y := y3.2.2) Y Y)<|Ent.trans (Ent.absorbH (r := 3) (j := 2) (q := 5) Y (ZB h_x2).2 Y Y ((List.length_map ..).trans<|(List.length_set ..).trans Y) Y)<|Ent.closeH (r := 3) (y := (api_Memory.mk x2.Slots x2.Limit (x2.Sectors.set x.sector.toNat y3.2.2) x2.Wear x2.Bad)) Y Y)<|K3 3 11 12 Y<|QZ [some ⟨75, [[.own 3 memories.length, .own 4 spots.length, .int .i64 copies, .bool frozen, .bool stopped, .int .i64 last, .bool some_]]⟩, none, none, some ⟨55, List.map O55 (memories.set k.toNat (api_Memory.mk x2.Slots x2.Limit (x2.Sectors.set x.sector.toNat y3.2.2) x2.Wear x2.Bad))⟩, some ⟨78, List.map R78 spots⟩, none, none] Y<|Tr<|Rm Y<|Rq Y (Zq (ov Y) Y<|List.length_map ..)<|Rq Y (Zcs (ov Y) Y Y ZgZ)<|Rq Y (Qp (ov Y) Y Y h_x tS3 Y)<|R2 ZN Y<|Rq Y (Zq (ov Y) Y<|List.length_map ..)<|Rq Y (Zcs (ov Y) Y Y ZgZ)<|Rx Y (Xx (u' := (ring_spot.mk x.sector (i64 (x.slot + 1)))) (ov Y) (ov Y) (Zo tS3) Y Y h_x Y (Zc Y) Y)<|Za<|K2 3 12 Y<|QZ [some ⟨75, [[.own 3 memories.length, .own 4 spots.length, .int .i64 copies, .bool frozen, .bool stopped, .int .i64 last, .bool some_]]⟩, none, none, some ⟨55, List.map O55 (memories.set k.toNat (api_Memory.mk x2.Slots x2.Limit (x2.Sectors.set x.sector.toNat y3.2.2) x2.Wear x2.Bad))⟩, some ⟨78, List.map R78 (spots.set k.toNat (ring_spot.mk x.sector (i64 (x.slot + 1))))⟩, none, none] Y<|Tr<|Rm Y<|Rm Y<|Ra Y<|Ra Y<|Za<|?_
  obtain rfl := rt h
  exact Zj<|Zbo [some 0, some 1, some 2, some 3, some 4] Y (.cons (.tmp Y)<|.cons (.tmp Y) .nil) (.cons Y (ro1 (by exact tZ_75.symm)<|rlc (Zc7 (Eq.symm<|(List.length_set ..).trans Y) Y)<|rlc (Zc7 (Eq.symm<|(List.length_set ..).trans Y) Y)<|rlc (.dat Y)<|rlc (.dat Y)<|rlc (.dat Y)<|rlc (.dat Y)<|rlc (.dat Y) rln)<|.dead<|.dead<|.cons Y (roO Xj)<|.cons Y (roM D78) .nil) Y Y<|Q6<|rlc (.dat Y)<|rlc (.dat Y) rln
theorem Zax {r_ : ring_Recorder} {f : Vector Int 64} {power : Int} {r : Int × Bool × Int × ring_Recorder} (h : Z9 r_ f power = some r) :
 GSpec Tryz.prog gl0 15 [.ptr 0 1 0 0, .agg (List.map C26 f.toList), .int .i64 power] [some ⟨75, [[.own 1 r_.bank.memories.length, .own 2 r_.bank.spots.length, .int .i64 r_.copies, .bool r_.frozen, .bool r_.stopped, .int .i64 r_.last, .bool r_.some_]]⟩, some ⟨55, List.map O55 r_.bank.memories⟩, some ⟨78, List.map R78 r_.bank.spots⟩] (.tuple [.int .i64 r.1, .bool r.2.1, .int .i64 r.2.2.1]) [some ⟨75, [[.own 3 r.2.2.2.bank.memories.length, .own 4 r.2.2.2.bank.spots.length, .int .i64 r.2.2.2.copies, .bool r.2.2.2.frozen, .bool r.2.2.2.stopped, .int .i64 r.2.2.2.last, .bool r.2.2.2.some_]]⟩, none, none, some ⟨55, List.map O55 r.2.2.2.bank.memories⟩, some ⟨78, List.map R78 r.2.2.2.bank.spots⟩] := by
 unfold Z9 at h
 replace h := Qo h
 refine QQ (by kernel_rfl) Tryz.func15 Y Y<|?_
 intro w0 A W φ0
 refine ZeV (Ent.sel [some 0, some 1, some 2, some 1, some 2] (sr 0 Y (.ptr (r' := 0) _ _ _ Y)<|sr 1 Y (ZdJ<|rld<|arD fun _ => Y)<|sd 2 Y Y sn) (.cons Y (ro1 (by exact tZ_75.symm)<|rlc (.own (r' := 3) _ Y)<|rlc (.own (r' := 4) _ Y)<|rlc (.dat Y)<|rlc (.dat Y)<|rlc (.dat Y)<|rlc (.dat Y)<|rlc (.dat Y) rln)<|.dead<|.dead<|.cons Y (roO Xj)<|.cons Y (roM D78) .nil) Y Y)<|QZ [some ⟨75, [[.own 3 r_.bank.memories.length, .own 4 r_.bank.spots.length, .int .i64 r_.copies, .bool r_.frozen, .bool r_.stopped, .int .i64 r_.last, .bool r_.some_]]⟩, none, none, some ⟨55, List.map O55 r_.bank.memories⟩, some ⟨78, List.map R78 r_.bank.spots⟩] Y<|Tr<|Rq Y (ZaC (cva<|ov Y) arL tZ_28<|arD fun _ => Y)<|Ra Y<|Ra Y<|Ra Y<|Za<|Zg<|K3 0 2 4 Y<|Tr<|Rm Y<|Rm Y<|bE h fun y h_y h=>Rq Y (J5 (ZdV h_y) .int<|.cons (ov Y) (View.ptrS (j := 0) (k := 7) Y Y Y (Nat.le_of_ble_eq_true Y)<|.cons (View.ownO Y Y Xj (fun x=>(D55 x).1) Zj2)<|.cons (View.ownM Y Y D78)<|.cons (Dat.view<|.b Y)<|.cons (Dat.view<|.b Y)<|.cons (Dat.view<|.b Y)<|.cons (Dat.view<|.b Y)<|.cons (Dat.view<|.b Y) .nil)<|.cons (ov Y) (Dat.view<|.b Y) .nil)<|Ra Y<|Za<|K4 0 2 4 9 Y<|Tr<|Rm Y<|R2 QR Y<|Za<|K5 0 2 4 9 23 Y<|If h Y (fun h=>?_) fun h=>?_
 ·
  refine K1 9 Y<|Tr<|Rm Y<|Ra Y<|Ra Y<|Ra Y<|Za<|?_
  obtain rfl := rt h
  exact Zj<|Zbo [some 0, some 1, some 2, some 3, some 4] Y (.cons (.tmp Y)<|.cons (.tmp Y)<|.cons (.tmp Y) .nil) (.cons Y (ro1 (by exact tZ_75.symm)<|rlc (.own _ Y)<|rlc (.own _ Y)<|rlc (.dat Y)<|rlc (.dat Y)<|rlc (.dat Y)<|rlc (.dat Y)<|rlc (.dat Y) rln)<|.dead<|.dead<|.cons Y (roO Xj)<|.cons Y (roM D78) .nil) Y Y<|Q6<|rlc (.dat Y)<|rlc (.dat Y)<|rlc (.dat Y) rln
 ·
  refine Ze<|Zg<|K3 0 2 4 Y<|Tr<|Rq Y (ZP (ov Y) Xn (Qb<|Zl arL) arL)<|bE h fun y2 h_y2 h=>Rq Y (Zn (Zee h_y2)<|.cons (ov Y) (.aggB<|arD fun _ => Y) .nil)<|Rl tZ_95 Zcb Y<|R2 Zaw Y<|Za<|K4 0 2 4 28 Y<|If h Y (fun h=>?_) fun h=>?_
  ·
   refine K0<|Tr<|Ra Y<|Ra Y<|Ra Y<|Za<|?_
   obtain rfl := rt h
   exact Zj<|Zbo [some 0, some 1, some 2, some 3, some 4] Y (.cons (.tmp Y)<|.cons (.tmp Y)<|.cons (.tmp Y) .nil) (.cons Y (ro1 (by exact tZ_75.symm)<|rlc (.own _ Y)<|rlc (.own _ Y)<|rlc (.dat Y)<|rlc (.dat Y)<|rlc (.dat Y)<|rlc (.dat Y)<|rlc (.dat Y) rln)<|.dead<|.dead<|.cons Y (roO Xj)<|.cons Y (roM D78) .nil) Y Y<|Q6<|rlc (.dat Y)<|rlc (.dat Y)<|rlc (.dat Y) rln
  ·
   refine Ze<|K3 0 2 4 Y<|Tr<|Rq Y (ZP (ov Y) Xn (Qb<|Zl arL) arL)<|bE h fun y3 h_y3 h=>Rq Y (Zn (ZdP h_y3)<|.cons (ov Y) (.aggB<|arD fun _ => Y) .nil)<|Rm Y<|Rq Y (Zi (ov Y) Y)<|Rq Y (Zi (ov Y) Y)<|Ra Y<|Ra Y<|Za<|Zg<|K4 0 2 4 10 Y<|Qn (cw := md0) (by kernel_rfl)<|D1 0 Zb Y<|D1 1 Zb Y<|Dq 2 Y (Zq (ov Y) Y Y)<|Dq 3 Y (Zr (ov Y) Y Y Zd9)<|Dq 4 Y (Zr (ov Y) Y Y ZdH)<|Dq 5 Y (ZV (ov Y) Y Y Y ZiQ Y)<|Dq 6 Y (Zd6 (ov Y) Y Y ZaB)<|D1 7 Zb Y<|Dq 8 Y (Zq (ov Y) Y Y)<|Dq 9 Y (Zr (ov Y) Y Y Zn9)<|Dq 10 Y (ZV (ov Y) Y Y Y tS3 Y)<|bE h fun y4 h_y4 h=>Dq 11 Y (Zn (Zgq h_y4)<|.cons (ov Y) (.b Y)<|.cons (ov Y) (.b Y)<|.cons (ov Y) (.b Y) .nil)<|D1 12 Q1 Y<|Dd<|Zg<|K5 0 2 4 10 12 Y<|Tr<|Rm Y<|Rq Y (Zq (ov Y) Y Y)<|Rq Y (Zr (ov Y) Y Y Zd9)<|Rm Y<|bE h fun y5 h_y5 h=>Rq Y (J5 (Ze7 h_y5) .int<|.cons (ov Y) (View.ptrS (j := 0) (k := 2) Y Y Y (Nat.le_of_ble_eq_true Y)<|.cons (View.ownO Y Y Xj (fun x=>(D55 x).1) Zj2)<|.cons (View.ownM Y Y D78) .nil)<|.cons (ov Y) (Dat.view<|.b Y) .nil)<|Ra Y<|Za<|K6 0 2 4 10 12 13 Y<|Tr<|Rm Y<|R2 QR Y<|Za<|K7 0 2 4 10 12 13 52 Y<|If h Y (fun h=>?_) fun h=>?_
   ·
    refine K1 13 Y<|Tr<|Rm Y<|Ra Y<|Ra Y<|Ra Y<|Za<|?_
    obtain rfl := rt h
    exact Zj<|Zbo [some 0, some 1, some 2, some 3, some 4] Y (.cons (.tmp Y)<|.cons (.tmp Y)<|.cons (.tmp Y) .nil) (.cons Y (ro1 (by exact tZ_75.symm)<|rlc (.own _ Y)<|rlc (.own _ Y)<|rlc (.dat Y)<|rlc (.dat Y)<|rlc (.dat Y)<|rlc (.dat Y)<|rlc (.dat Y) rln)<|.dead<|.dead<|.cons Y (roO Xj)<|.cons Y (roM D78) .nil) Y Y<|Q6<|rlc (.dat Y)<|rlc (.dat Y)<|rlc (.dat Y) rln
   ·
    refine Ze<|K5 0 2 4 10 12 Y<|Tr<|Rq Y (ZP (ov Y) Xn (Qb<|Zl arL) arL)<|bE h fun y6 h_y6 h=>Rq Y (Zn (ZfW h_y6)<|.cons (ov Y) (.aggB<|arD fun _ => Y) .nil)<|Rm Y<|Rq Y (Zi (ov Y) Y)<|Rq Y (Zi (ov Y) Y)<|Ra Y<|Ra Y<|Za<|J8 (fun j => (.inr j)) (fun memories spots copies frozen stopped last some_ power2=>⟨[(0, .ptr 0 1 0 0), (2, .int .i64 power2), (10, .int .i64 y3.1)], [some ⟨75, [[.own 3 memories.length, .own 4 spots.length, .int .i64 copies, .bool frozen, .bool stopped, .int .i64 last, .bool some_]]⟩, none, none, some ⟨55, List.map O55 memories⟩, some ⟨78, List.map R78 spots⟩]⟩) h (fun h=>?_) fun memories spots copies frozen stopped last some_ power2 h=>?_
    ·
     refine K5 0 2 10 12 14 Y<|Tr<|Rm Y<|Rl tZ_3 Q5 Y<|Rm Y<|Za<|Zf<|?_
     obtain ⟨r1, hl1, ho1⟩ := QO h
     refine L9 (fun memories2 spots2 copies2 frozen2 stopped2 last2 some_2 power3 i=>⟨[(0, .ptr 0 1 0 0), (2, .int .i64 power3), (10, .int .i64 y3.1), (14, .sl 5 (List.map R5 y6.1)), (59, .sl 3 (List.map R3 y4)), (60, .int .i64 (y4.length : Int)), (61, .int .i64 i)], [some ⟨75, [[.own 3 memories2.length, .own 4 spots2.length, .int .i64 copies2, .bool frozen2, .bool stopped2, .int .i64 last2, .bool some_2]]⟩, none, none, some ⟨55, List.map O55 memories2⟩, some ⟨78, List.map R78 spots2⟩]⟩) hl1 (ES [some 0, some 1, some 2, some 3, some 4] (hhp := .cons Y (ro1 (by exact tZ_75.symm)<|rlc (.own _ Y)<|rlc (.own _ Y)<|rlc (.dat Y)<|rlc (.dat Y)<|rlc (.dat Y)<|rlc (.dat Y)<|rlc (.dat Y) rln)<|.dead<|.dead<|.cons Y (roO Xj)<|.cons Y (roM D78) .nil)) fun n1 memories2 spots2 copies2 frozen2 stopped2 last2 some_2 power3 i h=>?_
     unfold Zy at h
     refine Tr<|R2 ZH Y<|Za<|Zg<|If h Y (fun h=>?_) fun h=>?_
     ·
      refine Ze<|Zg<|Zf<|K7 0 2 10 14 59 60 61 Y<|Tr<|bE h fun x h_x h=>Rq Y (ZX (ov Y) (ov Y) Q5 h_x)<|Rq Y (Zd (ov Y) tS3 Y)<|Ra Y<|Za<|K8 0 2 10 14 17 59 60 61 Y<|Tr<|Ra Y<|Za<|Zg<|Qn (cw := ⟨true, false, [], [], []⟩) (by kernel_rfl)<|D1 0 Zb Y<|Dq 1 Y (Zq (ov Y) Y Y)<|Dq 2 Y (Zr (ov Y) Y Y Zd9)<|D1 3 Zb Y<|D1 4 Zb Y<|D1 5 Zb Y<|Dq 6 Y (ZgU (QX (ov Y) tZ_5) XR<|Zdu _ _)<|D1 7 Zb Y<|Dq 8 Y (ZgU (QX (ov Y) tZ_5) XR<|Zdu _ _)<|bE h fun l h_l h=>Dq 9 Y (ZkP (ov Y) XR (ov Y) (ov Y) h_l)<|D1 10 Zb Y<|bE h fun y7 h_y7 h=>Do 11 Y (Z4 [0, 3, 4] (ZcQ h_y7) (.cons (ov Y) (.ptr _ _ _ Y)<|.cons (ov Y) (.dat Y)<|.cons (ov Y) (.dat Y)<|.cons (ov Y) (.dat Y) .nil) (.cons Y (ro1 (by exact tZ_75.symm)<|rlc (.own _ Y)<|rlc (.own _ Y)<|rlc (.dat Y)<|rlc (.dat Y)<|rlc (.dat Y)<|rlc (.dat Y)<|rlc (.dat Y) rln)<|.cons Y (roO Xj)<|.cons Y (roM D78) .nil) Y (.lent 0 (.inl Y) Y (ro1 (by exact tZ_75.symm)<|rlc (.own _<|.inr ⟨Nat.le_of_ble_eq_true Y, Y⟩)<|rlc (.own _<|.inr ⟨Nat.le_of_ble_eq_true Y, Y⟩)<|rlc (.dat Y)<|rlc (.dat Y)<|rlc (.dat Y)<|rlc (.dat Y)<|rlc (.dat Y) rln)<|.none<|.none<|.none<|.none<|.lent 3 (.inr ⟨Nat.le_of_ble_eq_true Y, Y⟩) Y (roO Xj)<|.lent 4 (.inr ⟨Nat.le_of_ble_eq_true Y, Y⟩) Y (roM D78) .nil) Y Y<|Q6<|rld Y)<|D1 12 Zb Y<|Dq 13 Y (Zi (ov Y) Y)<|Dq 14 Y (Zi (ov Y) Y)<|D1 15 Q1 Y<|D1 16 Q1 Y<|Dd<|K8 0 2 10 14 18 59 60 61 Y<|QZ [some ⟨75, [[.own 5 y7.2.2.bank.memories.length, .own 6 y7.2.2.bank.spots.length, .int .i64 y7.2.2.copies, .bool y7.2.2.frozen, .bool y7.2.2.stopped, .int .i64 y7.2.2.last, .bool y7.2.2.some_]]⟩, none, none, none, none, some ⟨55, List.map O55 y7.2.2.bank.memories⟩, some ⟨78, List.map R78 y7.2.2.bank.spots⟩] Y<|Tr<|Rm Y<|R1 Xv Y<|Za<|K8 0 2 10 14 59 60 61 81 Y<|If h Y (fun h=>?_) fun h=>?_
      ·
       refine K2 0 2 Y<|Tr<|Rm Y<|Rq Y (Zq (ov Y) Y Y)<|Rq Y (Zr (ov Y) Y Y Zma)<|Rx Y (Zs (ov Y) (ov Y) (Zo tS4) Y Y Y (Nat.le_of_ble_eq_true Y) (Zc Y) Y)<|Za<|K1 2 Y<|QZ [some ⟨75, [[.own 5 y7.2.2.bank.memories.length, .own 6 y7.2.2.bank.spots.length, .int .i64 y7.2.2.copies, .bool y7.2.2.frozen, .bool true, .int .i64 y7.2.2.last, .bool y7.2.2.some_]]⟩, none, none, none, none, some ⟨55, List.map O55 y7.2.2.bank.memories⟩, some ⟨78, List.map R78 y7.2.2.bank.spots⟩] Y<|Tr<|Rm Y<|Ra Y<|Ra Y<|Ra Y<|Za<|?_
       replace h := lx h ▸ ho1
       obtain rfl := rt h
       exact Zj<|Zbo [some 0, some 1, some 2, some 5, some 6] Y (.cons (.tmp Y)<|.cons (.tmp Y)<|.cons (.tmp Y) .nil) (.cons Y (ro1 (by exact tZ_75.symm)<|rlc (.own _ Y)<|rlc (.own _ Y)<|rlc (.dat Y)<|rlc (.dat Y)<|rlc (.dat Y)<|rlc (.dat Y)<|rlc (.dat Y) rln)<|.dead<|.dead<|.cons Y (roO Xj)<|.cons Y (roM D78) .nil) Y Y<|Q6<|rlc (.dat Y)<|rlc (.dat Y)<|rlc (.dat Y) rln
      ·
       exact Ze<|K7 0 2 10 14 59 60 61 Y<|Zk<|R2 ZN Y<|Rm Y<|Za<|⟨_, h, ES [some 0, some 1, some 2, some 5, some 6] (hhp := .cons Y (ro1 (by exact tZ_75.symm)<|rlc (.own _ Y)<|rlc (.own _ Y)<|rlc (.dat Y)<|rlc (.dat Y)<|rlc (.dat Y)<|rlc (.dat Y)<|rlc (.dat Y) rln)<|.dead<|.dead<|.cons Y (roO Xj)<|.cons Y (roM D78) .nil)⟩
     ·
      refine Zw<|?_
      replace h := lx h ▸ ho1
      exact ⟨_, h, ES [some 0, some 1, some 2, some 3, some 4] (hhp := .cons Y (ro1 (by exact tZ_75.symm)<|rlc (.own _ Y)<|rlc (.own _ Y)<|rlc (.dat Y)<|rlc (.dat Y)<|rlc (.dat Y)<|rlc (.dat Y)<|rlc (.dat Y) rln)<|.dead<|.dead<|.cons Y (roO Xj)<|.cons Y (roM D78) .nil)⟩
    ·
     replace h := elr h
     replace h := t8i h
     refine Tr<|Rm Y<|Rm Y<|Rm Y<|Rq Y (Zq (ov Y) Y Y)<|Rq Y (Zr (ov Y) Y Y Zof)<|Rx Y (Zs (ov Y) (ov Y) (Zo tS3) Y Y Y (Nat.le_of_ble_eq_true Y) (Zc Y) Y)<|Rq Y (Zq (ov Y) Y Y)<|Rq Y (Zr (ov Y) Y Y ZoD)<|Rx Y (Zs (ov Y) (ov Y) (Zo tS4) Y Y Y (Nat.le_of_ble_eq_true Y) (Zc Y) Y)<|Za<|K1 2 Y<|QZ [some ⟨75, [[.own 3 memories.length, .own 4 spots.length, .int .i64 copies, .bool frozen, .bool stopped, .int .i64 y3.1, .bool true]]⟩, none, none, some ⟨55, List.map O55 memories⟩, some ⟨78, List.map R78 spots⟩] Y<|Tr<|Rm Y<|Ra Y<|Ra Y<|Ra Y<|Za<|?_
     obtain rfl := rt h
     exact Zj<|Zbo [some 0, some 1, some 2, some 3, some 4] Y (.cons (.tmp Y)<|.cons (.tmp Y)<|.cons (.tmp Y) .nil) (.cons Y (ro1 (by exact tZ_75.symm)<|rlc (.own _ Y)<|rlc (.own _ Y)<|rlc (.dat Y)<|rlc (.dat Y)<|rlc (.dat Y)<|rlc (.dat Y)<|rlc (.dat Y) rln)<|.dead<|.dead<|.cons Y (roO Xj)<|.cons Y (roM D78) .nil) Y Y<|Q6<|rlc (.dat Y)<|rlc (.dat Y)<|rlc (.dat Y) rln
theorem Zgv {l : List api_Memory} {r : (List api_Memory)} (h : XZ l = some r) :
 CSpec Tryz.prog gl0 28 [.sl 55 (List.map R55 l)] (.sl 55 (List.map R55 r)) := by
 unfold XZ at h
 replace h := Qo h
 refine So Tryz.func28 Y fun w0 A=>Tr<|Ra Y<|Za<|K1 0 Y<|Tr<|Ra Y<|Za<|I1 (fun out=>⟨[(3, .own 0 out.length)], [some ⟨55, List.map O55 out⟩]⟩) h (fun h=>?_) fun out h=>?_
 ·
  refine Tr<|Rm Y<|Rl tZ_55 ZaB Y<|Rm Y<|Za<|Zf<|?_
  obtain ⟨r1, hl1, ho1⟩ := QO h
  refine L2 (fun out2 i=>⟨[(3, .own 0 out2.length), (6, .sl 55 (List.map R55 l)), (7, .int .i64 (l.length : Int)), (8, .int .i64 i)], [some ⟨55, List.map O55 out2⟩]⟩) hl1 (ES [none]) fun n1 out2 i h=>?_
  unfold XU at h
  refine Tr<|R2 ZH Y<|Za<|Zg<|If h Y (fun h=>?_) fun h=>?_
  ·
   exact Ze<|Zg<|Zf<|K4 3 6 7 8 Y<|Tr<|bE h fun x h_x h=>Rq Y (ZX (ov Y) (ov Y) ZaB h_x)<|Rq Y (ZP (ov Y) Za2 Y Y)<|Rx Y (Ql (row := [_, _, _, _, _]) 1 Y ZhO Y tZ_55)<|Rx Y (Zs (ov Y) (ov Y) (ZK Za2 Y) Y Y Y (Nat.le_of_ble_eq_true Y) (Zc Y) Y)<|Za<|K5 3 5 6 7 8 Y<|QZ [some ⟨55, List.map O55 out2⟩, some ⟨55, [[.int .i64 x.Slots, .int .i64 x.Limit, .sl 56 (List.map R56 x.Sectors), .sl 3 (List.map R3 x.Wear), .sl 4 (List.map R4 x.Bad)]]⟩] Y<|Zk<|Rm Y<|Rq Y (QS (ov Y) Y Y Y Za2 Y Y)<|bE h fun y h_y h=>Rx Y (Z4 [] (Zb4 h_y) (.cons (ov Y) (ZdJ<|rld Y) .nil) .nil Y (.keep Y Y<|.keep Y Y<|.lent 0 (.inr ⟨Nat.le_of_ble_eq_true Y, Y⟩) Y (roO ZfS)<|.lent 1 (.inr ⟨Nat.le_of_ble_eq_true Y, Y⟩) Y (roM D3)<|.lent 2 (.inr ⟨Nat.le_of_ble_eq_true Y, Y⟩) Y (roM D4) .nil) Y Y<|ZdJ<|rlc (.dat Y)<|rlc (.dat Y)<|rlc (.own _<|.inr ⟨Nat.le_of_ble_eq_true Y, Y⟩)<|rlc (.own _<|.inr ⟨Nat.le_of_ble_eq_true Y, Y⟩)<|rlc (.own _<|.inr ⟨Nat.le_of_ble_eq_true Y, Y⟩) rln)<|Rx Y (ZjX (r := 5) Y ZaB (.cons (cva<|ov Y) Y .nil) Y Y)<|bE h fun l2 h_l2 h=>Rx Y (ZfG (f := O55) (ov Y) (ZiE (o := ⟨55, [[.int .i64 y.Slots, .int .i64 y.Limit, .own 2 y.Sectors.length, .own 3 y.Wear.length, .own 4 y.Bad.length]]⟩) (ov Y) Y Y tZ_55) ZaB Y Y (Zc Y) Y h_l2)<|Ra Y<|Zd4 [some ⟨55, List.set (List.map O55 l2) out2.length [.int .i64 y.Slots, .int .i64 y.Limit, .own 2 y.Sectors.length, .own 3 y.Wear.length, .own 4 y.Bad.length]⟩, some ⟨55, [[.int .i64 x.Slots, .int .i64 x.Limit, .sl 56 (List.map R56 x.Sectors), .sl 3 (List.map R3 x.Wear), .sl 4 (List.map R4 x.Bad)]]⟩, some ⟨56, List.map O56 y.Sectors⟩, some ⟨3, List.map R3 y.Wear⟩, some ⟨4, List.map R4 y.Bad⟩, some ⟨55, [[.int .i64 y.Slots, .int .i64 y.Limit, .own 2 y.Sectors.length, .own 3 y.Wear.length, .own 4 y.Bad.length]]⟩] Y<|Xg (Ent.absorbH (r := 0) (j := 2) (q := 2) Y (ZaR h_l2) Y Y (List.length_map ..) Y)<|Xg (Ent.absorbH (r := 0) (j := 3) (q := 3) Y (ZaR h_l2) Y Y (List.length_map ..) Y)<|Xg (Ent.absorbH (r := 0) (j := 4) (q := 4) Y (ZaR h_l2) Y Y (List.length_map ..) Y)<|Xg (Ent.closeS (r := 0) Y (ZaR h_l2) Y)<|Za<|K4 3 6 7 8 Y<|QZ [some ⟨55, List.map O55 l2⟩, some ⟨55, [[.int .i64 x.Slots, .int .i64 x.Limit, .sl 56 (List.map R56 x.Sectors), .sl 3 (List.map R3 x.Wear), .sl 4 (List.map R4 x.Bad)]]⟩, none, none, none, some ⟨55, [[.int .i64 y.Slots, .int .i64 y.Limit, .own 2 y.Sectors.length, .own 3 y.Wear.length, .own 4 y.Bad.length]]⟩] Y<|Zk<|R2 ZN Y<|Rm Y<|Za<|⟨_, h, ES [some 0] (hhp := .cons Y (roO Xj) .nil)⟩
  ·
   refine Zw<|?_
   replace h := lx h ▸ ho1
   exact ⟨_, h, ES [some 0] (hhp := .cons Y (roO Xj) .nil)⟩
 ·
  refine Tr<|Rm Y<|Ra Y<|Za<|?_
  obtain rfl := rt h
  exact Zj (ZE Y (.one<|.tmp Y<|View.ownO Y Y Xj (fun x=>(D55 x).1) Zj2))
end Go.Proofs.YtjfoenlooacoiabGreatDoor
