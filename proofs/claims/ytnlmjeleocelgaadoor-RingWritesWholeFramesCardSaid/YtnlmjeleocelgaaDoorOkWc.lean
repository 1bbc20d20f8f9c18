/- A text of the proof: a verified executor of the program form, or the contracts of the functions that the law reaches. -/
import Derived.Test.YtnlmjeleocelgaaDoorOkWb
set_option linter.all false
namespace Go.Proofs.YtnlmjeleocelgaaDoor
open Go Go.Vx
set_option maxRecDepth 10000
set_option maxHeartbeats 1000000
set_option linter.unusedVariables false
theorem Zct {r_ : ring_Recorder} {power : Int} {r : Int} (h : QT r_ power = some r) :
 CSpec Tryd.prog gl0 33 [.rp [.sl 60 (List.map R60 r_.bank.memories), .sl 83 (List.map R83 r_.bank.spots), .int .i64 r_.copies, .bool r_.frozen, .bool r_.stopped, .int .i64 r_.last, .bool r_.some_] 0, .int .i64 power] (.int .i64 r) := by
 unfold QT at h
 replace h := QO h
 refine So Tryd.func33 Y fun w0 A=>Tr<|Ra Y<|Za<|Zg<|Zf<|K2 0 1 Y<|Tr<|Rm Y<|R1 ZN Y<|Rq Y (Qj (ov Y) ZlW)<|Rq Y (Zi (ov Y) tS4 Y)<|Ra Y<|Za<|K3 0 1 5 Y<|If h Y (fun h=>?_) fun h=>?_
 ·
  refine K0<|Tr<|Ra Y<|Za<|?_
  obtain rfl := rt h
  exact Zp (Z5 Y (.one<|rb Y))
 ·
  refine K2 0 1 Y<|Tr<|Rm Y<|R1 ZN Y<|Rq Y (Qj (ov Y) ZkF)<|Rq Y (Zi (ov Y) tS4 Y)<|Ra Y<|Za<|K2 1 10 Y<|If h Y (fun h=>?_) fun h=>?_
  ·
   refine K0<|Tr<|Ra Y<|Za<|?_
   obtain rfl := rt h
   exact Zp (Z5 Y (.one<|rb Y))
  ·
   refine K1 1 Y<|Tr<|Rm Y<|bE h fun y h_y h=>Rq Y (Zt (QQ h_y)<|.cons (ov Y) (.b Y)<|.cons (ov Y) (.b Y)<|.cons (ov Y) (.b Y) .nil)<|R1 J9 Y<|Ra Y<|Za<|K1 15 Y<|If h Y (fun h=>?_) fun h=>?_
   ·
    refine K0<|Tr<|Ra Y<|Za<|?_
    obtain rfl := rt h
    exact Zp (Z5 Y (.one<|rb Y))
   ·
    refine Zh<|K0<|Tr<|Ra Y<|Za<|?_
    obtain rfl := rt h
    exact Zp (Z5 Y (.one<|rb Y))
theorem ZaA {w : Int} {r : Int} (h : X3 w = some r) :
 CSpec Tryd.prog gl0 56 [.int .u16 w] (.int .i64 r) := by
 unfold X3 at h
 replace h := QO h
 refine So Tryd.func56 Y fun w0 A=>Tr<|Ra Y<|Za<|Tr<|Rm Y<|R2 ZbE Y<|Rq Y (Qx (ov Y) Zeb tI3 Y)<|Ra Y<|Za<|?_
 obtain rfl := rt h
 exact Zp (Z5 Y (.one<|rb Y))
theorem Zei {f : Vector Int 64} {r : Int} (h : XQ f = some r) :
 CSpec Tryd.prog gl0 54 [.rp (List.map C42 f.toList) 0] (.int .i64 r) := by
 unfold XQ at h
 replace h := QO h
 refine So Tryd.func54 Y fun w0 A=>Tr<|Ra Y<|Za<|Zg<|QL (cw := md0) (by kernel_rfl)<|D1 0 Zc Y<|D1 1 ZN Y<|bE h fun x h_x h=>Dq 2 Y (Xu (ov Y) (ov Y) Zba h_x)<|Dq 3 Y (Zi (ov Y) Zb2<|QF<|Jr (o := 0) (o' := ((Int.toNat 1) * 1)) (Zu arL)<|Jk h_x)<|bE h fun y h_y h=>Dq 4 Y (Zt (ZaA h_y)<|.cons (ov Y) (.b Y) .nil)<|D1 5 Zc Y<|D1 6 ZN Y<|bE h fun x2 h_x2 h=>Dq 7 Y (Xu (ov Y) (ov Y) Zba h_x2)<|Dq 8 Y (Zi (ov Y) Zb2<|QF<|Jr (o := 0) (o' := ((Int.toNat 2) * 1)) (Zu arL)<|Jk h_x2)<|bE h fun y2 h_y2 h=>Dq 9 Y (Zt (ZaA h_y2)<|.cons (ov Y) (.b Y) .nil)<|bE h fun q h_q h=>Dq 10 Y (ZeW (ov Y) (ov Y) h_q)<|D2 11 ZgI Y<|D1 12 QN Y<|Dd<|?_
 obtain rfl := rt h
 exact Zp (Z5 Y (.one<|rb Y))
theorem Zgy {x : Int} {r : Int} (h : J6 x = some r) :
 CSpec Tryd.prog gl0 78 [.int .u16 x] (.int .i64 r) := by
 unfold J6 at h
 replace h := QO h
 refine So Tryd.func78 Y fun w0 A=>Tr<|Ra Y<|Za<|Zg<|QL (cw := md0) (by kernel_rfl)<|D1 0 Zc Y<|bE h fun q h_q h=>Dq 1 Y (Zbf (ov Y) (ov Y) h_q)<|bE h fun b h_b h=>Dq 2 Y (ZkX (ov Y) (ov Y) Zpv h_b)<|D1 3 Zc Y<|D2 4 ZbE Y<|bE h fun b2 h_b2 h=>Dq 5 Y (ZkX (ov Y) (ov Y) Zpv h_b2)<|D2 6 ZU Y<|Dq 7 Y (Qx (ov Y) tI5 tI3 Y)<|D1 8 QN Y<|Dd<|?_
 obtain rfl := rt h
 exact Zp (Z5 Y (.one<|rb Y))
theorem Zfn {w : Int} {r : Bool} (h : Za1 w = some r) :
 CSpec Tryd.prog gl0 55 [.int .u16 w] (.bool r) := by
 unfold Za1 at h
 replace h := QO h
 refine So Tryd.func55 Y fun w0 A=>Tr<|Ra Y<|Za<|Tr<|Rm Y<|R2 Zkh Y<|Rm Y<|Rq Y (.guarded ((decide (w ≤ 4095)) == true) Y Y Y Y fun h => Zc<|ov Y)<|bE h fun y h_y h=>Rq Y (.guarded ((decide (w ≤ 4095)) == true) Y Y Y Y fun h => Zt (Zgy<|gdT h_y h)<|.cons (ow Y h) (.b Y) .nil)<|bE h fun q h_q h=>Rq Y (.guarded ((decide (w ≤ 4095)) == true) Y Y Y Y fun h => Zbh (ow Y h) (ov Y)<|gdT h_q h)<|Rq Y (.guarded ((decide (w ≤ 4095)) == true) Y Y Y Y fun h => Zdf (ow Y h)<|ov Y)<|Rq Y (Zdj (ov Y) fun hp=>ow Y<|gT hp)<|Ra Y<|Za<|?_
 obtain rfl := rt h
 exact Zp (Z5 Y (.one<|rb Y))
theorem ZjI {f : Vector Int 64} {r : Int} (h : ZaO f = some r) :
 CSpec Tryd.prog gl0 57 [.rp (List.map C42 f.toList) 0] (.int .i64 r) := by
 unfold ZaO at h
 replace h := QO h
 refine So Tryd.func57 Y fun w0 A=>Tr<|Ra Y<|Za<|K1 0 Y<|Tr<|Ra Y<|Za<|I1 (fun n=>⟨[(3, .int .i64 n)], []⟩) h (fun h=>?_) fun n h=>?_
 ·
  refine Tr<|Rm Y<|Za<|Zf<|?_
  obtain ⟨r1, hl1, ho1⟩ := Xm h
  refine L2 (fun n2 i=>⟨[(0, .rp (List.map C42 f.toList) 0), (3, .int .i64 n2), (5, .int .i64 i)], []⟩) hl1 (ES []) fun n1 n2 i h=>?_
  unfold Ji at h
  refine Tr<|R2 ZT Y<|Za<|Zg<|If h Y (fun h=>?_) fun h=>?_
  ·
   exact Zh<|Zg<|Zf<|K3 0 3 5 Y<|Tr<|Rm Y<|Ra Y<|Za<|K4 0 3 4 5 Y<|Zs<|Rm Y<|Rm Y<|Rm Y<|R2 ZU Y<|R1 ZN Y<|bE h fun x h_x h=>Rq Y (Xu (ov Y) (ov Y) Zba h_x)<|Rq Y (Zi (ov Y) Zb2<|QF<|Jr (o := 0) (o' := ((i64 (i + 1)).toNat * 1)) (Zu arL)<|Jk h_x)<|bE h fun y h_y h=>Rq Y (Zt (ZaA h_y)<|.cons (ov Y) (.b Y) .nil)<|R2 Zkr Y<|Ra Y<|Za<|K3 0 3 5 Y<|Zs<|R2 ZU Y<|Rm Y<|Za<|⟨_, h, ES []⟩
  ·
   refine ZM<|?_
   replace h := lx h ▸ ho1
   exact ⟨_, h, ES []⟩
 ·
  refine Tr<|Rm Y<|Ra Y<|Za<|?_
  obtain rfl := rt h
  exact Zp (Z5 Y (.one<|rb Y))
theorem ZhX {f : Vector Int 64} {r : Int} (h : JR f = some r) :
 CSpec Tryd.prog gl0 58 [.rp (List.map C42 f.toList) 0] (.int .i64 r) := by
 unfold JR at h
 replace h := QO h
 refine So Tryd.func58 Y fun w0 A=>Tr<|Ra Y<|Za<|K1 0 Y<|Tr<|Ra Y<|Za<|I1 (fun n=>⟨[(3, .int .i64 n)], []⟩) h (fun h=>?_) fun n h=>?_
 ·
  refine Tr<|Rm Y<|Za<|Zf<|?_
  obtain ⟨r1, hl1, ho1⟩ := Xm h
  refine L2 (fun n2 i=>⟨[(0, .rp (List.map C42 f.toList) 0), (3, .int .i64 n2), (7, .int .i64 i)], []⟩) hl1 (ES []) fun n1 n2 i h=>?_
  unfold XB at h
  refine Tr<|R2 ZT Y<|Za<|Zg<|If h Y (fun h=>?_) fun h=>?_
  ·
   refine Zh<|I1 (fun n3=>⟨[(0, .rp (List.map C42 f.toList) 0), (3, .int .i64 n3), (7, .int .i64 i)], []⟩) h (fun h=>?_) fun n3 h=>?_
   ·
    refine Zf<|K3 0 3 7 Y<|Tr<|Rm Y<|Ra Y<|Za<|K4 0 3 4 7 Y<|Tr<|Ra Y<|Za<|Zf<|?_
    obtain ⟨r2, hl2, ho2⟩ := Xm h
    refine L2 (fun n4 k=>⟨[(0, .rp (List.map C42 f.toList) 0), (3, .int .i64 n4), (4, .int .i64 i), (5, .int .i64 k), (7, .int .i64 i)], []⟩) hl2 (ES []) fun n2 n4 k h=>?_
    unfold Xc at h
    refine Zg<|Tr<|Rm Y<|R2 ZiI Y<|Za<|K6 0 3 4 5 7 11 Y<|If h Y (fun h=>?_) fun h=>?_
    ·
     refine Zh<|Zg<|Zf<|K5 0 3 4 5 7 Y<|Tr<|Rm Y<|R2 ZbE Y<|R2 Jv Y<|Ra Y<|Za<|K6 0 3 4 5 6 7 Y<|Tr<|Rm Y<|bE h fun q h_q h=>Rq Y (ZeW (ov Y) (ov Y) h_q)<|R2 ZbE Y<|Ra Y<|Za<|K6 0 3 4 5 6 7 Y<|Tr<|Rm Y<|Rm Y<|Rm Y<|R1 ZN Y<|bE h fun x h_x h=>Rq Y (Xu (ov Y) (ov Y) Zba h_x)<|Rq Y (Zi (ov Y) Zb2<|QF<|Jr (o := 0) (o' := (i.toNat * 1)) (Zu arL)<|Jk h_x)<|Rm Y<|bE h fun q2 h_q2 h=>Rq Y (Zbf (ov Y) (ov Y) h_q2)<|R2 ZbE Y<|R2 Zdf Y<|Rq Y (ZnN .neq (by simp) (ov Y) (ov Y) tB4)<|Za<|K6 0 3 4 5 7 30 Y<|If h Y (fun h=>?_) fun h=>?_
     ·
      exact K5 0 3 4 5 7 Y<|Zs<|Rm Y<|R2 Zkr Y<|Ra Y<|Za<|K5 0 3 4 5 7 Y<|Zs<|Rm Y<|R2 Zcq Y<|Ra Y<|Za<|⟨_, h, ES []⟩
     ·
      exact Zh<|K5 0 3 4 5 7 Y<|Zs<|Rm Y<|R2 Zcq Y<|Ra Y<|Za<|⟨_, h, ES []⟩
    ·
     refine ZM<|?_
     replace h := lx h ▸ ho2
     exact ⟨_, h, ES []⟩
   ·
    exact Zs<|R2 ZU Y<|Rm Y<|Za<|⟨_, h, ES []⟩
  ·
   refine ZM<|?_
   replace h := lx h ▸ ho1
   exact ⟨_, h, ES []⟩
 ·
  refine Tr<|Rm Y<|Ra Y<|Za<|?_
  obtain rfl := rt h
  exact Zp (Z5 Y (.one<|rb Y))
theorem Zf0 {f : Vector Int 64} {r : (List api_Flaw)} (h : Zam f = some r) :
 CSpec Tryd.prog gl0 34 [.agg (List.map C42 f.toList)] (.sl 114 (List.map R114 r)) := by
 unfold Zam at h
 replace h := QO h
 refine So Tryd.func34 Y fun w0 A=>Tr<|Rq Y (Zdx (cva<|ov Y) arL tZ_44<|arD fun _ => Y)<|Ra Y<|Za<|K1 1 Y<|Tr<|Ra Y<|Za<|I1 (fun out=>⟨[(1, .rp (List.map C42 f.toList) 0), (3, .own 0 out.length)], [some ⟨114, List.map R114 out⟩]⟩) h (fun h=>?_) fun out h=>?_
 ·
  refine Tr<|Rq Y (QP (ov Y) JS (Qp<|Zu arL) arL)<|Rm Y<|Za<|Zf<|?_
  obtain ⟨r1, hl1, ho1⟩ := Xm h
  refine L2 (fun out2 i=>⟨[(1, .rp (List.map C42 f.toList) 0), (3, .own 0 out2.length), (7, .agg (List.map C42 f.toList)), (8, .int .i64 i)], [some ⟨114, List.map R114 out2⟩]⟩) hl1 (ES [none]) fun n1 out2 i h=>?_
  unfold Jp at h
  refine Tr<|R2 ZT Y<|Za<|Zg<|If h Y (fun h=>?_) fun h=>?_
  ·
   refine Zh<|Zg<|Zf<|K4 1 3 7 8 Y<|Tr<|Rm Y<|bE h fun x h_x h=>Rq Y (Zkm (ov Y) (ov Y) Zba Zb2 h_x)<|Ra Y<|Ra Y<|Za<|K6 1 3 4 5 7 8 Y<|Tr<|Rm Y<|R2 Zde Y<|Za<|K6 1 3 4 7 8 13 Y<|If h Y (fun h=>?_) fun h=>?_
   ·
    exact K5 1 3 4 7 8 Y<|Zs<|Rm Y<|Rm Y<|Rq Y (JG (ys := [_, _]) Zjw Zjh ZlG (.cons (cvs (ov Y)<|Zn Y)<|.cons (cvs (ov Y)<|Zn Y) .nil) Y)<|R_q (.sl 114<|List.map R114 ([(api_Flaw.mk i 5)] : List api_Flaw)) Y (Zae Zin (.cons (cva<|ov Y) Y (pwD Y) .nil) Y Y)<|bE h fun l h_l h=>Rx Y (XT (ov Y) (Jb (ov Y) tZ_114) Zin Y Y Y (fun _=>Zb Y) Y h_l)<|Ra Y<|Za<|K4 1 3 7 8 Y<|Zs<|R2 ZU Y<|Rm Y<|Za<|⟨_, h, ES [some 0]⟩
   ·
    exact Zh<|K4 1 3 7 8 Y<|Zs<|R2 ZU Y<|Rm Y<|Za<|⟨_, h, ES [some 0]⟩
  ·
   refine ZM<|?_
   replace h := lx h ▸ ho1
   exact ⟨_, h, ES [some 0]⟩
 ·
  refine Zg<|Tr<|Rm Y<|Rq Y (Zfj (ov Y) Y Y Zin)<|R2 Zde Y<|Za<|K3 1 3 22 Y<|If h Y (fun h=>?_) fun h=>?_
  ·
   refine K1 3 Y<|Tr<|Rm Y<|Ra Y<|Za<|?_
   obtain rfl := rt h
   exact Zp (Z5 Y (.one<|.tmp Y<|View.ownM Y Y D114))
  ·
   refine Zh<|I1 (fun out3=>⟨[(1, .rp (List.map C42 f.toList) 0), (3, .own 0 out3.length)], [some ⟨114, List.map R114 out3⟩]⟩) h (fun h=>?_) fun out3 h=>?_
   ·
    refine Zg<|K2 1 3 Y<|QL (cw := md0) (by kernel_rfl)<|bE h fun x2 h_x2 h=>Dq 0 Y (Xu (ov Y) (ov Y) Zba h_x2)<|Dq 1 Y (Zi (ov Y) Zb2<|QF<|Jr (o := 0) (o' := ((Int.toNat 0) * 1)) (Zu arL)<|Jk h_x2)<|bE h fun y h_y h=>Dq 2 Y (Zt (Zei h_y)<|.cons (ov Y) (.b Y) .nil)<|bE h fun q h_q h=>Dq 3 Y (Zbh (ov Y) (ov Y) h_q)<|bE h fun x3 h_x3 h=>Dq 4 Y (Xu (og (v := gv_frame_syncs) (k := .u16) (f := C42) (by simp [gl0]) fun _=>Y) (ov Y) Zq0 h_x3)<|Dq 5 Y (Zi (ov Y) Zb2<|QF<|Jr (o := 0) (o' := (q.toNat * 1)) (Zu arL)<|Jk h_x3)<|D2 6 Jv Y<|Dd<|K3 1 3 30 Y<|If h Y (fun h=>?_) fun h=>?_
    ·
     exact K2 1 3 Y<|Zs<|Rm Y<|Rq Y (JG (ys := [_, _]) Zjw Zjh ZlG (.cons (cvs (ov Y)<|Zn Y)<|.cons (cvs (ov Y)<|Zn Y) .nil) Y)<|R_q (.sl 114<|List.map R114 ([(api_Flaw.mk 0 1)] : List api_Flaw)) Y (Zae Zin (.cons (cva<|ov Y) Y (pwD Y) .nil) Y Y)<|bE h fun l2 h_l2 h=>Rx Y (XT (ov Y) (Jb (ov Y) tZ_114) Zin Y Y Y (fun _=>Zb Y) Y h_l2)<|Ra Y<|Za<|⟨_, h, ES [some 0]⟩
    ·
     exact Zh<|⟨_, h, ES [some 0]⟩
   ·
    refine I1 (fun out4=>⟨[(1, .rp (List.map C42 f.toList) 0), (3, .own 0 out4.length)], [some ⟨114, List.map R114 out4⟩]⟩) h (fun h=>?_) fun out4 h=>?_
    ·
     refine Tr<|Ra Y<|Za<|Zf<|?_
     obtain ⟨r2, hl2, ho2⟩ := Xm h
     refine L2 (fun out5 i2=>⟨[(1, .rp (List.map C42 f.toList) 0), (3, .own 0 out5.length), (6, .int .i64 i2)], [some ⟨114, List.map R114 out5⟩]⟩) hl2 (ES [some 0]) fun n2 out5 i2 h=>?_
     unfold Js at h
     refine Zg<|Tr<|Rm Y<|R2 ZT Y<|Za<|K4 1 3 6 36 Y<|If h Y (fun h=>?_) fun h=>?_
     ·
      refine Zh<|Zg<|Zf<|K3 1 3 6 Y<|Tr<|Rm Y<|bE h fun x4 h_x4 h=>Rq Y (Xu (ov Y) (ov Y) Zba h_x4)<|Rq Y (Zi (ov Y) Zb2<|QF<|Jr (o := 0) (o' := (i2.toNat * 1)) (Zu arL)<|Jk h_x4)<|bE h fun y2 h_y2 h=>Rq Y (Zt (Zfn h_y2)<|.cons (ov Y) (.b Y) .nil)<|R1 J9 Y<|Za<|K4 1 3 6 43 Y<|If h Y (fun h=>?_) fun h=>?_
      ·
       exact K3 1 3 6 Y<|Zs<|Rm Y<|Rm Y<|Rq Y (JG (ys := [_, _]) Zjw Zjh ZlG (.cons (cvs (ov Y)<|Zn Y)<|.cons (cvs (ov Y)<|Zn Y) .nil) Y)<|R_q (.sl 114<|List.map R114 ([(api_Flaw.mk i2 2)] : List api_Flaw)) Y (Zae Zin (.cons (cva<|ov Y) Y (pwD Y) .nil) Y Y)<|bE h fun l3 h_l3 h=>Rx Y (XT (ov Y) (Jb (ov Y) tZ_114) Zin Y Y Y (fun _=>Zb Y) Y h_l3)<|Ra Y<|Za<|K3 1 3 6 Y<|Zs<|Rm Y<|R2 ZU Y<|Ra Y<|Za<|⟨_, h, ES [some 0]⟩
      ·
       exact Zh<|K3 1 3 6 Y<|Zs<|Rm Y<|R2 ZU Y<|Ra Y<|Za<|⟨_, h, ES [some 0]⟩
     ·
      refine ZM<|?_
      replace h := lx h ▸ ho2
      exact ⟨_, h, ES [some 0]⟩
    ·
     refine I1 (fun out6=>⟨[(1, .rp (List.map C42 f.toList) 0), (3, .own 0 out6.length)], [some ⟨114, List.map R114 out6⟩]⟩) h (fun h=>?_) fun out6 h=>?_
     ·
      refine Tr<|bE h fun x5 h_x5 h=>Rq Y (Xu (ov Y) (ov Y) Zba h_x5)<|Rq Y (Zi (ov Y) Zb2<|QF<|Jr (o := 0) (o' := ((Int.toNat 61) * 1)) (Zu arL)<|Jk h_x5)<|bE h fun y3 h_y3 h=>Rq Y (Zt (ZaA h_y3)<|.cons (ov Y) (.b Y) .nil)<|bE h fun y4 h_y4 h=>Rq Y (Zt (ZjI h_y4)<|.cons (ov Y) (.b Y) .nil)<|R2 Jv Y<|Za<|K3 1 3 53 Y<|If h Y (fun h=>?_) fun h=>?_
      ·
       exact K2 1 3 Y<|Zs<|Rm Y<|Rq Y (JG (ys := [_, _]) Zjw Zjh ZlG (.cons (cvs (ov Y)<|Zn Y)<|.cons (cvs (ov Y)<|Zn Y) .nil) Y)<|R_q (.sl 114<|List.map R114 ([(api_Flaw.mk 61 3)] : List api_Flaw)) Y (Zae Zin (.cons (cva<|ov Y) Y (pwD Y) .nil) Y Y)<|bE h fun l4 h_l4 h=>Rx Y (XT (ov Y) (Jb (ov Y) tZ_114) Zin Y Y Y (fun _=>Zb Y) Y h_l4)<|Ra Y<|Za<|⟨_, h, ES [some 0]⟩
      ·
       exact Zh<|⟨_, h, ES [some 0]⟩
     ·
      refine Zg<|Zg<|QL (cw := md0) (by kernel_rfl)<|bE h fun x6 h_x6 h=>Dq 0 Y (Xu (ov Y) (ov Y) Zba h_x6)<|Dq 1 Y (Zi (ov Y) Zb2<|QF<|Jr (o := 0) (o' := ((Int.toNat 62) * 1)) (Zu arL)<|Jk h_x6)<|bE h fun y5 h_y5 h=>Dq 2 Y (Zt (ZaA h_y5)<|.cons (ov Y) (.b Y) .nil)<|bE h fun q2 h_q2 h=>Dq 3 Y (ZeW (ov Y) (ov Y) h_q2)<|bE h fun x7 h_x7 h=>Dq 4 Y (Xu (ov Y) (ov Y) Zba h_x7)<|Dq 5 Y (Zi (ov Y) Zb2<|QF<|Jr (o := 0) (o' := ((Int.toNat 63) * 1)) (Zu arL)<|Jk h_x7)<|bE h fun y6 h_y6 h=>Dq 6 Y (Zt (ZaA h_y6)<|.cons (ov Y) (.b Y) .nil)<|D2 7 ZgI Y<|bE h fun y7 h_y7 h=>Dq 8 Y (Zt (ZhX h_y7)<|.cons (ov Y) (.b Y) .nil)<|D2 9 Jv Y<|Dd<|K2 3 67 Y<|If h Y (fun h=>?_) fun h=>?_
      ·
       refine K1 3 Y<|Zs<|Rm Y<|Rq Y (JG (ys := [_, _]) Zjw Zjh ZlG (.cons (cvs (ov Y)<|Zn Y)<|.cons (cvs (ov Y)<|Zn Y) .nil) Y)<|R_q (.sl 114<|List.map R114 ([(api_Flaw.mk 62 4)] : List api_Flaw)) Y (Zae Zin (.cons (cva<|ov Y) Y (pwD Y) .nil) Y Y)<|bE h fun l5 h_l5 h=>Rx Y (XT (ov Y) (Jb (ov Y) tZ_114) Zin Y Y Y (fun _=>Zb Y) Y h_l5)<|Ra Y<|Za<|K1 3 Y<|Tr<|Rm Y<|Ra Y<|Za<|?_
       obtain rfl := rt h
       exact Zp (Z5 Y (.one<|.tmp Y<|View.ownM Y Y D114))
      ·
       refine Zh<|K1 3 Y<|Tr<|Rm Y<|Ra Y<|Za<|?_
       obtain rfl := rt h
       exact Zp (Z5 Y (.one<|.tmp Y<|View.ownM Y Y D114))
theorem Zft {f : Vector Int 64} {r : Int × Bool} (h : Jc f = some r) :
 CSpec Tryd.prog gl0 35 [.agg (List.map C42 f.toList)] (.tuple [.int .i64 r.1, .bool r.2]) := by
 unfold Jc at h
 replace h := QO h
 refine So Tryd.func35 Y fun w0 A=>Tr<|Rq Y (Zdx (cva<|ov Y) arL tZ_44<|arD fun _ => Y)<|Ra Y<|Ra Y<|Za<|Zg<|K1 1 Y<|Tr<|bE h fun x h_x h=>Rq Y (Xu (ov Y) (ov Y) Zba h_x)<|Rq Y (Zi (ov Y) Zb2<|QF<|Jr (o := 0) (o' := ((Int.toNat 1) * 1)) (Zu arL)<|Jk h_x)<|bE h fun y h_y h=>Rq Y (Zt (Zfn h_y)<|.cons (ov Y) (.b Y) .nil)<|R1 J9 Y<|Rm Y<|bE h fun x2 h_x2 h=>Rq Y (.guarded ((!y) == false) Y Y Y Y fun h => Xu (ov Y) (ov Y) Zba<|gdT h_x2 h)<|Rq Y (.guarded ((!y) == false) Y Y Y Y fun h => Zi (ow Y h) Zb2<|QF<|Jr (o := 0) (o' := ((Int.toNat 2) * 1)) (Zu arL)<|Jk<|gdT h_x2 h)<|bE h fun y2 h_y2 h=>Rq Y (.guarded ((!y) == false) Y Y Y Y fun h => Zt (Zfn<|gdT h_y2 h)<|.cons (ow Y h) (.b Y) .nil)<|Rq Y (.guarded ((!y) == false) Y Y Y Y fun h => J9<|ow Y h)<|Rq Y (Zgu (ov Y) fun hp=>ow Y<|gF hp)<|Za<|K2 1 13 Y<|If h Y (fun h=>?_) fun h=>?_
 ·
  refine K0<|Tr<|Ra Y<|Ra Y<|Za<|?_
  obtain rfl := rt h
  exact Zp (Z5 Y (.two (rb Y)<|rb Y))
 ·
  refine Zh<|K1 1 Y<|Tr<|bE h fun y3 h_y3 h=>Rq Y (Zt (Zei h_y3)<|.cons (ov Y) (.b Y) .nil)<|Ra Y<|Ra Y<|Za<|?_
  obtain rfl := rt h
  exact Zp (Z5 Y (.two (rb Y)<|rb Y))
theorem ZiN {number : Int} {memories : Int} {copies : Int} {r : (List Int)} (h : Zap number memories copies = some r) :
 CSpec Tryd.prog gl0 19 [.int .i64 number, .int .i64 memories, .int .i64 copies] (.sl 3 (List.map R3 r)) := by
 unfold Zap at h
 replace h := QO h
 refine So Tryd.func19 Y fun w0 A=>Tr<|Ra Y<|Za<|K3 0 1 2 Y<|Tr<|Ra Y<|Za<|I1 (fun out=>⟨[(7, .own 0 out.length)], [some ⟨3, List.map R3 out⟩]⟩) h (fun h=>?_) fun out h=>?_
 ·
  refine Tr<|Rm Y<|Rm Y<|Za<|Zf<|?_
  obtain ⟨r1, hl1, ho1⟩ := Xm h
  refine L2 (fun out2 i=>⟨[(0, .int .i64 number), (1, .int .i64 memories), (7, .own 0 out2.length), (9, .int .i64 copies), (10, .int .i64 i)], [some ⟨3, List.map R3 out2⟩]⟩) hl1 (ES [none]) fun n1 out2 i h=>?_
  unfold XX at h
  refine Tr<|R2 ZT Y<|Za<|Zg<|If h Y (fun h=>?_) fun h=>?_
  ·
   exact Zh<|Zg<|Zf<|K5 0 1 7 9 10 Y<|Tr<|Rm Y<|Ra Y<|Za<|K6 0 1 7 8 9 10 Y<|Zs<|Rm Y<|Rm Y<|Rm Y<|R2 ZU Y<|Rm Y<|bE h fun q h_q h=>Rq Y (Zbh (ov Y) (ov Y) h_q)<|R_q (.sl 3<|List.map R3 ([q] : List Int)) Y (Zae Xg (.cons (cvs (ov Y)<|Zn Y) Y (.cons (.b Y) .nil) .nil) Y Y)<|bE h fun l h_l h=>Rx Y (XT (ov Y) (Jb (ov Y) tZ_3) Xg Y Y Y (fun _=>Zb Y) Y h_l)<|Ra Y<|Za<|K5 0 1 7 9 10 Y<|Zs<|R2 ZU Y<|Rm Y<|Za<|⟨_, h, ES [some 0]⟩
  ·
   refine ZM<|?_
   replace h := lx h ▸ ho1
   exact ⟨_, h, ES [some 0]⟩
 ·
  refine Tr<|Rm Y<|Ra Y<|Za<|?_
  obtain rfl := rt h
  exact Zp (Z5 Y (.one<|.tmp Y<|View.ownM Y Y D3))
theorem Zbc {b : ring_bank} {k : Int} {r : Bool} (h : QI b k = some r) :
 CSpec Tryd.prog gl0 59 [.rp [.sl 60 (List.map R60 b.memories), .sl 83 (List.map R83 b.spots)] 0, .int .i64 k] (.bool r) := by
 unfold QI at h
 replace h := QO h
 refine So Tryd.func59 Y fun w0 A=>Tr<|Ra Y<|Za<|Zg<|QL (cw := md0) (by kernel_rfl)<|D1 0 Zc Y<|D1 1 ZN Y<|Dq 2 Y (Qj (ov Y) Zf8)<|Dq 3 Y (Zi (ov Y) Zlf Y)<|D1 4 Zc Y<|bE h fun x h_x h=>Dq 5 Y (Qz (ov Y) (ov Y) ZkU h_x)<|Dq 6 Y (Qj (ov Y) Zf9)<|Dq 7 Y (Zi (ov Y) tS3 Y)<|D2 8 ZT Y<|D1 9 Zc Y<|Dq 10 Y (.guarded ((decide (x.sector < 0)) == false) Y Y Y Y fun h => Zc<|ov Y)<|Dq 11 Y (.guarded ((decide (x.sector < 0)) == false) Y Y Y Y fun h => ZN<|ow Y h)<|Dq 12 Y (.guarded ((decide (x.sector < 0)) == false) Y Y Y Y fun h => Qj (ow Y h) Zf8)<|Dq 13 Y (.guarded ((decide (x.sector < 0)) == false) Y Y Y Y fun h => Zi (ow Y h) Zlf Y)<|Dq 14 Y (.guarded ((decide (x.sector < 0)) == false) Y Y Y Y fun h => Zc<|ov Y)<|bE h fun x2 h_x2 h=>Dq 15 Y (.guarded ((decide (x.sector < 0)) == false) Y Y Y Y fun h => Qz (ow Y h) (ow Y h) ZkU<|gdT h_x2 h)<|Dq 16 Y (.guarded ((decide (x.sector < 0)) == false) Y Y Y Y fun h => Qj (ow Y h) ZjC)<|Dq 17 Y (.guarded ((decide (x.sector < 0)) == false) Y Y Y Y fun h => Zi (ow Y h) tS3 Y)<|Dq 18 Y (.guarded ((decide (x.sector < 0)) == false) Y Y Y Y fun h => Zc<|ov Y)<|Dq 19 Y (.guarded ((decide (x.sector < 0)) == false) Y Y Y Y fun h => ZN<|ow Y h)<|Dq 20 Y (.guarded ((decide (x.sector < 0)) == false) Y Y Y Y fun h => Qj (ow Y h) Zeu)<|Dq 21 Y (.guarded ((decide (x.sector < 0)) == false) Y Y Y Y fun h => Zi (ow Y h) Zj7 Y)<|Dq 22 Y (.guarded ((decide (x.sector < 0)) == false) Y Y Y Y fun h => Zc<|ov Y)<|bE h fun x3 h_x3 h=>Dq 23 Y (.guarded ((decide (x.sector < 0)) == false) Y Y Y Y fun h => Qz (ow Y h) (ow Y h) ZdK<|gdT h_x3 h)<|Dq 24 Y (.guarded ((decide (x.sector < 0)) == false) Y Y Y Y fun h => Qj (ow Y h) ZjA)<|Dq 25 Y (.guarded ((decide (x.sector < 0)) == false) Y Y Y Y fun h => Zi (ow Y h) tS3 Y)<|Dq 26 Y (.guarded ((decide (x.sector < 0)) == false) Y Y Y Y fun h => Zdf (ow Y h)<|ow Y h)<|Dq 27 Y (Zgu (ov Y) fun hp=>ow Y<|gF hp)<|D1 28 QN Y<|Dd<|?_
 obtain rfl := rt h
 exact Zp (Z5 Y (.one<|rb Y))
theorem Zb0 {b : ring_bank} {k : Int} {r : Int} (h : Q6 b k = some r) :
 CSpec Tryd.prog gl0 60 [.rp [.sl 60 (List.map R60 b.memories), .sl 83 (List.map R83 b.spots)] 0, .int .i64 k] (.int .i64 r) := by
 unfold Q6 at h
 replace h := QO h
 refine So Tryd.func60 Y fun w0 A=>Tr<|Ra Y<|Za<|K2 0 1 Y<|Tr<|Rm Y<|R1 ZN Y<|Rq Y (Qj (ov Y) Zeu)<|Rq Y (Zi (ov Y) Zj7 Y)<|Rm Y<|bE h fun x h_x h=>Rq Y (Qz (ov Y) (ov Y) ZdK h_x)<|Rq Y (QP (ov Y) Zax Y Y)<|Rx Y (Qd (row := [_, _, _, _, _]) 0 Y Zex Y tZ_60)<|Rx Y (Zk (ov Y) (ov Y) (ZB Zax Y) Y Y Y (Nat.le_of_ble_eq_true Y) (Zb Y) Y)<|Za<|K3 0 1 5 Y<|Tr<|Rq Y (Zd (ov Y) Y Y ZQ)<|Rq Y (Zv (ov Y) Y Y Y QH Y)<|Rl tZ_29 Qo Y<|Ra Y<|Za<|J0 (fun j => (.inr j)) ⟨[], []⟩ h (fun h=>?_) fun h=>?_
 ·
  refine K4 0 1 5 6 Y<|Tr<|Rm Y<|Rm Y<|Za<|Zf<|?_
  obtain ⟨r1, hl1, ho1⟩ := Xm h
  refine L1 (fun i=>⟨[(0, .rp [.sl 60 (List.map R60 b.memories), .sl 83 (List.map R83 b.spots)] 0), (1, .int .i64 k), (5, .ptr 0 1 0 0), (6, .int .i64 (x.Sectors.length : Int)), (19, .int .i64 (x.Sectors.length : Int)), (20, .int .i64 i)], [some ⟨60, [[.int .i64 x.Slots, .int .i64 x.Limit, .sl 29 (List.map R29 x.Sectors), .sl 3 (List.map R3 x.Wear), .sl 4 (List.map R4 x.Bad)]]⟩]⟩) hl1 (ES [some 0]) fun n1 i h=>?_
  unfold Xn at h
  refine Tr<|R2 ZT Y<|Za<|Zg<|If h Y (fun h=>?_) fun h=>?_
  ·
   refine Zh<|Zg<|Zf<|K6 0 1 5 6 19 20 Y<|Tr<|Rm Y<|Ra Y<|Za<|K7 0 1 5 6 7 19 20 Y<|Tr<|Rm Y<|R1 ZN Y<|Rq Y (Qj (ov Y) Zf8)<|Rq Y (Zi (ov Y) Zlf Y)<|Rm Y<|bE h fun x2 h_x2 h=>Rq Y (Qz (ov Y) (ov Y) ZkU h_x2)<|Rq Y (Qj (ov Y) Zf9)<|Rq Y (Zi (ov Y) tS3 Y)<|R2 ZU Y<|Rm Y<|R2 ZU Y<|Rm Y<|bE h fun q h_q h=>Rq Y (Zbh (ov Y) (ov Y) h_q)<|Ra Y<|Za<|Zg<|K7 0 1 5 6 8 19 20 Y<|QL (cw := md0) (by kernel_rfl)<|Dq 0 Y (Zd (ov Y) Y Y Zim)<|Dq 1 Y (Zv (ov Y) Y Y Y Zl3 Y)<|D1 2 Zc Y<|bE h fun x3 h_x3 h=>Dq 3 Y (Qz (ov Y) (ov Y) Zj0 h_x3)<|Dq 4 Y (Zi (ov Y) tS4 Y)<|D1 5 J9 Y<|D1 6 Zc Y<|Dq 7 Y (.guarded ((!x3) == true) Y Y Y Y fun h => Zd (ov Y) Y Y ZgQ)<|Dq 8 Y (.guarded ((!x3) == true) Y Y Y Y fun h => Zv (ow Y h) Y Y Y ZlS Y)<|Dq 9 Y (.guarded ((!x3) == true) Y Y Y Y fun h => Zc<|ov Y)<|bE h fun x4 h_x4 h=>Dq 10 Y (.guarded ((!x3) == true) Y Y Y Y fun h => Qz (ow Y h) (ow Y h) Xg<|gdT h_x4 h)<|Dq 11 Y (.guarded ((!x3) == true) Y Y Y Y fun h => Zi (ow Y h) tS3 Y)<|Dq 12 Y (.guarded ((!x3) == true) Y Y Y Y fun h => Zd (ov Y) Y Y Zl7)<|Dq 13 Y (.guarded ((!x3) == true) Y Y Y Y fun h => Zv (ow Y h) Y Y Y tS3 Y)<|Dq 14 Y (.guarded ((!x3) == true) Y Y Y Y fun h => ZT (ow Y h)<|ow Y h)<|Dq 15 Y (Zdj (ov Y) fun hp=>ow Y<|gT hp)<|Dd<|K8 0 1 5 6 8 19 20 51 Y<|If h Y (fun h=>?_) fun h=>?_
   ·
    refine K1 8 Y<|Tr<|Rm Y<|Ra Y<|Za<|?_
    replace h := lx h ▸ ho1
    obtain rfl := rt h
    exact Zp (Z5 Y (.one<|rb Y))
   ·
    exact Zh<|K6 0 1 5 6 19 20 Y<|Zs<|R2 ZU Y<|Rm Y<|Za<|⟨_, h, ES [some 0]⟩
  ·
   refine ZM<|?_
   replace h := lx h ▸ ho1
   exact ⟨(), h, ES []⟩
 ·
  replace h := elr h
  replace h := t0i h
  refine Tr<|Ra Y<|Za<|?_
  obtain rfl := rt h
  exact Zp (Z5 Y (.one<|rb Y))
theorem Zcu {b : ring_bank} {k : Int} {sector : Int} {r : Int} (h : QC b k sector = some r) :
 CSpec Tryd.prog gl0 61 [.rp [.sl 60 (List.map R60 b.memories), .sl 83 (List.map R83 b.spots)] 0, .int .i64 k, .int .i64 sector] (.int .i64 r) := by
 unfold QC at h
 replace h := QO h
 refine So Tryd.func61 Y fun w0 A=>Tr<|Ra Y<|Za<|K3 0 1 2 Y<|Tr<|Ra Y<|Za<|I1 (fun most=>⟨[(7, .int .i64 most)], []⟩) h (fun h=>?_) fun most h=>?_
 ·
  refine Tr<|Rm Y<|R1 ZN Y<|Rq Y (Qj (ov Y) Zeu)<|Rq Y (Zi (ov Y) Zj7 Y)<|Rm Y<|bE h fun x h_x h=>Rq Y (Qz (ov Y) (ov Y) ZdK h_x)<|Rq Y (Qj (ov Y) ZQ)<|Rq Y (Zi (ov Y) QH Y)<|Rl tZ_29 Qo Y<|Rm Y<|Za<|Zf<|?_
  obtain ⟨r1, hl1, ho1⟩ := Xm h
  refine L2 (fun most2 i=>⟨[(2, .int .i64 sector), (7, .int .i64 most2), (20, .sl 29 (List.map R29 x.Sectors)), (21, .int .i64 (x.Sectors.length : Int)), (22, .int .i64 i)], []⟩) hl1 (ES []) fun n1 most2 i h=>?_
  unfold QM at h
  refine Tr<|R2 ZT Y<|Za<|Zg<|If h Y (fun h=>?_) fun h=>?_
  ·
   refine Zh<|Zg<|Zf<|K5 2 7 20 21 22 Y<|Tr<|Rm Y<|bE h fun x2 h_x2 h=>Rq Y (Qz (ov Y) (ov Y) Qo h_x2)<|Rq Y (Zi (ov Y) Zh7 Y)<|Ra Y<|Ra Y<|Za<|K7 2 7 8 9 20 21 22 Y<|Tr<|Rm Y<|bE h fun y h_y h=>Rq Y (Zt (Zcl h_y)<|.cons (ov Y) (.b Y) .nil)<|Rm Y<|Rq Y (Zm (ov Y) Y)<|Rq Y (Zm (ov Y) Y)<|Rq Y (Zm (ov Y) Y)<|Ra Y<|Ra Y<|Ra Y<|Za<|K8 2 7 8 10 12 20 21 22 Y<|Tr<|Rm Y<|Rm Y<|Rq Y (.guarded (y.2.2 == true) Y Y Y Y fun h => Zc<|ov Y)<|Rq Y (.guarded (y.2.2 == true) Y Y Y Y fun h => Zc<|ov Y)<|Rq Y (.guarded (y.2.2 == true) Y Y Y Y fun h => Jv (ow Y h)<|ow Y h)<|Rq Y (Zdj (ov Y) fun hp=>ow Y<|gT hp)<|Za<|K7 2 7 10 20 21 22 38 Y<|If h Y (fun h=>?_) fun h=>?_
   ·
    exact K6 2 7 10 20 21 22 Y<|Zs<|Rm Y<|Rm Y<|Rq Y (ZnA (ov Y) (ov Y) Y)<|Ra Y<|Za<|K5 2 7 20 21 22 Y<|Zs<|R2 ZU Y<|Rm Y<|Za<|⟨_, h, ES []⟩
   ·
    exact Zh<|K5 2 7 20 21 22 Y<|Zs<|R2 ZU Y<|Rm Y<|Za<|⟨_, h, ES []⟩
  ·
   refine ZM<|?_
   replace h := lx h ▸ ho1
   exact ⟨_, h, ES []⟩
 ·
  refine Tr<|Rm Y<|R2 ZU Y<|Ra Y<|Za<|?_
  obtain rfl := rt h
  exact Zp (Z5 Y (.one<|rb Y))
theorem Zg3 {b : ring_bank} {l : List Int} {r : Int} (h : XW b l = some r) :
 CSpec Tryd.prog gl0 36 [.rp [.sl 60 (List.map R60 b.memories), .sl 83 (List.map R83 b.spots)] 0, .sl 3 (List.map R3 l)] (.int .i64 r) := by
 unfold XW at h
 replace h := QO h
 refine So Tryd.func36 Y fun w0 A=>Tr<|Ra Y<|Za<|J0 (fun j => (.inr j)) ⟨[(0, .rp [.sl 60 (List.map R60 b.memories), .sl 83 (List.map R83 b.spots)] 0), (1, .sl 3 (List.map R3 l))], []⟩ h (fun h=>?_) fun h=>?_
 ·
  refine K2 0 1 Y<|Tr<|Rm Y<|Rl tZ_3 Xg Y<|Rm Y<|Za<|Zf<|?_
  obtain ⟨r1, hl1, ho1⟩ := Xm h
  refine L1 (fun i=>⟨[(0, .rp [.sl 60 (List.map R60 b.memories), .sl 83 (List.map R83 b.spots)] 0), (1, .sl 3 (List.map R3 l)), (9, .sl 3 (List.map R3 l)), (10, .int .i64 (l.length : Int)), (11, .int .i64 i)], []⟩) hl1 (ES []) fun n1 i h=>?_
  unfold Q8 at h
  refine Tr<|R2 ZT Y<|Za<|Zg<|If h Y (fun h=>?_) fun h=>?_
  ·
   refine Zh<|Zg<|Zf<|K5 0 1 9 10 11 Y<|Tr<|bE h fun x h_x h=>Rq Y (Qz (ov Y) (ov Y) Xg h_x)<|Rq Y (Zi (ov Y) tS3 Y)<|Ra Y<|Za<|K6 0 1 6 9 10 11 Y<|Tr<|Rm Y<|Rm Y<|bE h fun y h_y h=>Rq Y (Zt (Zbc h_y)<|.cons (ov Y) (.b Y)<|.cons (ov Y) (.b Y) .nil)<|Rm Y<|Rq Y (.guarded (y == true) Y Y Y Y fun h => Zc<|ov Y)<|Rq Y (.guarded (y == true) Y Y Y Y fun h => Zc<|ov Y)<|bE h fun y2 h_y2 h=>Rq Y (.guarded (y == true) Y Y Y Y fun h => Zt (Zb0<|gdT h_y2 h)<|.cons (ow Y h) (.b Y)<|.cons (ow Y h) (.b Y) .nil)<|Rq Y (.guarded (y == true) Y Y Y Y fun h => ZT (ow Y h)<|ov Y)<|Rq Y (Zdj (ov Y) fun hp=>ow Y<|gT hp)<|Za<|K6 0 1 9 10 11 23 Y<|If h Y (fun h=>?_) fun h=>?_
   ·
    refine K0<|Tr<|Ra Y<|Za<|?_
    replace h := lx h ▸ ho1
    obtain rfl := rt h
    exact Zp (Z5 Y (.one<|rb Y))
   ·
    exact Zh<|K5 0 1 9 10 11 Y<|Zs<|R2 ZU Y<|Rm Y<|Za<|⟨_, h, ES []⟩
  ·
   refine ZM<|?_
   replace h := lx h ▸ ho1
   exact ⟨(), h, ES []⟩
 ·
  replace h := elr h
  replace h := t0i h
  refine J0 (fun j => (.inr j)) ⟨[], []⟩ h (fun h=>?_) fun h=>?_
  ·
   refine Tr<|Rm Y<|Rl tZ_3 Xg Y<|Rm Y<|Za<|Zf<|?_
   obtain ⟨r2, hl2, ho2⟩ := Xm h
   refine L1 (fun i2=>⟨[(0, .rp [.sl 60 (List.map R60 b.memories), .sl 83 (List.map R83 b.spots)] 0), (25, .sl 3 (List.map R3 l)), (26, .int .i64 (l.length : Int)), (27, .int .i64 i2)], []⟩) hl2 (ES []) fun n2 i2 h=>?_
   unfold Q9 at h
   refine Tr<|R2 ZT Y<|Za<|Zg<|If h Y (fun h=>?_) fun h=>?_
   ·
    refine Zh<|Zg<|Zf<|K4 0 25 26 27 Y<|Tr<|bE h fun x2 h_x2 h=>Rq Y (Qz (ov Y) (ov Y) Xg h_x2)<|Rq Y (Zi (ov Y) tS3 Y)<|Ra Y<|Za<|K5 0 8 25 26 27 Y<|Tr<|Rm Y<|Rm Y<|bE h fun y3 h_y3 h=>Rq Y (Zt (Zbc h_y3)<|.cons (ov Y) (.b Y)<|.cons (ov Y) (.b Y) .nil)<|Rm Y<|Rq Y (.guarded (y3 == true) Y Y Y Y fun h => Zc<|ov Y)<|Rq Y (.guarded (y3 == true) Y Y Y Y fun h => Zc<|ov Y)<|Rq Y (.guarded (y3 == true) Y Y Y Y fun h => Zc<|ov Y)<|Rq Y (.guarded (y3 == true) Y Y Y Y fun h => Zc<|ov Y)<|bE h fun y4 h_y4 h=>Rq Y (.guarded (y3 == true) Y Y Y Y fun h => Zt (Zb0<|gdT h_y4 h)<|.cons (ow Y h) (.b Y)<|.cons (ow Y h) (.b Y) .nil)<|bE h fun y5 h_y5 h=>Rq Y (.guarded (y3 == true) Y Y Y Y fun h => Zt (Zcu<|gdT h_y5 h)<|.cons (ow Y h) (.b Y)<|.cons (ow Y h) (.b Y)<|.cons (ow Y h) (.b Y) .nil)<|Rq Y (.guarded (y3 == true) Y Y Y Y fun h => Zde (ow Y h)<|ov Y)<|Rq Y (Zdj (ov Y) fun hp=>ow Y<|gT hp)<|Za<|K5 0 25 26 27 42 Y<|If h Y (fun h=>?_) fun h=>?_
    ·
     refine K0<|Tr<|Ra Y<|Za<|?_
     replace h := lx h ▸ ho2
     obtain rfl := rt h
     exact Zp (Z5 Y (.one<|rb Y))
    ·
     exact Zh<|K4 0 25 26 27 Y<|Zs<|R2 ZU Y<|Rm Y<|Za<|⟨_, h, ES []⟩
   ·
    refine ZM<|?_
    replace h := lx h ▸ ho2
    exact ⟨(), h, ES []⟩
  ·
   replace h := elr h
   replace h := t0i h
   refine Tr<|Ra Y<|Za<|?_
   obtain rfl := rt h
   exact Zp (Z5 Y (.one<|rb Y))
theorem ZjV {f : Vector Int 64} {r : Bool} (h : ZbA f = some r) :
 CSpec Tryd.prog gl0 62 [.rp (List.map C42 f.toList) 0] (.bool r) := by
 unfold ZbA at h
 replace h := QO h
 refine So Tryd.func62 Y fun w0 A=>Tr<|Ra Y<|Za<|J0 (fun j => (.inr j)) ⟨[], []⟩ h (fun h=>?_) fun h=>?_
 ·
  refine K1 0 Y<|Tr<|Rm Y<|Za<|Zf<|?_
  obtain ⟨r1, hl1, ho1⟩ := Xm h
  refine L1 (fun i=>⟨[(0, .rp (List.map C42 f.toList) 0), (4, .int .i64 i)], []⟩) hl1 (ES []) fun n1 i h=>?_
  unfold JN at h
  refine Tr<|R2 ZT Y<|Za<|Zg<|If h Y (fun h=>?_) fun h=>?_
  ·
   refine Zh<|Zg<|Zf<|K2 0 4 Y<|Tr<|Rm Y<|Ra Y<|Za<|K3 0 3 4 Y<|Tr<|Rm Y<|Rm Y<|R1 ZN Y<|bE h fun x h_x h=>Rq Y (Xu (ov Y) (ov Y) Zba h_x)<|Rq Y (Zi (ov Y) Zb2<|QF<|Jr (o := 0) (o' := (i.toNat * 1)) (Zu arL)<|Jk h_x)<|R2 Zde Y<|Za<|K3 0 4 12 Y<|If h Y (fun h=>?_) fun h=>?_
   ·
    refine K0<|Tr<|Ra Y<|Za<|?_
    replace h := lx h ▸ ho1
    obtain rfl := rt h
    exact Zp (Z5 Y (.one<|rb Y))
   ·
    exact Zh<|K2 0 4 Y<|Zs<|R2 ZU Y<|Rm Y<|Za<|⟨_, h, ES []⟩
  ·
   refine ZM<|?_
   replace h := lx h ▸ ho1
   exact ⟨(), h, ES []⟩
 ·
  replace h := elr h
  replace h := t0i h
  refine Tr<|Ra Y<|Za<|?_
  obtain rfl := rt h
  exact Zp (Z5 Y (.one<|rb Y))
theorem Zf7 {p : Vector Int 96} {i : Int} {w : Int} {r : (Vector Int 96)} (h : X8 p i w = some r) :
 GSpec Tryd.prog gl0 79 [.ptr 0 1 0 0, .int .i64 i, .int .u16 w] [some ⟨109, [(List.map C5 p.toList)]⟩] (.tuple []) [some ⟨109, [(List.map C5 r.toList)]⟩] := by
 unfold X8 at h
 replace h := QO h
 refine Q0 (by kernel_rfl) Tryd.func79 Y Y<|?_
 intro w0 A W φ0
 refine Tr<|Rm Y<|bE h fun q h_q h=>Rq Y (ZgX (ov Y) (ov Y) h_q)<|R2 ZgY Y<|Ra Y<|Za<|Zg<|K4 0 1 2 6 Y<|Tr<|Rm Y<|bE h fun q2 h_q2 h=>Rq Y (Zbh (ov Y) (ov Y) h_q2)<|R2 Zdf Y<|Za<|K4 0 2 6 12 Y<|If h Y (fun h=>?_) fun h=>?_
 ·
  refine Zg<|K3 0 2 6 Y<|QL (cw := ⟨false, false, [], [20, 24], []⟩) (by kernel_rfl)<|D1 0 Zc Y<|D1 1 Zc Y<|D1 5 Zc Y<|bE h fun q3 h_q3 h=>Dq 6 Y (Zbf (ov Y) (ov Y) h_q3)<|Dq 7 Y (Qx (ov Y) Zeb tI5 Y)<|D1 12 Zc Y<|D1 13 Zc Y<|D2 14 ZU Y<|Dq 15 Y (Zy (ov Y) Y Y)<|bE h fun x h_x h=>Dq 16 Y (ZaE (ov Y) (ov Y) Zeo Y Y h_x)<|Dq 17 Y (Zv (ov Y) Y Y Y tS5<|QF<|Jr (o := 0) (o' := ((i64 ((i64 (q * 3)) + 1)).toNat * 1)) (Zu arL)<|Jk h_x)<|Dq 20 Y (Zy (ov Y) Y Y)<|bE h fun x2 h_x2 h=>Dq 21 Y (ZaE (ov Y) (ov Y) Zeo Y Y h_x2)<|ZZ 2 _ Y (by kernel_rfl) Y Y (fun hp'=>Zc<|ov Y)<|ZZ 3 _ Y (by kernel_rfl) Y Y (fun hp'=>Zc<|ov Y)<|ZZ 4 _ Y (by kernel_rfl) Y Y (fun hp'=>Zkl (ov Y) (ov Y) Y)<|ZZ 8 _ Y (by kernel_rfl) Y Y (fun hp'=>Zc<|ov Y)<|ZZ 9 _ Y (by kernel_rfl) Y Y (fun hp'=>ZbE (ov Y)<|ov Y)<|bE h fun q4 h_q4 h=>ZZ 10 _ Y (by kernel_rfl) Y Y (fun hp'=>ZeW (ov Y) (ov Y) h_q4)<|ZZ 11 _ Y (by kernel_rfl) Y Y (fun hp'=>Qx (ov Y) Zeb tI5 Y)<|ZZ 18 _ Y (by kernel_rfl) Y Y (fun hp'=>ZbE (ov Y)<|ov Y)<|ZZ 19 _ Y (by kernel_rfl) Y Y (fun hp'=>ZgI (ov Y)<|ov Y)<|Dw 23 22 Y (Zy (ov Y) Y Y) (Zk (ov Y) (ov Y) (Ze tS5) Y Y Y (arB h_x2) (Zb Y)<|arS h_x2) ?_ ?_
  ·
   refine Do 22 Y (Zk (ov Y) (ov Y) (Ze tS5) Y Y Y (arB h_x2) (Zb Y)<|arS h_x2)<|bE h fun x3 h_x3 h=>Dq 24 Y (ZaE (ov Y) (ov Y) Zeo Y Y h_x3)<|Do 25 Y (Zk (ov Y) (ov Y) (Ze tS5) Y Y Y (arB h_x3) (Zb Y)<|arS h_x3)<|Dd<|?_
   obtain rfl := rt h
   exact Zp<|Za0 [some 0] Y .nil (.cons Y (ro1 (by exact Eq.trans (b := 96) arL tZ_109.symm)<|rld<|arD fun _ => Y) .nil) Y Y<|Xe rln
  ·
   refine Dq 23 Y (Zy (ov Y) Y Y)<|bE h fun x3 h_x3 h=>Dq 24 Y (ZaE (ov Y) (ov Y) Zeo Y Y h_x3)<|Do 25 Y (Zk (ov Y) (ov Y) (Ze tS5) Y Y Y (arB h_x3) (Zb Y)<|arS h_x3)<|Dd<|?_
   obtain rfl := rt h
   exact Zp<|Za0 [some 0] Y .nil (.cons Y (ro1 (by exact Eq.trans (b := 96) arL tZ_109.symm)<|rld<|arD fun _ => Y) .nil) Y Y<|Xe rln
 ·
  refine Zh<|K3 0 2 6 Y<|QL (cw := ⟨false, false, [], [52, 55], []⟩) (by kernel_rfl)<|D1 0 Zc Y<|D1 1 Zc Y<|D2 2 ZU Y<|D1 6 Zc Y<|D1 7 Zc Y<|D2 8 ZU Y<|Dq 9 Y (Zy (ov Y) Y Y)<|bE h fun x4 h_x4 h=>Dq 10 Y (ZaE (ov Y) (ov Y) Zeo Y Y h_x4)<|Dq 11 Y (Zv (ov Y) Y Y Y tS5<|QF<|Jr (o := 0) (o' := ((i64 ((i64 (q * 3)) + 1)).toNat * 1)) (Zu arL)<|Jk h_x4)<|D2 12 ZbE Y<|D1 13 Zc Y<|bE h fun q5 h_q5 h=>Dq 14 Y (Zbf (ov Y) (ov Y) h_q5)<|Dq 15 Y (Qx (ov Y) Zeb tI5 Y)<|D2 16 ZgI Y<|Dq 19 Y (Zy (ov Y) Y Y)<|bE h fun x5 h_x5 h=>Dq 20 Y (ZaE (ov Y) (ov Y) Zeo Y Y h_x5)<|ZZ 3 _ Y (by kernel_rfl) Y Y (fun hp'=>Zc<|ov Y)<|ZZ 4 _ Y (by kernel_rfl) Y Y (fun hp'=>Zc<|ov Y)<|ZZ 5 _ Y (by kernel_rfl) Y Y (fun hp'=>Zkl (ov Y) (ov Y) Y)<|ZZ 17 _ Y (by kernel_rfl) Y Y (fun hp'=>Zc<|ov Y)<|ZZ 18 _ Y (by kernel_rfl) Y Y (fun hp'=>Qx (ov Y) Zeb tI5 Y)<|Dw 22 21 Y (Zy (ov Y) Y Y) (Zk (ov Y) (ov Y) (Ze tS5) Y Y Y (arB h_x5) (Zb Y)<|arS h_x5) ?_ ?_
  ·
   refine Do 21 Y (Zk (ov Y) (ov Y) (Ze tS5) Y Y Y (arB h_x5) (Zb Y)<|arS h_x5)<|bE h fun x6 h_x6 h=>Dq 23 Y (ZaE (ov Y) (ov Y) Zeo Y Y h_x6)<|Do 24 Y (Zk (ov Y) (ov Y) (Ze tS5) Y Y Y (arB h_x6) (Zb Y)<|arS h_x6)<|Dd<|?_
   obtain rfl := rt h
   exact ZgG [some 0] Y .nil (.cons Y (ro1 (by exact Eq.trans (b := 96) arL tZ_109.symm)<|rld<|arD fun _ => Y) .nil) Y Y<|Xe rln
  ·
   refine Dq 22 Y (Zy (ov Y) Y Y)<|bE h fun x6 h_x6 h=>Dq 23 Y (ZaE (ov Y) (ov Y) Zeo Y Y h_x6)<|Do 24 Y (Zk (ov Y) (ov Y) (Ze tS5) Y Y Y (arB h_x6) (Zb Y)<|arS h_x6)<|Dd<|?_
   obtain rfl := rt h
   exact ZgG [some 0] Y .nil (.cons Y (ro1 (by exact Eq.trans (b := 96) arL tZ_109.symm)<|rld<|arD fun _ => Y) .nil) Y Y<|Xe rln
theorem ZiU {p : Vector Int 96} {f : Vector Int 64} {r : (Vector Int 96)} (h : Zcy p f = some r) :
 GSpec Tryd.prog gl0 63 [.ptr 0 1 0 0, .rp (List.map C42 f.toList) 0] [some ⟨109, [(List.map C5 p.toList)]⟩] (.tuple []) [some ⟨109, [(List.map C5 r.toList)]⟩] := by
 unfold Zcy at h
 replace h := QO h
 refine Q0 (by kernel_rfl) Tryd.func63 Y Y<|?_
 intro w0 A W φ0
 refine Tr<|Rm Y<|Za<|Zf<|?_
 obtain ⟨r1, hl1, ho1⟩ := Xm h
 refine L2 (fun o i=>⟨[(0, .ptr 0 1 0 0), (1, .rp (List.map C42 f.toList) 0), (5, .int .i64 i)], [some ⟨109, [(List.map C5 o.toList)]⟩]⟩) hl1 (ES [some 0]) fun n1 o i h=>?_
 unfold JV at h
 refine Tr<|R2 ZT Y<|Za<|Zg<|If h Y (fun h=>?_) fun h=>?_
 ·
  exact Zh<|Zg<|Zf<|K3 0 1 5 Y<|Tr<|Rm Y<|Ra Y<|Za<|K4 0 1 4 5 Y<|Zs<|Rm Y<|Rm Y<|Rm Y<|Rm Y<|R1 ZN Y<|bE h fun x h_x h=>Rq Y (Xu (ov Y) (ov Y) Zba h_x)<|Rq Y (Zi (ov Y) Zb2<|QF<|Jr (o := 0) (o' := (i.toNat * 1)) (Zu arL)<|Jk h_x)<|bE h fun y h_y h=>Rx Y (ZE [0] (Zf7 h_y) (.cons (ov Y) (.ptr _ _ _ Y)<|.cons (ov Y) (.dat Y)<|.cons (ov Y) (.dat Y) .nil) (.cons Y (ro1 (by exact Eq.trans (b := 96) arL tZ_109.symm)<|rld<|arD fun _ => Y) .nil) Y (.lent 0 (.inl Y) Y (ro1 (by exact Eq.trans (b := 96) arL tZ_109.symm)<|rld<|arD fun _ => Y) .nil) Y Y<|Xe<|rld Y)<|Za<|K3 0 1 5 Y<|Zs<|R2 ZU Y<|Rm Y<|Za<|⟨_, h, ES [some 0]⟩
 ·
  refine ZM<|?_
  replace h := lx h ▸ ho1
  obtain rfl := rt h
  exact ZgG [some 0] Y .nil (.cons Y (ro1 (by exact Eq.trans (b := 96) arL tZ_109.symm)<|rld<|arD fun _ => Y) .nil) Y Y<|Xe rln
theorem Zh8 {f : Vector Int 64} {r : (List Int) × Int} (h : JW f = some r) :
 CSpec Tryd.prog gl0 37 [.agg (List.map C42 f.toList)] (.tuple [.sl 5 (List.map R5 r.1), .int .i64 r.2]) := by
 unfold JW at h
 replace h := QO h
 refine So Tryd.func37 Y fun w0 A=>Tr<|Rq Y (Zdx (cva<|ov Y) arL tZ_44<|arD fun _ => Y)<|Ra Y<|Ra Y<|Za<|Zg<|K1 1 Y<|Tr<|bE h fun y h_y h=>Rq Y (Zt (ZjV h_y)<|.cons (ov Y) (.b Y) .nil)<|Za<|If h Y (fun h=>?_) fun h=>?_
 ·
  refine K0<|Tr<|Ra Y<|Ra Y<|Za<|?_
  obtain rfl := rt h
  exact Zp (Z5 Y (.two (.tmp Y<|View.nils 5)<|rb Y))
 ·
  refine Zh<|K1 1 Y<|Tr<|Rx Y (Qd (row := (List.map C5 (Vector.replicate 96 0).toList)) 0 Y ZpS Y tZ_109)<|Za<|Tr<|bE h fun y2 h_y2 h=>Rx Y (ZE [0] (ZiU h_y2) (.cons (ov Y) (.ptr _ _ _ Y)<|.cons (ov Y) (.dat Y) .nil) (.cons Y (ro1 (by exact Eq.trans (b := 96) arL tZ_109.symm)<|rld<|arD fun _ => Y) .nil) Y (.lent 0 (.inl Y) Y (ro1 (by exact Eq.trans (b := 96) arL tZ_109.symm)<|rld<|arD fun _ => Y) .nil) Y Y<|Xe<|rld Y)<|Za<|K1 4 Y<|Tr<|bE h fun l h_l h=>Xz (Ent.sel [none] (sr 4 Y (.frp ⟨Y, ⟨_, Y⟩, Y, (arD fun _ => Y)⟩) sn) (.row 109 .nil) Y Y)<|Rq Y (Zmo (f := C5) (ov Y) Zeo tZ_5 (Zu arL) Y on on h_l)<|Ra Y<|Ra Y<|Za<|?_
  obtain rfl := rt h
  exact Zp (Z5 Y (.two (rb Y)<|rb Y))
theorem Zgt {s : List Int} {power : Int} {r : Int × Bool × (List Int)} (h : QW s power = some r) :
 GSpec Tryd.prog gl0 80 [.own 0 s.length, .int .i64 power] [some ⟨5, List.map R5 s⟩] (.tuple [.int .i64 r.1, .bool r.2.1]) [some ⟨5, List.map R5 r.2.2⟩] := by
 unfold QW at h
 replace h := QO h
 refine Q0 (by kernel_rfl) Tryd.func80 Y Y<|?_
 intro w0 A W φ0
 refine Tr<|Ra Y<|Ra Y<|Za<|K2 0 1 Y<|Tr<|Rm Y<|Ra Y<|Za<|Zg<|K3 0 1 6 Y<|Tr<|Rm Y<|R2 Zdf Y<|Za<|K4 0 1 6 10 Y<|If h Y (fun h=>?_) fun h=>?_
 ·
  refine K3 0 1 6 Y<|Zs<|Rm Y<|Rm Y<|Rq Y (Zfj (ov Y) Y Y Xf)<|bE h fun q h_q h=>Rq Y (ZgX (ov Y) (ov Y) h_q)<|bE h fun u h_u h=>Rq Y (ZpB (ov Y) Y Y Xf on (oi<|ov Y) h_u)<|Ra Y<|Za<|I1 (fun o=>⟨[(1, .int .i64 power)], [some ⟨5, List.map R5 o⟩]⟩) h (fun h=>?_) fun o h=>?_
  ·
   refine K2 1 6 Y<|Tr<|Rm Y<|Rq Y (ZnF (ov Y) Y (List.length_map ..) Xf)<|Rm Y<|Za<|Zf<|?_
   obtain ⟨r1, hl1, ho1⟩ := Xm h
   refine L2 (fun o2 i=>⟨[(1, .int .i64 power), (6, .osl 0 o2.length (Int.toNat 0) (Int.toNat (q - 0))), (17, .int .i64 ((Int.toNat (q - 0) : Nat) : Int)), (18, .int .i64 i)], [some ⟨5, List.map R5 o2⟩]⟩) hl1 (ES [some 0]<|sd 1 Y Y<|sr 6 Y (.osl _ _ _ Y)<|sd 17 Y Y<|sd 18 Y Y sn) fun n1 o2 i h=>?_
   unfold Qh at h
   refine Tr<|R2 ZT Y<|Za<|Zg<|If h Y (fun h=>?_) fun h=>?_
   ·
    exact Zh<|Zg<|Zf<|K4 1 6 17 18 Y<|Tr<|Rm Y<|Ra Y<|Za<|K5 1 6 7 17 18 Y<|Zs<|Rm Y<|Rm Y<|bE h fun u2 h_u2 h=>bE h fun x2 h_x2 h=>Rq Y (Zow (ov Y) (ov Y) Xf Y Y (Zht h_u).1 h_u2 h_x2)<|Rx Y (Jm (u' := 255) (ov Y) (ov Y) (Ze tS5) Y Y h_x2 Y (Zb Y) Y)<|Za<|K4 1 6 17 18 Y<|Zs<|R2 ZU Y<|Rm Y<|Za<|⟨_, h, ES [some 0]<|sd 1 Y Y<|sr 6 Y (ZrR (Eq.symm<|(List.length_set ..).trans Y) Y)<|sd 17 Y Y<|sd 18 Y Y sn⟩
   ·
    refine ZM<|?_
    replace h := lx h ▸ ho1
    exact ⟨_, h, ES [some 0]⟩
  ·
   refine Tr<|Rm Y<|R2 Zcq Y<|Rq Y (ZnA (ov Y) (ov Y) Y)<|Rm Y<|R2 Zde Y<|Ra Y<|Ra Y<|Za<|?_
   obtain rfl := rt h
   exact Zp<|Za0 [some 0] Y (.cons (.tmp Y)<|.cons (.tmp Y) .nil) (.cons Y (roM D5) .nil) Y Y<|Xe<|rlc (.dat Y)<|rlc (.dat Y) rln
 ·
  refine Zh<|I1 (fun o3=>⟨[(1, .int .i64 power)], [some ⟨5, List.map R5 o3⟩]⟩) h (fun h=>?_) fun o3 h=>?_
  ·
   refine K2 1 6 Y<|Tr<|Rm Y<|Rq Y (Zfj (ov Y) Y Y Xf)<|Rm Y<|Za<|Zf<|?_
   obtain ⟨r2, hl2, ho2⟩ := Xm h
   refine L2 (fun o4 i2=>⟨[(1, .int .i64 power), (6, .own 0 o4.length), (17, .int .i64 (s.length : Int)), (18, .int .i64 i2)], [some ⟨5, List.map R5 o4⟩]⟩) hl2 (ES [some 0]) fun n2 o4 i2 h=>?_
   unfold Qi at h
   refine Tr<|R2 ZT Y<|Za<|Zg<|If h Y (fun h=>?_) fun h=>?_
   ·
    exact Zh<|Zg<|Zf<|K4 1 6 17 18 Y<|Tr<|Rm Y<|Ra Y<|Za<|K5 1 6 7 17 18 Y<|Zs<|Rm Y<|Rm Y<|bE h fun x3 h_x3 h=>Rq Y (QA (ov Y) (ov Y) Xf Y Y h_x3)<|Rx Y (Jm (u' := 255) (ov Y) (ov Y) (Ze tS5) Y Y h_x3 Y (Zb Y) Y)<|Za<|K4 1 6 17 18 Y<|Zs<|R2 ZU Y<|Rm Y<|Za<|⟨_, h, ES [some 0]<|sd 1 Y Y<|sr 6 Y (Zds (Eq.symm<|(List.length_set ..).trans Y) Y)<|sd 17 Y Y<|sd 18 Y Y sn⟩
   ·
    refine ZM<|?_
    replace h := lx h ▸ ho2
    exact ⟨_, h, ES [some 0]⟩
  ·
   refine Tr<|Rm Y<|R2 Zcq Y<|Rq Y (ZnA (ov Y) (ov Y) Y)<|Rm Y<|R2 Zde Y<|Ra Y<|Ra Y<|Za<|?_
   obtain rfl := rt h
   exact Zp<|Za0 [some 0] Y (.cons (.tmp Y)<|.cons (.tmp Y) .nil) (.cons Y (roM D5) .nil) Y Y<|Xe<|rlc (.dat Y)<|rlc (.dat Y) rln
theorem ZcE {s : List Int} {at_ : Int} {data : List Int} {power : Int} {r : Int × Bool × (List Int)} (h : Qm s at_ data power = some r) :
 GSpec Tryd.prog gl0 24 [.own 0 s.length, .int .i64 at_, .sl 5 (List.map R5 data), .int .i64 power] [some ⟨5, List.map R5 s⟩] (.tuple [.int .i64 r.1, .bool r.2.1]) [some ⟨5, List.map R5 r.2.2⟩] := by
 unfold Qm at h
 replace h := QO h
 refine Q0 (by kernel_rfl) Tryd.func24 Y Y<|?_
 intro w0 A W φ0
 refine Tr<|Ra Y<|Ra Y<|Za<|J2 (fun j => (.inr j)) (fun o power2=>⟨[(3, .int .i64 power2)], [some ⟨5, List.map R5 o⟩]⟩) h (fun h=>?_) fun o power2 h=>?_
 ·
  refine K4 0 1 2 3 Y<|Tr<|Rm Y<|Rl tZ_5 Xf Y<|Rm Y<|Za<|Zf<|?_
  obtain ⟨r1, hl1, ho1⟩ := Xm h
  refine L3 (fun o2 power3 i=>⟨[(0, .own 0 o2.length), (1, .int .i64 at_), (3, .int .i64 power3), (12, .sl 5 (List.map R5 data)), (13, .int .i64 (data.length : Int)), (14, .int .i64 i)], [some ⟨5, List.map R5 o2⟩]⟩) hl1 (ES [some 0]) fun n1 o2 power3 i h=>?_
  unfold QJ at h
  refine Tr<|R2 ZT Y<|Za<|Zg<|If h Y (fun h=>?_) fun h=>?_
  ·
   refine Zh<|Zg<|Zf<|K6 0 1 3 12 13 14 Y<|Tr<|Rm Y<|bE h fun x h_x h=>Rq Y (Qz (ov Y) (ov Y) Xf h_x)<|Rq Y (Zi (ov Y) tS5 Y)<|Ra Y<|Ra Y<|Za<|Zg<|K8 0 1 3 10 11 12 13 14 Y<|Tr<|Rm Y<|R2 Zdf Y<|Za<|K9 0 1 3 10 11 12 13 14 20 Y<|If h Y (fun h=>?_) fun h=>?_
   ·
    refine K4 0 1 10 11 Y<|Tr<|Rm Y<|Rm Y<|Rm Y<|R2 ZU Y<|bE h fun x2 h_x2 h=>Rq Y (QA (ov Y) (ov Y) Xf Y Y h_x2)<|Rq Y (QE (ov Y) Y Y h_x2 tS5 Y)<|Rm Y<|R2 ZgI Y<|R2 ZbE Y<|bE h fun x3 h_x3 h=>Rq Y (QA (ov Y) (ov Y) Xf Y Y h_x3)<|Rx Y (Jm (u' := (Qn .u8 x2 (bor .u8 x 15))) (ov Y) (ov Y) (Ze tS5) Y Y h_x3 Y (Zb Y) Y)<|Za<|K0<|Tr<|Ra Y<|Ra Y<|Za<|?_
    replace h := lx h ▸ ho1
    obtain rfl := rt h
    exact Zp<|Za0 [some 0] Y (.cons (.tmp Y)<|.cons (.tmp Y) .nil) (.cons Y (roM D5) .nil) Y Y<|Xe<|rlc (.dat Y)<|rlc (.dat Y) rln
   ·
    exact Zh<|K8 0 1 3 10 11 12 13 14 Y<|Tr<|Rm Y<|Rm Y<|Rm Y<|R2 ZU Y<|bE h fun x4 h_x4 h=>Rq Y (QA (ov Y) (ov Y) Xf Y Y h_x4)<|Rq Y (QE (ov Y) Y Y h_x4 tS5 Y)<|Rm Y<|R2 ZbE Y<|bE h fun x5 h_x5 h=>Rq Y (QA (ov Y) (ov Y) Xf Y Y h_x5)<|Rx Y (Jm (u' := (Qn .u8 x4 x)) (ov Y) (ov Y) (Ze tS5) Y Y h_x5 Y (Zb Y) Y)<|Za<|K6 0 1 3 12 13 14 Y<|Zs<|Rm Y<|R2 Zcq Y<|Ra Y<|Za<|K6 0 1 3 12 13 14 Y<|Zs<|R2 ZU Y<|Rm Y<|Za<|⟨_, h, ES [some 0]<|sr 0 Y (Zds (Eq.symm<|(List.length_set ..).trans Y) Y)<|sd 1 Y Y<|sd 3 Y Y<|sd 12 Y Y<|sd 13 Y Y<|sd 14 Y Y sn⟩
  ·
   refine ZM<|?_
   replace h := lx h ▸ ho1
   exact ⟨_, h, ES [some 0]⟩
 ·
  replace h := elr h
  replace h := t2i h
  refine Tr<|Rm Y<|Ra Y<|Ra Y<|Za<|?_
  obtain rfl := rt h
  exact Zp<|Za0 [some 0] Y (.cons (.tmp Y)<|.cons (.tmp Y) .nil) (.cons Y (roM D5) .nil) Y Y<|Xe<|rlc (.dat Y)<|rlc (.dat Y) rln
theorem Zd8 {b : ring_Recorder} {k : Int} {power : Int} {r : Int × Bool × ring_Recorder} (h : Xi b k power = some r) :
 GSpec Tryd.prog gl0 64 [.ptr 0 1 0 0, .int .i64 k, .int .i64 power] [some ⟨80, [[.own 1 b.bank.memories.length, .own 2 b.bank.spots.length, .int .i64 b.copies, .bool b.frozen, .bool b.stopped, .int .i64 b.last, .bool b.some_]]⟩, some ⟨60, List.map O60 b.bank.memories⟩, some ⟨83, List.map R83 b.bank.spots⟩] (.tuple [.int .i64 r.1, .bool r.2.1]) [some ⟨80, [[.own 3 r.2.2.bank.memories.length, .own 4 r.2.2.bank.spots.length, .int .i64 r.2.2.copies, .bool r.2.2.frozen, .bool r.2.2.stopped, .int .i64 r.2.2.last, .bool r.2.2.some_]]⟩, none, none, some ⟨60, List.map O60 r.2.2.bank.memories⟩, some ⟨83, List.map R83 r.2.2.bank.spots⟩] := by
 unfold Xi at h
 replace h := QO h
 refine Q0 (by kernel_rfl) Tryd.func64 Y Y<|?_
 intro w0 A W φ0
 refine ZeT (Ent.sel [some 0, some 1, some 2, some 1, some 2] (sr 0 Y (.ptr (r' := 0) _ _ _ Y)<|sd 1 Y Y<|sd 2 Y Y sn) (.cons Y (ro1 (by exact tZ_80.symm)<|rlc (.own (r' := 3) _ Y)<|rlc (.own (r' := 4) _ Y)<|rlc (.dat Y)<|rlc (.dat Y)<|rlc (.dat Y)<|rlc (.dat Y)<|rlc (.dat Y) rln)<|.dead<|.dead<|.cons Y (roO Q5)<|.cons Y (roM D83) .nil) Y Y)<|QS [some ⟨80, [[.own 3 b.bank.memories.length, .own 4 b.bank.spots.length, .int .i64 b.copies, .bool b.frozen, .bool b.stopped, .int .i64 b.last, .bool b.some_]]⟩, none, none, some ⟨60, List.map O60 b.bank.memories⟩, some ⟨83, List.map R83 b.bank.spots⟩] Y<|Tr<|Ra Y<|Ra Y<|Za<|Zg<|K3 0 1 2 Y<|QL (cw := md0) (by kernel_rfl)<|D1 0 Zc Y<|Dq 1 Y (Zy (ov Y) Y Y)<|Dq 2 Y (Zd (ov Y) Y Y Zeu)<|Dq 3 Y (Zv (ov Y) Y Y Y Zj7 Y)<|D1 4 Zc Y<|bE h fun x h_x h=>Dq 5 Y (QA (ov Y) (ov Y) ZdK Y Y h_x)<|D1 6 Zc Y<|D1 7 Zc Y<|bE h fun y h_y h=>Dq 8 Y (Zc1 (Zb0 h_y) .int<|.cons (ov Y) (View.ptrS (j := 0) (k := 2) Y Y Y (Nat.le_of_ble_eq_true Y)<|.cons (View.ownO Y Y Q5 (fun x=>(D60 x).1) Zly)<|.cons (View.ownM Y Y D83) .nil)<|.cons (ov Y) (Dat.view<|.b Y) .nil)<|D1 9 QN Y<|D1 10 QN Y<|Dd<|K5 0 1 2 8 9 Y<|Tr<|Rm Y<|Rm Y<|Rm Y<|bE h fun y2 h_y2 h=>Rq Y (Zc1 (Zcu h_y2) .int<|.cons (ov Y) (View.ptrS (j := 0) (k := 2) Y Y Y (Nat.le_of_ble_eq_true Y)<|.cons (View.ownO Y Y Q5 (fun x=>(D60 x).1) Zly)<|.cons (View.ownM Y Y D83) .nil)<|.cons (ov Y) (Dat.view<|.b Y)<|.cons (ov Y) (Dat.view<|.b Y) .nil)<|Ra Y<|Za<|K6 0 1 2 8 9 10 Y<|Tr<|Rm Y<|Rq Y (Zy (ov Y) Y<|List.length_map ..)<|Rq Y (ZdO (ov Y) Y Y ZgQ)<|Xz (Ent.focusH (r := 3) (j := 3) (e' := 3) (g := R3) (ys := x.Wear) Y (ZA h_x).2 Y DR3)<|Rq Y (Zbi (ov Y) Y Y (ZA h_x).2 ZlS Y)<|Rm Y<|bE h fun x2 h_x2 h=>Rq Y (QA (ov Y) (ov Y) Xg Y Y h_x2)<|Rq Y (QE (ov Y) Y Y h_x2 tS3 Y)<|R2 ZU Y<|bE h fun x3 h_x3 h=>Rq Y (QA (ov Y) (ov Y) Xg Y Y h_x3)<|Rx Y (Jm (u' := (i64 (x2 + 1))) (ov Y) (ov Y) (Ze tS3) Y Y h_x3 Y (Zb Y) Y)<|ZfS [some ⟨80, [[.own 3 b.bank.memories.length, .own 4 b.bank.spots.length, .int .i64 b.copies, .bool b.frozen, .bool b.stopped, .int .i64 b.last, .bool b.some_]]⟩, none, none, some ⟨60, List.set (List.map O60 b.bank.memories) k.toNat [.int .i64 x.Slots, .int .i64 x.Limit, .osub 29 (List.map O29 x.Sectors), .own 5 x.Wear.length, .osub 4 (List.map R4 x.Bad)]⟩, some ⟨83, List.map R83 b.bank.spots⟩, some ⟨3, List.map R3 (x.Wear.set y.toNat (i64 (x2 + 1)))⟩] Y<|?_
 have h_x4 := XU (y := (api_Memory.mk x.Slots x.Limit x.Sectors (x.Wear.set y.toNat (i64 (x2 + 1))) x.Bad)) h_x
 have h_x5 := XU (y := (api_Memory.mk x.Slots x.Limit x.Sectors (x.Wear.set y.toNat (i64 (x2 + 1))) x.Bad)) h_x
 have h_x6 := XU (y := (api_Memory.mk x.Slots x.Limit x.Sectors (x.Wear.set y.toNat (i64 (x2 + 1))) x.Bad)) h_x
 have h_x7 := XU (y := (api_Memory.mk x.Slots x.Limit x.Sectors (x.Wear.set y.toNat (i64 (x2 + 1))) x.Bad)) h_x
 refine Xz (Ent.absorbH (r := 3) (j := 3) (q := 5) Y (ZA h_x).2 Y Y ((List.length_map ..).trans<|(List.length_set ..).trans Y) Y)<|Xz (Ent.closeH (r := 3) (y := (api_Memory.mk x.Slots x.Limit x.Sectors (x.Wear.set y.toNat (i64 (x2 + 1))) x.Bad)) Y Y)<|Za<|K6 0 1 2 8 9 10 Y<|QS [some ⟨80, [[.own 3 b.bank.memories.length, .own 4 b.bank.spots.length, .int .i64 b.copies, .bool b.frozen, .bool b.stopped, .int .i64 b.last, .bool b.some_]]⟩, none, none, some ⟨60, List.map O60 (b.bank.memories.set k.toNat (api_Memory.mk x.Slots x.Limit x.Sectors (x.Wear.set y.toNat (i64 (x2 + 1))) x.Bad))⟩, some ⟨83, List.map R83 b.bank.spots⟩, none] Y<|Tr<|Rm Y<|Rq Y (Zy (ov Y) Y<|(List.length_map ..).trans<|(List.length_set ..).trans Y)<|Rq Y (ZdO (ov Y) Y ((List.length_set ..).trans Y) ZQ)<|Xz (Ent.focusH (r := 3) (j := 2) (e' := 29) (g := O29) (ys := x.Sectors) Y (ZA h_x4).2 Y Jo)<|Rq Y (Zbi (ov Y) Y ((List.length_set ..).trans Y) (ZA h_x4).2 QH Y)<|Rm Y<|bE h fun x8 h_x8 h=>Rq Y (QA (ov Y) (ov Y) Qo Y Y h_x8)<|Xz (Ent.focusH (r := 6) (j := 0) (e' := 5) (g := R5) (ys := x8) Y (ZA h_x8).2 Y DR5)<|Rq Y (Zbi (ov Y) Y Y (ZA h_x8).2 Zh7 Y)<|Rm Y<|bE h fun y3 h_y3 h=>Rx Y (ZE [7] (Zgt h_y3) (.cons (ov Y) (.own _ Y)<|.cons (ov Y) (.dat Y) .nil) (.cons Y (roM D5) .nil) Y (.keep Y Y<|.none<|.none<|.keep Y Y<|.keep Y Y<|.none<|.keep Y Y<|.lent 0 (.inl Y) Y (roM D5) .nil) Y Y<|Xe<|rld Y)<|Rm Y<|Rq Y (Zm (ov Y) Y)<|Rq Y (Zm (ov Y) Y)<|Ra Y<|Ra Y<|ZfS [some ⟨80, [[.own 3 b.bank.memories.length, .own 4 b.bank.spots.length, .int .i64 b.copies, .bool b.frozen, .bool b.stopped, .int .i64 b.last, .bool b.some_]]⟩, none, none, some ⟨60, List.set (List.map O60 (b.bank.memories.set k.toNat (api_Memory.mk x.Slots x.Limit x.Sectors (x.Wear.set y.toNat (i64 (x2 + 1))) x.Bad))) k.toNat [.int .i64 x.Slots, .int .i64 x.Limit, .own 6 x.Sectors.length, .osub 3 (List.map R3 (x.Wear.set y.toNat (i64 (x2 + 1)))), .osub 4 (List.map R4 x.Bad)]⟩, some ⟨83, List.map R83 b.bank.spots⟩, none, some ⟨29, List.set (List.map O29 x.Sectors) y.toNat [.own 7 x8.length]⟩, some ⟨5, List.map R5 y3.2.2⟩] Y<|?_
 have h_x9 := XU (y := y3.2.2) h_x8
 have h_x10 := XU (y := (api_Memory.mk x.Slots x.Limit (x.Sectors.set y.toNat y3.2.2) (x.Wear.set y.toNat (i64 (x2 + 1))) x.Bad)) h_x4
 have h_x11 := XU (y := (api_Memory.mk x.Slots x.Limit (x.Sectors.set y.toNat y3.2.2) (x.Wear.set y.toNat (i64 (x2 + 1))) x.Bad)) h_x4
 have h_x12 := XU (y := (api_Memory.mk x.Slots x.Limit (x.Sectors.set y.toNat y3.2.2) (x.Wear.set y.toNat (i64 (x2 + 1))) x.Bad)) h_x4
 have h_x13 := XU (y := (api_Memory.mk x.Slots x.Limit (x.Sectors.set y.toNat y3.2.2) (x.Wear.set y.toNat (i64 (x2 + 1))) x.Bad)) h_x4
 refine Xz (Ent.absorbH (r := 6) (j := 0) (q := 7) Y (ZA h_x8).2 Y Y ((List.length_map ..).trans<|ZgF h_y3) Y)<|Xz (Ent.closeH (r := 6) (y := y3.2.2) Y Y)<|Xz (Ent.absorbH (r := 3) (j := 2) (q := 6) Y (ZA h_x4).2 Y Y ((List.length_map ..).trans<|(List.length_set ..).trans Y) Y)<|Xz (Ent.closeH (r := 3) (y := (api_Memory.mk x.Slots x.Limit (x.Sectors.set y.toNat y3.2.2) (x.Wear.set y.toNat (i64 (x2 + 1))) x.Bad)) Y Y)<|Za<|Zg<|K7 0 1 2 8 9 10 11 Y<|QS [some ⟨80, [[.own 3 b.bank.memories.length, .own 4 b.bank.spots.length, .int .i64 b.copies, .bool b.frozen, .bool b.stopped, .int .i64 b.last, .bool b.some_]]⟩, none, none, some ⟨60, List.map O60 ((b.bank.memories.set k.toNat (api_Memory.mk x.Slots x.Limit x.Sectors (x.Wear.set y.toNat (i64 (x2 + 1))) x.Bad)).set k.toNat (api_Memory.mk x.Slots x.Limit (x.Sectors.set y.toNat y3.2.2) (x.Wear.set y.toNat (i64 (x2 + 1))) x.Bad))⟩, some ⟨83, List.map R83 b.bank.spots⟩, none, none, none] Y<|Tr<|Rm Y<|R1 J9 Y<|Za<|K7 0 1 2 8 9 10 47 Y<|If h Y (fun h=>?_) fun h=>?_
 ·
  refine K1 2 Y<|Tr<|Rm Y<|Ra Y<|Ra Y<|Za<|?_
  obtain rfl := rt h
  exact Zp<|Za0 [some 0, some 1, some 2, some 3, some 4] Y (.cons (.tmp Y)<|.cons (.tmp Y) .nil) (.cons Y (ro1 (by exact tZ_80.symm)<|rlc (Zds (Eq.symm<|(List.length_set ..).trans<|(List.length_set ..).trans Y) Y)<|rlc (.own _ Y)<|rlc (.dat Y)<|rlc (.dat Y)<|rlc (.dat Y)<|rlc (.dat Y)<|rlc (.dat Y) rln)<|.dead<|.dead<|.cons Y (roO Q5)<|.cons Y (roM D83) .nil) Y Y<|Xe<|rlc (.dat Y)<|rlc (.dat Y) rln
 ·
  refine Zh<|I4 (fun memories spots power2 all=>⟨[(2, .int .i64 power2), (11, .bool all)], [some ⟨80, [[.own 3 memories.length, .own 4 spots.length, .int .i64 b.copies, .bool b.frozen, .bool b.stopped, .int .i64 b.last, .bool b.some_]]⟩, none, none, some ⟨60, List.map O60 memories⟩, some ⟨83, List.map R83 spots⟩]⟩) h (fun h=>?_) fun memories spots power2 all h=>?_
  ·
   refine Zg<|K6 0 1 2 8 9 10 Y<|bE h fun x14 h_x14 h=>ZeT (Ent.focusH (r := 3) (j := 2) (e' := 29) (g := O29) (ys := x14.Sectors) Y (ZA h_x14).2 Y Jo)<|bE h fun x15 h_x15 h=>ZeT (Ent.focusH (r := 8) (j := 0) (e' := 5) (g := R5) (ys := x15) Y (ZA h_x15).2 Y DR5)<|QL (cw := ⟨true, true, [some ⟨80, [[.own 3 b.bank.memories.length, .own 4 b.bank.spots.length, .int .i64 b.copies, .bool b.frozen, .bool b.stopped, .int .i64 b.last, .bool b.some_]]⟩, none, none, some ⟨60, List.set (List.map O60 ((b.bank.memories.set k.toNat (api_Memory.mk x.Slots x.Limit x.Sectors (x.Wear.set y.toNat (i64 (x2 + 1))) x.Bad)).set k.toNat (api_Memory.mk x.Slots x.Limit (x.Sectors.set y.toNat y3.2.2) (x.Wear.set y.toNat (i64 (x2 + 1))) x.Bad))) k.toNat [.int .i64 x14.Slots, .int .i64 x14.Limit, .own 8 x14.Sectors.length, .osub 3 (List.map R3 x14.Wear), .osub 4 (List.map R4 x14.Bad)]⟩, some ⟨83, List.map R83 b.bank.spots⟩, none, none, none, some ⟨29, List.set (List.map O29 x14.Sectors) y.toNat [.own 9 x15.length]⟩, some ⟨5, List.map R5 x15⟩], [], [9]⟩) (by kernel_rfl)<|D1 7 Zc Y<|ZZ 0 _ Y (by kernel_rfl) Y Y (fun hp'=>Zc<|ov Y)<|Q2 1 _ Y (by kernel_rfl) Y Y Y (EL.ext<|.keep<|.keep<|.keep<|.keep<|.keep<|.keep<|.keep<|.keep<|.keep<|.wr Y Y Y .nil) (fun hp' hx=>Zy (ov Y) (hx.get Y Y)<|((List.length_set ..).trans (List.length_map ..)).trans<|(List.length_set ..).trans<|(List.length_set ..).trans Y)<|Q2 2 _ Y (by kernel_rfl) Y Y Y (EL.ext<|.keep<|.keep<|.keep<|.keep<|.keep<|.keep<|.keep<|.keep<|.keep<|.wr Y Y Y .nil) (fun hp' hx=>Ziq (ov Y) (hx.get Y Y) ((List.length_set ..).trans<|(List.length_set ..).trans Y) ZQ)<|Q2 3 _ Y (by kernel_rfl) Y Y Y (EL.ext<|.keep<|.keep<|.keep<|.keep<|.keep<|.keep<|.keep<|.keep<|.keep<|.wr Y Y Y .nil) (fun hp' hx=>Zbi (ov Y) (hx.get Y Y) ((List.length_set ..).trans<|(List.length_set ..).trans Y) (ZA h_x14).2 QH Y)<|ZZ 4 _ Y (by kernel_rfl) Y Y (fun hp'=>Zc<|ov Y)<|bE h fun x16 h_x16 h=>Q2 5 _ Y (by kernel_rfl) Y Y Y (EL.ext<|.keep<|.keep<|.keep<|.keep<|.keep<|.keep<|.keep<|.keep<|.keep<|.wr Y Y Y .nil) (fun hp' hx=>Zjc (ov Y) (ov Y) Qo (hx.get Y Y) Y h_x16)<|Q2 6 _ Y (by kernel_rfl) Y Y Y (EL.ext<|.keep<|.keep<|.keep<|.keep<|.keep<|.keep<|.keep<|.keep<|.keep<|.wr Y Y Y .nil) (fun hp' hx=>Zbi (ov Y) (hx.get Y Y) Y (ZA h_x15).2 Zh7 Y)<|ZZ 9 _ Y (by kernel_rfl) Y Y (fun hp'=>Zc<|ov Y)<|bE h fun y4 h_y4 h=>Zaj 8 _ _ Y (by kernel_rfl) Y Y (fun h=>by cases h) (fun _=>by exact EL.ext (.keep <| .keep <| .keep <| .keep <| .keep <| .keep <| .keep <| .keep <| .keep <| .wr rfl rfl rfl <| .nil)) (Jz<|Zt (ZfR h_y4)<|.cons (ov Y) (.b Y) .nil)<|bE h fun y5 h_y5 h=>Zaj 10 _ _ Y (by kernel_rfl) Y Y (fun h=>by cases h) (fun _=>by exact EL.ext (.keep <| .keep <| .keep <| .keep <| .keep <| .keep <| .keep <| .keep <| .keep <| .wr rfl rfl ((List.length_map ..).trans (Eq.trans (Jg h_y5) (Eq.symm ((List.length_map ..).trans rfl)))) <| .nil)) (ZE [9] (ZcE h_y5) (.cons (ov Y) (.own _ Y)<|.cons (ov Y) (.dat Y)<|.cons (ov Y) (.dat Y)<|.cons (ov Y) (.dat Y) .nil) (.cons Y (roM D5) .nil) Y (.keep Y Y<|.none<|.none<|.keep Y Y<|.keep Y Y<|.none<|.none<|.none<|.keep Y Y<|.lent 0 (.inl Y) Y (roM D5) .nil) Y Y<|Xe<|rld Y)<|D1 11 Zc Y<|Dq 12 Y (Zm (ov Y) Y)<|Dq 13 Y (Zm (ov Y) Y)<|D1 14 QN Y<|D1 15 QN Y<|?_
   have h_x17 := XU (y := y5.2.2) h_x16
   have h_x18 := XU (y := (api_Memory.mk x14.Slots x14.Limit (x14.Sectors.set y.toNat y5.2.2) x14.Wear x14.Bad)) h_x10
   have h_x19 := XU (y := (api_Memory.mk x14.Slots x14.Limit (x14.Sectors.set y.toNat y5.2.2) x14.Wear x14.Bad)) h_x10
   have h_x20 := XU (y := (api_Memory.mk x14.Slots x14.Limit (x14.Sectors.set y.toNat y5.2.2) x14.Wear x14.Bad)) h_x10
   have h_x21 := XU (y := (api_Memory.mk x14.Slots x14.Limit (x14.Sectors.set y.toNat y5.2.2) x14.Wear x14.Bad)) h_x10
   refine Qg (by kernel_rfl) (Ent.trans (Ent.absorbH (r := 8) (j := 0) (q := 9) Y (ZA h_x15).2 Y Y ((List.length_map ..).trans<|Jg h_y5) Y)<|Ent.trans (Ent.closeH (r := 8) (y := y5.2.2) Y Y)<|Ent.trans (Ent.absorbH (r := 3) (j := 2) (q := 8) Y (ZA h_x14).2 Y Y ((List.length_map ..).trans<|(List.length_set ..).trans Y) Y)<|Ent.closeH (r := 3) (y := (api_Memory.mk x14.Slots x14.Limit (x14.Sectors.set y.toNat y5.2.2) x14.Wear x14.Bad)) Y Y)<|K5 0 1 2 9 11 Y<|QS [some ⟨80, [[.own 3 b.bank.memories.length, .own 4 b.bank.spots.length, .int .i64 b.copies, .bool b.frozen, .bool b.stopped, .int .i64 b.last, .bool b.some_]]⟩, none, none, some ⟨60, List.map O60 (((b.bank.memories.set k.toNat (api_Memory.mk x.Slots x.Limit x.Sectors (x.Wear.set y.toNat (i64 (x2 + 1))) x.Bad)).set k.toNat (api_Memory.mk x.Slots x.Limit (x.Sectors.set y.toNat y3.2.2) (x.Wear.set y.toNat (i64 (x2 + 1))) x.Bad)).set k.toNat (api_Memory.mk x14.Slots x14.Limit (x14.Sectors.set y.toNat y5.2.2) x14.Wear x14.Bad))⟩, some ⟨83, List.map R83 b.bank.spots⟩, none, none, none, none, none] Y<|Tr<|Rm Y<|Za<|If h Y (fun h=>?_) fun h=>?_
   ·
    exact K5 0 1 2 9 11 Y<|Zs<|Rm Y<|Rq Y (Zy (ov Y) Y Y)<|Rq Y (Zd (ov Y) Y Y Zf8)<|Rq Y (Zv (ov Y) Y Y Y Zlf Y)<|Rm Y<|Rm Y<|Rq Y (JG (ys := [_, _]) Zoc Znp Zmg (.cons (cvs (ov Y)<|Zn Y) .nil) Y)<|bE h fun x22 h_x22 h=>Rq Y (QA (ov Y) (ov Y) ZkU Y Y h_x22)<|Rx Y (Jm (u' := (ring_spot.mk y 0)) (ov Y) (ov Y) (ZB Zjf Y) Y Y h_x22 Y (Zb Y) Y)<|Za<|⟨_, h, ES [some 0, some 1, some 2, some 3, some 4] (hhp := .cons Y (ro1 (by exact tZ_80.symm)<|rlc (Zds (Eq.symm<|(List.length_set ..).trans<|(List.length_set ..).trans<|(List.length_set ..).trans Y) Y)<|rlc (Zds (Eq.symm<|(List.length_set ..).trans Y) Y)<|rlc (.dat Y)<|rlc (.dat Y)<|rlc (.dat Y)<|rlc (.dat Y)<|rlc (.dat Y) rln)<|.dead<|.dead<|.cons Y (roO Q5)<|.cons Y (roM D83) .nil)⟩
   ·
    exact Zh<|⟨_, h, ES [some 0, some 1, some 2, some 3, some 4] (hhp := .cons Y (ro1 (by exact tZ_80.symm)<|rlc (Zds (Eq.symm<|(List.length_set ..).trans<|(List.length_set ..).trans<|(List.length_set ..).trans Y) Y)<|rlc (.own _ Y)<|rlc (.dat Y)<|rlc (.dat Y)<|rlc (.dat Y)<|rlc (.dat Y)<|rlc (.dat Y) rln)<|.dead<|.dead<|.cons Y (roO Q5)<|.cons Y (roM D83) .nil)⟩
  ·
   refine Tr<|Rm Y<|Rm Y<|Ra Y<|Ra Y<|Za<|?_
   obtain rfl := rt h
   exact Zp<|Za0 [some 0, some 1, some 2, some 3, some 4] Y (.cons (.tmp Y)<|.cons (.tmp Y) .nil) (.cons Y (ro1 (by exact tZ_80.symm)<|rlc (.own _ Y)<|rlc (.own _ Y)<|rlc (.dat Y)<|rlc (.dat Y)<|rlc (.dat Y)<|rlc (.dat Y)<|rlc (.dat Y) rln)<|.dead<|.dead<|.cons Y (roO Q5)<|.cons Y (roM D83) .nil) Y Y<|Xe<|rlc (.dat Y)<|rlc (.dat Y) rln
theorem ZdY {b : ring_Recorder} {k : Int} {data : List Int} {power : Int} {r : Int × Bool × ring_Recorder} (h : XZ b k data power = some r) :
 GSpec Tryd.prog gl0 38 [.ptr 0 1 0 0, .int .i64 k, .slf 5 (List.map R5 data), .int .i64 power] [some ⟨80, [[.own 1 b.bank.memories.length, .own 2 b.bank.spots.length, .int .i64 b.copies, .bool b.frozen, .bool b.stopped, .int .i64 b.last, .bool b.some_]]⟩, some ⟨60, List.map O60 b.bank.memories⟩, some ⟨83, List.map R83 b.bank.spots⟩] (.tuple [.int .i64 r.1, .bool r.2.1]) [some ⟨80, [[.own 3 r.2.2.bank.memories.length, .own 4 r.2.2.bank.spots.length, .int .i64 r.2.2.copies, .bool r.2.2.frozen, .bool r.2.2.stopped, .int .i64 r.2.2.last, .bool r.2.2.some_]]⟩, none, none, some ⟨60, List.map O60 r.2.2.bank.memories⟩, some ⟨83, List.map R83 r.2.2.bank.spots⟩] := by
 unfold XZ at h
 replace h := QO h
 refine Q0 (by kernel_rfl) Tryd.func38 Y Y<|?_
 intro w0 A W φ0
 refine ZeT (Ent.sel [some 0, some 1, some 2, some 1, some 2] (sr 0 Y (.ptr (r' := 0) _ _ _ Y)<|sd 1 Y Y<|sd 2 Y Y<|sd 3 Y Y sn) (.cons Y (ro1 (by exact tZ_80.symm)<|rlc (.own (r' := 3) _ Y)<|rlc (.own (r' := 4) _ Y)<|rlc (.dat Y)<|rlc (.dat Y)<|rlc (.dat Y)<|rlc (.dat Y)<|rlc (.dat Y) rln)<|.dead<|.dead<|.cons Y (roO Q5)<|.cons Y (roM D83) .nil) Y Y)<|QS [some ⟨80, [[.own 3 b.bank.memories.length, .own 4 b.bank.spots.length, .int .i64 b.copies, .bool b.frozen, .bool b.stopped, .int .i64 b.last, .bool b.some_]]⟩, none, none, some ⟨60, List.map O60 b.bank.memories⟩, some ⟨83, List.map R83 b.bank.spots⟩] Y<|Tr<|Ra Y<|Ra Y<|Za<|J8 (fun j => (.inr j)) (fun memories spots copies frozen stopped last some_ power2=>⟨[(0, .ptr 0 1 0 0), (1, .int .i64 k), (2, .slf 5 (List.map R5 data)), (3, .int .i64 power2)], [some ⟨80, [[.own 3 memories.length, .own 4 spots.length, .int .i64 copies, .bool frozen, .bool stopped, .int .i64 last, .bool some_]]⟩, none, none, some ⟨60, List.map O60 memories⟩, some ⟨83, List.map R83 spots⟩]⟩) h (fun h=>?_) fun memories spots copies frozen stopped last some_ power2 h=>?_
 ·
  refine K4 0 1 2 3 Y<|Tr<|Rm Y<|Rm Y<|bE h fun y h_y h=>Rq Y (Zc1 (Zbc h_y) .bool<|.cons (ov Y) (View.ptrS (j := 0) (k := 2) Y Y Y (Nat.le_of_ble_eq_true Y)<|.cons (View.ownO Y Y Q5 (fun x=>(D60 x).1) Zly)<|.cons (View.ownM Y Y D83) .nil)<|.cons (ov Y) (Dat.view<|.b Y) .nil)<|Za<|K5 0 1 2 3 15 Y<|If h Y (fun h=>?_) fun h=>?_
  ·
   refine K4 0 1 2 3 Y<|Tr<|Ra Y<|Za<|Tr<|Rm Y<|Rm Y<|Rm Y<|bE h fun y2 h_y2 h=>Rx Y (ZE [0, 3, 4] (Zd8 h_y2) (.cons (ov Y) (.ptr _ _ _ Y)<|.cons (ov Y) (.dat Y)<|.cons (ov Y) (.dat Y) .nil) (.cons Y (ro1 (by exact tZ_80.symm)<|rlc (.own _ Y)<|rlc (.own _ Y)<|rlc (.dat Y)<|rlc (.dat Y)<|rlc (.dat Y)<|rlc (.dat Y)<|rlc (.dat Y) rln)<|.cons Y (roO Q5)<|.cons Y (roM D83) .nil) Y (.lent 0 (.inl Y) Y (ro1 (by exact tZ_80.symm)<|rlc (.own _<|.inr ⟨Nat.le_of_ble_eq_true Y, Y⟩)<|rlc (.own _<|.inr ⟨Nat.le_of_ble_eq_true Y, Y⟩)<|rlc (.dat Y)<|rlc (.dat Y)<|rlc (.dat Y)<|rlc (.dat Y)<|rlc (.dat Y) rln)<|.none<|.none<|.none<|.none<|.lent 3 (.inr ⟨Nat.le_of_ble_eq_true Y, Y⟩) Y (roO Q5)<|.lent 4 (.inr ⟨Nat.le_of_ble_eq_true Y, Y⟩) Y (roM D83) .nil) Y Y<|Xe<|rld Y)<|Rm Y<|Rq Y (Zm (ov Y) Y)<|Rq Y (Zm (ov Y) Y)<|Ra Y<|Ra Y<|Za<|K5 0 1 2 3 10 Y<|QS [some ⟨80, [[.own 5 y2.2.2.bank.memories.length, .own 6 y2.2.2.bank.spots.length, .int .i64 y2.2.2.copies, .bool y2.2.2.frozen, .bool y2.2.2.stopped, .int .i64 y2.2.2.last, .bool y2.2.2.some_]]⟩, none, none, none, none, some ⟨60, List.map O60 y2.2.2.bank.memories⟩, some ⟨83, List.map R83 y2.2.2.bank.spots⟩] Y<|Tr<|Rm Y<|R1 J9 Y<|Za<|K5 0 1 2 3 24 Y<|If h Y (fun h=>?_) fun h=>?_
   ·
    refine K1 3 Y<|Tr<|Rm Y<|Ra Y<|Ra Y<|Za<|?_
    obtain rfl := rt h
    exact Zp<|Za0 [some 0, some 1, some 2, some 5, some 6] Y (.cons (.tmp Y)<|.cons (.tmp Y) .nil) (.cons Y (ro1 (by exact tZ_80.symm)<|rlc (.own _ Y)<|rlc (.own _ Y)<|rlc (.dat Y)<|rlc (.dat Y)<|rlc (.dat Y)<|rlc (.dat Y)<|rlc (.dat Y) rln)<|.dead<|.dead<|.cons Y (roO Q5)<|.cons Y (roM D83) .nil) Y Y<|Xe<|rlc (.dat Y)<|rlc (.dat Y) rln
   ·
    exact Zh<|⟨_, h, ES [some 0, some 1, some 2, some 5, some 6] (hhp := .cons Y (ro1 (by exact tZ_80.symm)<|rlc (.own _ Y)<|rlc (.own _ Y)<|rlc (.dat Y)<|rlc (.dat Y)<|rlc (.dat Y)<|rlc (.dat Y)<|rlc (.dat Y) rln)<|.dead<|.dead<|.cons Y (roO Q5)<|.cons Y (roM D83) .nil)⟩
  ·
   exact Zh<|⟨_, h, ES [some 0, some 1, some 2, some 3, some 4] (hhp := .cons Y (ro1 (by exact tZ_80.symm)<|rlc (.own _ Y)<|rlc (.own _ Y)<|rlc (.dat Y)<|rlc (.dat Y)<|rlc (.dat Y)<|rlc (.dat Y)<|rlc (.dat Y) rln)<|.dead<|.dead<|.cons Y (roO Q5)<|.cons Y (roM D83) .nil)⟩
 ·
  replace h := elr h
  replace h := t8i h
  refine Tr<|Rm Y<|Rq Y (Zy (ov Y) Y Y)<|Rq Y (Zd (ov Y) Y Y Zf8)<|Rq Y (Zv (ov Y) Y Y Y Zlf Y)<|Rm Y<|bE h fun x h_x h=>Rq Y (QA (ov Y) (ov Y) ZkU Y Y h_x)<|Ra Y<|Za<|Zg<|K5 0 1 2 3 11 Y<|bE h fun x2 h_x2 h=>ZeT (Ent.focusH (r := 3) (j := 2) (e' := 29) (g := O29) (ys := x2.Sectors) Y (ZA h_x2).2 Y Jo)<|bE h fun x3 h_x3 h=>ZeT (Ent.focusH (r := 5) (j := 0) (e' := 5) (g := R5) (ys := x3) Y (ZA h_x3).2 Y DR5)<|QL (cw := ⟨true, true, [some ⟨80, [[.own 3 memories.length, .own 4 spots.length, .int .i64 copies, .bool frozen, .bool stopped, .int .i64 last, .bool some_]]⟩, none, none, some ⟨60, List.set (List.map O60 memories) k.toNat [.int .i64 x2.Slots, .int .i64 x2.Limit, .own 5 x2.Sectors.length, .osub 3 (List.map R3 x2.Wear), .osub 4 (List.map R4 x2.Bad)]⟩, some ⟨83, List.map R83 spots⟩, some ⟨29, List.set (List.map O29 x2.Sectors) x.sector.toNat [.own 6 x3.length]⟩, some ⟨5, List.map R5 x3⟩], [], [6]⟩) (by kernel_rfl)<|ZZ 0 _ Y (by kernel_rfl) Y Y (fun hp'=>Zc<|ov Y)<|Q2 1 _ Y (by kernel_rfl) Y Y Y (EL.ext<|.keep<|.keep<|.keep<|.keep<|.keep<|.keep<|.wr Y Y Y .nil) (fun hp' hx=>Zy (ov Y) (hx.get Y Y) Y)<|Q2 2 _ Y (by kernel_rfl) Y Y Y (EL.ext<|.keep<|.keep<|.keep<|.keep<|.keep<|.keep<|.wr Y Y Y .nil) (fun hp' hx=>Zd (ov Y) (hx.get Y Y) Y Zeu)<|Q2 3 _ Y (by kernel_rfl) Y Y Y (EL.ext<|.keep<|.keep<|.keep<|.keep<|.keep<|.keep<|.wr Y Y Y .nil) (fun hp' hx=>Zv (ov Y) (hx.get Y Y) Y Y Zj7 Y)<|ZZ 4 _ Y (by kernel_rfl) Y Y (fun hp'=>Zc<|ov Y)<|bE h fun x4 h_x4 h=>Q2 5 _ Y (by kernel_rfl) Y Y Y (EL.ext<|.keep<|.keep<|.keep<|.keep<|.keep<|.keep<|.wr Y Y Y .nil) (fun hp' hx=>Zjc (ov Y) (ov Y) ZdK (hx.get Y Y) Y h_x4)<|Q2 6 _ Y (by kernel_rfl) Y Y Y (EL.ext<|.keep<|.keep<|.keep<|.keep<|.keep<|.keep<|.wr Y Y Y .nil) (fun hp' hx=>Ziq (ov Y) (hx.get Y Y) Y ZQ)<|Q2 7 _ Y (by kernel_rfl) Y Y Y (EL.ext<|.keep<|.keep<|.keep<|.keep<|.keep<|.keep<|.wr Y Y Y .nil) (fun hp' hx=>Zbi (ov Y) (hx.get Y Y) Y (ZA h_x2).2 QH Y)<|ZZ 8 _ Y (by kernel_rfl) Y Y (fun hp'=>Zc<|ov Y)<|Q2 9 _ Y (by kernel_rfl) Y Y Y (EL.ext<|.keep<|.keep<|.keep<|.keep<|.keep<|.keep<|.wr Y Y Y .nil) (fun hp' hx=>Zy (ov Y) (hx.get Y Y)<|List.length_map ..)<|Q2 10 _ Y (by kernel_rfl) Y Y Y (EL.ext<|.keep<|.keep<|.keep<|.keep<|.keep<|.keep<|.wr Y Y Y .nil) (fun hp' hx=>ZdO (ov Y) (hx.get Y Y) Y Zf9)<|Q2 11 _ Y (by kernel_rfl) Y Y Y (EL.ext<|.keep<|.keep<|.keep<|.keep<|.keep<|.keep<|.wr Y Y Y .nil) (fun hp' hx=>QE (ov Y) (hx.get Y Y) Y h_x tS3 Y)<|bE h fun x5 h_x5 h=>Q2 12 _ Y (by kernel_rfl) Y Y Y (EL.ext<|.keep<|.keep<|.keep<|.keep<|.keep<|.keep<|.wr Y Y Y .nil) (fun hp' hx=>Zjc (ov Y) (ov Y) Qo (hx.get Y Y) Y h_x5)<|Q2 13 _ Y (by kernel_rfl) Y Y Y (EL.ext<|.keep<|.keep<|.keep<|.keep<|.keep<|.keep<|.wr Y Y Y .nil) (fun hp' hx=>Zbi (ov Y) (hx.get Y Y) Y (ZA h_x3).2 Zh7 Y)<|ZZ 14 _ Y (by kernel_rfl) Y Y (fun hp'=>Zc<|ov Y)<|Q2 15 _ Y (by kernel_rfl) Y Y Y (EL.ext<|.keep<|.keep<|.keep<|.keep<|.keep<|.keep<|.wr Y Y Y .nil) (fun hp' hx=>Zy (ov Y) (hx.get Y Y)<|List.length_map ..)<|Q2 16 _ Y (by kernel_rfl) Y Y Y (EL.ext<|.keep<|.keep<|.keep<|.keep<|.keep<|.keep<|.wr Y Y Y .nil) (fun hp' hx=>ZdO (ov Y) (hx.get Y Y) Y ZjC)<|Q2 17 _ Y (by kernel_rfl) Y Y Y (EL.ext<|.keep<|.keep<|.keep<|.keep<|.keep<|.keep<|.wr Y Y Y .nil) (fun hp' hx=>QE (ov Y) (hx.get Y Y) Y h_x tS3 Y)<|ZZ 18 _ Y (by kernel_rfl) Y Y (fun hp'=>ZpC (ov Y) (ov Y) Y)<|ZZ 19 _ Y (by kernel_rfl) Y Y (fun hp'=>Zkl (ov Y) (ov Y) Y)<|ZZ 20 _ Y (by kernel_rfl) Y Y (fun hp'=>Zc<|ov Y)<|ZZ 23 _ Y (by kernel_rfl) Y Y (fun hp'=>Zc<|ov Y)<|Zaj 21 (.sl 5<|List.map R5 ([0] : List Int)) _ Y (by kernel_rfl) Y Y (fun h=>by cases h) (fun _=>by exact EL.ext (.keep <| .keep <| .keep <| .keep <| .keep <| .keep <| .wr rfl rfl rfl <| .nil)) (Jz<|Zae Xf (.cons (cvs (ov Y)<|Zn Y) Y (.cons (.b Y) .nil) .nil) Y Y)<|bE h fun l h_l h=>Zaj 22 _ _ Y (by kernel_rfl) Y Y (fun h=>by cases h) (fun _=>by exact EL.ext (.keep <| .keep <| .keep <| .keep <| .keep <| .keep <| .wr rfl rfl rfl <| .nil)) (Jz<|ZmP (f := R5) (ov Y) (Jb (ov Y) tZ_5) Xf Y Y (fun x=>(D5 x).2) h_l)<|bE h fun y3 h_y3 h=>Zaj 24 _ _ Y (by kernel_rfl) Y Y (fun h=>by cases h) (fun _=>by exact EL.ext (.keep <| .keep <| .keep <| .keep <| .keep <| .keep <| .wr rfl rfl ((List.length_map ..).trans (Eq.trans (Jg h_y3) (Eq.symm ((List.length_map ..).trans rfl)))) <| .nil)) (ZE [6] (ZcE h_y3) (.cons (ov Y) (.own _ Y)<|.cons (ov Y) (.dat Y)<|.cons (ov Y) (.dat Y)<|.cons (ov Y) (.dat Y) .nil) (.cons Y (roM D5) .nil) Y (.keep Y Y<|.none<|.none<|.keep Y Y<|.keep Y Y<|.keep Y Y<|.lent 0 (.inl Y) Y (roM D5) .nil) Y Y<|Xe<|rld Y)<|D1 25 Zc Y<|Dq 26 Y (Zm (ov Y) Y)<|Dq 27 Y (Zm (ov Y) Y)<|D1 28 QN Y<|D1 29 QN Y<|?_
  have h_x6 := XU (y := y3.2.2) h_x5
  have h_x7 := XU (y := (api_Memory.mk x2.Slots x2.Limit (x2.Sectors.set x.sector.toNat y3.2.2) x2.Wear x2.Bad)) h_x4
  have h_x8 := XU (y := (api_Memory.mk x2.Slots x2.Limit (x2.Sectors.set x.sector.toNat y3.2.2) x2.Wear x2.Bad)) h_x4
  refine Qg (by kernel_rfl) (Ent.trans (Ent.absorbH (r := 5) (j := 0) (q := 6) Y (ZA h_x3).2 Y Y ((List.length_map ..).trans<|Jg h_y3) Y)<|Ent.trans (Ent.closeH (r := 5) (y := y3.2.2) Y Y)<|Ent.trans (Ent.absorbH (r := 3) (j := 2) (q := 5) Y (ZA h_x2).2 Y Y ((List.length_map ..).trans<|(List.length_set ..).trans Y) Y)<|Ent.closeH (r := 3) (y := (api_Memory.mk x2.Slots x2.Limit (x2.Sectors.set x.sector.toNat y3.2.2) x2.Wear x2.Bad)) Y Y)<|K3 3 11 12 Y<|QS [some ⟨80, [[.own 3 memories.length, .own 4 spots.length, .int .i64 copies, .bool frozen, .bool stopped, .int .i64 last, .bool some_]]⟩, none, none, some ⟨60, List.map O60 (memories.set k.toNat (api_Memory.mk x2.Slots x2.Limit (x2.Sectors.set x.sector.toNat y3.2.2) x2.Wear x2.Bad))⟩, some ⟨83, List.map R83 spots⟩, none, none] Y<|Tr<|Rm Y<|Rq Y (Zy (ov Y) Y<|List.length_map ..)<|Rq Y (ZdO (ov Y) Y Y ZjC)<|Rq Y (QE (ov Y) Y Y h_x tS3 Y)<|R2 ZU Y<|Rq Y (Zy (ov Y) Y<|List.length_map ..)<|Rq Y (ZdO (ov Y) Y Y ZjC)<|Rx Y (Jm (u' := (ring_spot.mk x.sector (i64 (x.slot + 1)))) (ov Y) (ov Y) (Ze tS3) Y Y h_x Y (Zb Y) Y)<|Za<|K2 3 12 Y<|QS [some ⟨80, [[.own 3 memories.length, .own 4 spots.length, .int .i64 copies, .bool frozen, .bool stopped, .int .i64 last, .bool some_]]⟩, none, none, some ⟨60, List.map O60 (memories.set k.toNat (api_Memory.mk x2.Slots x2.Limit (x2.Sectors.set x.sector.toNat y3.2.2) x2.Wear x2.Bad))⟩, some ⟨83, List.map R83 (spots.set k.toNat (ring_spot.mk x.sector (i64 (x.slot + 1))))⟩, none, none] Y<|Tr<|Rm Y<|Rm Y<|Ra Y<|Ra Y<|Za<|?_
  obtain rfl := rt h
  exact Zp<|Za0 [some 0, some 1, some 2, some 3, some 4] Y (.cons (.tmp Y)<|.cons (.tmp Y) .nil) (.cons Y (ro1 (by exact tZ_80.symm)<|rlc (Zds (Eq.symm<|(List.length_set ..).trans Y) Y)<|rlc (Zds (Eq.symm<|(List.length_set ..).trans Y) Y)<|rlc (.dat Y)<|rlc (.dat Y)<|rlc (.dat Y)<|rlc (.dat Y)<|rlc (.dat Y) rln)<|.dead<|.dead<|.cons Y (roO Q5)<|.cons Y (roM D83) .nil) Y Y<|Xe<|rlc (.dat Y)<|rlc (.dat Y) rln
theorem Za6 {r_ : ring_Recorder} {f : Vector Int 64} {power : Int} {r : Int × Bool × Int × ring_Recorder} (h : Qu r_ f power = some r) :
 GSpec Tryd.prog gl0 15 [.ptr 0 1 0 0, .agg (List.map C42 f.toList), .int .i64 power] [some ⟨80, [[.own 1 r_.bank.memories.length, .own 2 r_.bank.spots.length, .int .i64 r_.copies, .bool r_.frozen, .bool r_.stopped, .int .i64 r_.last, .bool r_.some_]]⟩, some ⟨60, List.map O60 r_.bank.memories⟩, some ⟨83, List.map R83 r_.bank.spots⟩] (.tuple [.int .i64 r.1, .bool r.2.1, .int .i64 r.2.2.1]) [some ⟨80, [[.own 3 r.2.2.2.bank.memories.length, .own 4 r.2.2.2.bank.spots.length, .int .i64 r.2.2.2.copies, .bool r.2.2.2.frozen, .bool r.2.2.2.stopped, .int .i64 r.2.2.2.last, .bool r.2.2.2.some_]]⟩, none, none, some ⟨60, List.map O60 r.2.2.2.bank.memories⟩, some ⟨83, List.map R83 r.2.2.2.bank.spots⟩] := by
 unfold Qu at h
 replace h := QO h
 refine Q0 (by kernel_rfl) Tryd.func15 Y Y<|?_
 intro w0 A W φ0
 refine ZeT (Ent.sel [some 0, some 1, some 2, some 1, some 2] (sr 0 Y (.ptr (r' := 0) _ _ _ Y)<|sr 1 Y (Zfq<|rld<|arD fun _ => Y)<|sd 2 Y Y sn) (.cons Y (ro1 (by exact tZ_80.symm)<|rlc (.own (r' := 3) _ Y)<|rlc (.own (r' := 4) _ Y)<|rlc (.dat Y)<|rlc (.dat Y)<|rlc (.dat Y)<|rlc (.dat Y)<|rlc (.dat Y) rln)<|.dead<|.dead<|.cons Y (roO Q5)<|.cons Y (roM D83) .nil) Y Y)<|QS [some ⟨80, [[.own 3 r_.bank.memories.length, .own 4 r_.bank.spots.length, .int .i64 r_.copies, .bool r_.frozen, .bool r_.stopped, .int .i64 r_.last, .bool r_.some_]]⟩, none, none, some ⟨60, List.map O60 r_.bank.memories⟩, some ⟨83, List.map R83 r_.bank.spots⟩] Y<|Tr<|Rq Y (Zdx (cva<|ov Y) arL tZ_44<|arD fun _ => Y)<|Ra Y<|Ra Y<|Ra Y<|Za<|Zg<|K3 0 2 4 Y<|Tr<|Rm Y<|Rm Y<|bE h fun y h_y h=>Rq Y (Zc1 (Zct h_y) .int<|.cons (ov Y) (View.ptrS (j := 0) (k := 7) Y Y Y (Nat.le_of_ble_eq_true Y)<|.cons (View.ownO Y Y Q5 (fun x=>(D60 x).1) Zly)<|.cons (View.ownM Y Y D83)<|.cons (Dat.view<|.b Y)<|.cons (Dat.view<|.b Y)<|.cons (Dat.view<|.b Y)<|.cons (Dat.view<|.b Y)<|.cons (Dat.view<|.b Y) .nil)<|.cons (ov Y) (Dat.view<|.b Y) .nil)<|Ra Y<|Za<|K4 0 2 4 9 Y<|Tr<|Rm Y<|R2 Jv Y<|Za<|K5 0 2 4 9 23 Y<|If h Y (fun h=>?_) fun h=>?_
 ·
  refine K1 9 Y<|Tr<|Rm Y<|Ra Y<|Ra Y<|Ra Y<|Za<|?_
  obtain rfl := rt h
  exact Zp<|Za0 [some 0, some 1, some 2, some 3, some 4] Y (.cons (.tmp Y)<|.cons (.tmp Y)<|.cons (.tmp Y) .nil) (.cons Y (ro1 (by exact tZ_80.symm)<|rlc (.own _ Y)<|rlc (.own _ Y)<|rlc (.dat Y)<|rlc (.dat Y)<|rlc (.dat Y)<|rlc (.dat Y)<|rlc (.dat Y) rln)<|.dead<|.dead<|.cons Y (roO Q5)<|.cons Y (roM D83) .nil) Y Y<|Xe<|rlc (.dat Y)<|rlc (.dat Y)<|rlc (.dat Y) rln
 ·
  refine Zh<|Zg<|K3 0 2 4 Y<|Tr<|Rq Y (QP (ov Y) JS (Qp<|Zu arL) arL)<|bE h fun y2 h_y2 h=>Rq Y (Zt (Zf0 h_y2)<|.cons (ov Y) (.aggB<|arD fun _ => Y) .nil)<|Rl tZ_114 Zin Y<|R2 Zde Y<|Za<|K4 0 2 4 28 Y<|If h Y (fun h=>?_) fun h=>?_
  ·
   refine K0<|Tr<|Ra Y<|Ra Y<|Ra Y<|Za<|?_
   obtain rfl := rt h
   exact Zp<|Za0 [some 0, some 1, some 2, some 3, some 4] Y (.cons (.tmp Y)<|.cons (.tmp Y)<|.cons (.tmp Y) .nil) (.cons Y (ro1 (by exact tZ_80.symm)<|rlc (.own _ Y)<|rlc (.own _ Y)<|rlc (.dat Y)<|rlc (.dat Y)<|rlc (.dat Y)<|rlc (.dat Y)<|rlc (.dat Y) rln)<|.dead<|.dead<|.cons Y (roO Q5)<|.cons Y (roM D83) .nil) Y Y<|Xe<|rlc (.dat Y)<|rlc (.dat Y)<|rlc (.dat Y) rln
  ·
   refine Zh<|K3 0 2 4 Y<|Tr<|Rq Y (QP (ov Y) JS (Qp<|Zu arL) arL)<|bE h fun y3 h_y3 h=>Rq Y (Zt (Zft h_y3)<|.cons (ov Y) (.aggB<|arD fun _ => Y) .nil)<|Rm Y<|Rq Y (Zm (ov Y) Y)<|Rq Y (Zm (ov Y) Y)<|Ra Y<|Ra Y<|Za<|Zg<|K4 0 2 4 10 Y<|QL (cw := md0) (by kernel_rfl)<|D1 0 Zc Y<|D1 1 Zc Y<|Dq 2 Y (Zy (ov Y) Y Y)<|Dq 3 Y (Zd (ov Y) Y Y ZeA)<|Dq 4 Y (Zd (ov Y) Y Y Zeu)<|Dq 5 Y (Zv (ov Y) Y Y Y Zj7 Y)<|Dq 6 Y (Zfj (ov Y) Y Y ZdK)<|D1 7 Zc Y<|Dq 8 Y (Zy (ov Y) Y Y)<|Dq 9 Y (Zd (ov Y) Y Y Zql)<|Dq 10 Y (Zv (ov Y) Y Y Y tS3 Y)<|bE h fun y4 h_y4 h=>Dq 11 Y (Zt (ZiN h_y4)<|.cons (ov Y) (.b Y)<|.cons (ov Y) (.b Y)<|.cons (ov Y) (.b Y) .nil)<|D1 12 QN Y<|Dd<|Zg<|K5 0 2 4 10 12 Y<|Tr<|Rm Y<|Rq Y (Zy (ov Y) Y Y)<|Rq Y (Zd (ov Y) Y Y ZeA)<|Rm Y<|bE h fun y5 h_y5 h=>Rq Y (Zc1 (Zg3 h_y5) .int<|.cons (ov Y) (View.ptrS (j := 0) (k := 2) Y Y Y (Nat.le_of_ble_eq_true Y)<|.cons (View.ownO Y Y Q5 (fun x=>(D60 x).1) Zly)<|.cons (View.ownM Y Y D83) .nil)<|.cons (ov Y) (Dat.view<|.b Y) .nil)<|Ra Y<|Za<|K6 0 2 4 10 12 13 Y<|Tr<|Rm Y<|R2 Jv Y<|Za<|K7 0 2 4 10 12 13 52 Y<|If h Y (fun h=>?_) fun h=>?_
   ·
    refine K1 13 Y<|Tr<|Rm Y<|Ra Y<|Ra Y<|Ra Y<|Za<|?_
    obtain rfl := rt h
    exact Zp<|Za0 [some 0, some 1, some 2, some 3, some 4] Y (.cons (.tmp Y)<|.cons (.tmp Y)<|.cons (.tmp Y) .nil) (.cons Y (ro1 (by exact tZ_80.symm)<|rlc (.own _ Y)<|rlc (.own _ Y)<|rlc (.dat Y)<|rlc (.dat Y)<|rlc (.dat Y)<|rlc (.dat Y)<|rlc (.dat Y) rln)<|.dead<|.dead<|.cons Y (roO Q5)<|.cons Y (roM D83) .nil) Y Y<|Xe<|rlc (.dat Y)<|rlc (.dat Y)<|rlc (.dat Y) rln
   ·
    refine Zh<|K5 0 2 4 10 12 Y<|Tr<|Rq Y (QP (ov Y) JS (Qp<|Zu arL) arL)<|bE h fun y6 h_y6 h=>Rq Y (Zt (Zh8 h_y6)<|.cons (ov Y) (.aggB<|arD fun _ => Y) .nil)<|Rm Y<|Rq Y (Zm (ov Y) Y)<|Rq Y (Zm (ov Y) Y)<|Ra Y<|Ra Y<|Za<|J8 (fun j => (.inr j)) (fun memories spots copies frozen stopped last some_ power2=>⟨[(0, .ptr 0 1 0 0), (2, .int .i64 power2), (10, .int .i64 y3.1)], [some ⟨80, [[.own 3 memories.length, .own 4 spots.length, .int .i64 copies, .bool frozen, .bool stopped, .int .i64 last, .bool some_]]⟩, none, none, some ⟨60, List.map O60 memories⟩, some ⟨83, List.map R83 spots⟩]⟩) h (fun h=>?_) fun memories spots copies frozen stopped last some_ power2 h=>?_
    ·
     refine K5 0 2 10 12 14 Y<|Tr<|Rm Y<|Rl tZ_3 Xg Y<|Rm Y<|Za<|Zf<|?_
     obtain ⟨r1, hl1, ho1⟩ := Xm h
     refine L9 (fun memories2 spots2 copies2 frozen2 stopped2 last2 some_2 power3 i=>⟨[(0, .ptr 0 1 0 0), (2, .int .i64 power3), (10, .int .i64 y3.1), (14, .sl 5 (List.map R5 y6.1)), (59, .sl 3 (List.map R3 y4)), (60, .int .i64 (y4.length : Int)), (61, .int .i64 i)], [some ⟨80, [[.own 3 memories2.length, .own 4 spots2.length, .int .i64 copies2, .bool frozen2, .bool stopped2, .int .i64 last2, .bool some_2]]⟩, none, none, some ⟨60, List.map O60 memories2⟩, some ⟨83, List.map R83 spots2⟩]⟩) hl1 (ES [some 0, some 1, some 2, some 3, some 4] (hhp := .cons Y (ro1 (by exact tZ_80.symm)<|rlc (.own _ Y)<|rlc (.own _ Y)<|rlc (.dat Y)<|rlc (.dat Y)<|rlc (.dat Y)<|rlc (.dat Y)<|rlc (.dat Y) rln)<|.dead<|.dead<|.cons Y (roO Q5)<|.cons Y (roM D83) .nil)) fun n1 memories2 spots2 copies2 frozen2 stopped2 last2 some_2 power3 i h=>?_
     unfold ZX at h
     refine Tr<|R2 ZT Y<|Za<|Zg<|If h Y (fun h=>?_) fun h=>?_
     ·
      refine Zh<|Zg<|Zf<|K7 0 2 10 14 59 60 61 Y<|Tr<|bE h fun x h_x h=>Rq Y (Qz (ov Y) (ov Y) Xg h_x)<|Rq Y (Zi (ov Y) tS3 Y)<|Ra Y<|Za<|K8 0 2 10 14 17 59 60 61 Y<|Tr<|Ra Y<|Za<|Zg<|QL (cw := ⟨true, false, [], [], []⟩) (by kernel_rfl)<|D1 0 Zc Y<|Dq 1 Y (Zy (ov Y) Y Y)<|Dq 2 Y (Zd (ov Y) Y Y ZeA)<|D1 3 Zc Y<|D1 4 Zc Y<|D1 5 Zc Y<|Dq 6 Y (ZlO (Jb (ov Y) tZ_5) Xf<|ZhB _ _)<|D1 7 Zc Y<|Dq 8 Y (ZlO (Jb (ov Y) tZ_5) Xf<|ZhB _ _)<|bE h fun l h_l h=>Dq 9 Y (Znc (ov Y) Xf (ov Y) (ov Y) h_l)<|D1 10 Zc Y<|bE h fun y7 h_y7 h=>Do 11 Y (ZE [0, 3, 4] (ZdY h_y7) (.cons (ov Y) (.ptr _ _ _ Y)<|.cons (ov Y) (.dat Y)<|.cons (ov Y) (.dat Y)<|.cons (ov Y) (.dat Y) .nil) (.cons Y (ro1 (by exact tZ_80.symm)<|rlc (.own _ Y)<|rlc (.own _ Y)<|rlc (.dat Y)<|rlc (.dat Y)<|rlc (.dat Y)<|rlc (.dat Y)<|rlc (.dat Y) rln)<|.cons Y (roO Q5)<|.cons Y (roM D83) .nil) Y (.lent 0 (.inl Y) Y (ro1 (by exact tZ_80.symm)<|rlc (.own _<|.inr ⟨Nat.le_of_ble_eq_true Y, Y⟩)<|rlc (.own _<|.inr ⟨Nat.le_of_ble_eq_true Y, Y⟩)<|rlc (.dat Y)<|rlc (.dat Y)<|rlc (.dat Y)<|rlc (.dat Y)<|rlc (.dat Y) rln)<|.none<|.none<|.none<|.none<|.lent 3 (.inr ⟨Nat.le_of_ble_eq_true Y, Y⟩) Y (roO Q5)<|.lent 4 (.inr ⟨Nat.le_of_ble_eq_true Y, Y⟩) Y (roM D83) .nil) Y Y<|Xe<|rld Y)<|D1 12 Zc Y<|Dq 13 Y (Zm (ov Y) Y)<|Dq 14 Y (Zm (ov Y) Y)<|D1 15 QN Y<|D1 16 QN Y<|Dd<|K8 0 2 10 14 18 59 60 61 Y<|QS [some ⟨80, [[.own 5 y7.2.2.bank.memories.length, .own 6 y7.2.2.bank.spots.length, .int .i64 y7.2.2.copies, .bool y7.2.2.frozen, .bool y7.2.2.stopped, .int .i64 y7.2.2.last, .bool y7.2.2.some_]]⟩, none, none, none, none, some ⟨60, List.map O60 y7.2.2.bank.memories⟩, some ⟨83, List.map R83 y7.2.2.bank.spots⟩] Y<|Tr<|Rm Y<|R1 J9 Y<|Za<|K8 0 2 10 14 59 60 61 81 Y<|If h Y (fun h=>?_) fun h=>?_
      ·
       refine K2 0 2 Y<|Tr<|Rm Y<|Rq Y (Zy (ov Y) Y Y)<|Rq Y (Zd (ov Y) Y Y ZlW)<|Rx Y (Zk (ov Y) (ov Y) (Ze tS4) Y Y Y (Nat.le_of_ble_eq_true Y) (Zb Y) Y)<|Za<|K1 2 Y<|QS [some ⟨80, [[.own 5 y7.2.2.bank.memories.length, .own 6 y7.2.2.bank.spots.length, .int .i64 y7.2.2.copies, .bool y7.2.2.frozen, .bool true, .int .i64 y7.2.2.last, .bool y7.2.2.some_]]⟩, none, none, none, none, some ⟨60, List.map O60 y7.2.2.bank.memories⟩, some ⟨83, List.map R83 y7.2.2.bank.spots⟩] Y<|Tr<|Rm Y<|Ra Y<|Ra Y<|Ra Y<|Za<|?_
       replace h := lx h ▸ ho1
       obtain rfl := rt h
       exact Zp<|Za0 [some 0, some 1, some 2, some 5, some 6] Y (.cons (.tmp Y)<|.cons (.tmp Y)<|.cons (.tmp Y) .nil) (.cons Y (ro1 (by exact tZ_80.symm)<|rlc (.own _ Y)<|rlc (.own _ Y)<|rlc (.dat Y)<|rlc (.dat Y)<|rlc (.dat Y)<|rlc (.dat Y)<|rlc (.dat Y) rln)<|.dead<|.dead<|.cons Y (roO Q5)<|.cons Y (roM D83) .nil) Y Y<|Xe<|rlc (.dat Y)<|rlc (.dat Y)<|rlc (.dat Y) rln
      ·
       exact Zh<|K7 0 2 10 14 59 60 61 Y<|Zs<|R2 ZU Y<|Rm Y<|Za<|⟨_, h, ES [some 0, some 1, some 2, some 5, some 6] (hhp := .cons Y (ro1 (by exact tZ_80.symm)<|rlc (.own _ Y)<|rlc (.own _ Y)<|rlc (.dat Y)<|rlc (.dat Y)<|rlc (.dat Y)<|rlc (.dat Y)<|rlc (.dat Y) rln)<|.dead<|.dead<|.cons Y (roO Q5)<|.cons Y (roM D83) .nil)⟩
     ·
      refine ZM<|?_
      replace h := lx h ▸ ho1
      exact ⟨_, h, ES [some 0, some 1, some 2, some 3, some 4] (hhp := .cons Y (ro1 (by exact tZ_80.symm)<|rlc (.own _ Y)<|rlc (.own _ Y)<|rlc (.dat Y)<|rlc (.dat Y)<|rlc (.dat Y)<|rlc (.dat Y)<|rlc (.dat Y) rln)<|.dead<|.dead<|.cons Y (roO Q5)<|.cons Y (roM D83) .nil)⟩
    ·
     replace h := elr h
     replace h := t8i h
     refine Tr<|Rm Y<|Rm Y<|Rm Y<|Rq Y (Zy (ov Y) Y Y)<|Rq Y (Zd (ov Y) Y Y Zqg)<|Rx Y (Zk (ov Y) (ov Y) (Ze tS3) Y Y Y (Nat.le_of_ble_eq_true Y) (Zb Y) Y)<|Rq Y (Zy (ov Y) Y Y)<|Rq Y (Zd (ov Y) Y Y Zqr)<|Rx Y (Zk (ov Y) (ov Y) (Ze tS4) Y Y Y (Nat.le_of_ble_eq_true Y) (Zb Y) Y)<|Za<|K1 2 Y<|QS [some ⟨80, [[.own 3 memories.length, .own 4 spots.length, .int .i64 copies, .bool frozen, .bool stopped, .int .i64 y3.1, .bool true]]⟩, none, none, some ⟨60, List.map O60 memories⟩, some ⟨83, List.map R83 spots⟩] Y<|Tr<|Rm Y<|Ra Y<|Ra Y<|Ra Y<|Za<|?_
     obtain rfl := rt h
     exact Zp<|Za0 [some 0, some 1, some 2, some 3, some 4] Y (.cons (.tmp Y)<|.cons (.tmp Y)<|.cons (.tmp Y) .nil) (.cons Y (ro1 (by exact tZ_80.symm)<|rlc (.own _ Y)<|rlc (.own _ Y)<|rlc (.dat Y)<|rlc (.dat Y)<|rlc (.dat Y)<|rlc (.dat Y)<|rlc (.dat Y) rln)<|.dead<|.dead<|.cons Y (roO Q5)<|.cons Y (roM D83) .nil) Y Y<|Xe<|rlc (.dat Y)<|rlc (.dat Y)<|rlc (.dat Y) rln
end Go.Proofs.YtnlmjeleocelgaaDoor
