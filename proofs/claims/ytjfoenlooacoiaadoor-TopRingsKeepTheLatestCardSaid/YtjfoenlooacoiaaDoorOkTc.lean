/- A text of the proof: a verified executor of the program form, or the contracts of the functions that the law reaches. -/
import Derived.Test.YtjfoenlooacoiaaDoorOkTb
set_option linter.all false
namespace Go.Proofs.YtjfoenlooacoiaaDoor
open Go Go.Vx
set_option maxRecDepth 10000
set_option maxHeartbeats 1000000
set_option linter.unusedVariables false
theorem Zek {l : List api_Memory} {copies : Int} {r : Int} (h : ZaM l copies = some (.inl r)) :
    GSpec Tryd.prog gl0 16 [.sl 43 (List.map R43 l), .int .i64 copies] [] (.tuple [.lit (.pointer none), .int .i64 r]) [] := Zdo h
theorem Zeo {l : List api_Memory} {copies : Int} {r : ring_Recorder × Int} (h : ZaM l copies = some (.inr r)) :
    GSpec Tryd.prog gl0 16 [.sl 43 (List.map R43 l), .int .i64 copies] [] (.tuple [.ptr 0 1 0 0, .int .i64 r.2]) [some ⟨80, [[.own 1 r.1.bank.memories.length, .own 2 r.1.bank.spots.length, .int .i64 r.1.copies, .bool r.1.frozen, .bool r.1.stopped, .int .i64 r.1.last, .bool r.1.some_]]⟩, some ⟨43, List.map O43 r.1.bank.memories⟩, some ⟨83, List.map R83 r.1.bank.spots⟩] := Zdo h
theorem Zdy {r_ : ring_Recorder} {power : Int} {r : Int} (h : Xu r_ power = some r) :
 CSpec Tryd.prog gl0 34 [.rp [.sl 43 (List.map R43 r_.bank.memories), .sl 83 (List.map R83 r_.bank.spots), .int .i64 r_.copies, .bool r_.frozen, .bool r_.stopped, .int .i64 r_.last, .bool r_.some_] 0, .int .i64 power] (.int .i64 r) := by
 unfold Xu at h
 replace h := Qr h
 refine So Tryd.func34 Y fun w0 A=>Tr<|Ra Y<|Za<|Zg<|Ze<|K2 0 1 Y<|Tr<|Rm Y<|R1 ZC Y<|Rq Y (ZL (ov Y) ZkD)<|Rq Y (Zd (ov Y) tS4 Y)<|Ra Y<|Za<|K3 0 1 5 Y<|If h Y (fun h=>?_) fun h=>?_
 ·
  refine K0<|Tr<|Ra Y<|Za<|?_
  obtain rfl := rt h
  exact Zi (ZN Y (.one<|rb Y))
 ·
  refine K2 0 1 Y<|Tr<|Rm Y<|R1 ZC Y<|Rq Y (ZL (ov Y) Zjb)<|Rq Y (Zd (ov Y) tS4 Y)<|Ra Y<|Za<|K2 1 10 Y<|If h Y (fun h=>?_) fun h=>?_
  ·
   refine K0<|Tr<|Ra Y<|Za<|?_
   obtain rfl := rt h
   exact Zi (ZN Y (.one<|rb Y))
  ·
   refine K1 1 Y<|Tr<|Rm Y<|bE h fun y h_y h=>Rq Y (Zq (QN h_y)<|.cons (ov Y) (.b Y)<|.cons (ov Y) (.b Y)<|.cons (ov Y) (.b Y) .nil)<|R1 XV Y<|Ra Y<|Za<|K1 15 Y<|If h Y (fun h=>?_) fun h=>?_
   ·
    refine K0<|Tr<|Ra Y<|Za<|?_
    obtain rfl := rt h
    exact Zi (ZN Y (.one<|rb Y))
   ·
    refine Zf<|K0<|Tr<|Ra Y<|Za<|?_
    obtain rfl := rt h
    exact Zi (ZN Y (.one<|rb Y))
theorem ZdK {f : Vector Int 64} {r : (List api_Flaw)} (h : ZaQ f = some r) :
 CSpec Tryd.prog gl0 20 [.agg (List.map C26 f.toList)] (.sl 99 (List.map R99 r)) := by
 unfold ZaQ at h
 replace h := Qr h
 refine So Tryd.func20 Y fun w0 A=>Tr<|Rq Y (ZcG (cva<|ov Y) arL tZ_28<|arD fun _ => Y)<|Ra Y<|Za<|K1 1 Y<|Tr<|Ra Y<|Za<|I1 (fun out=>⟨[(1, .rp (List.map C26 f.toList) 0), (3, .own 0 out.length)], [some ⟨99, List.map R99 out⟩]⟩) h (fun h=>?_) fun out h=>?_
 ·
  refine Tr<|Rq Y (Z9 (ov Y) JG (QS<|Zt arL) arL)<|Rm Y<|Za<|Ze<|?_
  obtain ⟨r1, hl1, ho1⟩ := QH h
  refine L2 (fun out2 i=>⟨[(1, .rp (List.map C26 f.toList) 0), (3, .own 0 out2.length), (7, .agg (List.map C26 f.toList)), (8, .int .i64 i)], [some ⟨99, List.map R99 out2⟩]⟩) hl1 (ES [none]) fun n1 out2 i h=>?_
  unfold JM at h
  refine Tr<|R2 ZD Y<|Za<|Zg<|If h Y (fun h=>?_) fun h=>?_
  ·
   refine Zf<|Zg<|Ze<|K4 1 3 7 8 Y<|Tr<|Rm Y<|bE h fun x h_x h=>Rq Y (Zkx (ov Y) (ov Y) ZaI ZaW h_x)<|Ra Y<|Ra Y<|Za<|K6 1 3 4 5 7 8 Y<|Tr<|Rm Y<|R2 ZaR Y<|Za<|K6 1 3 4 7 8 13 Y<|If h Y (fun h=>?_) fun h=>?_
   ·
    exact K5 1 3 4 7 8 Y<|Zk<|Rm Y<|Rm Y<|Rq Y (Zbv (ys := [_, _]) Zit ZiI ZkQ (.cons (cvs (ov Y)<|Qm Y)<|.cons (cvs (ov Y)<|Qm Y) .nil) Y)<|R_q (.sl 99<|List.map R99 ([(api_Flaw.mk i 5)] : List api_Flaw)) Y (ZbG ZfG (.cons (cva<|ov Y) Y (pwD Y) .nil) Y Y)<|bE h fun l h_l h=>Rx Y (QQ (ov Y) (QT (ov Y) tZ_99) ZfG Y Y Y (fun _=>Zc Y) Y h_l)<|Ra Y<|Za<|K4 1 3 7 8 Y<|Zk<|R2 ZP Y<|Rm Y<|Za<|⟨_, h, ES [some 0]⟩
   ·
    exact Zf<|K4 1 3 7 8 Y<|Zk<|R2 ZP Y<|Rm Y<|Za<|⟨_, h, ES [some 0]⟩
  ·
   refine ZA<|?_
   replace h := lx h ▸ ho1
   exact ⟨_, h, ES [some 0]⟩
 ·
  refine Zg<|Tr<|Rm Y<|Rq Y (ZeN (ov Y) Y Y ZfG)<|R2 ZaR Y<|Za<|K3 1 3 22 Y<|If h Y (fun h=>?_) fun h=>?_
  ·
   refine K1 3 Y<|Tr<|Rm Y<|Ra Y<|Za<|?_
   obtain rfl := rt h
   exact Zi (ZN Y (.one<|.tmp Y<|View.ownM Y Y D99))
  ·
   refine Zf<|I1 (fun out3=>⟨[(1, .rp (List.map C26 f.toList) 0), (3, .own 0 out3.length)], [some ⟨99, List.map R99 out3⟩]⟩) h (fun h=>?_) fun out3 h=>?_
   ·
    refine Zg<|K2 1 3 Y<|Qj (cw := md0) (by kernel_rfl)<|bE h fun x2 h_x2 h=>Dq 0 Y (Xk (ov Y) (ov Y) ZaI h_x2)<|Dq 1 Y (Zd (ov Y) ZaW<|Qu<|Xv (o := 0) (o' := ((Int.toNat 0) * 1)) (Zt arL)<|Xt h_x2)<|bE h fun y h_y h=>Dq 2 Y (Zq (ZaY h_y)<|.cons (ov Y) (.b Y) .nil)<|bE h fun q h_q h=>Dq 3 Y (ZeJ (ov Y) (ov Y) h_q)<|bE h fun x3 h_x3 h=>Dq 4 Y (Xk (og (v := gv_frame_syncs) (k := .u16) (f := C26) (by simp [gl0]) fun _=>Y) (ov Y) Zoj h_x3)<|Dq 5 Y (Zd (ov Y) ZaW<|Qu<|Xv (o := 0) (o' := (q.toNat * 1)) (Zt arL)<|Xt h_x3)<|D2 6 Q4 Y<|Dd<|K3 1 3 30 Y<|If h Y (fun h=>?_) fun h=>?_
    ·
     exact K2 1 3 Y<|Zk<|Rm Y<|Rq Y (Zbv (ys := [_, _]) Zit ZiI ZkQ (.cons (cvs (ov Y)<|Qm Y)<|.cons (cvs (ov Y)<|Qm Y) .nil) Y)<|R_q (.sl 99<|List.map R99 ([(api_Flaw.mk 0 1)] : List api_Flaw)) Y (ZbG ZfG (.cons (cva<|ov Y) Y (pwD Y) .nil) Y Y)<|bE h fun l2 h_l2 h=>Rx Y (QQ (ov Y) (QT (ov Y) tZ_99) ZfG Y Y Y (fun _=>Zc Y) Y h_l2)<|Ra Y<|Za<|⟨_, h, ES [some 0]⟩
    ·
     exact Zf<|⟨_, h, ES [some 0]⟩
   ·
    refine I1 (fun out4=>⟨[(1, .rp (List.map C26 f.toList) 0), (3, .own 0 out4.length)], [some ⟨99, List.map R99 out4⟩]⟩) h (fun h=>?_) fun out4 h=>?_
    ·
     refine Tr<|Ra Y<|Za<|Ze<|?_
     obtain ⟨r2, hl2, ho2⟩ := QH h
     refine L2 (fun out5 i2=>⟨[(1, .rp (List.map C26 f.toList) 0), (3, .own 0 out5.length), (6, .int .i64 i2)], [some ⟨99, List.map R99 out5⟩]⟩) hl2 (ES [some 0]) fun n2 out5 i2 h=>?_
     unfold JL at h
     refine Zg<|Tr<|Rm Y<|R2 ZD Y<|Za<|K4 1 3 6 36 Y<|If h Y (fun h=>?_) fun h=>?_
     ·
      refine Zf<|Zg<|Ze<|K3 1 3 6 Y<|Tr<|Rm Y<|bE h fun x4 h_x4 h=>Rq Y (Xk (ov Y) (ov Y) ZaI h_x4)<|Rq Y (Zd (ov Y) ZaW<|Qu<|Xv (o := 0) (o' := (i2.toNat * 1)) (Zt arL)<|Xt h_x4)<|bE h fun y2 h_y2 h=>Rq Y (Zq (ZbZ h_y2)<|.cons (ov Y) (.b Y) .nil)<|R1 XV Y<|Za<|K4 1 3 6 43 Y<|If h Y (fun h=>?_) fun h=>?_
      ·
       exact K3 1 3 6 Y<|Zk<|Rm Y<|Rm Y<|Rq Y (Zbv (ys := [_, _]) Zit ZiI ZkQ (.cons (cvs (ov Y)<|Qm Y)<|.cons (cvs (ov Y)<|Qm Y) .nil) Y)<|R_q (.sl 99<|List.map R99 ([(api_Flaw.mk i2 2)] : List api_Flaw)) Y (ZbG ZfG (.cons (cva<|ov Y) Y (pwD Y) .nil) Y Y)<|bE h fun l3 h_l3 h=>Rx Y (QQ (ov Y) (QT (ov Y) tZ_99) ZfG Y Y Y (fun _=>Zc Y) Y h_l3)<|Ra Y<|Za<|K3 1 3 6 Y<|Zk<|Rm Y<|R2 ZP Y<|Ra Y<|Za<|⟨_, h, ES [some 0]⟩
      ·
       exact Zf<|K3 1 3 6 Y<|Zk<|Rm Y<|R2 ZP Y<|Ra Y<|Za<|⟨_, h, ES [some 0]⟩
     ·
      refine ZA<|?_
      replace h := lx h ▸ ho2
      exact ⟨_, h, ES [some 0]⟩
    ·
     refine I1 (fun out6=>⟨[(1, .rp (List.map C26 f.toList) 0), (3, .own 0 out6.length)], [some ⟨99, List.map R99 out6⟩]⟩) h (fun h=>?_) fun out6 h=>?_
     ·
      refine Tr<|bE h fun x5 h_x5 h=>Rq Y (Xk (ov Y) (ov Y) ZaI h_x5)<|Rq Y (Zd (ov Y) ZaW<|Qu<|Xv (o := 0) (o' := ((Int.toNat 61) * 1)) (Zt arL)<|Xt h_x5)<|bE h fun y3 h_y3 h=>Rq Y (Zq (JE h_y3)<|.cons (ov Y) (.b Y) .nil)<|bE h fun y4 h_y4 h=>Rq Y (Zq (Zd0 h_y4)<|.cons (ov Y) (.b Y) .nil)<|R2 Q4 Y<|Za<|K3 1 3 53 Y<|If h Y (fun h=>?_) fun h=>?_
      ·
       exact K2 1 3 Y<|Zk<|Rm Y<|Rq Y (Zbv (ys := [_, _]) Zit ZiI ZkQ (.cons (cvs (ov Y)<|Qm Y)<|.cons (cvs (ov Y)<|Qm Y) .nil) Y)<|R_q (.sl 99<|List.map R99 ([(api_Flaw.mk 61 3)] : List api_Flaw)) Y (ZbG ZfG (.cons (cva<|ov Y) Y (pwD Y) .nil) Y Y)<|bE h fun l4 h_l4 h=>Rx Y (QQ (ov Y) (QT (ov Y) tZ_99) ZfG Y Y Y (fun _=>Zc Y) Y h_l4)<|Ra Y<|Za<|⟨_, h, ES [some 0]⟩
      ·
       exact Zf<|⟨_, h, ES [some 0]⟩
     ·
      refine Zg<|Zg<|Qj (cw := md0) (by kernel_rfl)<|bE h fun x6 h_x6 h=>Dq 0 Y (Xk (ov Y) (ov Y) ZaI h_x6)<|Dq 1 Y (Zd (ov Y) ZaW<|Qu<|Xv (o := 0) (o' := ((Int.toNat 62) * 1)) (Zt arL)<|Xt h_x6)<|bE h fun y5 h_y5 h=>Dq 2 Y (Zq (JE h_y5)<|.cons (ov Y) (.b Y) .nil)<|bE h fun q2 h_q2 h=>Dq 3 Y (Zdk (ov Y) (ov Y) h_q2)<|bE h fun x7 h_x7 h=>Dq 4 Y (Xk (ov Y) (ov Y) ZaI h_x7)<|Dq 5 Y (Zd (ov Y) ZaW<|Qu<|Xv (o := 0) (o' := ((Int.toNat 63) * 1)) (Zt arL)<|Xt h_x7)<|bE h fun y6 h_y6 h=>Dq 6 Y (Zq (JE h_y6)<|.cons (ov Y) (.b Y) .nil)<|D2 7 Zd5 Y<|bE h fun y7 h_y7 h=>Dq 8 Y (Zq (ZcO h_y7)<|.cons (ov Y) (.b Y) .nil)<|D2 9 Q4 Y<|Dd<|K2 3 67 Y<|If h Y (fun h=>?_) fun h=>?_
      ·
       refine K1 3 Y<|Zk<|Rm Y<|Rq Y (Zbv (ys := [_, _]) Zit ZiI ZkQ (.cons (cvs (ov Y)<|Qm Y)<|.cons (cvs (ov Y)<|Qm Y) .nil) Y)<|R_q (.sl 99<|List.map R99 ([(api_Flaw.mk 62 4)] : List api_Flaw)) Y (ZbG ZfG (.cons (cva<|ov Y) Y (pwD Y) .nil) Y Y)<|bE h fun l5 h_l5 h=>Rx Y (QQ (ov Y) (QT (ov Y) tZ_99) ZfG Y Y Y (fun _=>Zc Y) Y h_l5)<|Ra Y<|Za<|K1 3 Y<|Tr<|Rm Y<|Ra Y<|Za<|?_
       obtain rfl := rt h
       exact Zi (ZN Y (.one<|.tmp Y<|View.ownM Y Y D99))
      ·
       refine Zf<|K1 3 Y<|Tr<|Rm Y<|Ra Y<|Za<|?_
       obtain rfl := rt h
       exact Zi (ZN Y (.one<|.tmp Y<|View.ownM Y Y D99))
theorem Zdn {f : Vector Int 64} {r : Int × Bool} (h : XQ f = some r) :
 CSpec Tryd.prog gl0 21 [.agg (List.map C26 f.toList)] (.tuple [.int .i64 r.1, .bool r.2]) := by
 unfold XQ at h
 replace h := Qr h
 refine So Tryd.func21 Y fun w0 A=>Tr<|Rq Y (ZcG (cva<|ov Y) arL tZ_28<|arD fun _ => Y)<|Ra Y<|Ra Y<|Za<|Zg<|K1 1 Y<|Tr<|bE h fun x h_x h=>Rq Y (Xk (ov Y) (ov Y) ZaI h_x)<|Rq Y (Zd (ov Y) ZaW<|Qu<|Xv (o := 0) (o' := ((Int.toNat 1) * 1)) (Zt arL)<|Xt h_x)<|bE h fun y h_y h=>Rq Y (Zq (ZbZ h_y)<|.cons (ov Y) (.b Y) .nil)<|R1 XV Y<|Rm Y<|bE h fun x2 h_x2 h=>Rq Y (.guarded ((!y) == false) Y Y Y Y fun h => Xk (ov Y) (ov Y) ZaI<|gdT h_x2 h)<|Rq Y (.guarded ((!y) == false) Y Y Y Y fun h => Zd (ow Y h) ZaW<|Qu<|Xv (o := 0) (o' := ((Int.toNat 2) * 1)) (Zt arL)<|Xt<|gdT h_x2 h)<|bE h fun y2 h_y2 h=>Rq Y (.guarded ((!y) == false) Y Y Y Y fun h => Zq (ZbZ<|gdT h_y2 h)<|.cons (ow Y h) (.b Y) .nil)<|Rq Y (.guarded ((!y) == false) Y Y Y Y fun h => XV<|ow Y h)<|Rq Y (ZbU (ov Y) fun hp=>ow Y<|gF hp)<|Za<|K2 1 13 Y<|If h Y (fun h=>?_) fun h=>?_
 ·
  refine K0<|Tr<|Ra Y<|Ra Y<|Za<|?_
  obtain rfl := rt h
  exact Zi (ZN Y (.two (rb Y)<|rb Y))
 ·
  refine Zf<|K1 1 Y<|Tr<|bE h fun y3 h_y3 h=>Rq Y (Zq (ZaY h_y3)<|.cons (ov Y) (.b Y) .nil)<|Ra Y<|Ra Y<|Za<|?_
  obtain rfl := rt h
  exact Zi (ZN Y (.two (rb Y)<|rb Y))
theorem Zf5 {number : Int} {memories : Int} {copies : Int} {r : (List Int)} (h : Zbc number memories copies = some r) :
 CSpec Tryd.prog gl0 35 [.int .i64 number, .int .i64 memories, .int .i64 copies] (.sl 3 (List.map R3 r)) := by
 unfold Zbc at h
 replace h := Qr h
 refine So Tryd.func35 Y fun w0 A=>Tr<|Ra Y<|Za<|K3 0 1 2 Y<|Tr<|Ra Y<|Za<|I1 (fun out=>⟨[(7, .own 0 out.length)], [some ⟨3, List.map R3 out⟩]⟩) h (fun h=>?_) fun out h=>?_
 ·
  refine Tr<|Rm Y<|Rm Y<|Za<|Ze<|?_
  obtain ⟨r1, hl1, ho1⟩ := QH h
  refine L2 (fun out2 i=>⟨[(0, .int .i64 number), (1, .int .i64 memories), (7, .own 0 out2.length), (9, .int .i64 copies), (10, .int .i64 i)], [some ⟨3, List.map R3 out2⟩]⟩) hl1 (ES [none]) fun n1 out2 i h=>?_
  unfold Jz at h
  refine Tr<|R2 ZD Y<|Za<|Zg<|If h Y (fun h=>?_) fun h=>?_
  ·
   exact Zf<|Zg<|Ze<|K5 0 1 7 9 10 Y<|Tr<|Rm Y<|Ra Y<|Za<|K6 0 1 7 8 9 10 Y<|Zk<|Rm Y<|Rm Y<|Rm Y<|R2 ZP Y<|Rm Y<|bE h fun q h_q h=>Rq Y (ZeJ (ov Y) (ov Y) h_q)<|R_q (.sl 3<|List.map R3 ([q] : List Int)) Y (ZbG Qs (.cons (cvs (ov Y)<|Qm Y) Y (.cons (.b Y) .nil) .nil) Y Y)<|bE h fun l h_l h=>Rx Y (QQ (ov Y) (QT (ov Y) tZ_3) Qs Y Y Y (fun _=>Zc Y) Y h_l)<|Ra Y<|Za<|K5 0 1 7 9 10 Y<|Zk<|R2 ZP Y<|Rm Y<|Za<|⟨_, h, ES [some 0]⟩
  ·
   refine ZA<|?_
   replace h := lx h ▸ ho1
   exact ⟨_, h, ES [some 0]⟩
 ·
  refine Tr<|Rm Y<|Ra Y<|Za<|?_
  obtain rfl := rt h
  exact Zi (ZN Y (.one<|.tmp Y<|View.ownM Y Y D3))
theorem Zad {b : ring_bank} {k : Int} {r : Bool} (h : QD b k = some r) :
 CSpec Tryd.prog gl0 52 [.rp [.sl 43 (List.map R43 b.memories), .sl 83 (List.map R83 b.spots)] 0, .int .i64 k] (.bool r) := by
 unfold QD at h
 replace h := Qr h
 refine So Tryd.func52 Y fun w0 A=>Tr<|Ra Y<|Za<|Zg<|Qj (cw := md0) (by kernel_rfl)<|D1 0 Zb Y<|D1 1 ZC Y<|Dq 2 Y (ZL (ov Y) ZeH)<|Dq 3 Y (Zd (ov Y) Zjg Y)<|D1 4 Zb Y<|bE h fun x h_x h=>Dq 5 Y (ZQ (ov Y) (ov Y) Zjk h_x)<|Dq 6 Y (ZL (ov Y) ZfD)<|Dq 7 Y (Zd (ov Y) tS3 Y)<|D2 8 ZD Y<|D1 9 Zb Y<|Dq 10 Y (.guarded ((decide (x.sector < 0)) == false) Y Y Y Y fun h => Zb<|ov Y)<|Dq 11 Y (.guarded ((decide (x.sector < 0)) == false) Y Y Y Y fun h => ZC<|ow Y h)<|Dq 12 Y (.guarded ((decide (x.sector < 0)) == false) Y Y Y Y fun h => ZL (ow Y h) ZeH)<|Dq 13 Y (.guarded ((decide (x.sector < 0)) == false) Y Y Y Y fun h => Zd (ow Y h) Zjg Y)<|Dq 14 Y (.guarded ((decide (x.sector < 0)) == false) Y Y Y Y fun h => Zb<|ov Y)<|bE h fun x2 h_x2 h=>Dq 15 Y (.guarded ((decide (x.sector < 0)) == false) Y Y Y Y fun h => ZQ (ow Y h) (ow Y h) Zjk<|gdT h_x2 h)<|Dq 16 Y (.guarded ((decide (x.sector < 0)) == false) Y Y Y Y fun h => ZL (ow Y h) Zg1)<|Dq 17 Y (.guarded ((decide (x.sector < 0)) == false) Y Y Y Y fun h => Zd (ow Y h) tS3 Y)<|Dq 18 Y (.guarded ((decide (x.sector < 0)) == false) Y Y Y Y fun h => Zb<|ov Y)<|Dq 19 Y (.guarded ((decide (x.sector < 0)) == false) Y Y Y Y fun h => ZC<|ow Y h)<|Dq 20 Y (.guarded ((decide (x.sector < 0)) == false) Y Y Y Y fun h => ZL (ow Y h) Zdf)<|Dq 21 Y (.guarded ((decide (x.sector < 0)) == false) Y Y Y Y fun h => Zd (ow Y h) ZhL Y)<|Dq 22 Y (.guarded ((decide (x.sector < 0)) == false) Y Y Y Y fun h => Zb<|ov Y)<|bE h fun x3 h_x3 h=>Dq 23 Y (.guarded ((decide (x.sector < 0)) == false) Y Y Y Y fun h => ZQ (ow Y h) (ow Y h) JV<|gdT h_x3 h)<|Dq 24 Y (.guarded ((decide (x.sector < 0)) == false) Y Y Y Y fun h => ZL (ow Y h) Zd2)<|Dq 25 Y (.guarded ((decide (x.sector < 0)) == false) Y Y Y Y fun h => Zd (ow Y h) tS3 Y)<|Dq 26 Y (.guarded ((decide (x.sector < 0)) == false) Y Y Y Y fun h => Zbk (ow Y h)<|ow Y h)<|Dq 27 Y (ZbU (ov Y) fun hp=>ow Y<|gF hp)<|D1 28 QC Y<|Dd<|?_
 obtain rfl := rt h
 exact Zi (ZN Y (.one<|rb Y))
theorem Za8 {b : ring_bank} {k : Int} {r : Int} (h : Xc b k = some r) :
 CSpec Tryd.prog gl0 53 [.rp [.sl 43 (List.map R43 b.memories), .sl 83 (List.map R83 b.spots)] 0, .int .i64 k] (.int .i64 r) := by
 unfold Xc at h
 replace h := Qr h
 refine So Tryd.func53 Y fun w0 A=>Tr<|Ra Y<|Za<|K2 0 1 Y<|Tr<|Rm Y<|R1 ZC Y<|Rq Y (ZL (ov Y) Zdf)<|Rq Y (Zd (ov Y) ZhL Y)<|Rm Y<|bE h fun x h_x h=>Rq Y (ZQ (ov Y) (ov Y) JV h_x)<|Rq Y (Z9 (ov Y) J7 Y Y)<|Rx Y (Qk (row := [_, _, _, _, _]) 0 Y Zgs Y tZ_43)<|Rx Y (Zr (ov Y) (ov Y) (ZI J7 Y) Y Y Y (Nat.le_of_ble_eq_true Y) (Zc Y) Y)<|Za<|K3 0 1 5 Y<|Tr<|Rq Y (Zo (ov Y) Y Y Jp)<|Rq Y (ZM (ov Y) Y Y Y Zc5 Y)<|Rl tZ_47 ZbQ Y<|Ra Y<|Za<|J0 (fun j => (.inr j)) ⟨[], []⟩ h (fun h=>?_) fun h=>?_
 ·
  refine K4 0 1 5 6 Y<|Tr<|Rm Y<|Rm Y<|Za<|Ze<|?_
  obtain ⟨r1, hl1, ho1⟩ := QH h
  refine L1 (fun i=>⟨[(0, .rp [.sl 43 (List.map R43 b.memories), .sl 83 (List.map R83 b.spots)] 0), (1, .int .i64 k), (5, .ptr 0 1 0 0), (6, .int .i64 (x.Sectors.length : Int)), (19, .int .i64 (x.Sectors.length : Int)), (20, .int .i64 i)], [some ⟨43, [[.int .i64 x.Slots, .int .i64 x.Limit, .sl 47 (List.map R47 x.Sectors), .sl 3 (List.map R3 x.Wear), .sl 4 (List.map R4 x.Bad)]]⟩]⟩) hl1 (ES [some 0]) fun n1 i h=>?_
  unfold XP at h
  refine Tr<|R2 ZD Y<|Za<|Zg<|If h Y (fun h=>?_) fun h=>?_
  ·
   refine Zf<|Zg<|Ze<|K6 0 1 5 6 19 20 Y<|Tr<|Rm Y<|Ra Y<|Za<|K7 0 1 5 6 7 19 20 Y<|Tr<|Rm Y<|R1 ZC Y<|Rq Y (ZL (ov Y) ZeH)<|Rq Y (Zd (ov Y) Zjg Y)<|Rm Y<|bE h fun x2 h_x2 h=>Rq Y (ZQ (ov Y) (ov Y) Zjk h_x2)<|Rq Y (ZL (ov Y) ZfD)<|Rq Y (Zd (ov Y) tS3 Y)<|R2 ZP Y<|Rm Y<|R2 ZP Y<|Rm Y<|bE h fun q h_q h=>Rq Y (ZeJ (ov Y) (ov Y) h_q)<|Ra Y<|Za<|Zg<|K7 0 1 5 6 8 19 20 Y<|Qj (cw := md0) (by kernel_rfl)<|Dq 0 Y (Zo (ov Y) Y Y Zc7)<|Dq 1 Y (ZM (ov Y) Y Y Y Zhf Y)<|D1 2 Zb Y<|bE h fun x3 h_x3 h=>Dq 3 Y (ZQ (ov Y) (ov Y) Zh1 h_x3)<|Dq 4 Y (Zd (ov Y) tS4 Y)<|D1 5 XV Y<|D1 6 Zb Y<|Dq 7 Y (.guarded ((!x3) == true) Y Y Y Y fun h => Zo (ov Y) Y Y ZbO)<|Dq 8 Y (.guarded ((!x3) == true) Y Y Y Y fun h => ZM (ow Y h) Y Y Y Zf7 Y)<|Dq 9 Y (.guarded ((!x3) == true) Y Y Y Y fun h => Zb<|ov Y)<|bE h fun x4 h_x4 h=>Dq 10 Y (.guarded ((!x3) == true) Y Y Y Y fun h => ZQ (ow Y h) (ow Y h) Qs<|gdT h_x4 h)<|Dq 11 Y (.guarded ((!x3) == true) Y Y Y Y fun h => Zd (ow Y h) tS3 Y)<|Dq 12 Y (.guarded ((!x3) == true) Y Y Y Y fun h => Zo (ov Y) Y Y Zfx)<|Dq 13 Y (.guarded ((!x3) == true) Y Y Y Y fun h => ZM (ow Y h) Y Y Y tS3 Y)<|Dq 14 Y (.guarded ((!x3) == true) Y Y Y Y fun h => ZD (ow Y h)<|ow Y h)<|Dq 15 Y (Zcp (ov Y) fun hp=>ow Y<|gT hp)<|Dd<|K8 0 1 5 6 8 19 20 51 Y<|If h Y (fun h=>?_) fun h=>?_
   ·
    refine K1 8 Y<|Tr<|Rm Y<|Ra Y<|Za<|?_
    replace h := lx h ▸ ho1
    obtain rfl := rt h
    exact Zi (ZN Y (.one<|rb Y))
   ·
    exact Zf<|K6 0 1 5 6 19 20 Y<|Zk<|R2 ZP Y<|Rm Y<|Za<|⟨_, h, ES [some 0]⟩
  ·
   refine ZA<|?_
   replace h := lx h ▸ ho1
   exact ⟨(), h, ES []⟩
 ·
  replace h := elr h
  replace h := t0i h
  refine Tr<|Ra Y<|Za<|?_
  obtain rfl := rt h
  exact Zi (ZN Y (.one<|rb Y))
theorem Zbl {b : ring_bank} {k : Int} {sector : Int} {r : Int} (h : QB b k sector = some r) :
 CSpec Tryd.prog gl0 54 [.rp [.sl 43 (List.map R43 b.memories), .sl 83 (List.map R83 b.spots)] 0, .int .i64 k, .int .i64 sector] (.int .i64 r) := by
 unfold QB at h
 replace h := Qr h
 refine So Tryd.func54 Y fun w0 A=>Tr<|Ra Y<|Za<|K3 0 1 2 Y<|Tr<|Ra Y<|Za<|I1 (fun most=>⟨[(7, .int .i64 most)], []⟩) h (fun h=>?_) fun most h=>?_
 ·
  refine Tr<|Rm Y<|R1 ZC Y<|Rq Y (ZL (ov Y) Zdf)<|Rq Y (Zd (ov Y) ZhL Y)<|Rm Y<|bE h fun x h_x h=>Rq Y (ZQ (ov Y) (ov Y) JV h_x)<|Rq Y (ZL (ov Y) Jp)<|Rq Y (Zd (ov Y) Zc5 Y)<|Rl tZ_47 ZbQ Y<|Rm Y<|Za<|Ze<|?_
  obtain ⟨r1, hl1, ho1⟩ := QH h
  refine L2 (fun most2 i=>⟨[(2, .int .i64 sector), (7, .int .i64 most2), (20, .sl 47 (List.map R47 x.Sectors)), (21, .int .i64 (x.Sectors.length : Int)), (22, .int .i64 i)], []⟩) hl1 (ES []) fun n1 most2 i h=>?_
  unfold QY at h
  refine Tr<|R2 ZD Y<|Za<|Zg<|If h Y (fun h=>?_) fun h=>?_
  ·
   refine Zf<|Zg<|Ze<|K5 2 7 20 21 22 Y<|Tr<|Rm Y<|bE h fun x2 h_x2 h=>Rq Y (ZQ (ov Y) (ov Y) ZbQ h_x2)<|Rq Y (Zd (ov Y) ZeU Y)<|Ra Y<|Ra Y<|Za<|K7 2 7 8 9 20 21 22 Y<|Tr<|Rm Y<|bE h fun y h_y h=>Rq Y (Zq (Za7 h_y)<|.cons (ov Y) (.b Y) .nil)<|Rm Y<|Rq Y (Zj (ov Y) Y)<|Rq Y (Zj (ov Y) Y)<|Rq Y (Zj (ov Y) Y)<|Ra Y<|Ra Y<|Ra Y<|Za<|K8 2 7 8 10 12 20 21 22 Y<|Tr<|Rm Y<|Rm Y<|Rq Y (.guarded (y.2.2 == true) Y Y Y Y fun h => Zb<|ov Y)<|Rq Y (.guarded (y.2.2 == true) Y Y Y Y fun h => Zb<|ov Y)<|Rq Y (.guarded (y.2.2 == true) Y Y Y Y fun h => Q4 (ow Y h)<|ow Y h)<|Rq Y (Zcp (ov Y) fun hp=>ow Y<|gT hp)<|Za<|K7 2 7 10 20 21 22 38 Y<|If h Y (fun h=>?_) fun h=>?_
   ·
    exact K6 2 7 10 20 21 22 Y<|Zk<|Rm Y<|Rm Y<|Rq Y (Zhi (ov Y) (ov Y) Y)<|Ra Y<|Za<|K5 2 7 20 21 22 Y<|Zk<|R2 ZP Y<|Rm Y<|Za<|⟨_, h, ES []⟩
   ·
    exact Zf<|K5 2 7 20 21 22 Y<|Zk<|R2 ZP Y<|Rm Y<|Za<|⟨_, h, ES []⟩
  ·
   refine ZA<|?_
   replace h := lx h ▸ ho1
   exact ⟨_, h, ES []⟩
 ·
  refine Tr<|Rm Y<|R2 ZP Y<|Ra Y<|Za<|?_
  obtain rfl := rt h
  exact Zi (ZN Y (.one<|rb Y))
theorem ZeD {b : ring_bank} {l : List Int} {r : Int} (h : Jt b l = some r) :
 CSpec Tryd.prog gl0 36 [.rp [.sl 43 (List.map R43 b.memories), .sl 83 (List.map R83 b.spots)] 0, .sl 3 (List.map R3 l)] (.int .i64 r) := by
 unfold Jt at h
 replace h := Qr h
 refine So Tryd.func36 Y fun w0 A=>Tr<|Ra Y<|Za<|J0 (fun j => (.inr j)) ⟨[(0, .rp [.sl 43 (List.map R43 b.memories), .sl 83 (List.map R83 b.spots)] 0), (1, .sl 3 (List.map R3 l))], []⟩ h (fun h=>?_) fun h=>?_
 ·
  refine K2 0 1 Y<|Tr<|Rm Y<|Rl tZ_3 Qs Y<|Rm Y<|Za<|Ze<|?_
  obtain ⟨r1, hl1, ho1⟩ := QH h
  refine L1 (fun i=>⟨[(0, .rp [.sl 43 (List.map R43 b.memories), .sl 83 (List.map R83 b.spots)] 0), (1, .sl 3 (List.map R3 l)), (9, .sl 3 (List.map R3 l)), (10, .int .i64 (l.length : Int)), (11, .int .i64 i)], []⟩) hl1 (ES []) fun n1 i h=>?_
  unfold Xy at h
  refine Tr<|R2 ZD Y<|Za<|Zg<|If h Y (fun h=>?_) fun h=>?_
  ·
   refine Zf<|Zg<|Ze<|K5 0 1 9 10 11 Y<|Tr<|bE h fun x h_x h=>Rq Y (ZQ (ov Y) (ov Y) Qs h_x)<|Rq Y (Zd (ov Y) tS3 Y)<|Ra Y<|Za<|K6 0 1 6 9 10 11 Y<|Tr<|Rm Y<|Rm Y<|bE h fun y h_y h=>Rq Y (Zq (Zad h_y)<|.cons (ov Y) (.b Y)<|.cons (ov Y) (.b Y) .nil)<|Rm Y<|Rq Y (.guarded (y == true) Y Y Y Y fun h => Zb<|ov Y)<|Rq Y (.guarded (y == true) Y Y Y Y fun h => Zb<|ov Y)<|bE h fun y2 h_y2 h=>Rq Y (.guarded (y == true) Y Y Y Y fun h => Zq (Za8<|gdT h_y2 h)<|.cons (ow Y h) (.b Y)<|.cons (ow Y h) (.b Y) .nil)<|Rq Y (.guarded (y == true) Y Y Y Y fun h => ZD (ow Y h)<|ov Y)<|Rq Y (Zcp (ov Y) fun hp=>ow Y<|gT hp)<|Za<|K6 0 1 9 10 11 23 Y<|If h Y (fun h=>?_) fun h=>?_
   ·
    refine K0<|Tr<|Ra Y<|Za<|?_
    replace h := lx h ▸ ho1
    obtain rfl := rt h
    exact Zi (ZN Y (.one<|rb Y))
   ·
    exact Zf<|K5 0 1 9 10 11 Y<|Zk<|R2 ZP Y<|Rm Y<|Za<|⟨_, h, ES []⟩
  ·
   refine ZA<|?_
   replace h := lx h ▸ ho1
   exact ⟨(), h, ES []⟩
 ·
  replace h := elr h
  replace h := t0i h
  refine J0 (fun j => (.inr j)) ⟨[], []⟩ h (fun h=>?_) fun h=>?_
  ·
   refine Tr<|Rm Y<|Rl tZ_3 Qs Y<|Rm Y<|Za<|Ze<|?_
   obtain ⟨r2, hl2, ho2⟩ := QH h
   refine L1 (fun i2=>⟨[(0, .rp [.sl 43 (List.map R43 b.memories), .sl 83 (List.map R83 b.spots)] 0), (25, .sl 3 (List.map R3 l)), (26, .int .i64 (l.length : Int)), (27, .int .i64 i2)], []⟩) hl2 (ES []) fun n2 i2 h=>?_
   unfold Xz at h
   refine Tr<|R2 ZD Y<|Za<|Zg<|If h Y (fun h=>?_) fun h=>?_
   ·
    refine Zf<|Zg<|Ze<|K4 0 25 26 27 Y<|Tr<|bE h fun x2 h_x2 h=>Rq Y (ZQ (ov Y) (ov Y) Qs h_x2)<|Rq Y (Zd (ov Y) tS3 Y)<|Ra Y<|Za<|K5 0 8 25 26 27 Y<|Tr<|Rm Y<|Rm Y<|bE h fun y3 h_y3 h=>Rq Y (Zq (Zad h_y3)<|.cons (ov Y) (.b Y)<|.cons (ov Y) (.b Y) .nil)<|Rm Y<|Rq Y (.guarded (y3 == true) Y Y Y Y fun h => Zb<|ov Y)<|Rq Y (.guarded (y3 == true) Y Y Y Y fun h => Zb<|ov Y)<|Rq Y (.guarded (y3 == true) Y Y Y Y fun h => Zb<|ov Y)<|Rq Y (.guarded (y3 == true) Y Y Y Y fun h => Zb<|ov Y)<|bE h fun y4 h_y4 h=>Rq Y (.guarded (y3 == true) Y Y Y Y fun h => Zq (Za8<|gdT h_y4 h)<|.cons (ow Y h) (.b Y)<|.cons (ow Y h) (.b Y) .nil)<|bE h fun y5 h_y5 h=>Rq Y (.guarded (y3 == true) Y Y Y Y fun h => Zq (Zbl<|gdT h_y5 h)<|.cons (ow Y h) (.b Y)<|.cons (ow Y h) (.b Y)<|.cons (ow Y h) (.b Y) .nil)<|Rq Y (.guarded (y3 == true) Y Y Y Y fun h => ZaR (ow Y h)<|ov Y)<|Rq Y (Zcp (ov Y) fun hp=>ow Y<|gT hp)<|Za<|K5 0 25 26 27 42 Y<|If h Y (fun h=>?_) fun h=>?_
    ·
     refine K0<|Tr<|Ra Y<|Za<|?_
     replace h := lx h ▸ ho2
     obtain rfl := rt h
     exact Zi (ZN Y (.one<|rb Y))
    ·
     exact Zf<|K4 0 25 26 27 Y<|Zk<|R2 ZP Y<|Rm Y<|Za<|⟨_, h, ES []⟩
   ·
    refine ZA<|?_
    replace h := lx h ▸ ho2
    exact ⟨(), h, ES []⟩
  ·
   replace h := elr h
   replace h := t0i h
   refine Tr<|Ra Y<|Za<|?_
   obtain rfl := rt h
   exact Zi (ZN Y (.one<|rb Y))
theorem Zhg {f : Vector Int 64} {r : Bool} (h : Zcl f = some r) :
 CSpec Tryd.prog gl0 55 [.rp (List.map C26 f.toList) 0] (.bool r) := by
 unfold Zcl at h
 replace h := Qr h
 refine So Tryd.func55 Y fun w0 A=>Tr<|Ra Y<|Za<|J0 (fun j => (.inr j)) ⟨[], []⟩ h (fun h=>?_) fun h=>?_
 ·
  refine K1 0 Y<|Tr<|Rm Y<|Za<|Ze<|?_
  obtain ⟨r1, hl1, ho1⟩ := QH h
  refine L1 (fun i=>⟨[(0, .rp (List.map C26 f.toList) 0), (4, .int .i64 i)], []⟩) hl1 (ES []) fun n1 i h=>?_
  unfold Zas at h
  refine Tr<|R2 ZD Y<|Za<|Zg<|If h Y (fun h=>?_) fun h=>?_
  ·
   refine Zf<|Zg<|Ze<|K2 0 4 Y<|Tr<|Rm Y<|Ra Y<|Za<|K3 0 3 4 Y<|Tr<|Rm Y<|Rm Y<|R1 ZC Y<|bE h fun x h_x h=>Rq Y (Xk (ov Y) (ov Y) ZaI h_x)<|Rq Y (Zd (ov Y) ZaW<|Qu<|Xv (o := 0) (o' := (i.toNat * 1)) (Zt arL)<|Xt h_x)<|R2 ZaR Y<|Za<|K3 0 4 12 Y<|If h Y (fun h=>?_) fun h=>?_
   ·
    refine K0<|Tr<|Ra Y<|Za<|?_
    replace h := lx h ▸ ho1
    obtain rfl := rt h
    exact Zi (ZN Y (.one<|rb Y))
   ·
    exact Zf<|K2 0 4 Y<|Zk<|R2 ZP Y<|Rm Y<|Za<|⟨_, h, ES []⟩
  ·
   refine ZA<|?_
   replace h := lx h ▸ ho1
   exact ⟨(), h, ES []⟩
 ·
  replace h := elr h
  replace h := t0i h
  refine Tr<|Ra Y<|Za<|?_
  obtain rfl := rt h
  exact Zi (ZN Y (.one<|rb Y))
theorem ZdS {p : Vector Int 96} {i : Int} {w : Int} {r : (Vector Int 96)} (h : Jr p i w = some r) :
 GSpec Tryd.prog gl0 80 [.ptr 0 1 0 0, .int .i64 i, .int .u16 w] [some ⟨112, [(List.map C5 p.toList)]⟩] (.tuple []) [some ⟨112, [(List.map C5 r.toList)]⟩] := by
 unfold Jr at h
 replace h := Qr h
 refine Qz (by kernel_rfl) Tryd.func80 Y Y<|?_
 intro w0 A W φ0
 refine Tr<|Rm Y<|bE h fun q h_q h=>Rq Y (ZhI (ov Y) (ov Y) h_q)<|R2 ZgU Y<|Ra Y<|Za<|Zg<|K4 0 1 2 6 Y<|Tr<|Rm Y<|bE h fun q2 h_q2 h=>Rq Y (ZeJ (ov Y) (ov Y) h_q2)<|R2 Zbk Y<|Za<|K4 0 2 6 12 Y<|If h Y (fun h=>?_) fun h=>?_
 ·
  refine Zg<|K3 0 2 6 Y<|Qj (cw := ⟨false, false, [], [20, 24], []⟩) (by kernel_rfl)<|D1 0 Zb Y<|D1 1 Zb Y<|D1 5 Zb Y<|bE h fun q3 h_q3 h=>Dq 6 Y (ZbM (ov Y) (ov Y) h_q3)<|Dq 7 Y (Xn (ov Y) Zg8 tI5 Y)<|D1 12 Zb Y<|D1 13 Zb Y<|D2 14 ZP Y<|Dq 15 Y (Zp (ov Y) Y Y)<|bE h fun x h_x h=>Dq 16 Y (XZ (ov Y) (ov Y) ZcC Y Y h_x)<|Dq 17 Y (ZM (ov Y) Y Y Y tS5<|Qu<|Xv (o := 0) (o' := ((i64 ((i64 (q * 3)) + 1)).toNat * 1)) (Zt arL)<|Xt h_x)<|Dq 20 Y (Zp (ov Y) Y Y)<|bE h fun x2 h_x2 h=>Dq 21 Y (XZ (ov Y) (ov Y) ZcC Y Y h_x2)<|Z0 2 _ Y (by kernel_rfl) Y Y (fun hp'=>Zb<|ov Y)<|Z0 3 _ Y (by kernel_rfl) Y Y (fun hp'=>Zb<|ov Y)<|Z0 4 _ Y (by kernel_rfl) Y Y (fun hp'=>Zhw (ov Y) (ov Y) Y)<|Z0 8 _ Y (by kernel_rfl) Y Y (fun hp'=>Zb<|ov Y)<|Z0 9 _ Y (by kernel_rfl) Y Y (fun hp'=>Zbn (ov Y)<|ov Y)<|bE h fun q4 h_q4 h=>Z0 10 _ Y (by kernel_rfl) Y Y (fun hp'=>Zdk (ov Y) (ov Y) h_q4)<|Z0 11 _ Y (by kernel_rfl) Y Y (fun hp'=>Xn (ov Y) Zg8 tI5 Y)<|Z0 18 _ Y (by kernel_rfl) Y Y (fun hp'=>Zbn (ov Y)<|ov Y)<|Z0 19 _ Y (by kernel_rfl) Y Y (fun hp'=>Zd5 (ov Y)<|ov Y)<|Dw 23 22 Y (Zp (ov Y) Y Y) (Zr (ov Y) (ov Y) (Zl tS5) Y Y Y (arB h_x2) (Zc Y)<|arS h_x2) ?_ ?_
  ·
   refine Do 22 Y (Zr (ov Y) (ov Y) (Zl tS5) Y Y Y (arB h_x2) (Zc Y)<|arS h_x2)<|bE h fun x3 h_x3 h=>Dq 24 Y (XZ (ov Y) (ov Y) ZcC Y Y h_x3)<|Do 25 Y (Zr (ov Y) (ov Y) (Zl tS5) Y Y Y (arB h_x3) (Zc Y)<|arS h_x3)<|Dd<|?_
   obtain rfl := rt h
   exact Zi<|ZaU [some 0] Y .nil (.cons Y (ro1 (by exact Eq.trans (b := 96) arL tZ_112.symm)<|rld<|arD fun _ => Y) .nil) Y Y<|QV rln
  ·
   refine Dq 23 Y (Zp (ov Y) Y Y)<|bE h fun x3 h_x3 h=>Dq 24 Y (XZ (ov Y) (ov Y) ZcC Y Y h_x3)<|Do 25 Y (Zr (ov Y) (ov Y) (Zl tS5) Y Y Y (arB h_x3) (Zc Y)<|arS h_x3)<|Dd<|?_
   obtain rfl := rt h
   exact Zi<|ZaU [some 0] Y .nil (.cons Y (ro1 (by exact Eq.trans (b := 96) arL tZ_112.symm)<|rld<|arD fun _ => Y) .nil) Y Y<|QV rln
 ·
  refine Zf<|K3 0 2 6 Y<|Qj (cw := ⟨false, false, [], [52, 55], []⟩) (by kernel_rfl)<|D1 0 Zb Y<|D1 1 Zb Y<|D2 2 ZP Y<|D1 6 Zb Y<|D1 7 Zb Y<|D2 8 ZP Y<|Dq 9 Y (Zp (ov Y) Y Y)<|bE h fun x4 h_x4 h=>Dq 10 Y (XZ (ov Y) (ov Y) ZcC Y Y h_x4)<|Dq 11 Y (ZM (ov Y) Y Y Y tS5<|Qu<|Xv (o := 0) (o' := ((i64 ((i64 (q * 3)) + 1)).toNat * 1)) (Zt arL)<|Xt h_x4)<|D2 12 Zbn Y<|D1 13 Zb Y<|bE h fun q5 h_q5 h=>Dq 14 Y (ZbM (ov Y) (ov Y) h_q5)<|Dq 15 Y (Xn (ov Y) Zg8 tI5 Y)<|D2 16 Zd5 Y<|Dq 19 Y (Zp (ov Y) Y Y)<|bE h fun x5 h_x5 h=>Dq 20 Y (XZ (ov Y) (ov Y) ZcC Y Y h_x5)<|Z0 3 _ Y (by kernel_rfl) Y Y (fun hp'=>Zb<|ov Y)<|Z0 4 _ Y (by kernel_rfl) Y Y (fun hp'=>Zb<|ov Y)<|Z0 5 _ Y (by kernel_rfl) Y Y (fun hp'=>Zhw (ov Y) (ov Y) Y)<|Z0 17 _ Y (by kernel_rfl) Y Y (fun hp'=>Zb<|ov Y)<|Z0 18 _ Y (by kernel_rfl) Y Y (fun hp'=>Xn (ov Y) Zg8 tI5 Y)<|Dw 22 21 Y (Zp (ov Y) Y Y) (Zr (ov Y) (ov Y) (Zl tS5) Y Y Y (arB h_x5) (Zc Y)<|arS h_x5) ?_ ?_
  ·
   refine Do 21 Y (Zr (ov Y) (ov Y) (Zl tS5) Y Y Y (arB h_x5) (Zc Y)<|arS h_x5)<|bE h fun x6 h_x6 h=>Dq 23 Y (XZ (ov Y) (ov Y) ZcC Y Y h_x6)<|Do 24 Y (Zr (ov Y) (ov Y) (Zl tS5) Y Y Y (arB h_x6) (Zc Y)<|arS h_x6)<|Dd<|?_
   obtain rfl := rt h
   exact Zds [some 0] Y .nil (.cons Y (ro1 (by exact Eq.trans (b := 96) arL tZ_112.symm)<|rld<|arD fun _ => Y) .nil) Y Y<|QV rln
  ·
   refine Dq 22 Y (Zp (ov Y) Y Y)<|bE h fun x6 h_x6 h=>Dq 23 Y (XZ (ov Y) (ov Y) ZcC Y Y h_x6)<|Do 24 Y (Zr (ov Y) (ov Y) (Zl tS5) Y Y Y (arB h_x6) (Zc Y)<|arS h_x6)<|Dd<|?_
   obtain rfl := rt h
   exact Zds [some 0] Y .nil (.cons Y (ro1 (by exact Eq.trans (b := 96) arL tZ_112.symm)<|rld<|arD fun _ => Y) .nil) Y Y<|QV rln
theorem Zf8 {p : Vector Int 96} {f : Vector Int 64} {r : (Vector Int 96)} (h : Zdm p f = some r) :
 GSpec Tryd.prog gl0 56 [.ptr 0 1 0 0, .rp (List.map C26 f.toList) 0] [some ⟨112, [(List.map C5 p.toList)]⟩] (.tuple []) [some ⟨112, [(List.map C5 r.toList)]⟩] := by
 unfold Zdm at h
 replace h := Qr h
 refine Qz (by kernel_rfl) Tryd.func56 Y Y<|?_
 intro w0 A W φ0
 refine Tr<|Rm Y<|Za<|Ze<|?_
 obtain ⟨r1, hl1, ho1⟩ := QH h
 refine L2 (fun o i=>⟨[(0, .ptr 0 1 0 0), (1, .rp (List.map C26 f.toList) 0), (5, .int .i64 i)], [some ⟨112, [(List.map C5 o.toList)]⟩]⟩) hl1 (ES [some 0]) fun n1 o i h=>?_
 unfold Zag at h
 refine Tr<|R2 ZD Y<|Za<|Zg<|If h Y (fun h=>?_) fun h=>?_
 ·
  exact Zf<|Zg<|Ze<|K3 0 1 5 Y<|Tr<|Rm Y<|Ra Y<|Za<|K4 0 1 4 5 Y<|Zk<|Rm Y<|Rm Y<|Rm Y<|Rm Y<|R1 ZC Y<|bE h fun x h_x h=>Rq Y (Xk (ov Y) (ov Y) ZaI h_x)<|Rq Y (Zd (ov Y) ZaW<|Qu<|Xv (o := 0) (o' := (i.toNat * 1)) (Zt arL)<|Xt h_x)<|bE h fun y h_y h=>Rx Y (ZY [0] (ZdS h_y) (.cons (ov Y) (.ptr _ _ _ Y)<|.cons (ov Y) (.dat Y)<|.cons (ov Y) (.dat Y) .nil) (.cons Y (ro1 (by exact Eq.trans (b := 96) arL tZ_112.symm)<|rld<|arD fun _ => Y) .nil) Y (.lent 0 (.inl Y) Y (ro1 (by exact Eq.trans (b := 96) arL tZ_112.symm)<|rld<|arD fun _ => Y) .nil) Y Y<|QV<|rld Y)<|Za<|K3 0 1 5 Y<|Zk<|R2 ZP Y<|Rm Y<|Za<|⟨_, h, ES [some 0]⟩
 ·
  refine ZA<|?_
  replace h := lx h ▸ ho1
  obtain rfl := rt h
  exact Zds [some 0] Y .nil (.cons Y (ro1 (by exact Eq.trans (b := 96) arL tZ_112.symm)<|rld<|arD fun _ => Y) .nil) Y Y<|QV rln
theorem Zfq {f : Vector Int 64} {r : (List Int) × Int} (h : Zaq f = some r) :
 CSpec Tryd.prog gl0 37 [.agg (List.map C26 f.toList)] (.tuple [.sl 5 (List.map R5 r.1), .int .i64 r.2]) := by
 unfold Zaq at h
 replace h := Qr h
 refine So Tryd.func37 Y fun w0 A=>Tr<|Rq Y (ZcG (cva<|ov Y) arL tZ_28<|arD fun _ => Y)<|Ra Y<|Ra Y<|Za<|Zg<|K1 1 Y<|Tr<|bE h fun y h_y h=>Rq Y (Zq (Zhg h_y)<|.cons (ov Y) (.b Y) .nil)<|Za<|If h Y (fun h=>?_) fun h=>?_
 ·
  refine K0<|Tr<|Ra Y<|Ra Y<|Za<|?_
  obtain rfl := rt h
  exact Zi (ZN Y (.two (.tmp Y<|View.nils 5)<|rb Y))
 ·
  refine Zf<|K1 1 Y<|Tr<|Rx Y (Qk (row := (List.map C5 (Vector.replicate 96 0).toList)) 0 Y Zm0 Y tZ_112)<|Za<|Tr<|bE h fun y2 h_y2 h=>Rx Y (ZY [0] (Zf8 h_y2) (.cons (ov Y) (.ptr _ _ _ Y)<|.cons (ov Y) (.dat Y) .nil) (.cons Y (ro1 (by exact Eq.trans (b := 96) arL tZ_112.symm)<|rld<|arD fun _ => Y) .nil) Y (.lent 0 (.inl Y) Y (ro1 (by exact Eq.trans (b := 96) arL tZ_112.symm)<|rld<|arD fun _ => Y) .nil) Y Y<|QV<|rld Y)<|Za<|K1 4 Y<|Tr<|bE h fun l h_l h=>QR (Ent.sel [none] (sr 4 Y (.frp ⟨Y, ⟨_, Y⟩, Y, (arD fun _ => Y)⟩) sn) (.row 112 .nil) Y Y)<|Rq Y (ZjR (f := C5) (ov Y) ZcC tZ_5 (Zt arL) Y on on h_l)<|Ra Y<|Ra Y<|Za<|?_
  obtain rfl := rt h
  exact Zi (ZN Y (.two (rb Y)<|rb Y))
theorem Zes {s : List Int} {power : Int} {r : Int × Bool × (List Int)} (h : Q0 s power = some r) :
 GSpec Tryd.prog gl0 81 [.own 0 s.length, .int .i64 power] [some ⟨5, List.map R5 s⟩] (.tuple [.int .i64 r.1, .bool r.2.1]) [some ⟨5, List.map R5 r.2.2⟩] := by
 unfold Q0 at h
 replace h := Qr h
 refine Qz (by kernel_rfl) Tryd.func81 Y Y<|?_
 intro w0 A W φ0
 refine Tr<|Ra Y<|Ra Y<|Za<|K2 0 1 Y<|Tr<|Rm Y<|Ra Y<|Za<|Zg<|K3 0 1 6 Y<|Tr<|Rm Y<|R2 Zbk Y<|Za<|K4 0 1 6 10 Y<|If h Y (fun h=>?_) fun h=>?_
 ·
  refine K3 0 1 6 Y<|Zk<|Rm Y<|Rm Y<|Rq Y (ZeN (ov Y) Y Y XJ)<|bE h fun q h_q h=>Rq Y (ZhI (ov Y) (ov Y) h_q)<|bE h fun u h_u h=>Rq Y (ZmT (ov Y) Y Y XJ on (oi<|ov Y) h_u)<|Ra Y<|Za<|I1 (fun o=>⟨[(1, .int .i64 power)], [some ⟨5, List.map R5 o⟩]⟩) h (fun h=>?_) fun o h=>?_
  ·
   refine K2 1 6 Y<|Tr<|Rm Y<|Rq Y (ZlC (ov Y) Y (List.length_map ..) XJ)<|Rm Y<|Za<|Ze<|?_
   obtain ⟨r1, hl1, ho1⟩ := QH h
   refine L2 (fun o2 i=>⟨[(1, .int .i64 power), (6, .osl 0 o2.length (Int.toNat 0) (Int.toNat (q - 0))), (17, .int .i64 ((Int.toNat (q - 0) : Nat) : Int)), (18, .int .i64 i)], [some ⟨5, List.map R5 o2⟩]⟩) hl1 (ES [some 0]<|sd 1 Y Y<|sr 6 Y (.osl _ _ _ Y)<|sd 17 Y Y<|sd 18 Y Y sn) fun n1 o2 i h=>?_
   unfold Qw at h
   refine Tr<|R2 ZD Y<|Za<|Zg<|If h Y (fun h=>?_) fun h=>?_
   ·
    exact Zf<|Zg<|Ze<|K4 1 6 17 18 Y<|Tr<|Rm Y<|Ra Y<|Za<|K5 1 6 7 17 18 Y<|Zk<|Rm Y<|Rm Y<|bE h fun u2 h_u2 h=>bE h fun x2 h_x2 h=>Rq Y (ZlD (ov Y) (ov Y) XJ Y Y (Ze5 h_u).1 h_u2 h_x2)<|Rx Y (Xl (u' := 255) (ov Y) (ov Y) (Zl tS5) Y Y h_x2 Y (Zc Y) Y)<|Za<|K4 1 6 17 18 Y<|Zk<|R2 ZP Y<|Rm Y<|Za<|⟨_, h, ES [some 0]<|sd 1 Y Y<|sr 6 Y (Zpb (Eq.symm<|(List.length_set ..).trans Y) Y)<|sd 17 Y Y<|sd 18 Y Y sn⟩
   ·
    refine ZA<|?_
    replace h := lx h ▸ ho1
    exact ⟨_, h, ES [some 0]⟩
  ·
   refine Tr<|Rm Y<|R2 ZaV Y<|Rq Y (Zhi (ov Y) (ov Y) Y)<|Rm Y<|R2 ZaR Y<|Ra Y<|Ra Y<|Za<|?_
   obtain rfl := rt h
   exact Zi<|ZaU [some 0] Y (.cons (.tmp Y)<|.cons (.tmp Y) .nil) (.cons Y (roM D5) .nil) Y Y<|QV<|rlc (.dat Y)<|rlc (.dat Y) rln
 ·
  refine Zf<|I1 (fun o3=>⟨[(1, .int .i64 power)], [some ⟨5, List.map R5 o3⟩]⟩) h (fun h=>?_) fun o3 h=>?_
  ·
   refine K2 1 6 Y<|Tr<|Rm Y<|Rq Y (ZeN (ov Y) Y Y XJ)<|Rm Y<|Za<|Ze<|?_
   obtain ⟨r2, hl2, ho2⟩ := QH h
   refine L2 (fun o4 i2=>⟨[(1, .int .i64 power), (6, .own 0 o4.length), (17, .int .i64 (s.length : Int)), (18, .int .i64 i2)], [some ⟨5, List.map R5 o4⟩]⟩) hl2 (ES [some 0]) fun n2 o4 i2 h=>?_
   unfold Qx at h
   refine Tr<|R2 ZD Y<|Za<|Zg<|If h Y (fun h=>?_) fun h=>?_
   ·
    exact Zf<|Zg<|Ze<|K4 1 6 17 18 Y<|Tr<|Rm Y<|Ra Y<|Za<|K5 1 6 7 17 18 Y<|Zk<|Rm Y<|Rm Y<|bE h fun x3 h_x3 h=>Rq Y (Qb (ov Y) (ov Y) XJ Y Y h_x3)<|Rx Y (Xl (u' := 255) (ov Y) (ov Y) (Zl tS5) Y Y h_x3 Y (Zc Y) Y)<|Za<|K4 1 6 17 18 Y<|Zk<|R2 ZP Y<|Rm Y<|Za<|⟨_, h, ES [some 0]<|sd 1 Y Y<|sr 6 Y (ZcN (Eq.symm<|(List.length_set ..).trans Y) Y)<|sd 17 Y Y<|sd 18 Y Y sn⟩
   ·
    refine ZA<|?_
    replace h := lx h ▸ ho2
    exact ⟨_, h, ES [some 0]⟩
  ·
   refine Tr<|Rm Y<|R2 ZaV Y<|Rq Y (Zhi (ov Y) (ov Y) Y)<|Rm Y<|R2 ZaR Y<|Ra Y<|Ra Y<|Za<|?_
   obtain rfl := rt h
   exact Zi<|ZaU [some 0] Y (.cons (.tmp Y)<|.cons (.tmp Y) .nil) (.cons Y (roM D5) .nil) Y Y<|QV<|rlc (.dat Y)<|rlc (.dat Y) rln
theorem ZcT {s : List Int} {at_ : Int} {data : List Int} {power : Int} {r : Int × Bool × (List Int)} (h : QI s at_ data power = some r) :
 GSpec Tryd.prog gl0 58 [.own 0 s.length, .int .i64 at_, .sl 5 (List.map R5 data), .int .i64 power] [some ⟨5, List.map R5 s⟩] (.tuple [.int .i64 r.1, .bool r.2.1]) [some ⟨5, List.map R5 r.2.2⟩] := by
 unfold QI at h
 replace h := Qr h
 refine Qz (by kernel_rfl) Tryd.func58 Y Y<|?_
 intro w0 A W φ0
 refine Tr<|Ra Y<|Ra Y<|Za<|J2 (fun j => (.inr j)) (fun o power2=>⟨[(3, .int .i64 power2)], [some ⟨5, List.map R5 o⟩]⟩) h (fun h=>?_) fun o power2 h=>?_
 ·
  refine K4 0 1 2 3 Y<|Tr<|Rm Y<|Rl tZ_5 XJ Y<|Rm Y<|Za<|Ze<|?_
  obtain ⟨r1, hl1, ho1⟩ := QH h
  refine L3 (fun o2 power3 i=>⟨[(0, .own 0 o2.length), (1, .int .i64 at_), (3, .int .i64 power3), (12, .sl 5 (List.map R5 data)), (13, .int .i64 (data.length : Int)), (14, .int .i64 i)], [some ⟨5, List.map R5 o2⟩]⟩) hl1 (ES [some 0]) fun n1 o2 power3 i h=>?_
  unfold QE at h
  refine Tr<|R2 ZD Y<|Za<|Zg<|If h Y (fun h=>?_) fun h=>?_
  ·
   refine Zf<|Zg<|Ze<|K6 0 1 3 12 13 14 Y<|Tr<|Rm Y<|bE h fun x h_x h=>Rq Y (ZQ (ov Y) (ov Y) XJ h_x)<|Rq Y (Zd (ov Y) tS5 Y)<|Ra Y<|Ra Y<|Za<|Zg<|K8 0 1 3 10 11 12 13 14 Y<|Tr<|Rm Y<|R2 Zbk Y<|Za<|K9 0 1 3 10 11 12 13 14 20 Y<|If h Y (fun h=>?_) fun h=>?_
   ·
    refine K4 0 1 10 11 Y<|Tr<|Rm Y<|Rm Y<|Rm Y<|R2 ZP Y<|bE h fun x2 h_x2 h=>Rq Y (Qb (ov Y) (ov Y) XJ Y Y h_x2)<|Rq Y (Qc (ov Y) Y Y h_x2 tS5 Y)<|Rm Y<|R2 Zd5 Y<|R2 Zbn Y<|bE h fun x3 h_x3 h=>Rq Y (Qb (ov Y) (ov Y) XJ Y Y h_x3)<|Rx Y (Xl (u' := (Qt .u8 x2 (bor .u8 x 15))) (ov Y) (ov Y) (Zl tS5) Y Y h_x3 Y (Zc Y) Y)<|Za<|K0<|Tr<|Ra Y<|Ra Y<|Za<|?_
    replace h := lx h ▸ ho1
    obtain rfl := rt h
    exact Zi<|ZaU [some 0] Y (.cons (.tmp Y)<|.cons (.tmp Y) .nil) (.cons Y (roM D5) .nil) Y Y<|QV<|rlc (.dat Y)<|rlc (.dat Y) rln
   ·
    exact Zf<|K8 0 1 3 10 11 12 13 14 Y<|Tr<|Rm Y<|Rm Y<|Rm Y<|R2 ZP Y<|bE h fun x4 h_x4 h=>Rq Y (Qb (ov Y) (ov Y) XJ Y Y h_x4)<|Rq Y (Qc (ov Y) Y Y h_x4 tS5 Y)<|Rm Y<|R2 Zbn Y<|bE h fun x5 h_x5 h=>Rq Y (Qb (ov Y) (ov Y) XJ Y Y h_x5)<|Rx Y (Xl (u' := (Qt .u8 x4 x)) (ov Y) (ov Y) (Zl tS5) Y Y h_x5 Y (Zc Y) Y)<|Za<|K6 0 1 3 12 13 14 Y<|Zk<|Rm Y<|R2 ZaV Y<|Ra Y<|Za<|K6 0 1 3 12 13 14 Y<|Zk<|R2 ZP Y<|Rm Y<|Za<|⟨_, h, ES [some 0]<|sr 0 Y (ZcN (Eq.symm<|(List.length_set ..).trans Y) Y)<|sd 1 Y Y<|sd 3 Y Y<|sd 12 Y Y<|sd 13 Y Y<|sd 14 Y Y sn⟩
  ·
   refine ZA<|?_
   replace h := lx h ▸ ho1
   exact ⟨_, h, ES [some 0]⟩
 ·
  replace h := elr h
  replace h := t2i h
  refine Tr<|Rm Y<|Ra Y<|Ra Y<|Za<|?_
  obtain rfl := rt h
  exact Zi<|ZaU [some 0] Y (.cons (.tmp Y)<|.cons (.tmp Y) .nil) (.cons Y (roM D5) .nil) Y Y<|QV<|rlc (.dat Y)<|rlc (.dat Y) rln
theorem Zb8 {b : ring_Recorder} {k : Int} {power : Int} {r : Int × Bool × ring_Recorder} (h : XR b k power = some r) :
 GSpec Tryd.prog gl0 57 [.ptr 0 1 0 0, .int .i64 k, .int .i64 power] [some ⟨80, [[.own 1 b.bank.memories.length, .own 2 b.bank.spots.length, .int .i64 b.copies, .bool b.frozen, .bool b.stopped, .int .i64 b.last, .bool b.some_]]⟩, some ⟨43, List.map O43 b.bank.memories⟩, some ⟨83, List.map R83 b.bank.spots⟩] (.tuple [.int .i64 r.1, .bool r.2.1]) [some ⟨80, [[.own 3 r.2.2.bank.memories.length, .own 4 r.2.2.bank.spots.length, .int .i64 r.2.2.copies, .bool r.2.2.frozen, .bool r.2.2.stopped, .int .i64 r.2.2.last, .bool r.2.2.some_]]⟩, none, none, some ⟨43, List.map O43 r.2.2.bank.memories⟩, some ⟨83, List.map R83 r.2.2.bank.spots⟩] := by
 unfold XR at h
 replace h := Qr h
 refine Qz (by kernel_rfl) Tryd.func57 Y Y<|?_
 intro w0 A W φ0
 refine Zex (Ent.sel [some 0, some 1, some 2, some 1, some 2] (sr 0 Y (.ptr (r' := 0) _ _ _ Y)<|sd 1 Y Y<|sd 2 Y Y sn) (.cons Y (ro1 (by exact tZ_80.symm)<|rlc (.own (r' := 3) _ Y)<|rlc (.own (r' := 4) _ Y)<|rlc (.dat Y)<|rlc (.dat Y)<|rlc (.dat Y)<|rlc (.dat Y)<|rlc (.dat Y) rln)<|.dead<|.dead<|.cons Y (roO Xj)<|.cons Y (roM D83) .nil) Y Y)<|QU [some ⟨80, [[.own 3 b.bank.memories.length, .own 4 b.bank.spots.length, .int .i64 b.copies, .bool b.frozen, .bool b.stopped, .int .i64 b.last, .bool b.some_]]⟩, none, none, some ⟨43, List.map O43 b.bank.memories⟩, some ⟨83, List.map R83 b.bank.spots⟩] Y<|Tr<|Ra Y<|Ra Y<|Za<|Zg<|K3 0 1 2 Y<|Qj (cw := md0) (by kernel_rfl)<|D1 0 Zb Y<|Dq 1 Y (Zp (ov Y) Y Y)<|Dq 2 Y (Zo (ov Y) Y Y Zdf)<|Dq 3 Y (ZM (ov Y) Y Y Y ZhL Y)<|D1 4 Zb Y<|bE h fun x h_x h=>Dq 5 Y (Qb (ov Y) (ov Y) JV Y Y h_x)<|D1 6 Zb Y<|D1 7 Zb Y<|bE h fun y h_y h=>Dq 8 Y (J5 (Za8 h_y) .int<|.cons (ov Y) (View.ptrS (j := 0) (k := 2) Y Y Y (Nat.le_of_ble_eq_true Y)<|.cons (View.ownO Y Y Xj (fun x=>(D43 x).1) ZiS)<|.cons (View.ownM Y Y D83) .nil)<|.cons (ov Y) (Dat.view<|.b Y) .nil)<|D1 9 QC Y<|D1 10 QC Y<|Dd<|K5 0 1 2 8 9 Y<|Tr<|Rm Y<|Rm Y<|Rm Y<|bE h fun y2 h_y2 h=>Rq Y (J5 (Zbl h_y2) .int<|.cons (ov Y) (View.ptrS (j := 0) (k := 2) Y Y Y (Nat.le_of_ble_eq_true Y)<|.cons (View.ownO Y Y Xj (fun x=>(D43 x).1) ZiS)<|.cons (View.ownM Y Y D83) .nil)<|.cons (ov Y) (Dat.view<|.b Y)<|.cons (ov Y) (Dat.view<|.b Y) .nil)<|Ra Y<|Za<|K6 0 1 2 8 9 10 Y<|Tr<|Rm Y<|Rq Y (Zp (ov Y) Y<|List.length_map ..)<|Rq Y (Zb7 (ov Y) Y Y ZbO)<|QR (Ent.focusH (r := 3) (j := 3) (e' := 3) (g := R3) (ys := x.Wear) Y (Zy h_x).2 Y DR3)<|Rq Y (ZbK (ov Y) Y Y (Zy h_x).2 Zf7 Y)<|Rm Y<|bE h fun x2 h_x2 h=>Rq Y (Qb (ov Y) (ov Y) Qs Y Y h_x2)<|Rq Y (Qc (ov Y) Y Y h_x2 tS3 Y)<|R2 ZP Y<|bE h fun x3 h_x3 h=>Rq Y (Qb (ov Y) (ov Y) Qs Y Y h_x3)<|Rx Y (Xl (u' := (i64 (x2 + 1))) (ov Y) (ov Y) (Zl tS3) Y Y h_x3 Y (Zc Y) Y)<|ZdQ [some ⟨80, [[.own 3 b.bank.memories.length, .own 4 b.bank.spots.length, .int .i64 b.copies, .bool b.frozen, .bool b.stopped, .int .i64 b.last, .bool b.some_]]⟩, none, none, some ⟨43, List.set (List.map O43 b.bank.memories) k.toNat [.int .i64 x.Slots, .int .i64 x.Limit, .osub 47 (List.map O47 x.Sectors), .own 5 x.Wear.length, .osub 4 (List.map R4 x.Bad)]⟩, some ⟨83, List.map R83 b.bank.spots⟩, some ⟨3, List.map R3 (x.Wear.set y.toNat (i64 (x2 + 1)))⟩] Y<|?_
 have h_x4 := XS (y := (api_Memory.mk x.Slots x.Limit x.Sectors (x.Wear.set y.toNat (i64 (x2 + 1))) x.Bad)) h_x
 have h_x5 := XS (y := (api_Memory.mk x.Slots x.Limit x.Sectors (x.Wear.set y.toNat (i64 (x2 + 1))) x.Bad)) h_x
 have h_x6 := XS (y := (api_Memory.mk x.Slots x.Limit x.Sectors (x.Wear.set y.toNat (i64 (x2 + 1))) x.Bad)) h_x
 have h_x7 := XS (y := (api_Memory.mk x.Slots x.Limit x.Sectors (x.Wear.set y.toNat (i64 (x2 + 1))) x.Bad)) h_x
 refine QR (Ent.absorbH (r := 3) (j := 3) (q := 5) Y (Zy h_x).2 Y Y ((List.length_map ..).trans<|(List.length_set ..).trans Y) Y)<|QR (Ent.closeH (r := 3) (y := (api_Memory.mk x.Slots x.Limit x.Sectors (x.Wear.set y.toNat (i64 (x2 + 1))) x.Bad)) Y Y)<|Za<|K6 0 1 2 8 9 10 Y<|QU [some ⟨80, [[.own 3 b.bank.memories.length, .own 4 b.bank.spots.length, .int .i64 b.copies, .bool b.frozen, .bool b.stopped, .int .i64 b.last, .bool b.some_]]⟩, none, none, some ⟨43, List.map O43 (b.bank.memories.set k.toNat (api_Memory.mk x.Slots x.Limit x.Sectors (x.Wear.set y.toNat (i64 (x2 + 1))) x.Bad))⟩, some ⟨83, List.map R83 b.bank.spots⟩, none] Y<|Tr<|Rm Y<|Rq Y (Zp (ov Y) Y<|(List.length_map ..).trans<|(List.length_set ..).trans Y)<|Rq Y (Zb7 (ov Y) Y ((List.length_set ..).trans Y) Jp)<|QR (Ent.focusH (r := 3) (j := 2) (e' := 47) (g := O47) (ys := x.Sectors) Y (Zy h_x4).2 Y Zfn)<|Rq Y (ZbK (ov Y) Y ((List.length_set ..).trans Y) (Zy h_x4).2 Zc5 Y)<|Rm Y<|bE h fun x8 h_x8 h=>Rq Y (Qb (ov Y) (ov Y) ZbQ Y Y h_x8)<|QR (Ent.focusH (r := 6) (j := 0) (e' := 5) (g := R5) (ys := x8) Y (Zy h_x8).2 Y DR5)<|Rq Y (ZbK (ov Y) Y Y (Zy h_x8).2 ZeU Y)<|Rm Y<|bE h fun y3 h_y3 h=>Rx Y (ZY [7] (Zes h_y3) (.cons (ov Y) (.own _ Y)<|.cons (ov Y) (.dat Y) .nil) (.cons Y (roM D5) .nil) Y (.keep Y Y<|.none<|.none<|.keep Y Y<|.keep Y Y<|.none<|.keep Y Y<|.lent 0 (.inl Y) Y (roM D5) .nil) Y Y<|QV<|rld Y)<|Rm Y<|Rq Y (Zj (ov Y) Y)<|Rq Y (Zj (ov Y) Y)<|Ra Y<|Ra Y<|ZdQ [some ⟨80, [[.own 3 b.bank.memories.length, .own 4 b.bank.spots.length, .int .i64 b.copies, .bool b.frozen, .bool b.stopped, .int .i64 b.last, .bool b.some_]]⟩, none, none, some ⟨43, List.set (List.map O43 (b.bank.memories.set k.toNat (api_Memory.mk x.Slots x.Limit x.Sectors (x.Wear.set y.toNat (i64 (x2 + 1))) x.Bad))) k.toNat [.int .i64 x.Slots, .int .i64 x.Limit, .own 6 x.Sectors.length, .osub 3 (List.map R3 (x.Wear.set y.toNat (i64 (x2 + 1)))), .osub 4 (List.map R4 x.Bad)]⟩, some ⟨83, List.map R83 b.bank.spots⟩, none, some ⟨47, List.set (List.map O47 x.Sectors) y.toNat [.own 7 x8.length]⟩, some ⟨5, List.map R5 y3.2.2⟩] Y<|?_
 have h_x9 := XS (y := y3.2.2) h_x8
 have h_x10 := XS (y := (api_Memory.mk x.Slots x.Limit (x.Sectors.set y.toNat y3.2.2) (x.Wear.set y.toNat (i64 (x2 + 1))) x.Bad)) h_x4
 have h_x11 := XS (y := (api_Memory.mk x.Slots x.Limit (x.Sectors.set y.toNat y3.2.2) (x.Wear.set y.toNat (i64 (x2 + 1))) x.Bad)) h_x4
 have h_x12 := XS (y := (api_Memory.mk x.Slots x.Limit (x.Sectors.set y.toNat y3.2.2) (x.Wear.set y.toNat (i64 (x2 + 1))) x.Bad)) h_x4
 have h_x13 := XS (y := (api_Memory.mk x.Slots x.Limit (x.Sectors.set y.toNat y3.2.2) (x.Wear.set y.toNat (i64 (x2 + 1))) x.Bad)) h_x4
 refine QR (Ent.absorbH (r := 6) (j := 0) (q := 7) Y (Zy h_x8).2 Y Y ((List.length_map ..).trans<|Zeu h_y3) Y)<|QR (Ent.closeH (r := 6) (y := y3.2.2) Y Y)<|QR (Ent.absorbH (r := 3) (j := 2) (q := 6) Y (Zy h_x4).2 Y Y ((List.length_map ..).trans<|(List.length_set ..).trans Y) Y)<|QR (Ent.closeH (r := 3) (y := (api_Memory.mk x.Slots x.Limit (x.Sectors.set y.toNat y3.2.2) (x.Wear.set y.toNat (i64 (x2 + 1))) x.Bad)) Y Y)<|Za<|Zg<|K7 0 1 2 8 9 10 11 Y<|QU [some ⟨80, [[.own 3 b.bank.memories.length, .own 4 b.bank.spots.length, .int .i64 b.copies, .bool b.frozen, .bool b.stopped, .int .i64 b.last, .bool b.some_]]⟩, none, none, some ⟨43, List.map O43 ((b.bank.memories.set k.toNat (api_Memory.mk x.Slots x.Limit x.Sectors (x.Wear.set y.toNat (i64 (x2 + 1))) x.Bad)).set k.toNat (api_Memory.mk x.Slots x.Limit (x.Sectors.set y.toNat y3.2.2) (x.Wear.set y.toNat (i64 (x2 + 1))) x.Bad))⟩, some ⟨83, List.map R83 b.bank.spots⟩, none, none, none] Y<|Tr<|Rm Y<|R1 XV Y<|Za<|K7 0 1 2 8 9 10 47 Y<|If h Y (fun h=>?_) fun h=>?_
 ·
  refine K1 2 Y<|Tr<|Rm Y<|Ra Y<|Ra Y<|Za<|?_
  obtain rfl := rt h
  exact Zi<|ZaU [some 0, some 1, some 2, some 3, some 4] Y (.cons (.tmp Y)<|.cons (.tmp Y) .nil) (.cons Y (ro1 (by exact tZ_80.symm)<|rlc (ZcN (Eq.symm<|(List.length_set ..).trans<|(List.length_set ..).trans Y) Y)<|rlc (.own _ Y)<|rlc (.dat Y)<|rlc (.dat Y)<|rlc (.dat Y)<|rlc (.dat Y)<|rlc (.dat Y) rln)<|.dead<|.dead<|.cons Y (roO Xj)<|.cons Y (roM D83) .nil) Y Y<|QV<|rlc (.dat Y)<|rlc (.dat Y) rln
 ·
  refine Zf<|I4 (fun memories spots power2 all=>⟨[(2, .int .i64 power2), (11, .bool all)], [some ⟨80, [[.own 3 memories.length, .own 4 spots.length, .int .i64 b.copies, .bool b.frozen, .bool b.stopped, .int .i64 b.last, .bool b.some_]]⟩, none, none, some ⟨43, List.map O43 memories⟩, some ⟨83, List.map R83 spots⟩]⟩) h (fun h=>?_) fun memories spots power2 all h=>?_
  ·
   refine Zg<|K6 0 1 2 8 9 10 Y<|bE h fun x14 h_x14 h=>Zex (Ent.focusH (r := 3) (j := 2) (e' := 47) (g := O47) (ys := x14.Sectors) Y (Zy h_x14).2 Y Zfn)<|bE h fun x15 h_x15 h=>Zex (Ent.focusH (r := 8) (j := 0) (e' := 5) (g := R5) (ys := x15) Y (Zy h_x15).2 Y DR5)<|Qj (cw := ⟨true, true, [some ⟨80, [[.own 3 b.bank.memories.length, .own 4 b.bank.spots.length, .int .i64 b.copies, .bool b.frozen, .bool b.stopped, .int .i64 b.last, .bool b.some_]]⟩, none, none, some ⟨43, List.set (List.map O43 ((b.bank.memories.set k.toNat (api_Memory.mk x.Slots x.Limit x.Sectors (x.Wear.set y.toNat (i64 (x2 + 1))) x.Bad)).set k.toNat (api_Memory.mk x.Slots x.Limit (x.Sectors.set y.toNat y3.2.2) (x.Wear.set y.toNat (i64 (x2 + 1))) x.Bad))) k.toNat [.int .i64 x14.Slots, .int .i64 x14.Limit, .own 8 x14.Sectors.length, .osub 3 (List.map R3 x14.Wear), .osub 4 (List.map R4 x14.Bad)]⟩, some ⟨83, List.map R83 b.bank.spots⟩, none, none, none, some ⟨47, List.set (List.map O47 x14.Sectors) y.toNat [.own 9 x15.length]⟩, some ⟨5, List.map R5 x15⟩], [], [9]⟩) (by kernel_rfl)<|D1 7 Zb Y<|Z0 0 _ Y (by kernel_rfl) Y Y (fun hp'=>Zb<|ov Y)<|XK 1 _ Y (by kernel_rfl) Y Y Y (EL.ext<|.keep<|.keep<|.keep<|.keep<|.keep<|.keep<|.keep<|.keep<|.keep<|.wr Y Y Y .nil) (fun hp' hx=>Zp (ov Y) (hx.get Y Y)<|((List.length_set ..).trans (List.length_map ..)).trans<|(List.length_set ..).trans<|(List.length_set ..).trans Y)<|XK 2 _ Y (by kernel_rfl) Y Y Y (EL.ext<|.keep<|.keep<|.keep<|.keep<|.keep<|.keep<|.keep<|.keep<|.keep<|.wr Y Y Y .nil) (fun hp' hx=>Zhx (ov Y) (hx.get Y Y) ((List.length_set ..).trans<|(List.length_set ..).trans Y) Jp)<|XK 3 _ Y (by kernel_rfl) Y Y Y (EL.ext<|.keep<|.keep<|.keep<|.keep<|.keep<|.keep<|.keep<|.keep<|.keep<|.wr Y Y Y .nil) (fun hp' hx=>ZbK (ov Y) (hx.get Y Y) ((List.length_set ..).trans<|(List.length_set ..).trans Y) (Zy h_x14).2 Zc5 Y)<|Z0 4 _ Y (by kernel_rfl) Y Y (fun hp'=>Zb<|ov Y)<|bE h fun x16 h_x16 h=>XK 5 _ Y (by kernel_rfl) Y Y Y (EL.ext<|.keep<|.keep<|.keep<|.keep<|.keep<|.keep<|.keep<|.keep<|.keep<|.wr Y Y Y .nil) (fun hp' hx=>Zja (ov Y) (ov Y) ZbQ (hx.get Y Y) Y h_x16)<|XK 6 _ Y (by kernel_rfl) Y Y Y (EL.ext<|.keep<|.keep<|.keep<|.keep<|.keep<|.keep<|.keep<|.keep<|.keep<|.wr Y Y Y .nil) (fun hp' hx=>ZbK (ov Y) (hx.get Y Y) Y (Zy h_x15).2 ZeU Y)<|Z0 9 _ Y (by kernel_rfl) Y Y (fun hp'=>Zb<|ov Y)<|bE h fun y4 h_y4 h=>Zck 8 _ _ Y (by kernel_rfl) Y Y (fun h=>by cases h) (fun _=>by exact EL.ext (.keep <| .keep <| .keep <| .keep <| .keep <| .keep <| .keep <| .keep <| .keep <| .wr rfl rfl rfl <| .nil)) (Zjc<|Zq (ZdA h_y4)<|.cons (ov Y) (.b Y) .nil)<|bE h fun y5 h_y5 h=>Zck 10 _ _ Y (by kernel_rfl) Y Y (fun h=>by cases h) (fun _=>by exact EL.ext (.keep <| .keep <| .keep <| .keep <| .keep <| .keep <| .keep <| .keep <| .keep <| .wr rfl rfl ((List.length_map ..).trans (Eq.trans (Zab h_y5) (Eq.symm ((List.length_map ..).trans rfl)))) <| .nil)) (ZY [9] (ZcT h_y5) (.cons (ov Y) (.own _ Y)<|.cons (ov Y) (.dat Y)<|.cons (ov Y) (.dat Y)<|.cons (ov Y) (.dat Y) .nil) (.cons Y (roM D5) .nil) Y (.keep Y Y<|.none<|.none<|.keep Y Y<|.keep Y Y<|.none<|.none<|.none<|.keep Y Y<|.lent 0 (.inl Y) Y (roM D5) .nil) Y Y<|QV<|rld Y)<|D1 11 Zb Y<|Dq 12 Y (Zj (ov Y) Y)<|Dq 13 Y (Zj (ov Y) Y)<|D1 14 QC Y<|D1 15 QC Y<|?_
   have h_x17 := XS (y := y5.2.2) h_x16
   have h_x18 := XS (y := (api_Memory.mk x14.Slots x14.Limit (x14.Sectors.set y.toNat y5.2.2) x14.Wear x14.Bad)) h_x10
   have h_x19 := XS (y := (api_Memory.mk x14.Slots x14.Limit (x14.Sectors.set y.toNat y5.2.2) x14.Wear x14.Bad)) h_x10
   have h_x20 := XS (y := (api_Memory.mk x14.Slots x14.Limit (x14.Sectors.set y.toNat y5.2.2) x14.Wear x14.Bad)) h_x10
   have h_x21 := XS (y := (api_Memory.mk x14.Slots x14.Limit (x14.Sectors.set y.toNat y5.2.2) x14.Wear x14.Bad)) h_x10
   refine ZjE (by kernel_rfl) (Ent.trans (Ent.absorbH (r := 8) (j := 0) (q := 9) Y (Zy h_x15).2 Y Y ((List.length_map ..).trans<|Zab h_y5) Y)<|Ent.trans (Ent.closeH (r := 8) (y := y5.2.2) Y Y)<|Ent.trans (Ent.absorbH (r := 3) (j := 2) (q := 8) Y (Zy h_x14).2 Y Y ((List.length_map ..).trans<|(List.length_set ..).trans Y) Y)<|Ent.closeH (r := 3) (y := (api_Memory.mk x14.Slots x14.Limit (x14.Sectors.set y.toNat y5.2.2) x14.Wear x14.Bad)) Y Y)<|K5 0 1 2 9 11 Y<|QU [some ⟨80, [[.own 3 b.bank.memories.length, .own 4 b.bank.spots.length, .int .i64 b.copies, .bool b.frozen, .bool b.stopped, .int .i64 b.last, .bool b.some_]]⟩, none, none, some ⟨43, List.map O43 (((b.bank.memories.set k.toNat (api_Memory.mk x.Slots x.Limit x.Sectors (x.Wear.set y.toNat (i64 (x2 + 1))) x.Bad)).set k.toNat (api_Memory.mk x.Slots x.Limit (x.Sectors.set y.toNat y3.2.2) (x.Wear.set y.toNat (i64 (x2 + 1))) x.Bad)).set k.toNat (api_Memory.mk x14.Slots x14.Limit (x14.Sectors.set y.toNat y5.2.2) x14.Wear x14.Bad))⟩, some ⟨83, List.map R83 b.bank.spots⟩, none, none, none, none, none] Y<|Tr<|Rm Y<|Za<|If h Y (fun h=>?_) fun h=>?_
   ·
    exact K5 0 1 2 9 11 Y<|Zk<|Rm Y<|Rq Y (Zp (ov Y) Y Y)<|Rq Y (Zo (ov Y) Y Y ZeH)<|Rq Y (ZM (ov Y) Y Y Y Zjg Y)<|Rm Y<|Rm Y<|Rq Y (Zbv (ys := [_, _]) Zl3 ZkS Zkg (.cons (cvs (ov Y)<|Qm Y) .nil) Y)<|bE h fun x22 h_x22 h=>Rq Y (Qb (ov Y) (ov Y) Zjk Y Y h_x22)<|Rx Y (Xl (u' := (ring_spot.mk y 0)) (ov Y) (ov Y) (ZI ZhE Y) Y Y h_x22 Y (Zc Y) Y)<|Za<|⟨_, h, ES [some 0, some 1, some 2, some 3, some 4] (hhp := .cons Y (ro1 (by exact tZ_80.symm)<|rlc (ZcN (Eq.symm<|(List.length_set ..).trans<|(List.length_set ..).trans<|(List.length_set ..).trans Y) Y)<|rlc (ZcN (Eq.symm<|(List.length_set ..).trans Y) Y)<|rlc (.dat Y)<|rlc (.dat Y)<|rlc (.dat Y)<|rlc (.dat Y)<|rlc (.dat Y) rln)<|.dead<|.dead<|.cons Y (roO Xj)<|.cons Y (roM D83) .nil)⟩
   ·
    exact Zf<|⟨_, h, ES [some 0, some 1, some 2, some 3, some 4] (hhp := .cons Y (ro1 (by exact tZ_80.symm)<|rlc (ZcN (Eq.symm<|(List.length_set ..).trans<|(List.length_set ..).trans<|(List.length_set ..).trans Y) Y)<|rlc (.own _ Y)<|rlc (.dat Y)<|rlc (.dat Y)<|rlc (.dat Y)<|rlc (.dat Y)<|rlc (.dat Y) rln)<|.dead<|.dead<|.cons Y (roO Xj)<|.cons Y (roM D83) .nil)⟩
  ·
   refine Tr<|Rm Y<|Rm Y<|Ra Y<|Ra Y<|Za<|?_
   obtain rfl := rt h
   exact Zi<|ZaU [some 0, some 1, some 2, some 3, some 4] Y (.cons (.tmp Y)<|.cons (.tmp Y) .nil) (.cons Y (ro1 (by exact tZ_80.symm)<|rlc (.own _ Y)<|rlc (.own _ Y)<|rlc (.dat Y)<|rlc (.dat Y)<|rlc (.dat Y)<|rlc (.dat Y)<|rlc (.dat Y) rln)<|.dead<|.dead<|.cons Y (roO Xj)<|.cons Y (roM D83) .nil) Y Y<|QV<|rlc (.dat Y)<|rlc (.dat Y) rln
theorem Zcq {b : ring_Recorder} {k : Int} {data : List Int} {power : Int} {r : Int × Bool × ring_Recorder} (h : Jv b k data power = some r) :
 GSpec Tryd.prog gl0 38 [.ptr 0 1 0 0, .int .i64 k, .slf 5 (List.map R5 data), .int .i64 power] [some ⟨80, [[.own 1 b.bank.memories.length, .own 2 b.bank.spots.length, .int .i64 b.copies, .bool b.frozen, .bool b.stopped, .int .i64 b.last, .bool b.some_]]⟩, some ⟨43, List.map O43 b.bank.memories⟩, some ⟨83, List.map R83 b.bank.spots⟩] (.tuple [.int .i64 r.1, .bool r.2.1]) [some ⟨80, [[.own 3 r.2.2.bank.memories.length, .own 4 r.2.2.bank.spots.length, .int .i64 r.2.2.copies, .bool r.2.2.frozen, .bool r.2.2.stopped, .int .i64 r.2.2.last, .bool r.2.2.some_]]⟩, none, none, some ⟨43, List.map O43 r.2.2.bank.memories⟩, some ⟨83, List.map R83 r.2.2.bank.spots⟩] := by
 unfold Jv at h
 replace h := Qr h
 refine Qz (by kernel_rfl) Tryd.func38 Y Y<|?_
 intro w0 A W φ0
 refine Zex (Ent.sel [some 0, some 1, some 2, some 1, some 2] (sr 0 Y (.ptr (r' := 0) _ _ _ Y)<|sd 1 Y Y<|sd 2 Y Y<|sd 3 Y Y sn) (.cons Y (ro1 (by exact tZ_80.symm)<|rlc (.own (r' := 3) _ Y)<|rlc (.own (r' := 4) _ Y)<|rlc (.dat Y)<|rlc (.dat Y)<|rlc (.dat Y)<|rlc (.dat Y)<|rlc (.dat Y) rln)<|.dead<|.dead<|.cons Y (roO Xj)<|.cons Y (roM D83) .nil) Y Y)<|QU [some ⟨80, [[.own 3 b.bank.memories.length, .own 4 b.bank.spots.length, .int .i64 b.copies, .bool b.frozen, .bool b.stopped, .int .i64 b.last, .bool b.some_]]⟩, none, none, some ⟨43, List.map O43 b.bank.memories⟩, some ⟨83, List.map R83 b.bank.spots⟩] Y<|Tr<|Ra Y<|Ra Y<|Za<|J8 (fun j => (.inr j)) (fun memories spots copies frozen stopped last some_ power2=>⟨[(0, .ptr 0 1 0 0), (1, .int .i64 k), (2, .slf 5 (List.map R5 data)), (3, .int .i64 power2)], [some ⟨80, [[.own 3 memories.length, .own 4 spots.length, .int .i64 copies, .bool frozen, .bool stopped, .int .i64 last, .bool some_]]⟩, none, none, some ⟨43, List.map O43 memories⟩, some ⟨83, List.map R83 spots⟩]⟩) h (fun h=>?_) fun memories spots copies frozen stopped last some_ power2 h=>?_
 ·
  refine K4 0 1 2 3 Y<|Tr<|Rm Y<|Rm Y<|bE h fun y h_y h=>Rq Y (J5 (Zad h_y) .bool<|.cons (ov Y) (View.ptrS (j := 0) (k := 2) Y Y Y (Nat.le_of_ble_eq_true Y)<|.cons (View.ownO Y Y Xj (fun x=>(D43 x).1) ZiS)<|.cons (View.ownM Y Y D83) .nil)<|.cons (ov Y) (Dat.view<|.b Y) .nil)<|Za<|K5 0 1 2 3 15 Y<|If h Y (fun h=>?_) fun h=>?_
  ·
   refine K4 0 1 2 3 Y<|Tr<|Ra Y<|Za<|Tr<|Rm Y<|Rm Y<|Rm Y<|bE h fun y2 h_y2 h=>Rx Y (ZY [0, 3, 4] (Zb8 h_y2) (.cons (ov Y) (.ptr _ _ _ Y)<|.cons (ov Y) (.dat Y)<|.cons (ov Y) (.dat Y) .nil) (.cons Y (ro1 (by exact tZ_80.symm)<|rlc (.own _ Y)<|rlc (.own _ Y)<|rlc (.dat Y)<|rlc (.dat Y)<|rlc (.dat Y)<|rlc (.dat Y)<|rlc (.dat Y) rln)<|.cons Y (roO Xj)<|.cons Y (roM D83) .nil) Y (.lent 0 (.inl Y) Y (ro1 (by exact tZ_80.symm)<|rlc (.own _<|.inr ⟨Nat.le_of_ble_eq_true Y, Y⟩)<|rlc (.own _<|.inr ⟨Nat.le_of_ble_eq_true Y, Y⟩)<|rlc (.dat Y)<|rlc (.dat Y)<|rlc (.dat Y)<|rlc (.dat Y)<|rlc (.dat Y) rln)<|.none<|.none<|.none<|.none<|.lent 3 (.inr ⟨Nat.le_of_ble_eq_true Y, Y⟩) Y (roO Xj)<|.lent 4 (.inr ⟨Nat.le_of_ble_eq_true Y, Y⟩) Y (roM D83) .nil) Y Y<|QV<|rld Y)<|Rm Y<|Rq Y (Zj (ov Y) Y)<|Rq Y (Zj (ov Y) Y)<|Ra Y<|Ra Y<|Za<|K5 0 1 2 3 10 Y<|QU [some ⟨80, [[.own 5 y2.2.2.bank.memories.length, .own 6 y2.2.2.bank.spots.length, .int .i64 y2.2.2.copies, .bool y2.2.2.frozen, .bool y2.2.2.stopped, .int .i64 y2.2.2.last, .bool y2.2.2.some_]]⟩, none, none, none, none, some ⟨43, List.map O43 y2.2.2.bank.memories⟩, some ⟨83, List.map R83 y2.2.2.bank.spots⟩] Y<|Tr<|Rm Y<|R1 XV Y<|Za<|K5 0 1 2 3 24 Y<|If h Y (fun h=>?_) fun h=>?_
   ·
    refine K1 3 Y<|Tr<|Rm Y<|Ra Y<|Ra Y<|Za<|?_
    obtain rfl := rt h
    exact Zi<|ZaU [some 0, some 1, some 2, some 5, some 6] Y (.cons (.tmp Y)<|.cons (.tmp Y) .nil) (.cons Y (ro1 (by exact tZ_80.symm)<|rlc (.own _ Y)<|rlc (.own _ Y)<|rlc (.dat Y)<|rlc (.dat Y)<|rlc (.dat Y)<|rlc (.dat Y)<|rlc (.dat Y) rln)<|.dead<|.dead<|.cons Y (roO Xj)<|.cons Y (roM D83) .nil) Y Y<|QV<|rlc (.dat Y)<|rlc (.dat Y) rln
   ·
    exact Zf<|⟨_, h, ES [some 0, some 1, some 2, some 5, some 6] (hhp := .cons Y (ro1 (by exact tZ_80.symm)<|rlc (.own _ Y)<|rlc (.own _ Y)<|rlc (.dat Y)<|rlc (.dat Y)<|rlc (.dat Y)<|rlc (.dat Y)<|rlc (.dat Y) rln)<|.dead<|.dead<|.cons Y (roO Xj)<|.cons Y (roM D83) .nil)⟩
  ·
   exact Zf<|⟨_, h, ES [some 0, some 1, some 2, some 3, some 4] (hhp := .cons Y (ro1 (by exact tZ_80.symm)<|rlc (.own _ Y)<|rlc (.own _ Y)<|rlc (.dat Y)<|rlc (.dat Y)<|rlc (.dat Y)<|rlc (.dat Y)<|rlc (.dat Y) rln)<|.dead<|.dead<|.cons Y (roO Xj)<|.cons Y (roM D83) .nil)⟩
 ·
  replace h := elr h
  replace h := t8i h
  refine Tr<|Rm Y<|Rq Y (Zp (ov Y) Y Y)<|Rq Y (Zo (ov Y) Y Y ZeH)<|Rq Y (ZM (ov Y) Y Y Y Zjg Y)<|Rm Y<|bE h fun x h_x h=>Rq Y (Qb (ov Y) (ov Y) Zjk Y Y h_x)<|Ra Y<|Za<|Zg<|K5 0 1 2 3 11 Y<|bE h fun x2 h_x2 h=>Zex (Ent.focusH (r := 3) (j := 2) (e' := 47) (g := O47) (ys := x2.Sectors) Y (Zy h_x2).2 Y Zfn)<|bE h fun x3 h_x3 h=>Zex (Ent.focusH (r := 5) (j := 0) (e' := 5) (g := R5) (ys := x3) Y (Zy h_x3).2 Y DR5)<|Qj (cw := ⟨true, true, [some ⟨80, [[.own 3 memories.length, .own 4 spots.length, .int .i64 copies, .bool frozen, .bool stopped, .int .i64 last, .bool some_]]⟩, none, none, some ⟨43, List.set (List.map O43 memories) k.toNat [.int .i64 x2.Slots, .int .i64 x2.Limit, .own 5 x2.Sectors.length, .osub 3 (List.map R3 x2.Wear), .osub 4 (List.map R4 x2.Bad)]⟩, some ⟨83, List.map R83 spots⟩, some ⟨47, List.set (List.map O47 x2.Sectors) x.sector.toNat [.own 6 x3.length]⟩, some ⟨5, List.map R5 x3⟩], [], [6]⟩) (by kernel_rfl)<|Z0 0 _ Y (by kernel_rfl) Y Y (fun hp'=>Zb<|ov Y)<|XK 1 _ Y (by kernel_rfl) Y Y Y (EL.ext<|.keep<|.keep<|.keep<|.keep<|.keep<|.keep<|.wr Y Y Y .nil) (fun hp' hx=>Zp (ov Y) (hx.get Y Y) Y)<|XK 2 _ Y (by kernel_rfl) Y Y Y (EL.ext<|.keep<|.keep<|.keep<|.keep<|.keep<|.keep<|.wr Y Y Y .nil) (fun hp' hx=>Zo (ov Y) (hx.get Y Y) Y Zdf)<|XK 3 _ Y (by kernel_rfl) Y Y Y (EL.ext<|.keep<|.keep<|.keep<|.keep<|.keep<|.keep<|.wr Y Y Y .nil) (fun hp' hx=>ZM (ov Y) (hx.get Y Y) Y Y ZhL Y)<|Z0 4 _ Y (by kernel_rfl) Y Y (fun hp'=>Zb<|ov Y)<|bE h fun x4 h_x4 h=>XK 5 _ Y (by kernel_rfl) Y Y Y (EL.ext<|.keep<|.keep<|.keep<|.keep<|.keep<|.keep<|.wr Y Y Y .nil) (fun hp' hx=>Zja (ov Y) (ov Y) JV (hx.get Y Y) Y h_x4)<|XK 6 _ Y (by kernel_rfl) Y Y Y (EL.ext<|.keep<|.keep<|.keep<|.keep<|.keep<|.keep<|.wr Y Y Y .nil) (fun hp' hx=>Zhx (ov Y) (hx.get Y Y) Y Jp)<|XK 7 _ Y (by kernel_rfl) Y Y Y (EL.ext<|.keep<|.keep<|.keep<|.keep<|.keep<|.keep<|.wr Y Y Y .nil) (fun hp' hx=>ZbK (ov Y) (hx.get Y Y) Y (Zy h_x2).2 Zc5 Y)<|Z0 8 _ Y (by kernel_rfl) Y Y (fun hp'=>Zb<|ov Y)<|XK 9 _ Y (by kernel_rfl) Y Y Y (EL.ext<|.keep<|.keep<|.keep<|.keep<|.keep<|.keep<|.wr Y Y Y .nil) (fun hp' hx=>Zp (ov Y) (hx.get Y Y)<|List.length_map ..)<|XK 10 _ Y (by kernel_rfl) Y Y Y (EL.ext<|.keep<|.keep<|.keep<|.keep<|.keep<|.keep<|.wr Y Y Y .nil) (fun hp' hx=>Zb7 (ov Y) (hx.get Y Y) Y ZfD)<|XK 11 _ Y (by kernel_rfl) Y Y Y (EL.ext<|.keep<|.keep<|.keep<|.keep<|.keep<|.keep<|.wr Y Y Y .nil) (fun hp' hx=>Qc (ov Y) (hx.get Y Y) Y h_x tS3 Y)<|bE h fun x5 h_x5 h=>XK 12 _ Y (by kernel_rfl) Y Y Y (EL.ext<|.keep<|.keep<|.keep<|.keep<|.keep<|.keep<|.wr Y Y Y .nil) (fun hp' hx=>Zja (ov Y) (ov Y) ZbQ (hx.get Y Y) Y h_x5)<|XK 13 _ Y (by kernel_rfl) Y Y Y (EL.ext<|.keep<|.keep<|.keep<|.keep<|.keep<|.keep<|.wr Y Y Y .nil) (fun hp' hx=>ZbK (ov Y) (hx.get Y Y) Y (Zy h_x3).2 ZeU Y)<|Z0 14 _ Y (by kernel_rfl) Y Y (fun hp'=>Zb<|ov Y)<|XK 15 _ Y (by kernel_rfl) Y Y Y (EL.ext<|.keep<|.keep<|.keep<|.keep<|.keep<|.keep<|.wr Y Y Y .nil) (fun hp' hx=>Zp (ov Y) (hx.get Y Y)<|List.length_map ..)<|XK 16 _ Y (by kernel_rfl) Y Y Y (EL.ext<|.keep<|.keep<|.keep<|.keep<|.keep<|.keep<|.wr Y Y Y .nil) (fun hp' hx=>Zb7 (ov Y) (hx.get Y Y) Y Zg1)<|XK 17 _ Y (by kernel_rfl) Y Y Y (EL.ext<|.keep<|.keep<|.keep<|.keep<|.keep<|.keep<|.wr Y Y Y .nil) (fun hp' hx=>Qc (ov Y) (hx.get Y Y) Y h_x tS3 Y)<|Z0 18 _ Y (by kernel_rfl) Y Y (fun hp'=>Zm8 (ov Y) (ov Y) Y)<|Z0 19 _ Y (by kernel_rfl) Y Y (fun hp'=>Zhw (ov Y) (ov Y) Y)<|Z0 20 _ Y (by kernel_rfl) Y Y (fun hp'=>Zb<|ov Y)<|Z0 23 _ Y (by kernel_rfl) Y Y (fun hp'=>Zb<|ov Y)<|Zck 21 (.sl 5<|List.map R5 ([0] : List Int)) _ Y (by kernel_rfl) Y Y (fun h=>by cases h) (fun _=>by exact EL.ext (.keep <| .keep <| .keep <| .keep <| .keep <| .keep <| .wr rfl rfl rfl <| .nil)) (Zjc<|ZbG XJ (.cons (cvs (ov Y)<|Qm Y) Y (.cons (.b Y) .nil) .nil) Y Y)<|bE h fun l h_l h=>Zck 22 _ _ Y (by kernel_rfl) Y Y (fun h=>by cases h) (fun _=>by exact EL.ext (.keep <| .keep <| .keep <| .keep <| .keep <| .keep <| .wr rfl rfl rfl <| .nil)) (Zjc<|Zku (f := R5) (ov Y) (QT (ov Y) tZ_5) XJ Y Y (fun x=>(D5 x).2) h_l)<|bE h fun y3 h_y3 h=>Zck 24 _ _ Y (by kernel_rfl) Y Y (fun h=>by cases h) (fun _=>by exact EL.ext (.keep <| .keep <| .keep <| .keep <| .keep <| .keep <| .wr rfl rfl ((List.length_map ..).trans (Eq.trans (Zab h_y3) (Eq.symm ((List.length_map ..).trans rfl)))) <| .nil)) (ZY [6] (ZcT h_y3) (.cons (ov Y) (.own _ Y)<|.cons (ov Y) (.dat Y)<|.cons (ov Y) (.dat Y)<|.cons (ov Y) (.dat Y) .nil) (.cons Y (roM D5) .nil) Y (.keep Y Y<|.none<|.none<|.keep Y Y<|.keep Y Y<|.keep Y Y<|.lent 0 (.inl Y) Y (roM D5) .nil) Y Y<|QV<|rld Y)<|D1 25 Zb Y<|Dq 26 Y (Zj (ov Y) Y)<|Dq 27 Y (Zj (ov Y) Y)<|D1 28 QC Y<|D1 29 QC Y<|?_
  have h_x6 := XS (y := y3.2.2) h_x5
  have h_x7 := XS (y := (api_Memory.mk x2.Slots x2.Limit (x2.Sectors.set x.sector.toNat y3.2.2) x2.Wear x2.Bad)) h_x4
  have h_x8 := XS (y := (api_Memory.mk x2.Slots x2.Limit (x2.Sectors.set x.sector.toNat y3.2.2) x2.Wear x2.Bad)) h_x4
  refine ZjE (by kernel_rfl) (Ent.trans (Ent.absorbH (r := 5) (j := 0) (q := 6) Y (Zy h_x3).2 Y Y ((List.length_map ..).trans<|Zab h_y3) Y)<|Ent.trans (Ent.closeH (r := 5) (y := y3.2.2) Y Y)<|Ent.trans (Ent.absorbH (r := 3) (j := 2) (q := 5) Y (Zy h_x2).2 Y Y ((List.length_map ..).trans<|(List.length_set ..).trans Y) Y)<|Ent.closeH (r := 3) (y := (api_Memory.mk x2.Slots x2.Limit (x2.Sectors.set x.sector.toNat y3.2.2) x2.Wear x2.Bad)) Y Y)<|K3 3 11 12 Y<|QU [some ⟨80, [[.own 3 memories.length, .own 4 spots.length, .int .i64 copies, .bool frozen, .bool stopped, .int .i64 last, .bool some_]]⟩, none, none, some ⟨43, List.map O43 (memories.set k.toNat (api_Memory.mk x2.Slots x2.Limit (x2.Sectors.set x.sector.toNat y3.2.2) x2.Wear x2.Bad))⟩, some ⟨83, List.map R83 spots⟩, none, none] Y<|Tr<|Rm Y<|Rq Y (Zp (ov Y) Y<|List.length_map ..)<|Rq Y (Zb7 (ov Y) Y Y Zg1)<|Rq Y (Qc (ov Y) Y Y h_x tS3 Y)<|R2 ZP Y<|Rq Y (Zp (ov Y) Y<|List.length_map ..)<|Rq Y (Zb7 (ov Y) Y Y Zg1)<|Rx Y (Xl (u' := (ring_spot.mk x.sector (i64 (x.slot + 1)))) (ov Y) (ov Y) (Zl tS3) Y Y h_x Y (Zc Y) Y)<|Za<|K2 3 12 Y<|QU [some ⟨80, [[.own 3 memories.length, .own 4 spots.length, .int .i64 copies, .bool frozen, .bool stopped, .int .i64 last, .bool some_]]⟩, none, none, some ⟨43, List.map O43 (memories.set k.toNat (api_Memory.mk x2.Slots x2.Limit (x2.Sectors.set x.sector.toNat y3.2.2) x2.Wear x2.Bad))⟩, some ⟨83, List.map R83 (spots.set k.toNat (ring_spot.mk x.sector (i64 (x.slot + 1))))⟩, none, none] Y<|Tr<|Rm Y<|Rm Y<|Ra Y<|Ra Y<|Za<|?_
  obtain rfl := rt h
  exact Zi<|ZaU [some 0, some 1, some 2, some 3, some 4] Y (.cons (.tmp Y)<|.cons (.tmp Y) .nil) (.cons Y (ro1 (by exact tZ_80.symm)<|rlc (ZcN (Eq.symm<|(List.length_set ..).trans Y) Y)<|rlc (ZcN (Eq.symm<|(List.length_set ..).trans Y) Y)<|rlc (.dat Y)<|rlc (.dat Y)<|rlc (.dat Y)<|rlc (.dat Y)<|rlc (.dat Y) rln)<|.dead<|.dead<|.cons Y (roO Xj)<|.cons Y (roM D83) .nil) Y Y<|QV<|rlc (.dat Y)<|rlc (.dat Y) rln
theorem Zcu {r_ : ring_Recorder} {f : Vector Int 64} {power : Int} {r : Int × Bool × Int × ring_Recorder} (h : Xf r_ f power = some r) :
 GSpec Tryd.prog gl0 17 [.ptr 0 1 0 0, .agg (List.map C26 f.toList), .int .i64 power] [some ⟨80, [[.own 1 r_.bank.memories.length, .own 2 r_.bank.spots.length, .int .i64 r_.copies, .bool r_.frozen, .bool r_.stopped, .int .i64 r_.last, .bool r_.some_]]⟩, some ⟨43, List.map O43 r_.bank.memories⟩, some ⟨83, List.map R83 r_.bank.spots⟩] (.tuple [.int .i64 r.1, .bool r.2.1, .int .i64 r.2.2.1]) [some ⟨80, [[.own 3 r.2.2.2.bank.memories.length, .own 4 r.2.2.2.bank.spots.length, .int .i64 r.2.2.2.copies, .bool r.2.2.2.frozen, .bool r.2.2.2.stopped, .int .i64 r.2.2.2.last, .bool r.2.2.2.some_]]⟩, none, none, some ⟨43, List.map O43 r.2.2.2.bank.memories⟩, some ⟨83, List.map R83 r.2.2.2.bank.spots⟩] := by
 unfold Xf at h
 replace h := Qr h
 refine Qz (by kernel_rfl) Tryd.func17 Y Y<|?_
 intro w0 A W φ0
 refine Zex (Ent.sel [some 0, some 1, some 2, some 1, some 2] (sr 0 Y (.ptr (r' := 0) _ _ _ Y)<|sr 1 Y (Zdz<|rld<|arD fun _ => Y)<|sd 2 Y Y sn) (.cons Y (ro1 (by exact tZ_80.symm)<|rlc (.own (r' := 3) _ Y)<|rlc (.own (r' := 4) _ Y)<|rlc (.dat Y)<|rlc (.dat Y)<|rlc (.dat Y)<|rlc (.dat Y)<|rlc (.dat Y) rln)<|.dead<|.dead<|.cons Y (roO Xj)<|.cons Y (roM D83) .nil) Y Y)<|QU [some ⟨80, [[.own 3 r_.bank.memories.length, .own 4 r_.bank.spots.length, .int .i64 r_.copies, .bool r_.frozen, .bool r_.stopped, .int .i64 r_.last, .bool r_.some_]]⟩, none, none, some ⟨43, List.map O43 r_.bank.memories⟩, some ⟨83, List.map R83 r_.bank.spots⟩] Y<|Tr<|Rq Y (ZcG (cva<|ov Y) arL tZ_28<|arD fun _ => Y)<|Ra Y<|Ra Y<|Ra Y<|Za<|Zg<|K3 0 2 4 Y<|Tr<|Rm Y<|Rm Y<|bE h fun y h_y h=>Rq Y (J5 (Zdy h_y) .int<|.cons (ov Y) (View.ptrS (j := 0) (k := 7) Y Y Y (Nat.le_of_ble_eq_true Y)<|.cons (View.ownO Y Y Xj (fun x=>(D43 x).1) ZiS)<|.cons (View.ownM Y Y D83)<|.cons (Dat.view<|.b Y)<|.cons (Dat.view<|.b Y)<|.cons (Dat.view<|.b Y)<|.cons (Dat.view<|.b Y)<|.cons (Dat.view<|.b Y) .nil)<|.cons (ov Y) (Dat.view<|.b Y) .nil)<|Ra Y<|Za<|K4 0 2 4 9 Y<|Tr<|Rm Y<|R2 Q4 Y<|Za<|K5 0 2 4 9 23 Y<|If h Y (fun h=>?_) fun h=>?_
 ·
  refine K1 9 Y<|Tr<|Rm Y<|Ra Y<|Ra Y<|Ra Y<|Za<|?_
  obtain rfl := rt h
  exact Zi<|ZaU [some 0, some 1, some 2, some 3, some 4] Y (.cons (.tmp Y)<|.cons (.tmp Y)<|.cons (.tmp Y) .nil) (.cons Y (ro1 (by exact tZ_80.symm)<|rlc (.own _ Y)<|rlc (.own _ Y)<|rlc (.dat Y)<|rlc (.dat Y)<|rlc (.dat Y)<|rlc (.dat Y)<|rlc (.dat Y) rln)<|.dead<|.dead<|.cons Y (roO Xj)<|.cons Y (roM D83) .nil) Y Y<|QV<|rlc (.dat Y)<|rlc (.dat Y)<|rlc (.dat Y) rln
 ·
  refine Zf<|Zg<|K3 0 2 4 Y<|Tr<|Rq Y (Z9 (ov Y) JG (QS<|Zt arL) arL)<|bE h fun y2 h_y2 h=>Rq Y (Zq (ZdK h_y2)<|.cons (ov Y) (.aggB<|arD fun _ => Y) .nil)<|Rl tZ_99 ZfG Y<|R2 ZaR Y<|Za<|K4 0 2 4 28 Y<|If h Y (fun h=>?_) fun h=>?_
  ·
   refine K0<|Tr<|Ra Y<|Ra Y<|Ra Y<|Za<|?_
   obtain rfl := rt h
   exact Zi<|ZaU [some 0, some 1, some 2, some 3, some 4] Y (.cons (.tmp Y)<|.cons (.tmp Y)<|.cons (.tmp Y) .nil) (.cons Y (ro1 (by exact tZ_80.symm)<|rlc (.own _ Y)<|rlc (.own _ Y)<|rlc (.dat Y)<|rlc (.dat Y)<|rlc (.dat Y)<|rlc (.dat Y)<|rlc (.dat Y) rln)<|.dead<|.dead<|.cons Y (roO Xj)<|.cons Y (roM D83) .nil) Y Y<|QV<|rlc (.dat Y)<|rlc (.dat Y)<|rlc (.dat Y) rln
  ·
   refine Zf<|K3 0 2 4 Y<|Tr<|Rq Y (Z9 (ov Y) JG (QS<|Zt arL) arL)<|bE h fun y3 h_y3 h=>Rq Y (Zq (Zdn h_y3)<|.cons (ov Y) (.aggB<|arD fun _ => Y) .nil)<|Rm Y<|Rq Y (Zj (ov Y) Y)<|Rq Y (Zj (ov Y) Y)<|Ra Y<|Ra Y<|Za<|Zg<|K4 0 2 4 10 Y<|Qj (cw := md0) (by kernel_rfl)<|D1 0 Zb Y<|D1 1 Zb Y<|Dq 2 Y (Zp (ov Y) Y Y)<|Dq 3 Y (Zo (ov Y) Y Y ZdP)<|Dq 4 Y (Zo (ov Y) Y Y Zdf)<|Dq 5 Y (ZM (ov Y) Y Y Y ZhL Y)<|Dq 6 Y (ZeN (ov Y) Y Y JV)<|D1 7 Zb Y<|Dq 8 Y (Zp (ov Y) Y Y)<|Dq 9 Y (Zo (ov Y) Y Y Znk)<|Dq 10 Y (ZM (ov Y) Y Y Y tS3 Y)<|bE h fun y4 h_y4 h=>Dq 11 Y (Zq (Zf5 h_y4)<|.cons (ov Y) (.b Y)<|.cons (ov Y) (.b Y)<|.cons (ov Y) (.b Y) .nil)<|D1 12 QC Y<|Dd<|Zg<|K5 0 2 4 10 12 Y<|Tr<|Rm Y<|Rq Y (Zp (ov Y) Y Y)<|Rq Y (Zo (ov Y) Y Y ZdP)<|Rm Y<|bE h fun y5 h_y5 h=>Rq Y (J5 (ZeD h_y5) .int<|.cons (ov Y) (View.ptrS (j := 0) (k := 2) Y Y Y (Nat.le_of_ble_eq_true Y)<|.cons (View.ownO Y Y Xj (fun x=>(D43 x).1) ZiS)<|.cons (View.ownM Y Y D83) .nil)<|.cons (ov Y) (Dat.view<|.b Y) .nil)<|Ra Y<|Za<|K6 0 2 4 10 12 13 Y<|Tr<|Rm Y<|R2 Q4 Y<|Za<|K7 0 2 4 10 12 13 52 Y<|If h Y (fun h=>?_) fun h=>?_
   ·
    refine K1 13 Y<|Tr<|Rm Y<|Ra Y<|Ra Y<|Ra Y<|Za<|?_
    obtain rfl := rt h
    exact Zi<|ZaU [some 0, some 1, some 2, some 3, some 4] Y (.cons (.tmp Y)<|.cons (.tmp Y)<|.cons (.tmp Y) .nil) (.cons Y (ro1 (by exact tZ_80.symm)<|rlc (.own _ Y)<|rlc (.own _ Y)<|rlc (.dat Y)<|rlc (.dat Y)<|rlc (.dat Y)<|rlc (.dat Y)<|rlc (.dat Y) rln)<|.dead<|.dead<|.cons Y (roO Xj)<|.cons Y (roM D83) .nil) Y Y<|QV<|rlc (.dat Y)<|rlc (.dat Y)<|rlc (.dat Y) rln
   ·
    refine Zf<|K5 0 2 4 10 12 Y<|Tr<|Rq Y (Z9 (ov Y) JG (QS<|Zt arL) arL)<|bE h fun y6 h_y6 h=>Rq Y (Zq (Zfq h_y6)<|.cons (ov Y) (.aggB<|arD fun _ => Y) .nil)<|Rm Y<|Rq Y (Zj (ov Y) Y)<|Rq Y (Zj (ov Y) Y)<|Ra Y<|Ra Y<|Za<|J8 (fun j => (.inr j)) (fun memories spots copies frozen stopped last some_ power2=>⟨[(0, .ptr 0 1 0 0), (2, .int .i64 power2), (10, .int .i64 y3.1)], [some ⟨80, [[.own 3 memories.length, .own 4 spots.length, .int .i64 copies, .bool frozen, .bool stopped, .int .i64 last, .bool some_]]⟩, none, none, some ⟨43, List.map O43 memories⟩, some ⟨83, List.map R83 spots⟩]⟩) h (fun h=>?_) fun memories spots copies frozen stopped last some_ power2 h=>?_
    ·
     refine K5 0 2 10 12 14 Y<|Tr<|Rm Y<|Rl tZ_3 Qs Y<|Rm Y<|Za<|Ze<|?_
     obtain ⟨r1, hl1, ho1⟩ := QH h
     refine L9 (fun memories2 spots2 copies2 frozen2 stopped2 last2 some_2 power3 i=>⟨[(0, .ptr 0 1 0 0), (2, .int .i64 power3), (10, .int .i64 y3.1), (14, .sl 5 (List.map R5 y6.1)), (59, .sl 3 (List.map R3 y4)), (60, .int .i64 (y4.length : Int)), (61, .int .i64 i)], [some ⟨80, [[.own 3 memories2.length, .own 4 spots2.length, .int .i64 copies2, .bool frozen2, .bool stopped2, .int .i64 last2, .bool some_2]]⟩, none, none, some ⟨43, List.map O43 memories2⟩, some ⟨83, List.map R83 spots2⟩]⟩) hl1 (ES [some 0, some 1, some 2, some 3, some 4] (hhp := .cons Y (ro1 (by exact tZ_80.symm)<|rlc (.own _ Y)<|rlc (.own _ Y)<|rlc (.dat Y)<|rlc (.dat Y)<|rlc (.dat Y)<|rlc (.dat Y)<|rlc (.dat Y) rln)<|.dead<|.dead<|.cons Y (roO Xj)<|.cons Y (roM D83) .nil)) fun n1 memories2 spots2 copies2 frozen2 stopped2 last2 some_2 power3 i h=>?_
     unfold ZZ at h
     refine Tr<|R2 ZD Y<|Za<|Zg<|If h Y (fun h=>?_) fun h=>?_
     ·
      refine Zf<|Zg<|Ze<|K7 0 2 10 14 59 60 61 Y<|Tr<|bE h fun x h_x h=>Rq Y (ZQ (ov Y) (ov Y) Qs h_x)<|Rq Y (Zd (ov Y) tS3 Y)<|Ra Y<|Za<|K8 0 2 10 14 17 59 60 61 Y<|Tr<|Ra Y<|Za<|Zg<|Qj (cw := ⟨true, false, [], [], []⟩) (by kernel_rfl)<|D1 0 Zb Y<|Dq 1 Y (Zp (ov Y) Y Y)<|Dq 2 Y (Zo (ov Y) Y Y ZdP)<|D1 3 Zb Y<|D1 4 Zb Y<|D1 5 Zb Y<|Dq 6 Y (ZfO (QT (ov Y) tZ_5) XJ<|Zcw _ _)<|D1 7 Zb Y<|Dq 8 Y (ZfO (QT (ov Y) tZ_5) XJ<|Zcw _ _)<|bE h fun l h_l h=>Dq 9 Y (Zkq (ov Y) XJ (ov Y) (ov Y) h_l)<|D1 10 Zb Y<|bE h fun y7 h_y7 h=>Do 11 Y (ZY [0, 3, 4] (Zcq h_y7) (.cons (ov Y) (.ptr _ _ _ Y)<|.cons (ov Y) (.dat Y)<|.cons (ov Y) (.dat Y)<|.cons (ov Y) (.dat Y) .nil) (.cons Y (ro1 (by exact tZ_80.symm)<|rlc (.own _ Y)<|rlc (.own _ Y)<|rlc (.dat Y)<|rlc (.dat Y)<|rlc (.dat Y)<|rlc (.dat Y)<|rlc (.dat Y) rln)<|.cons Y (roO Xj)<|.cons Y (roM D83) .nil) Y (.lent 0 (.inl Y) Y (ro1 (by exact tZ_80.symm)<|rlc (.own _<|.inr ⟨Nat.le_of_ble_eq_true Y, Y⟩)<|rlc (.own _<|.inr ⟨Nat.le_of_ble_eq_true Y, Y⟩)<|rlc (.dat Y)<|rlc (.dat Y)<|rlc (.dat Y)<|rlc (.dat Y)<|rlc (.dat Y) rln)<|.none<|.none<|.none<|.none<|.lent 3 (.inr ⟨Nat.le_of_ble_eq_true Y, Y⟩) Y (roO Xj)<|.lent 4 (.inr ⟨Nat.le_of_ble_eq_true Y, Y⟩) Y (roM D83) .nil) Y Y<|QV<|rld Y)<|D1 12 Zb Y<|Dq 13 Y (Zj (ov Y) Y)<|Dq 14 Y (Zj (ov Y) Y)<|D1 15 QC Y<|D1 16 QC Y<|Dd<|K8 0 2 10 14 18 59 60 61 Y<|QU [some ⟨80, [[.own 5 y7.2.2.bank.memories.length, .own 6 y7.2.2.bank.spots.length, .int .i64 y7.2.2.copies, .bool y7.2.2.frozen, .bool y7.2.2.stopped, .int .i64 y7.2.2.last, .bool y7.2.2.some_]]⟩, none, none, none, none, some ⟨43, List.map O43 y7.2.2.bank.memories⟩, some ⟨83, List.map R83 y7.2.2.bank.spots⟩] Y<|Tr<|Rm Y<|R1 XV Y<|Za<|K8 0 2 10 14 59 60 61 81 Y<|If h Y (fun h=>?_) fun h=>?_
      ·
       refine K2 0 2 Y<|Tr<|Rm Y<|Rq Y (Zp (ov Y) Y Y)<|Rq Y (Zo (ov Y) Y Y ZkD)<|Rx Y (Zr (ov Y) (ov Y) (Zl tS4) Y Y Y (Nat.le_of_ble_eq_true Y) (Zc Y) Y)<|Za<|K1 2 Y<|QU [some ⟨80, [[.own 5 y7.2.2.bank.memories.length, .own 6 y7.2.2.bank.spots.length, .int .i64 y7.2.2.copies, .bool y7.2.2.frozen, .bool true, .int .i64 y7.2.2.last, .bool y7.2.2.some_]]⟩, none, none, none, none, some ⟨43, List.map O43 y7.2.2.bank.memories⟩, some ⟨83, List.map R83 y7.2.2.bank.spots⟩] Y<|Tr<|Rm Y<|Ra Y<|Ra Y<|Ra Y<|Za<|?_
       replace h := lx h ▸ ho1
       obtain rfl := rt h
       exact Zi<|ZaU [some 0, some 1, some 2, some 5, some 6] Y (.cons (.tmp Y)<|.cons (.tmp Y)<|.cons (.tmp Y) .nil) (.cons Y (ro1 (by exact tZ_80.symm)<|rlc (.own _ Y)<|rlc (.own _ Y)<|rlc (.dat Y)<|rlc (.dat Y)<|rlc (.dat Y)<|rlc (.dat Y)<|rlc (.dat Y) rln)<|.dead<|.dead<|.cons Y (roO Xj)<|.cons Y (roM D83) .nil) Y Y<|QV<|rlc (.dat Y)<|rlc (.dat Y)<|rlc (.dat Y) rln
      ·
       exact Zf<|K7 0 2 10 14 59 60 61 Y<|Zk<|R2 ZP Y<|Rm Y<|Za<|⟨_, h, ES [some 0, some 1, some 2, some 5, some 6] (hhp := .cons Y (ro1 (by exact tZ_80.symm)<|rlc (.own _ Y)<|rlc (.own _ Y)<|rlc (.dat Y)<|rlc (.dat Y)<|rlc (.dat Y)<|rlc (.dat Y)<|rlc (.dat Y) rln)<|.dead<|.dead<|.cons Y (roO Xj)<|.cons Y (roM D83) .nil)⟩
     ·
      refine ZA<|?_
      replace h := lx h ▸ ho1
      exact ⟨_, h, ES [some 0, some 1, some 2, some 3, some 4] (hhp := .cons Y (ro1 (by exact tZ_80.symm)<|rlc (.own _ Y)<|rlc (.own _ Y)<|rlc (.dat Y)<|rlc (.dat Y)<|rlc (.dat Y)<|rlc (.dat Y)<|rlc (.dat Y) rln)<|.dead<|.dead<|.cons Y (roO Xj)<|.cons Y (roM D83) .nil)⟩
    ·
     replace h := elr h
     replace h := t8i h
     refine Tr<|Rm Y<|Rm Y<|Rm Y<|Rq Y (Zp (ov Y) Y Y)<|Rq Y (Zo (ov Y) Y Y Znw)<|Rx Y (Zr (ov Y) (ov Y) (Zl tS3) Y Y Y (Nat.le_of_ble_eq_true Y) (Zc Y) Y)<|Rq Y (Zp (ov Y) Y Y)<|Rq Y (Zo (ov Y) Y Y ZnM)<|Rx Y (Zr (ov Y) (ov Y) (Zl tS4) Y Y Y (Nat.le_of_ble_eq_true Y) (Zc Y) Y)<|Za<|K1 2 Y<|QU [some ⟨80, [[.own 3 memories.length, .own 4 spots.length, .int .i64 copies, .bool frozen, .bool stopped, .int .i64 y3.1, .bool true]]⟩, none, none, some ⟨43, List.map O43 memories⟩, some ⟨83, List.map R83 spots⟩] Y<|Tr<|Rm Y<|Ra Y<|Ra Y<|Ra Y<|Za<|?_
     obtain rfl := rt h
     exact Zi<|ZaU [some 0, some 1, some 2, some 3, some 4] Y (.cons (.tmp Y)<|.cons (.tmp Y)<|.cons (.tmp Y) .nil) (.cons Y (ro1 (by exact tZ_80.symm)<|rlc (.own _ Y)<|rlc (.own _ Y)<|rlc (.dat Y)<|rlc (.dat Y)<|rlc (.dat Y)<|rlc (.dat Y)<|rlc (.dat Y) rln)<|.dead<|.dead<|.cons Y (roO Xj)<|.cons Y (roM D83) .nil) Y Y<|QV<|rlc (.dat Y)<|rlc (.dat Y)<|rlc (.dat Y) rln
end Go.Proofs.YtjfoenlooacoiaaDoor
