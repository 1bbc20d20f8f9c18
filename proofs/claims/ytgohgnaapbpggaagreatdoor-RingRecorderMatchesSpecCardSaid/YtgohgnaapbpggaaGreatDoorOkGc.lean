/- A text of the proof: a verified executor of the program form, or the contracts of the functions that the law reaches. -/
import Derived.Test.YtgohgnaapbpggaaGreatDoorOkGb
set_option linter.all false
namespace Go.Proofs.YtgohgnaapbpggaaGreatDoor
open Go Go.Vx
set_option maxRecDepth 10000
set_option maxHeartbeats 1000000
set_option linter.unusedVariables false
theorem Zdz{r_:ring_Recorder}{power:Int}{r:Int}(h:Xe r_ power=some r):
 CSpec Tryz.prog gl0 43 [.rp [.sl 59 (List.map R59 r_.bank.memories),.sl 83 (List.map R83 r_.bank.spots),.int .i64 r_.copies,.bool r_.frozen,.bool r_.stopped,.int .i64 r_.last,.bool r_.some_] 0,.int .i64 power] (.int .i64 r):=by
 unfold Xe at h
 replace h:=Qb h
 refine So Tryz.func43 Y fun w0 A=>Tr<|Rz Y<|Zh<|Zf<|K2 0 1 Y<|Tr<|Rm Y<|R1 ZG Y<|Rq Y (Zv (ov Y) ZnB)<|Rq Y (Zd (ov Y) tS4 Y)<|Rz Y<|K3 0 1 5 Y<|If h Y (fun h=>?_) fun h=>?_
 ·
  refine K0<|Tr<|Rz Y<|?_
  obtain rfl:=rt h
  exact Zk (ZK Y (.one<|rb Y))
 ·
  refine K2 0 1 Y<|Tr<|Rm Y<|R1 ZG Y<|Rq Y (Zv (ov Y) ZlS)<|Rq Y (Zd (ov Y) tS4 Y)<|Rz Y<|K2 1 10 Y<|If h Y (fun h=>?_) fun h=>?_
  ·
   refine K0<|Tr<|Rz Y<|?_
   obtain rfl:=rt h
   exact Zk (ZK Y (.one<|rb Y))
  ·
   refine K1 1 Y<|Tr<|Rm Y<|bE h fun y h_y h=>Rq Y (Zq (Xf h_y)<|.cons (ov Y) (.b Y)<|.cons (ov Y) (.b Y)<|.cons (ov Y) (.b Y) .nil)<|R1 XM Y<|Rz Y<|K1 15 Y<|If h Y (fun h=>?_) fun h=>?_
   ·
    refine K0<|Tr<|Rz Y<|?_
    obtain rfl:=rt h
    exact Zk (ZK Y (.one<|rb Y))
   ·
    refine Zg<|K0<|Tr<|Rz Y<|?_
    obtain rfl:=rt h
    exact Zk (ZK Y (.one<|rb Y))
theorem Zbe{w:Int}{r:Int}(h:JC w=some r):
 CSpec Tryz.prog gl0 79 [.int .u16 w] (.int .i64 r):=by
 unfold JC at h
 replace h:=Qb h
 refine So Tryz.func79 Y fun w0 A=>Tr<|Rz Y<|Tr<|Rm Y<|R2 Zbk Y<|Rq Y (Qh (ov Y) Zdl tI3 Y)<|Rz Y<|?_
 obtain rfl:=rt h
 exact Zk (ZK Y (.one<|rb Y))
theorem ZfK{f:Vector Int 64}{r:Int}(h:Js f=some r):
 CSpec Tryz.prog gl0 77 [.rp (List.map C44 f.toList) 0] (.int .i64 r):=by
 unfold Js at h
 replace h:=Qb h
 refine So Tryz.func77 Y fun w0 A=>Tr<|Rz Y<|Zh<|Z5 (cw:=md0) (by kernel_rfl)<|D1 0 Zc Y<|D1 1 ZG Y<|bE h fun x h_x h=>Dq 2 Y (Q6 (ov Y) (ov Y) Zaq h_x)<|Dq 3 Y (Zd (ov Y) Za7<|Qx<|XV (o:=0) (o':=((Int.toNat 1)*1)) (Zu arL)<|XR h_x)<|bE h fun y h_y h=>Dq 4 Y (Zq (Zbe h_y)<|.cons (ov Y) (.b Y) .nil)<|D1 5 Zc Y<|D1 6 ZG Y<|bE h fun x2 h_x2 h=>Dq 7 Y (Q6 (ov Y) (ov Y) Zaq h_x2)<|Dq 8 Y (Zd (ov Y) Za7<|Qx<|XV (o:=0) (o':=((Int.toNat 2)*1)) (Zu arL)<|XR h_x2)<|bE h fun y2 h_y2 h=>Dq 9 Y (Zq (Zbe h_y2)<|.cons (ov Y) (.b Y) .nil)<|bE h fun q h_q h=>Dq 10 Y (ZgJ (ov Y) (ov Y) h_q)<|D2 11 Zho Y<|D1 12 ZS Y<|Dd<|?_
 obtain rfl:=rt h
 exact Zk (ZK Y (.one<|rb Y))
theorem ZhP{x:Int}{r:Int}(h:ZaN x=some r):
 CSpec Tryz.prog gl0 108 [.int .u16 x] (.int .i64 r):=by
 unfold ZaN at h
 replace h:=Qb h
 refine So Tryz.func108 Y fun w0 A=>Tr<|Rz Y<|Zh<|Z5 (cw:=md0) (by kernel_rfl)<|D1 0 Zc Y<|bE h fun q h_q h=>Dq 1 Y (Zbf (ov Y) (ov Y) h_q)<|bE h fun b h_b h=>Dq 2 Y (ZmX (ov Y) (ov Y) ZlG h_b)<|D1 3 Zc Y<|D2 4 Zbk Y<|bE h fun b2 h_b2 h=>Dq 5 Y (ZmX (ov Y) (ov Y) ZlG h_b2)<|D2 6 ZI Y<|Dq 7 Y (Qh (ov Y) tI5 tI3 Y)<|D1 8 ZS Y<|Dd<|?_
 obtain rfl:=rt h
 exact Zk (ZK Y (.one<|rb Y))
theorem ZgF{w:Int}{r:Bool}(h:ZbW w=some r):
 CSpec Tryz.prog gl0 78 [.int .u16 w] (.bool r):=by
 unfold ZbW at h
 replace h:=Qb h
 refine So Tryz.func78 Y fun w0 A=>Tr<|Rz Y<|Tr<|Rm Y<|R2 ZiK Y<|Rm Y<|Rq Y (.guarded ((decide (w≤4095))==true) Y Y Y Y fun h=>Zc<|ov Y)<|bE h fun y h_y h=>Rq Y (.guarded ((decide (w≤4095))==true) Y Y Y Y fun h=>Zq (ZhP<|gdT h_y h)<|.cons (ow Y h) (.b Y) .nil)<|bE h fun q h_q h=>Rq Y (.guarded ((decide (w≤4095))==true) Y Y Y Y fun h=>Zaf (ow Y h) (ov Y)<|gdT h_q h)<|Rq Y (.guarded ((decide (w≤4095))==true) Y Y Y Y fun h=>Zae (ow Y h)<|ov Y)<|Rq Y (J6 (ov Y) fun hp=>ow Y<|gT hp)<|Rz Y<|?_
 obtain rfl:=rt h
 exact Zk (ZK Y (.one<|rb Y))
theorem ZkF{f:Vector Int 64}{r:Int}(h:ZbG f=some r):
 CSpec Tryz.prog gl0 80 [.rp (List.map C44 f.toList) 0] (.int .i64 r):=by
 unfold ZbG at h
 replace h:=Qb h
 refine So Tryz.func80 Y fun w0 A=>Tr<|Rz Y<|K1 0 Y<|Tr<|Rz Y<|I1 (fun n=>⟨[(3,.int .i64 n)],[]⟩) h (fun h=>?_) fun n h=>?_
 ·
  refine Tr<|Rm Y<|Zb<|Zf<|?_
  obtain⟨r1,hl1,ho1⟩:=QC h
  refine L2 (fun n2 i=>⟨[(0,.rp (List.map C44 f.toList) 0),(3,.int .i64 n2),(5,.int .i64 i)],[]⟩) hl1 (ES []) fun n1 n2 i h=>?_
  unfold JY at h
  refine Tr<|R2 ZL Y<|Zb<|Zh<|If h Y (fun h=>?_) fun h=>?_
  ·
   exact Zg<|Zh<|Zf<|K3 0 3 5 Y<|Tr<|Rm Y<|Rz Y<|K4 0 3 4 5 Y<|Zo<|Rm Y<|Rm Y<|Rm Y<|R2 ZI Y<|R1 ZG Y<|bE h fun x h_x h=>Rq Y (Q6 (ov Y) (ov Y) Zaq h_x)<|Rq Y (Zd (ov Y) Za7<|Qx<|XV (o:=0) (o':=((i64 (i+1)).toNat*1)) (Zu arL)<|XR h_x)<|bE h fun y h_y h=>Rq Y (Zq (Zbe h_y)<|.cons (ov Y) (.b Y) .nil)<|R2 ZlY Y<|Rz Y<|K3 0 3 5 Y<|Zo<|R2 ZI Y<|Rm Y<|Zb<|⟨_,h,ES []⟩
  ·
   refine ZA<|?_
   replace h:=lx h▸ho1
   exact⟨_,h,ES []⟩
 ·
  refine Tr<|Rm Y<|Rz Y<|?_
  obtain rfl:=rt h
  exact Zk (ZK Y (.one<|rb Y))
theorem Zjd{f:Vector Int 64}{r:Int}(h:Zav f=some r):
 CSpec Tryz.prog gl0 81 [.rp (List.map C44 f.toList) 0] (.int .i64 r):=by
 unfold Zav at h
 replace h:=Qb h
 refine So Tryz.func81 Y fun w0 A=>Tr<|Rz Y<|K1 0 Y<|Tr<|Rz Y<|I1 (fun n=>⟨[(3,.int .i64 n)],[]⟩) h (fun h=>?_) fun n h=>?_
 ·
  refine Tr<|Rm Y<|Zb<|Zf<|?_
  obtain⟨r1,hl1,ho1⟩:=QC h
  refine L2 (fun n2 i=>⟨[(0,.rp (List.map C44 f.toList) 0),(3,.int .i64 n2),(7,.int .i64 i)],[]⟩) hl1 (ES []) fun n1 n2 i h=>?_
  unfold Ja at h
  refine Tr<|R2 ZL Y<|Zb<|Zh<|If h Y (fun h=>?_) fun h=>?_
  ·
   refine Zg<|I1 (fun n3=>⟨[(0,.rp (List.map C44 f.toList) 0),(3,.int .i64 n3),(7,.int .i64 i)],[]⟩) h (fun h=>?_) fun n3 h=>?_
   ·
    refine Zf<|K3 0 3 7 Y<|Tr<|Rm Y<|Rz Y<|K4 0 3 4 7 Y<|Tr<|Rz Y<|Zf<|?_
    obtain⟨r2,hl2,ho2⟩:=QC h
    refine L2 (fun n4 k=>⟨[(0,.rp (List.map C44 f.toList) 0),(3,.int .i64 n4),(4,.int .i64 i),(5,.int .i64 k),(7,.int .i64 i)],[]⟩) hl2 (ES []) fun n2 n4 k h=>?_
    unfold XF at h
    refine Zh<|Tr<|Rm Y<|R2 ZiV Y<|Zb<|K6 0 3 4 5 7 11 Y<|If h Y (fun h=>?_) fun h=>?_
    ·
     refine Zg<|Zh<|Zf<|K5 0 3 4 5 7 Y<|Tr<|Rm Y<|R2 Zbk Y<|R2 Qy Y<|Rz Y<|K6 0 3 4 5 6 7 Y<|Tr<|Rm Y<|bE h fun q h_q h=>Rq Y (ZgJ (ov Y) (ov Y) h_q)<|R2 Zbk Y<|Rz Y<|K6 0 3 4 5 6 7 Y<|Tr<|Rm Y<|Rm Y<|Rm Y<|R1 ZG Y<|bE h fun x h_x h=>Rq Y (Q6 (ov Y) (ov Y) Zaq h_x)<|Rq Y (Zd (ov Y) Za7<|Qx<|XV (o:=0) (o':=(i.toNat*1)) (Zu arL)<|XR h_x)<|Rm Y<|bE h fun q2 h_q2 h=>Rq Y (Zbf (ov Y) (ov Y) h_q2)<|R2 Zbk Y<|R2 Zae Y<|Rq Y (Zit .neq (by simp) (ov Y) (ov Y) tB4)<|Zb<|K6 0 3 4 5 7 30 Y<|If h Y (fun h=>?_) fun h=>?_
     ·
      exact K5 0 3 4 5 7 Y<|Zo<|Rm Y<|R2 ZlY Y<|Rz Y<|K5 0 3 4 5 7 Y<|Zo<|Rm Y<|R2 ZbR Y<|Rz Y<|⟨_,h,ES []⟩
     ·
      exact Zg<|K5 0 3 4 5 7 Y<|Zo<|Rm Y<|R2 ZbR Y<|Rz Y<|⟨_,h,ES []⟩
    ·
     refine ZA<|?_
     replace h:=lx h▸ho2
     exact⟨_,h,ES []⟩
   ·
    exact Zo<|R2 ZI Y<|Rm Y<|Zb<|⟨_,h,ES []⟩
  ·
   refine ZA<|?_
   replace h:=lx h▸ho1
   exact⟨_,h,ES []⟩
 ·
  refine Tr<|Rm Y<|Rz Y<|?_
  obtain rfl:=rt h
  exact Zk (ZK Y (.one<|rb Y))
theorem Zhy{f:Vector Int 64}{r:(List api_Flaw)}(h:ZaP f=some r):
 CSpec Tryz.prog gl0 45 [.agg (List.map C44 f.toList)] (.sl 133 (List.map R133 r)):=by
 unfold ZaP at h
 replace h:=Qb h
 refine So Tryz.func45 Y fun w0 A=>Tr<|Rq Y (JL (cva<|ov Y) arL tZ_46<|arD fun _=>Y)<|Rz Y<|K1 1 Y<|Tr<|Rz Y<|I1 (fun out=>⟨[(1,.rp (List.map C44 f.toList) 0),(3,.own 0 out.length)],[some ⟨133,List.map R133 out⟩]⟩) h (fun h=>?_) fun out h=>?_
 ·
  refine Tr<|Rq Y (Z3 (ov Y) X3 (Qs<|Zu arL) arL)<|Rm Y<|Zb<|Zf<|?_
  obtain⟨r1,hl1,ho1⟩:=QC h
  refine L2 (fun out2 i=>⟨[(1,.rp (List.map C44 f.toList) 0),(3,.own 0 out2.length),(7,.agg (List.map C44 f.toList)),(8,.int .i64 i)],[some ⟨133,List.map R133 out2⟩]⟩) hl1 (ES [none]) fun n1 out2 i h=>?_
  unfold J3 at h
  refine Tr<|R2 ZL Y<|Zb<|Zh<|If h Y (fun h=>?_) fun h=>?_
  ·
   refine Zg<|Zh<|Zf<|K4 1 3 7 8 Y<|Tr<|Rm Y<|bE h fun x h_x h=>Rq Y (ZhH (ov Y) (ov Y) Zaq Za7 h_x)<|Ra Y<|Rz Y<|K6 1 3 4 5 7 8 Y<|Tr<|Rm Y<|R2 Za9 Y<|Zb<|K6 1 3 4 7 8 13 Y<|If h Y (fun h=>?_) fun h=>?_
   ·
    exact K5 1 3 4 7 8 Y<|Zo<|Rm Y<|Rm Y<|Rq Y (Xw (ys:= [_,_]) Zf4 ZfT Zh2 (.cons (cvs (ov Y)<|Zn Y)<|.cons (cvs (ov Y)<|Zn Y) .nil) Y)<|R_q (.sl 133<|List.map R133 ([(api_Flaw.mk i 5)]:List api_Flaw)) Y (Jc ZeG (.cons (cva<|ov Y) Y (pwD Y) .nil) Y Y)<|bE h fun l h_l h=>Rx Y (QK (ov Y) (Qr (ov Y) tZ_133) ZeG Y Y Y (fun _=>Za Y) Y h_l)<|Rz Y<|K4 1 3 7 8 Y<|Zo<|R2 ZI Y<|Rm Y<|Zb<|⟨_,h,ES [some 0]⟩
   ·
    exact Zg<|K4 1 3 7 8 Y<|Zo<|R2 ZI Y<|Rm Y<|Zb<|⟨_,h,ES [some 0]⟩
  ·
   refine ZA<|?_
   replace h:=lx h▸ho1
   exact⟨_,h,ES [some 0]⟩
 ·
  refine Zh<|Tr<|Rm Y<|Rq Y (Zb9 (ov Y) Y Y ZeG)<|R2 Za9 Y<|Zb<|K3 1 3 22 Y<|If h Y (fun h=>?_) fun h=>?_
  ·
   refine K1 3 Y<|Tr<|Rm Y<|Rz Y<|?_
   obtain rfl:=rt h
   exact Zk (ZK Y (.one<|.tmp Y<|View.ownM Y Y D133))
  ·
   refine Zg<|I1 (fun out3=>⟨[(1,.rp (List.map C44 f.toList) 0),(3,.own 0 out3.length)],[some ⟨133,List.map R133 out3⟩]⟩) h (fun h=>?_) fun out3 h=>?_
   ·
    refine Zh<|K2 1 3 Y<|Z5 (cw:=md0) (by kernel_rfl)<|bE h fun x2 h_x2 h=>Dq 0 Y (Q6 (ov Y) (ov Y) Zaq h_x2)<|Dq 1 Y (Zd (ov Y) Za7<|Qx<|XV (o:=0) (o':=((Int.toNat 0)*1)) (Zu arL)<|XR h_x2)<|bE h fun y h_y h=>Dq 2 Y (Zq (ZfK h_y)<|.cons (ov Y) (.b Y) .nil)<|bE h fun q h_q h=>Dq 3 Y (Zaf (ov Y) (ov Y) h_q)<|bE h fun x3 h_x3 h=>Dq 4 Y (Q6 (og (v:=gv_frame_syncs) (k:= .u16) (f:=C44) (by simp [gl0]) fun _=>Y) (ov Y) Zsy h_x3)<|Dq 5 Y (Zd (ov Y) Za7<|Qx<|XV (o:=0) (o':=(q.toNat*1)) (Zu arL)<|XR h_x3)<|D2 6 Qy Y<|Dd<|K3 1 3 30 Y<|If h Y (fun h=>?_) fun h=>?_
    ·
     exact K2 1 3 Y<|Zo<|Rm Y<|Rq Y (Xw (ys:= [_,_]) Zf4 ZfT Zh2 (.cons (cvs (ov Y)<|Zn Y)<|.cons (cvs (ov Y)<|Zn Y) .nil) Y)<|R_q (.sl 133<|List.map R133 ([(api_Flaw.mk 0 1)]:List api_Flaw)) Y (Jc ZeG (.cons (cva<|ov Y) Y (pwD Y) .nil) Y Y)<|bE h fun l2 h_l2 h=>Rx Y (QK (ov Y) (Qr (ov Y) tZ_133) ZeG Y Y Y (fun _=>Za Y) Y h_l2)<|Rz Y<|⟨_,h,ES [some 0]⟩
    ·
     exact Zg<|⟨_,h,ES [some 0]⟩
   ·
    refine I1 (fun out4=>⟨[(1,.rp (List.map C44 f.toList) 0),(3,.own 0 out4.length)],[some ⟨133,List.map R133 out4⟩]⟩) h (fun h=>?_) fun out4 h=>?_
    ·
     refine Tr<|Rz Y<|Zf<|?_
     obtain⟨r2,hl2,ho2⟩:=QC h
     refine L2 (fun out5 i2=>⟨[(1,.rp (List.map C44 f.toList) 0),(3,.own 0 out5.length),(6,.int .i64 i2)],[some ⟨133,List.map R133 out5⟩]⟩) hl2 (ES [some 0]) fun n2 out5 i2 h=>?_
     unfold JR at h
     refine Zh<|Tr<|Rm Y<|R2 ZL Y<|Zb<|K4 1 3 6 36 Y<|If h Y (fun h=>?_) fun h=>?_
     ·
      refine Zg<|Zh<|Zf<|K3 1 3 6 Y<|Tr<|Rm Y<|bE h fun x4 h_x4 h=>Rq Y (Q6 (ov Y) (ov Y) Zaq h_x4)<|Rq Y (Zd (ov Y) Za7<|Qx<|XV (o:=0) (o':=(i2.toNat*1)) (Zu arL)<|XR h_x4)<|bE h fun y2 h_y2 h=>Rq Y (Zq (ZgF h_y2)<|.cons (ov Y) (.b Y) .nil)<|R1 XM Y<|Zb<|K4 1 3 6 43 Y<|If h Y (fun h=>?_) fun h=>?_
      ·
       exact K3 1 3 6 Y<|Zo<|Rm Y<|Rm Y<|Rq Y (Xw (ys:= [_,_]) Zf4 ZfT Zh2 (.cons (cvs (ov Y)<|Zn Y)<|.cons (cvs (ov Y)<|Zn Y) .nil) Y)<|R_q (.sl 133<|List.map R133 ([(api_Flaw.mk i2 2)]:List api_Flaw)) Y (Jc ZeG (.cons (cva<|ov Y) Y (pwD Y) .nil) Y Y)<|bE h fun l3 h_l3 h=>Rx Y (QK (ov Y) (Qr (ov Y) tZ_133) ZeG Y Y Y (fun _=>Za Y) Y h_l3)<|Rz Y<|K3 1 3 6 Y<|Zo<|Rm Y<|R2 ZI Y<|Rz Y<|⟨_,h,ES [some 0]⟩
      ·
       exact Zg<|K3 1 3 6 Y<|Zo<|Rm Y<|R2 ZI Y<|Rz Y<|⟨_,h,ES [some 0]⟩
     ·
      refine ZA<|?_
      replace h:=lx h▸ho2
      exact⟨_,h,ES [some 0]⟩
    ·
     refine I1 (fun out6=>⟨[(1,.rp (List.map C44 f.toList) 0),(3,.own 0 out6.length)],[some ⟨133,List.map R133 out6⟩]⟩) h (fun h=>?_) fun out6 h=>?_
     ·
      refine Tr<|bE h fun x5 h_x5 h=>Rq Y (Q6 (ov Y) (ov Y) Zaq h_x5)<|Rq Y (Zd (ov Y) Za7<|Qx<|XV (o:=0) (o':=((Int.toNat 61)*1)) (Zu arL)<|XR h_x5)<|bE h fun y3 h_y3 h=>Rq Y (Zq (Zbe h_y3)<|.cons (ov Y) (.b Y) .nil)<|bE h fun y4 h_y4 h=>Rq Y (Zq (ZkF h_y4)<|.cons (ov Y) (.b Y) .nil)<|R2 Qy Y<|Zb<|K3 1 3 53 Y<|If h Y (fun h=>?_) fun h=>?_
      ·
       exact K2 1 3 Y<|Zo<|Rm Y<|Rq Y (Xw (ys:= [_,_]) Zf4 ZfT Zh2 (.cons (cvs (ov Y)<|Zn Y)<|.cons (cvs (ov Y)<|Zn Y) .nil) Y)<|R_q (.sl 133<|List.map R133 ([(api_Flaw.mk 61 3)]:List api_Flaw)) Y (Jc ZeG (.cons (cva<|ov Y) Y (pwD Y) .nil) Y Y)<|bE h fun l4 h_l4 h=>Rx Y (QK (ov Y) (Qr (ov Y) tZ_133) ZeG Y Y Y (fun _=>Za Y) Y h_l4)<|Rz Y<|⟨_,h,ES [some 0]⟩
      ·
       exact Zg<|⟨_,h,ES [some 0]⟩
     ·
      refine Zh<|Zh<|Z5 (cw:=md0) (by kernel_rfl)<|bE h fun x6 h_x6 h=>Dq 0 Y (Q6 (ov Y) (ov Y) Zaq h_x6)<|Dq 1 Y (Zd (ov Y) Za7<|Qx<|XV (o:=0) (o':=((Int.toNat 62)*1)) (Zu arL)<|XR h_x6)<|bE h fun y5 h_y5 h=>Dq 2 Y (Zq (Zbe h_y5)<|.cons (ov Y) (.b Y) .nil)<|bE h fun q2 h_q2 h=>Dq 3 Y (ZgJ (ov Y) (ov Y) h_q2)<|bE h fun x7 h_x7 h=>Dq 4 Y (Q6 (ov Y) (ov Y) Zaq h_x7)<|Dq 5 Y (Zd (ov Y) Za7<|Qx<|XV (o:=0) (o':=((Int.toNat 63)*1)) (Zu arL)<|XR h_x7)<|bE h fun y6 h_y6 h=>Dq 6 Y (Zq (Zbe h_y6)<|.cons (ov Y) (.b Y) .nil)<|D2 7 Zho Y<|bE h fun y7 h_y7 h=>Dq 8 Y (Zq (Zjd h_y7)<|.cons (ov Y) (.b Y) .nil)<|D2 9 Qy Y<|Dd<|K2 3 67 Y<|If h Y (fun h=>?_) fun h=>?_
      ·
       refine K1 3 Y<|Zo<|Rm Y<|Rq Y (Xw (ys:= [_,_]) Zf4 ZfT Zh2 (.cons (cvs (ov Y)<|Zn Y)<|.cons (cvs (ov Y)<|Zn Y) .nil) Y)<|R_q (.sl 133<|List.map R133 ([(api_Flaw.mk 62 4)]:List api_Flaw)) Y (Jc ZeG (.cons (cva<|ov Y) Y (pwD Y) .nil) Y Y)<|bE h fun l5 h_l5 h=>Rx Y (QK (ov Y) (Qr (ov Y) tZ_133) ZeG Y Y Y (fun _=>Za Y) Y h_l5)<|Rz Y<|K1 3 Y<|Tr<|Rm Y<|Rz Y<|?_
       obtain rfl:=rt h
       exact Zk (ZK Y (.one<|.tmp Y<|View.ownM Y Y D133))
      ·
       refine Zg<|K1 3 Y<|Tr<|Rm Y<|Rz Y<|?_
       obtain rfl:=rt h
       exact Zk (ZK Y (.one<|.tmp Y<|View.ownM Y Y D133))
theorem ZgM{f:Vector Int 64}{r:Int×Bool}(h:JJ f=some r):
 CSpec Tryz.prog gl0 46 [.agg (List.map C44 f.toList)] (.tuple [.int .i64 r.1,.bool r.2]):=by
 unfold JJ at h
 replace h:=Qb h
 refine So Tryz.func46 Y fun w0 A=>Tr<|Rq Y (JL (cva<|ov Y) arL tZ_46<|arD fun _=>Y)<|Ra Y<|Rz Y<|Zh<|K1 1 Y<|Tr<|bE h fun x h_x h=>Rq Y (Q6 (ov Y) (ov Y) Zaq h_x)<|Rq Y (Zd (ov Y) Za7<|Qx<|XV (o:=0) (o':=((Int.toNat 1)*1)) (Zu arL)<|XR h_x)<|bE h fun y h_y h=>Rq Y (Zq (ZgF h_y)<|.cons (ov Y) (.b Y) .nil)<|R1 XM Y<|Rm Y<|bE h fun x2 h_x2 h=>Rq Y (.guarded ((!y)==false) Y Y Y Y fun h=>Q6 (ov Y) (ov Y) Zaq<|gdT h_x2 h)<|Rq Y (.guarded ((!y)==false) Y Y Y Y fun h=>Zd (ow Y h) Za7<|Qx<|XV (o:=0) (o':=((Int.toNat 2)*1)) (Zu arL)<|XR<|gdT h_x2 h)<|bE h fun y2 h_y2 h=>Rq Y (.guarded ((!y)==false) Y Y Y Y fun h=>Zq (ZgF<|gdT h_y2 h)<|.cons (ow Y h) (.b Y) .nil)<|Rq Y (.guarded ((!y)==false) Y Y Y Y fun h=>XM<|ow Y h)<|Rq Y (ZaO (ov Y) fun hp=>ow Y<|gF hp)<|Zb<|K2 1 13 Y<|If h Y (fun h=>?_) fun h=>?_
 ·
  refine K0<|Tr<|Ra Y<|Rz Y<|?_
  obtain rfl:=rt h
  exact Zk (ZK Y (.two (rb Y)<|rb Y))
 ·
  refine Zg<|K1 1 Y<|Tr<|bE h fun y3 h_y3 h=>Rq Y (Zq (ZfK h_y3)<|.cons (ov Y) (.b Y) .nil)<|Ra Y<|Rz Y<|?_
  obtain rfl:=rt h
  exact Zk (ZK Y (.two (rb Y)<|rb Y))
theorem Zj2{number:Int}{memories:Int}{copies:Int}{r:(List Int)}(h:Zak number memories copies=some r):
 CSpec Tryz.prog gl0 47 [.int .i64 number,.int .i64 memories,.int .i64 copies] (.sl 3 (List.map R3 r)):=by
 unfold Zak at h
 replace h:=Qb h
 refine So Tryz.func47 Y fun w0 A=>Tr<|Rz Y<|K3 0 1 2 Y<|Tr<|Rz Y<|I1 (fun out=>⟨[(7,.own 0 out.length)],[some ⟨3,List.map R3 out⟩]⟩) h (fun h=>?_) fun out h=>?_
 ·
  refine Tr<|Rm Y<|Rm Y<|Zb<|Zf<|?_
  obtain⟨r1,hl1,ho1⟩:=QC h
  refine L2 (fun out2 i=>⟨[(0,.int .i64 number),(1,.int .i64 memories),(7,.own 0 out2.length),(9,.int .i64 copies),(10,.int .i64 i)],[some ⟨3,List.map R3 out2⟩]⟩) hl1 (ES [none]) fun n1 out2 i h=>?_
  unfold ring_targets_L1 at h
  refine Tr<|R2 ZL Y<|Zb<|Zh<|If h Y (fun h=>?_) fun h=>?_
  ·
   exact Zg<|Zh<|Zf<|K5 0 1 7 9 10 Y<|Tr<|Rm Y<|Rz Y<|K6 0 1 7 8 9 10 Y<|Zo<|Rm Y<|Rm Y<|Rm Y<|R2 ZI Y<|Rm Y<|bE h fun q h_q h=>Rq Y (Zaf (ov Y) (ov Y) h_q)<|R_q (.sl 3<|List.map R3 ([q]:List Int)) Y (Jc QA (.cons (cvs (ov Y)<|Zn Y) Y (.cons (.b Y) .nil) .nil) Y Y)<|bE h fun l h_l h=>Rx Y (QK (ov Y) (Qr (ov Y) tZ_3) QA Y Y Y (fun _=>Za Y) Y h_l)<|Rz Y<|K5 0 1 7 9 10 Y<|Zo<|R2 ZI Y<|Rm Y<|Zb<|⟨_,h,ES [some 0]⟩
  ·
   refine ZA<|?_
   replace h:=lx h▸ho1
   exact⟨_,h,ES [some 0]⟩
 ·
  refine Tr<|Rm Y<|Rz Y<|?_
  obtain rfl:=rt h
  exact Zk (ZK Y (.one<|.tmp Y<|View.ownM Y Y D3))
theorem Zb8{b:ring_bank}{k:Int}{r:Bool}(h:QX b k=some r):
 CSpec Tryz.prog gl0 82 [.rp [.sl 59 (List.map R59 b.memories),.sl 83 (List.map R83 b.spots)] 0,.int .i64 k] (.bool r):=by
 unfold QX at h
 replace h:=Qb h
 refine So Tryz.func82 Y fun w0 A=>Tr<|Rz Y<|Zh<|Z5 (cw:=md0) (by kernel_rfl)<|D1 0 Zc Y<|D1 1 ZG Y<|Dq 2 Y (Zv (ov Y) ZhD)<|Dq 3 Y (Zd (ov Y) ZmB Y)<|D1 4 Zc Y<|bE h fun x h_x h=>Dq 5 Y (ZP (ov Y) (ov Y) Zmj h_x)<|Dq 6 Y (Zv (ov Y) Zhu)<|Dq 7 Y (Zd (ov Y) tS3 Y)<|D2 8 ZL Y<|D1 9 Zc Y<|Dq 10 Y (.guarded ((decide (x.sector<0))==false) Y Y Y Y fun h=>Zc<|ov Y)<|Dq 11 Y (.guarded ((decide (x.sector<0))==false) Y Y Y Y fun h=>ZG<|ow Y h)<|Dq 12 Y (.guarded ((decide (x.sector<0))==false) Y Y Y Y fun h=>Zv (ow Y h) ZhD)<|Dq 13 Y (.guarded ((decide (x.sector<0))==false) Y Y Y Y fun h=>Zd (ow Y h) ZmB Y)<|Dq 14 Y (.guarded ((decide (x.sector<0))==false) Y Y Y Y fun h=>Zc<|ov Y)<|bE h fun x2 h_x2 h=>Dq 15 Y (.guarded ((decide (x.sector<0))==false) Y Y Y Y fun h=>ZP (ow Y h) (ow Y h) Zmj<|gdT h_x2 h)<|Dq 16 Y (.guarded ((decide (x.sector<0))==false) Y Y Y Y fun h=>Zv (ow Y h) ZkB)<|Dq 17 Y (.guarded ((decide (x.sector<0))==false) Y Y Y Y fun h=>Zd (ow Y h) tS3 Y)<|Dq 18 Y (.guarded ((decide (x.sector<0))==false) Y Y Y Y fun h=>Zc<|ov Y)<|Dq 19 Y (.guarded ((decide (x.sector<0))==false) Y Y Y Y fun h=>ZG<|ow Y h)<|Dq 20 Y (.guarded ((decide (x.sector<0))==false) Y Y Y Y fun h=>Zv (ow Y h) Ze6)<|Dq 21 Y (.guarded ((decide (x.sector<0))==false) Y Y Y Y fun h=>Zd (ow Y h) Zcc Y)<|Dq 22 Y (.guarded ((decide (x.sector<0))==false) Y Y Y Y fun h=>Zc<|ov Y)<|bE h fun x3 h_x3 h=>Dq 23 Y (.guarded ((decide (x.sector<0))==false) Y Y Y Y fun h=>ZP (ow Y h) (ow Y h) XC<|gdT h_x3 h)<|Dq 24 Y (.guarded ((decide (x.sector<0))==false) Y Y Y Y fun h=>Zv (ow Y h) Zfb)<|Dq 25 Y (.guarded ((decide (x.sector<0))==false) Y Y Y Y fun h=>Zd (ow Y h) tS3 Y)<|Dq 26 Y (.guarded ((decide (x.sector<0))==false) Y Y Y Y fun h=>Zae (ow Y h)<|ow Y h)<|Dq 27 Y (ZaO (ov Y) fun hp=>ow Y<|gF hp)<|D1 28 ZS Y<|Dd<|?_
 obtain rfl:=rt h
 exact Zk (ZK Y (.one<|rb Y))
theorem Zdd{b:ring_bank}{k:Int}{r:Int}(h:Xt b k=some r):
 CSpec Tryz.prog gl0 83 [.rp [.sl 59 (List.map R59 b.memories),.sl 83 (List.map R83 b.spots)] 0,.int .i64 k] (.int .i64 r):=by
 unfold Xt at h
 replace h:=Qb h
 refine So Tryz.func83 Y fun w0 A=>Tr<|Rz Y<|K2 0 1 Y<|Tr<|Rm Y<|R1 ZG Y<|Rq Y (Zv (ov Y) Ze6)<|Rq Y (Zd (ov Y) Zcc Y)<|Rm Y<|bE h fun x h_x h=>Rq Y (ZP (ov Y) (ov Y) XC h_x)<|Rq Y (Z3 (ov Y) XL Y Y)<|Rx Y (Qd (row:= [_,_,_,_,_]) 0 Y Zde Y tZ_59)<|Rx Y (Zm (ov Y) (ov Y) (ZB XL Y) Y Y Y (nL Y) (Za Y) Y)<|Zb<|K3 0 1 5 Y<|Tr<|Rq Y (Ze (ov Y) Y Y Z9)<|Rq Y (Zl (ov Y) Y Y Y Q7 Y)<|Rl tZ_22 Q3 Y<|Rz Y<|J0 (fun j=>(.inr j)) ⟨[],[]⟩ h (fun h=>?_) fun h=>?_
 ·
  refine K4 0 1 5 6 Y<|Tr<|Rm Y<|Rm Y<|Zb<|Zf<|?_
  obtain⟨r1,hl1,ho1⟩:=QC h
  refine L1 (fun i=>⟨[(0,.rp [.sl 59 (List.map R59 b.memories),.sl 83 (List.map R83 b.spots)] 0),(1,.int .i64 k),(5,.ptr 0 1 0 0),(6,.int .i64 (x.Sectors.length:Int)),(19,.int .i64 (x.Sectors.length:Int)),(20,.int .i64 i)],[some ⟨59,[[.int .i64 x.Slots,.int .i64 x.Limit,.sl 22 (List.map R22 x.Sectors),.sl 3 (List.map R3 x.Wear),.sl 4 (List.map R4 x.Bad)]]⟩]⟩) hl1 (ES [some 0]) fun n1 i h=>?_
  unfold XT at h
  refine Tr<|R2 ZL Y<|Zb<|Zh<|If h Y (fun h=>?_) fun h=>?_
  ·
   refine Zg<|Zh<|Zf<|K6 0 1 5 6 19 20 Y<|Tr<|Rm Y<|Rz Y<|K7 0 1 5 6 7 19 20 Y<|Tr<|Rm Y<|R1 ZG Y<|Rq Y (Zv (ov Y) ZhD)<|Rq Y (Zd (ov Y) ZmB Y)<|Rm Y<|bE h fun x2 h_x2 h=>Rq Y (ZP (ov Y) (ov Y) Zmj h_x2)<|Rq Y (Zv (ov Y) Zhu)<|Rq Y (Zd (ov Y) tS3 Y)<|R2 ZI Y<|Rm Y<|R2 ZI Y<|Rm Y<|bE h fun q h_q h=>Rq Y (Zaf (ov Y) (ov Y) h_q)<|Rz Y<|Zh<|K7 0 1 5 6 8 19 20 Y<|Z5 (cw:=md0) (by kernel_rfl)<|Dq 0 Y (Ze (ov Y) Y Y ZdK)<|Dq 1 Y (Zl (ov Y) Y Y Y ZiA Y)<|D1 2 Zc Y<|bE h fun x3 h_x3 h=>Dq 3 Y (ZP (ov Y) (ov Y) Zgl h_x3)<|Dq 4 Y (Zd (ov Y) tS4 Y)<|D1 5 XM Y<|D1 6 Zc Y<|Dq 7 Y (.guarded ((!x3)==true) Y Y Y Y fun h=>Ze (ov Y) Y Y Zcz)<|Dq 8 Y (.guarded ((!x3)==true) Y Y Y Y fun h=>Zl (ow Y h) Y Y Y Zib Y)<|Dq 9 Y (.guarded ((!x3)==true) Y Y Y Y fun h=>Zc<|ov Y)<|bE h fun x4 h_x4 h=>Dq 10 Y (.guarded ((!x3)==true) Y Y Y Y fun h=>ZP (ow Y h) (ow Y h) QA<|gdT h_x4 h)<|Dq 11 Y (.guarded ((!x3)==true) Y Y Y Y fun h=>Zd (ow Y h) tS3 Y)<|Dq 12 Y (.guarded ((!x3)==true) Y Y Y Y fun h=>Ze (ov Y) Y Y Zhg)<|Dq 13 Y (.guarded ((!x3)==true) Y Y Y Y fun h=>Zl (ow Y h) Y Y Y tS3 Y)<|Dq 14 Y (.guarded ((!x3)==true) Y Y Y Y fun h=>ZL (ow Y h)<|ow Y h)<|Dq 15 Y (J6 (ov Y) fun hp=>ow Y<|gT hp)<|Dd<|K8 0 1 5 6 8 19 20 51 Y<|If h Y (fun h=>?_) fun h=>?_
   ·
    refine K1 8 Y<|Tr<|Rm Y<|Rz Y<|?_
    replace h:=lx h▸ho1
    obtain rfl:=rt h
    exact Zk (ZK Y (.one<|rb Y))
   ·
    exact Zg<|K6 0 1 5 6 19 20 Y<|Zo<|R2 ZI Y<|Rm Y<|Zb<|⟨_,h,ES [some 0]⟩
  ·
   refine ZA<|?_
   replace h:=lx h▸ho1
   exact⟨(),h,ES []⟩
 ·
  replace h:=elr h
  replace h:=t0i h
  refine Tr<|Rz Y<|?_
  obtain rfl:=rt h
  exact Zk (ZK Y (.one<|rb Y))
theorem ZdA{b:ring_bank}{k:Int}{sector:Int}{r:Int}(h:QR b k sector=some r):
 CSpec Tryz.prog gl0 84 [.rp [.sl 59 (List.map R59 b.memories),.sl 83 (List.map R83 b.spots)] 0,.int .i64 k,.int .i64 sector] (.int .i64 r):=by
 unfold QR at h
 replace h:=Qb h
 refine So Tryz.func84 Y fun w0 A=>Tr<|Rz Y<|K3 0 1 2 Y<|Tr<|Rz Y<|I1 (fun most=>⟨[(7,.int .i64 most)],[]⟩) h (fun h=>?_) fun most h=>?_
 ·
  refine Tr<|Rm Y<|R1 ZG Y<|Rq Y (Zv (ov Y) Ze6)<|Rq Y (Zd (ov Y) Zcc Y)<|Rm Y<|bE h fun x h_x h=>Rq Y (ZP (ov Y) (ov Y) XC h_x)<|Rq Y (Zv (ov Y) Z9)<|Rq Y (Zd (ov Y) Q7 Y)<|Rl tZ_22 Q3 Y<|Rm Y<|Zb<|Zf<|?_
  obtain⟨r1,hl1,ho1⟩:=QC h
  refine L2 (fun most2 i=>⟨[(2,.int .i64 sector),(7,.int .i64 most2),(20,.sl 22 (List.map R22 x.Sectors)),(21,.int .i64 (x.Sectors.length:Int)),(22,.int .i64 i)],[]⟩) hl1 (ES []) fun n1 most2 i h=>?_
  unfold Q4 at h
  refine Tr<|R2 ZL Y<|Zb<|Zh<|If h Y (fun h=>?_) fun h=>?_
  ·
   refine Zg<|Zh<|Zf<|K5 2 7 20 21 22 Y<|Tr<|Rm Y<|bE h fun x2 h_x2 h=>Rq Y (ZP (ov Y) (ov Y) Q3 h_x2)<|Rq Y (Zd (ov Y) Zek Y)<|Ra Y<|Rz Y<|K7 2 7 8 9 20 21 22 Y<|Tr<|Rm Y<|bE h fun y h_y h=>Rq Y (Zq (Zdv h_y)<|.cons (ov Y) (.b Y) .nil)<|Rm Y<|Rj Y Y Y<|Rj Y Y Y<|Rj Y Y Y<|Ra Y<|Ra Y<|Rz Y<|K8 2 7 8 10 12 20 21 22 Y<|Tr<|Rm Y<|Rm Y<|Rq Y (.guarded (y.2.2==true) Y Y Y Y fun h=>Zc<|ov Y)<|Rq Y (.guarded (y.2.2==true) Y Y Y Y fun h=>Zc<|ov Y)<|Rq Y (.guarded (y.2.2==true) Y Y Y Y fun h=>Qy (ow Y h)<|ow Y h)<|Rq Y (J6 (ov Y) fun hp=>ow Y<|gT hp)<|Zb<|K7 2 7 10 20 21 22 38 Y<|If h Y (fun h=>?_) fun h=>?_
   ·
    exact K6 2 7 10 20 21 22 Y<|Zo<|Rm Y<|Rm Y<|Rq Y (Zn7 (ov Y) (ov Y) Y)<|Rz Y<|K5 2 7 20 21 22 Y<|Zo<|R2 ZI Y<|Rm Y<|Zb<|⟨_,h,ES []⟩
   ·
    exact Zg<|K5 2 7 20 21 22 Y<|Zo<|R2 ZI Y<|Rm Y<|Zb<|⟨_,h,ES []⟩
  ·
   refine ZA<|?_
   replace h:=lx h▸ho1
   exact⟨_,h,ES []⟩
 ·
  refine Tr<|Rm Y<|R2 ZI Y<|Rz Y<|?_
  obtain rfl:=rt h
  exact Zk (ZK Y (.one<|rb Y))
theorem Zia{b:ring_bank}{l:List Int}{r:Int}(h:JD b l=some r):
 CSpec Tryz.prog gl0 48 [.rp [.sl 59 (List.map R59 b.memories),.sl 83 (List.map R83 b.spots)] 0,.sl 3 (List.map R3 l)] (.int .i64 r):=by
 unfold JD at h
 replace h:=Qb h
 refine So Tryz.func48 Y fun w0 A=>Tr<|Rz Y<|J0 (fun j=>(.inr j)) ⟨[(0,.rp [.sl 59 (List.map R59 b.memories),.sl 83 (List.map R83 b.spots)] 0),(1,.sl 3 (List.map R3 l))],[]⟩ h (fun h=>?_) fun h=>?_
 ·
  refine K2 0 1 Y<|Tr<|Rm Y<|Rl tZ_3 QA Y<|Rm Y<|Zb<|Zf<|?_
  obtain⟨r1,hl1,ho1⟩:=QC h
  refine L1 (fun i=>⟨[(0,.rp [.sl 59 (List.map R59 b.memories),.sl 83 (List.map R83 b.spots)] 0),(1,.sl 3 (List.map R3 l)),(9,.sl 3 (List.map R3 l)),(10,.int .i64 (l.length:Int)),(11,.int .i64 i)],[]⟩) hl1 (ES []) fun n1 i h=>?_
  unfold X9 at h
  refine Tr<|R2 ZL Y<|Zb<|Zh<|If h Y (fun h=>?_) fun h=>?_
  ·
   refine Zg<|Zh<|Zf<|K5 0 1 9 10 11 Y<|Tr<|bE h fun x h_x h=>Rq Y (ZP (ov Y) (ov Y) QA h_x)<|Rq Y (Zd (ov Y) tS3 Y)<|Rz Y<|K6 0 1 6 9 10 11 Y<|Tr<|Rm Y<|Rm Y<|bE h fun y h_y h=>Rq Y (Zq (Zb8 h_y)<|.cons (ov Y) (.b Y)<|.cons (ov Y) (.b Y) .nil)<|Rm Y<|Rq Y (.guarded (y==true) Y Y Y Y fun h=>Zc<|ov Y)<|Rq Y (.guarded (y==true) Y Y Y Y fun h=>Zc<|ov Y)<|bE h fun y2 h_y2 h=>Rq Y (.guarded (y==true) Y Y Y Y fun h=>Zq (Zdd<|gdT h_y2 h)<|.cons (ow Y h) (.b Y)<|.cons (ow Y h) (.b Y) .nil)<|Rq Y (.guarded (y==true) Y Y Y Y fun h=>ZL (ow Y h)<|ov Y)<|Rq Y (J6 (ov Y) fun hp=>ow Y<|gT hp)<|Zb<|K6 0 1 9 10 11 23 Y<|If h Y (fun h=>?_) fun h=>?_
   ·
    refine K0<|Tr<|Rz Y<|?_
    replace h:=lx h▸ho1
    obtain rfl:=rt h
    exact Zk (ZK Y (.one<|rb Y))
   ·
    exact Zg<|K5 0 1 9 10 11 Y<|Zo<|R2 ZI Y<|Rm Y<|Zb<|⟨_,h,ES []⟩
  ·
   refine ZA<|?_
   replace h:=lx h▸ho1
   exact⟨(),h,ES []⟩
 ·
  replace h:=elr h
  replace h:=t0i h
  refine J0 (fun j=>(.inr j)) ⟨[],[]⟩ h (fun h=>?_) fun h=>?_
  ·
   refine Tr<|Rm Y<|Rl tZ_3 QA Y<|Rm Y<|Zb<|Zf<|?_
   obtain⟨r2,hl2,ho2⟩:=QC h
   refine L1 (fun i2=>⟨[(0,.rp [.sl 59 (List.map R59 b.memories),.sl 83 (List.map R83 b.spots)] 0),(25,.sl 3 (List.map R3 l)),(26,.int .i64 (l.length:Int)),(27,.int .i64 i2)],[]⟩) hl2 (ES []) fun n2 i2 h=>?_
   unfold X8 at h
   refine Tr<|R2 ZL Y<|Zb<|Zh<|If h Y (fun h=>?_) fun h=>?_
   ·
    refine Zg<|Zh<|Zf<|K4 0 25 26 27 Y<|Tr<|bE h fun x2 h_x2 h=>Rq Y (ZP (ov Y) (ov Y) QA h_x2)<|Rq Y (Zd (ov Y) tS3 Y)<|Rz Y<|K5 0 8 25 26 27 Y<|Tr<|Rm Y<|Rm Y<|bE h fun y3 h_y3 h=>Rq Y (Zq (Zb8 h_y3)<|.cons (ov Y) (.b Y)<|.cons (ov Y) (.b Y) .nil)<|Rm Y<|Rq Y (.guarded (y3==true) Y Y Y Y fun h=>Zc<|ov Y)<|Rq Y (.guarded (y3==true) Y Y Y Y fun h=>Zc<|ov Y)<|Rq Y (.guarded (y3==true) Y Y Y Y fun h=>Zc<|ov Y)<|Rq Y (.guarded (y3==true) Y Y Y Y fun h=>Zc<|ov Y)<|bE h fun y4 h_y4 h=>Rq Y (.guarded (y3==true) Y Y Y Y fun h=>Zq (Zdd<|gdT h_y4 h)<|.cons (ow Y h) (.b Y)<|.cons (ow Y h) (.b Y) .nil)<|bE h fun y5 h_y5 h=>Rq Y (.guarded (y3==true) Y Y Y Y fun h=>Zq (ZdA<|gdT h_y5 h)<|.cons (ow Y h) (.b Y)<|.cons (ow Y h) (.b Y)<|.cons (ow Y h) (.b Y) .nil)<|Rq Y (.guarded (y3==true) Y Y Y Y fun h=>Za9 (ow Y h)<|ov Y)<|Rq Y (J6 (ov Y) fun hp=>ow Y<|gT hp)<|Zb<|K5 0 25 26 27 42 Y<|If h Y (fun h=>?_) fun h=>?_
    ·
     refine K0<|Tr<|Rz Y<|?_
     replace h:=lx h▸ho2
     obtain rfl:=rt h
     exact Zk (ZK Y (.one<|rb Y))
    ·
     exact Zg<|K4 0 25 26 27 Y<|Zo<|R2 ZI Y<|Rm Y<|Zb<|⟨_,h,ES []⟩
   ·
    refine ZA<|?_
    replace h:=lx h▸ho2
    exact⟨(),h,ES []⟩
  ·
   replace h:=elr h
   replace h:=t0i h
   refine Tr<|Rz Y<|?_
   obtain rfl:=rt h
   exact Zk (ZK Y (.one<|rb Y))
theorem Zli{f:Vector Int 64}{r:Bool}(h:Zcx f=some r):
 CSpec Tryz.prog gl0 85 [.rp (List.map C44 f.toList) 0] (.bool r):=by
 unfold Zcx at h
 replace h:=Qb h
 refine So Tryz.func85 Y fun w0 A=>Tr<|Rz Y<|J0 (fun j=>(.inr j)) ⟨[],[]⟩ h (fun h=>?_) fun h=>?_
 ·
  refine K1 0 Y<|Tr<|Rm Y<|Zb<|Zf<|?_
  obtain⟨r1,hl1,ho1⟩:=QC h
  refine L1 (fun i=>⟨[(0,.rp (List.map C44 f.toList) 0),(4,.int .i64 i)],[]⟩) hl1 (ES []) fun n1 i h=>?_
  unfold Zau at h
  refine Tr<|R2 ZL Y<|Zb<|Zh<|If h Y (fun h=>?_) fun h=>?_
  ·
   refine Zg<|Zh<|Zf<|K2 0 4 Y<|Tr<|Rm Y<|Rz Y<|K3 0 3 4 Y<|Tr<|Rm Y<|Rm Y<|R1 ZG Y<|bE h fun x h_x h=>Rq Y (Q6 (ov Y) (ov Y) Zaq h_x)<|Rq Y (Zd (ov Y) Za7<|Qx<|XV (o:=0) (o':=(i.toNat*1)) (Zu arL)<|XR h_x)<|R2 Za9 Y<|Zb<|K3 0 4 12 Y<|If h Y (fun h=>?_) fun h=>?_
   ·
    refine K0<|Tr<|Rz Y<|?_
    replace h:=lx h▸ho1
    obtain rfl:=rt h
    exact Zk (ZK Y (.one<|rb Y))
   ·
    exact Zg<|K2 0 4 Y<|Zo<|R2 ZI Y<|Rm Y<|Zb<|⟨_,h,ES []⟩
  ·
   refine ZA<|?_
   replace h:=lx h▸ho1
   exact⟨(),h,ES []⟩
 ·
  replace h:=elr h
  replace h:=t0i h
  refine Tr<|Rz Y<|?_
  obtain rfl:=rt h
  exact Zk (ZK Y (.one<|rb Y))
theorem Zhl{p:Vector Int 96}{i:Int}{w:Int}{r:(Vector Int 96)}(h:JI p i w=some r):
 GSpec Tryz.prog gl0 109 [.ptr 0 1 0 0,.int .i64 i,.int .u16 w] [some ⟨141,[(List.map C5 p.toList)]⟩] (.tuple []) [some ⟨141,[(List.map C5 r.toList)]⟩]:=by
 unfold JI at h
 replace h:=Qb h
 refine Ql (by kernel_rfl) Tryz.func109 Y Y<|?_
 intro w0 A W φ0
 refine Tr<|Rm Y<|bE h fun q h_q h=>Rq Y (Zgq (ov Y) (ov Y) h_q)<|R2 ZeC Y<|Rz Y<|Zh<|K4 0 1 2 6 Y<|Tr<|Rm Y<|bE h fun q2 h_q2 h=>Rq Y (Zaf (ov Y) (ov Y) h_q2)<|R2 Zae Y<|Zb<|K4 0 2 6 12 Y<|If h Y (fun h=>?_) fun h=>?_
 ·
  refine Zh<|K3 0 2 6 Y<|Z5 (cw:=⟨false,false,[],[20,24],[]⟩) (by kernel_rfl)<|D1 0 Zc Y<|D1 1 Zc Y<|D1 5 Zc Y<|bE h fun q3 h_q3 h=>Dq 6 Y (Zbf (ov Y) (ov Y) h_q3)<|Dq 7 Y (Qh (ov Y) Zdl tI5 Y)<|D1 12 Zc Y<|D1 13 Zc Y<|D2 14 ZI Y<|Dq 15 Y (Zi (ov Y) Y Y)<|bE h fun x h_x h=>Dq 16 Y (Zbg (ov Y) (ov Y) ZfJ Y Y h_x)<|Dq 17 Y (Zl (ov Y) Y Y Y tS5<|Qx<|XV (o:=0) (o':=((i64 ((i64 (q*3))+1)).toNat*1)) (Zu arL)<|XR h_x)<|Dq 20 Y (Zi (ov Y) Y Y)<|bE h fun x2 h_x2 h=>Dq 21 Y (Zbg (ov Y) (ov Y) ZfJ Y Y h_x2)<|ZO 2 _ Y (by kernel_rfl) Y Y (fun hp'=>Zc<|ov Y)<|ZO 3 _ Y (by kernel_rfl) Y Y (fun hp'=>Zc<|ov Y)<|ZO 4 _ Y (by kernel_rfl) Y Y (fun hp'=>ZkV (ov Y) (ov Y) Y)<|ZO 8 _ Y (by kernel_rfl) Y Y (fun hp'=>Zc<|ov Y)<|ZO 9 _ Y (by kernel_rfl) Y Y (fun hp'=>Zbk (ov Y)<|ov Y)<|bE h fun q4 h_q4 h=>ZO 10 _ Y (by kernel_rfl) Y Y (fun hp'=>ZgJ (ov Y) (ov Y) h_q4)<|ZO 11 _ Y (by kernel_rfl) Y Y (fun hp'=>Qh (ov Y) Zdl tI5 Y)<|ZO 18 _ Y (by kernel_rfl) Y Y (fun hp'=>Zbk (ov Y)<|ov Y)<|ZO 19 _ Y (by kernel_rfl) Y Y (fun hp'=>Zho (ov Y)<|ov Y)<|Dw 23 22 Y (Zi (ov Y) Y Y) (Zm (ov Y) (ov Y) (Zj tS5) Y Y Y (arB h_x2) (Za Y)<|arS h_x2) ?_ ?_
  ·
   refine Do 22 Y (Zm (ov Y) (ov Y) (Zj tS5) Y Y Y (arB h_x2) (Za Y)<|arS h_x2)<|bE h fun x3 h_x3 h=>Dq 24 Y (Zbg (ov Y) (ov Y) ZfJ Y Y h_x3)<|Do 25 Y (Zm (ov Y) (ov Y) (Zj tS5) Y Y Y (arB h_x3) (Za Y)<|arS h_x3)<|Dd<|?_
   obtain rfl:=rt h
   exact Zk<|Xu [some 0] Y .nil (.cons Y (ro1 (by exact Eq.trans (b:=96) arL tZ_141.symm)<|rld<|arD fun _=>Y) .nil) Y Y<|Qq rln
  ·
   refine Dq 23 Y (Zi (ov Y) Y Y)<|bE h fun x3 h_x3 h=>Dq 24 Y (Zbg (ov Y) (ov Y) ZfJ Y Y h_x3)<|Do 25 Y (Zm (ov Y) (ov Y) (Zj tS5) Y Y Y (arB h_x3) (Za Y)<|arS h_x3)<|Dd<|?_
   obtain rfl:=rt h
   exact Zk<|Xu [some 0] Y .nil (.cons Y (ro1 (by exact Eq.trans (b:=96) arL tZ_141.symm)<|rld<|arD fun _=>Y) .nil) Y Y<|Qq rln
 ·
  refine Zg<|K3 0 2 6 Y<|Z5 (cw:=⟨false,false,[],[52,55],[]⟩) (by kernel_rfl)<|D1 0 Zc Y<|D1 1 Zc Y<|D2 2 ZI Y<|D1 6 Zc Y<|D1 7 Zc Y<|D2 8 ZI Y<|Dq 9 Y (Zi (ov Y) Y Y)<|bE h fun x4 h_x4 h=>Dq 10 Y (Zbg (ov Y) (ov Y) ZfJ Y Y h_x4)<|Dq 11 Y (Zl (ov Y) Y Y Y tS5<|Qx<|XV (o:=0) (o':=((i64 ((i64 (q*3))+1)).toNat*1)) (Zu arL)<|XR h_x4)<|D2 12 Zbk Y<|D1 13 Zc Y<|bE h fun q5 h_q5 h=>Dq 14 Y (Zbf (ov Y) (ov Y) h_q5)<|Dq 15 Y (Qh (ov Y) Zdl tI5 Y)<|D2 16 Zho Y<|Dq 19 Y (Zi (ov Y) Y Y)<|bE h fun x5 h_x5 h=>Dq 20 Y (Zbg (ov Y) (ov Y) ZfJ Y Y h_x5)<|ZO 3 _ Y (by kernel_rfl) Y Y (fun hp'=>Zc<|ov Y)<|ZO 4 _ Y (by kernel_rfl) Y Y (fun hp'=>Zc<|ov Y)<|ZO 5 _ Y (by kernel_rfl) Y Y (fun hp'=>ZkV (ov Y) (ov Y) Y)<|ZO 17 _ Y (by kernel_rfl) Y Y (fun hp'=>Zc<|ov Y)<|ZO 18 _ Y (by kernel_rfl) Y Y (fun hp'=>Qh (ov Y) Zdl tI5 Y)<|Dw 22 21 Y (Zi (ov Y) Y Y) (Zm (ov Y) (ov Y) (Zj tS5) Y Y Y (arB h_x5) (Za Y)<|arS h_x5) ?_ ?_
  ·
   refine Do 21 Y (Zm (ov Y) (ov Y) (Zj tS5) Y Y Y (arB h_x5) (Za Y)<|arS h_x5)<|bE h fun x6 h_x6 h=>Dq 23 Y (Zbg (ov Y) (ov Y) ZfJ Y Y h_x6)<|Do 24 Y (Zm (ov Y) (ov Y) (Zj tS5) Y Y Y (arB h_x6) (Za Y)<|arS h_x6)<|Dd<|?_
   obtain rfl:=rt h
   exact Zh0 [some 0] Y .nil (.cons Y (ro1 (by exact Eq.trans (b:=96) arL tZ_141.symm)<|rld<|arD fun _=>Y) .nil) Y Y<|Qq rln
  ·
   refine Dq 22 Y (Zi (ov Y) Y Y)<|bE h fun x6 h_x6 h=>Dq 23 Y (Zbg (ov Y) (ov Y) ZfJ Y Y h_x6)<|Do 24 Y (Zm (ov Y) (ov Y) (Zj tS5) Y Y Y (arB h_x6) (Za Y)<|arS h_x6)<|Dd<|?_
   obtain rfl:=rt h
   exact Zh0 [some 0] Y .nil (.cons Y (ro1 (by exact Eq.trans (b:=96) arL tZ_141.symm)<|rld<|arD fun _=>Y) .nil) Y Y<|Qq rln
theorem ZjT{p:Vector Int 96}{f:Vector Int 64}{r:(Vector Int 96)}(h:ZdR p f=some r):
 GSpec Tryz.prog gl0 86 [.ptr 0 1 0 0,.rp (List.map C44 f.toList) 0] [some ⟨141,[(List.map C5 p.toList)]⟩] (.tuple []) [some ⟨141,[(List.map C5 r.toList)]⟩]:=by
 unfold ZdR at h
 replace h:=Qb h
 refine Ql (by kernel_rfl) Tryz.func86 Y Y<|?_
 intro w0 A W φ0
 refine Tr<|Rm Y<|Zb<|Zf<|?_
 obtain⟨r1,hl1,ho1⟩:=QC h
 refine L2 (fun o i=>⟨[(0,.ptr 0 1 0 0),(1,.rp (List.map C44 f.toList) 0),(5,.int .i64 i)],[some ⟨141,[(List.map C5 o.toList)]⟩]⟩) hl1 (ES [some 0]) fun n1 o i h=>?_
 unfold Zay at h
 refine Tr<|R2 ZL Y<|Zb<|Zh<|If h Y (fun h=>?_) fun h=>?_
 ·
  exact Zg<|Zh<|Zf<|K3 0 1 5 Y<|Tr<|Rm Y<|Rz Y<|K4 0 1 4 5 Y<|Zo<|Rm Y<|Rm Y<|Rm Y<|Rm Y<|R1 ZG Y<|bE h fun x h_x h=>Rq Y (Q6 (ov Y) (ov Y) Zaq h_x)<|Rq Y (Zd (ov Y) Za7<|Qx<|XV (o:=0) (o':=(i.toNat*1)) (Zu arL)<|XR h_x)<|bE h fun y h_y h=>Rx Y (Zz [0] (Zhl h_y) (.cons (ov Y) (.ptr _ _ _ Y)<|.cons (ov Y) (.dat Y)<|.cons (ov Y) (.dat Y) .nil) (.cons Y (ro1 (by exact Eq.trans (b:=96) arL tZ_141.symm)<|rld<|arD fun _=>Y) .nil) Y (.lent 0 (.inl Y) Y (ro1 (by exact Eq.trans (b:=96) arL tZ_141.symm)<|rld<|arD fun _=>Y) .nil) Y Y<|Qq<|rld Y)<|Zb<|K3 0 1 5 Y<|Zo<|R2 ZI Y<|Rm Y<|Zb<|⟨_,h,ES [some 0]⟩
 ·
  refine ZA<|?_
  replace h:=lx h▸ho1
  obtain rfl:=rt h
  exact Zh0 [some 0] Y .nil (.cons Y (ro1 (by exact Eq.trans (b:=96) arL tZ_141.symm)<|rld<|arD fun _=>Y) .nil) Y Y<|Qq rln
theorem Zjy{f:Vector Int 64}{r:(List Int)×Int}(h:Zaz f=some r):
 CSpec Tryz.prog gl0 49 [.agg (List.map C44 f.toList)] (.tuple [.sl 5 (List.map R5 r.1),.int .i64 r.2]):=by
 unfold Zaz at h
 replace h:=Qb h
 refine So Tryz.func49 Y fun w0 A=>Tr<|Rq Y (JL (cva<|ov Y) arL tZ_46<|arD fun _=>Y)<|Ra Y<|Rz Y<|Zh<|K1 1 Y<|Tr<|bE h fun y h_y h=>Rq Y (Zq (Zli h_y)<|.cons (ov Y) (.b Y) .nil)<|Zb<|If h Y (fun h=>?_) fun h=>?_
 ·
  refine K0<|Tr<|Ra Y<|Rz Y<|?_
  obtain rfl:=rt h
  exact Zk (ZK Y (.two (.tmp Y<|View.nils 5)<|rb Y))
 ·
  refine Zg<|K1 1 Y<|Tr<|Rx Y (Qd (row:=(List.map C5 (Vector.replicate 96 0).toList)) 0 Y Zq5 Y tZ_141)<|Zb<|Tr<|bE h fun y2 h_y2 h=>Rx Y (Zz [0] (ZjT h_y2) (.cons (ov Y) (.ptr _ _ _ Y)<|.cons (ov Y) (.dat Y) .nil) (.cons Y (ro1 (by exact Eq.trans (b:=96) arL tZ_141.symm)<|rld<|arD fun _=>Y) .nil) Y (.lent 0 (.inl Y) Y (ro1 (by exact Eq.trans (b:=96) arL tZ_141.symm)<|rld<|arD fun _=>Y) .nil) Y Y<|Qq<|rld Y)<|Zb<|K1 4 Y<|Tr<|bE h fun l h_l h=>Qk (Ent.sel [none] (sr 4 Y (.frp ⟨Y,⟨_,Y⟩,Y,(arD fun _=>Y)⟩) sn) (.row 141 .nil) Y Y)<|Rq Y (Zoc (f:=C5) (ov Y) ZfJ tZ_5 (Zu arL) Y on on h_l)<|Ra Y<|Rz Y<|?_
  obtain rfl:=rt h
  exact Zk (ZK Y (.two (rb Y)<|rb Y))
theorem ZhW{s:List Int}{power:Int}{r:Int×Bool×(List Int)}(h:Xm s power=some r):
 GSpec Tryz.prog gl0 29 [.own 0 s.length,.int .i64 power] [some ⟨5,List.map R5 s⟩] (.tuple [.int .i64 r.1,.bool r.2.1]) [some ⟨5,List.map R5 r.2.2⟩]:=by
 unfold Xm at h
 replace h:=Qb h
 refine Ql (by kernel_rfl) Tryz.func29 Y Y<|?_
 intro w0 A W φ0
 refine Tr<|Ra Y<|Rz Y<|K2 0 1 Y<|Tr<|Rm Y<|Rz Y<|Zh<|K3 0 1 6 Y<|Tr<|Rm Y<|R2 Zae Y<|Zb<|K4 0 1 6 10 Y<|If h Y (fun h=>?_) fun h=>?_
 ·
  refine K3 0 1 6 Y<|Zo<|Rm Y<|Rm Y<|Rq Y (Zb9 (ov Y) Y Y Qi)<|bE h fun q h_q h=>Rq Y (Zgq (ov Y) (ov Y) h_q)<|bE h fun u h_u h=>Rq Y (Zra (ov Y) Y Y Qi on (oi<|ov Y) h_u)<|Rz Y<|I1 (fun o=>⟨[(1,.int .i64 power)],[some ⟨5,List.map R5 o⟩]⟩) h (fun h=>?_) fun o h=>?_
  ·
   refine K2 1 6 Y<|Tr<|Rm Y<|Rq Y (Zqc (ov Y) Y (List.length_map ..) Qi)<|Rm Y<|Zb<|Zf<|?_
   obtain⟨r1,hl1,ho1⟩:=QC h
   refine L2 (fun o2 i=>⟨[(1,.int .i64 power),(6,.osl 0 o2.length (Int.toNat 0) (Int.toNat (q-0))),(17,.int .i64 ((Int.toNat (q-0):Nat):Int)),(18,.int .i64 i)],[some ⟨5,List.map R5 o2⟩]⟩) hl1 (ES [some 0]<|sd 1 Y Y<|sr 6 Y (.osl _ _ _ Y)<|sd 17 Y Y<|sd 18 Y Y sn) fun n1 o2 i h=>?_
   unfold QH at h
   refine Tr<|R2 ZL Y<|Zb<|Zh<|If h Y (fun h=>?_) fun h=>?_
   ·
    exact Zg<|Zh<|Zf<|K4 1 6 17 18 Y<|Tr<|Rm Y<|Rz Y<|K5 1 6 7 17 18 Y<|Zo<|Rm Y<|Rm Y<|bE h fun u2 h_u2 h=>bE h fun x2 h_x2 h=>Rq Y (Zp5 (ov Y) (ov Y) Qi Y Y (Zi3 h_u).1 h_u2 h_x2)<|Rx Y (Xg (u':=255) (ov Y) (ov Y) (Zj tS5) Y Y h_x2 Y (Za Y) Y)<|Zb<|K4 1 6 17 18 Y<|Zo<|R2 ZI Y<|Rm Y<|Zb<|⟨_,h,ES [some 0]<|sd 1 Y Y<|sr 6 Y (Zth (Eq.symm<|(List.length_set ..).trans Y) Y)<|sd 17 Y Y<|sd 18 Y Y sn⟩
   ·
    refine ZA<|?_
    replace h:=lx h▸ho1
    exact⟨_,h,ES [some 0]⟩
  ·
   refine Tr<|Rm Y<|R2 ZbR Y<|Rq Y (Zn7 (ov Y) (ov Y) Y)<|Rm Y<|R2 Za9 Y<|Ra Y<|Rz Y<|?_
   obtain rfl:=rt h
   exact Zk<|Xu [some 0] Y (.cons (.tmp Y)<|.cons (.tmp Y) .nil) (.cons Y (roM D5) .nil) Y Y<|Qq<|rlD Y<|rlD Y rln
 ·
  refine Zg<|I1 (fun o3=>⟨[(1,.int .i64 power)],[some ⟨5,List.map R5 o3⟩]⟩) h (fun h=>?_) fun o3 h=>?_
  ·
   refine K2 1 6 Y<|Tr<|Rm Y<|Rq Y (Zb9 (ov Y) Y Y Qi)<|Rm Y<|Zb<|Zf<|?_
   obtain⟨r2,hl2,ho2⟩:=QC h
   refine L2 (fun o4 i2=>⟨[(1,.int .i64 power),(6,.own 0 o4.length),(17,.int .i64 (s.length:Int)),(18,.int .i64 i2)],[some ⟨5,List.map R5 o4⟩]⟩) hl2 (ES [some 0]) fun n2 o4 i2 h=>?_
   unfold QG at h
   refine Tr<|R2 ZL Y<|Zb<|Zh<|If h Y (fun h=>?_) fun h=>?_
   ·
    exact Zg<|Zh<|Zf<|K4 1 6 17 18 Y<|Tr<|Rm Y<|Rz Y<|K5 1 6 7 17 18 Y<|Zo<|Rm Y<|Rm Y<|bE h fun x3 h_x3 h=>Rq Y (Z4 (ov Y) (ov Y) Qi Y Y h_x3)<|Rx Y (Xg (u':=255) (ov Y) (ov Y) (Zj tS5) Y Y h_x3 Y (Za Y) Y)<|Zb<|K4 1 6 17 18 Y<|Zo<|R2 ZI Y<|Rm Y<|Zb<|⟨_,h,ES [some 0]<|sd 1 Y Y<|sr 6 Y (Zbu (Eq.symm<|(List.length_set ..).trans Y) Y)<|sd 17 Y Y<|sd 18 Y Y sn⟩
   ·
    refine ZA<|?_
    replace h:=lx h▸ho2
    exact⟨_,h,ES [some 0]⟩
  ·
   refine Tr<|Rm Y<|R2 ZbR Y<|Rq Y (Zn7 (ov Y) (ov Y) Y)<|Rm Y<|R2 Za9 Y<|Ra Y<|Rz Y<|?_
   obtain rfl:=rt h
   exact Zk<|Xu [some 0] Y (.cons (.tmp Y)<|.cons (.tmp Y) .nil) (.cons Y (roM D5) .nil) Y Y<|Qq<|rlD Y<|rlD Y rln
theorem ZdX{s:List Int}{at_:Int}{data:List Int}{power:Int}{r:Int×Bool×(List Int)}(h:QM s at_ data power=some r):
 GSpec Tryz.prog gl0 26 [.own 0 s.length,.int .i64 at_,.sl 5 (List.map R5 data),.int .i64 power] [some ⟨5,List.map R5 s⟩] (.tuple [.int .i64 r.1,.bool r.2.1]) [some ⟨5,List.map R5 r.2.2⟩]:=by
 unfold QM at h
 replace h:=Qb h
 refine Ql (by kernel_rfl) Tryz.func26 Y Y<|?_
 intro w0 A W φ0
 refine Tr<|Ra Y<|Rz Y<|J2 (fun j=>(.inr j)) (fun o power2=>⟨[(3,.int .i64 power2)],[some ⟨5,List.map R5 o⟩]⟩) h (fun h=>?_) fun o power2 h=>?_
 ·
  refine K4 0 1 2 3 Y<|Tr<|Rm Y<|Rl tZ_5 Qi Y<|Rm Y<|Zb<|Zf<|?_
  obtain⟨r1,hl1,ho1⟩:=QC h
  refine L3 (fun o2 power3 i=>⟨[(0,.own 0 o2.length),(1,.int .i64 at_),(3,.int .i64 power3),(12,.sl 5 (List.map R5 data)),(13,.int .i64 (data.length:Int)),(14,.int .i64 i)],[some ⟨5,List.map R5 o2⟩]⟩) hl1 (ES [some 0]) fun n1 o2 power3 i h=>?_
  unfold QZ at h
  refine Tr<|R2 ZL Y<|Zb<|Zh<|If h Y (fun h=>?_) fun h=>?_
  ·
   refine Zg<|Zh<|Zf<|K6 0 1 3 12 13 14 Y<|Tr<|Rm Y<|bE h fun x h_x h=>Rq Y (ZP (ov Y) (ov Y) Qi h_x)<|Rq Y (Zd (ov Y) tS5 Y)<|Ra Y<|Rz Y<|Zh<|K8 0 1 3 10 11 12 13 14 Y<|Tr<|Rm Y<|R2 Zae Y<|Zb<|K9 0 1 3 10 11 12 13 14 20 Y<|If h Y (fun h=>?_) fun h=>?_
   ·
    refine K4 0 1 10 11 Y<|Tr<|Rm Y<|Rm Y<|Rm Y<|R2 ZI Y<|bE h fun x2 h_x2 h=>Rq Y (Z4 (ov Y) (ov Y) Qi Y Y h_x2)<|Rq Y (Qj (ov Y) Y Y h_x2 tS5 Y)<|Rm Y<|R2 Zho Y<|R2 Zbk Y<|bE h fun x3 h_x3 h=>Rq Y (Z4 (ov Y) (ov Y) Qi Y Y h_x3)<|Rx Y (Xg (u':=(QD .u8 x2 (bor .u8 x 15))) (ov Y) (ov Y) (Zj tS5) Y Y h_x3 Y (Za Y) Y)<|Zb<|K0<|Tr<|Ra Y<|Rz Y<|?_
    replace h:=lx h▸ho1
    obtain rfl:=rt h
    exact Zk<|Xu [some 0] Y (.cons (.tmp Y)<|.cons (.tmp Y) .nil) (.cons Y (roM D5) .nil) Y Y<|Qq<|rlD Y<|rlD Y rln
   ·
    exact Zg<|K8 0 1 3 10 11 12 13 14 Y<|Tr<|Rm Y<|Rm Y<|Rm Y<|R2 ZI Y<|bE h fun x4 h_x4 h=>Rq Y (Z4 (ov Y) (ov Y) Qi Y Y h_x4)<|Rq Y (Qj (ov Y) Y Y h_x4 tS5 Y)<|Rm Y<|R2 Zbk Y<|bE h fun x5 h_x5 h=>Rq Y (Z4 (ov Y) (ov Y) Qi Y Y h_x5)<|Rx Y (Xg (u':=(QD .u8 x4 x)) (ov Y) (ov Y) (Zj tS5) Y Y h_x5 Y (Za Y) Y)<|Zb<|K6 0 1 3 12 13 14 Y<|Zo<|Rm Y<|R2 ZbR Y<|Rz Y<|K6 0 1 3 12 13 14 Y<|Zo<|R2 ZI Y<|Rm Y<|Zb<|⟨_,h,ES [some 0]<|sr 0 Y (Zbu (Eq.symm<|(List.length_set ..).trans Y) Y)<|sd 1 Y Y<|sd 3 Y Y<|sd 12 Y Y<|sd 13 Y Y<|sd 14 Y Y sn⟩
  ·
   refine ZA<|?_
   replace h:=lx h▸ho1
   exact⟨_,h,ES [some 0]⟩
 ·
  replace h:=elr h
  replace h:=t2i h
  refine Tr<|Rm Y<|Ra Y<|Rz Y<|?_
  obtain rfl:=rt h
  exact Zk<|Xu [some 0] Y (.cons (.tmp Y)<|.cons (.tmp Y) .nil) (.cons Y (roM D5) .nil) Y Y<|Qq<|rlD Y<|rlD Y rln
theorem Zff{b:ring_Recorder}{k:Int}{power:Int}{r:Int×Bool×ring_Recorder}(h:XS b k power=some r):
 GSpec Tryz.prog gl0 87 [.ptr 0 1 0 0,.int .i64 k,.int .i64 power] [some ⟨80,[[.own 1 b.bank.memories.length,.own 2 b.bank.spots.length,.int .i64 b.copies,.bool b.frozen,.bool b.stopped,.int .i64 b.last,.bool b.some_]]⟩,some ⟨59,List.map O59 b.bank.memories⟩,some ⟨83,List.map R83 b.bank.spots⟩] (.tuple [.int .i64 r.1,.bool r.2.1]) [some ⟨80,[[.own 3 r.2.2.bank.memories.length,.own 4 r.2.2.bank.spots.length,.int .i64 r.2.2.copies,.bool r.2.2.frozen,.bool r.2.2.stopped,.int .i64 r.2.2.last,.bool r.2.2.some_]]⟩,none,none,some ⟨59,List.map O59 r.2.2.bank.memories⟩,some ⟨83,List.map R83 r.2.2.bank.spots⟩]:=by
 unfold XS at h
 replace h:=Qb h
 refine Ql (by kernel_rfl) Tryz.func87 Y Y<|?_
 intro w0 A W φ0
 refine ZbK (Ent.sel [some 0,some 1,some 2,some 1,some 2] (sr 0 Y (.ptr (r':=0) _ _ _ Y)<|sd 1 Y Y<|sd 2 Y Y sn) (.cons Y (ro1 (by exact tZ_80.symm)<|rlc (.own (r':=3) _ Y)<|rlc (.own (r':=4) _ Y)<|rlD Y<|rlD Y<|rlD Y<|rlD Y<|rlD Y rln)<|.dead<|.dead<|.cons Y (roO Zw)<|.cons Y (roM D83) .nil) Y Y)<|ZH [some ⟨80,[[.own 3 b.bank.memories.length,.own 4 b.bank.spots.length,.int .i64 b.copies,.bool b.frozen,.bool b.stopped,.int .i64 b.last,.bool b.some_]]⟩,none,none,some ⟨59,List.map O59 b.bank.memories⟩,some ⟨83,List.map R83 b.bank.spots⟩] Y<|Tr<|Ra Y<|Rz Y<|Zh<|K3 0 1 2 Y<|Z5 (cw:=md0) (by kernel_rfl)<|D1 0 Zc Y<|Dq 1 Y (Zi (ov Y) Y Y)<|Dq 2 Y (Ze (ov Y) Y Y Ze6)<|Dq 3 Y (Zl (ov Y) Y Y Y Zcc Y)<|D1 4 Zc Y<|bE h fun x h_x h=>Dq 5 Y (Z4 (ov Y) (ov Y) XC Y Y h_x)<|D1 6 Zc Y<|D1 7 Zc Y<|bE h fun y h_y h=>Dq 8 Y (Jh (Zdd h_y) .int<|.cons (ov Y) (View.ptrS (j:=0) (k:=2) Y Y Y (nL Y)<|.cons (View.ownO Y Y Zw (fun x=>(D59 x).1) ZeK)<|.cons (View.ownM Y Y D83) .nil)<|.cons (ov Y) (Dat.view<|.b Y) .nil)<|D1 9 ZS Y<|D1 10 ZS Y<|Dd<|K5 0 1 2 8 9 Y<|Tr<|Rm Y<|Rm Y<|Rm Y<|bE h fun y2 h_y2 h=>Rq Y (Jh (ZdA h_y2) .int<|.cons (ov Y) (View.ptrS (j:=0) (k:=2) Y Y Y (nL Y)<|.cons (View.ownO Y Y Zw (fun x=>(D59 x).1) ZeK)<|.cons (View.ownM Y Y D83) .nil)<|.cons (ov Y) (Dat.view<|.b Y)<|.cons (ov Y) (Dat.view<|.b Y) .nil)<|Rz Y<|K6 0 1 2 8 9 10 Y<|Tr<|Rm Y<|Rq Y (Zi (ov Y) Y<|List.length_map ..)<|Rq Y (Ju (ov Y) Y Y Zcz)<|Qk (Ent.focusH (r:=3) (j:=3) (e':=3) (g:=R3) (ys:=x.Wear) Y (Zp h_x).2 Y DR3)<|Rq Y (Jl (ov Y) Y Y (Zp h_x).2 Zib Y)<|Rm Y<|bE h fun x2 h_x2 h=>Rq Y (Z4 (ov Y) (ov Y) QA Y Y h_x2)<|Rq Y (Qj (ov Y) Y Y h_x2 tS3 Y)<|R2 ZI Y<|bE h fun x3 h_x3 h=>Rq Y (Z4 (ov Y) (ov Y) QA Y Y h_x3)<|Rx Y (Xg (u':=(i64 (x2+1))) (ov Y) (ov Y) (Zj tS3) Y Y h_x3 Y (Za Y) Y)<|ZdL [some ⟨80,[[.own 3 b.bank.memories.length,.own 4 b.bank.spots.length,.int .i64 b.copies,.bool b.frozen,.bool b.stopped,.int .i64 b.last,.bool b.some_]]⟩,none,none,some ⟨59,List.set (List.map O59 b.bank.memories) k.toNat [.int .i64 x.Slots,.int .i64 x.Limit,.osub 22 (List.map O22 x.Sectors),.own 5 x.Wear.length,.osub 4 (List.map R4 x.Bad)]⟩,some ⟨83,List.map R83 b.bank.spots⟩,some ⟨3,List.map R3 (x.Wear.set y.toNat (i64 (x2+1)))⟩] Y<|?_
 have h_x4:=Xb (y:=(api_Memory.mk x.Slots x.Limit x.Sectors (x.Wear.set y.toNat (i64 (x2+1))) x.Bad)) h_x
 have h_x5:=Xb (y:=(api_Memory.mk x.Slots x.Limit x.Sectors (x.Wear.set y.toNat (i64 (x2+1))) x.Bad)) h_x
 have h_x6:=Xb (y:=(api_Memory.mk x.Slots x.Limit x.Sectors (x.Wear.set y.toNat (i64 (x2+1))) x.Bad)) h_x
 have h_x7:=Xb (y:=(api_Memory.mk x.Slots x.Limit x.Sectors (x.Wear.set y.toNat (i64 (x2+1))) x.Bad)) h_x
 refine Qk (Ent.absorbH (r:=3) (j:=3) (q:=5) Y (Zp h_x).2 Y Y ((List.length_map ..).trans<|(List.length_set ..).trans Y) Y)<|Qk (Ent.closeH (r:=3) (y:=(api_Memory.mk x.Slots x.Limit x.Sectors (x.Wear.set y.toNat (i64 (x2+1))) x.Bad)) Y Y)<|Zb<|K6 0 1 2 8 9 10 Y<|ZH [some ⟨80,[[.own 3 b.bank.memories.length,.own 4 b.bank.spots.length,.int .i64 b.copies,.bool b.frozen,.bool b.stopped,.int .i64 b.last,.bool b.some_]]⟩,none,none,some ⟨59,List.map O59 (b.bank.memories.set k.toNat (api_Memory.mk x.Slots x.Limit x.Sectors (x.Wear.set y.toNat (i64 (x2+1))) x.Bad))⟩,some ⟨83,List.map R83 b.bank.spots⟩,none] Y<|Tr<|Rm Y<|Rq Y (Zi (ov Y) Y<|(List.length_map ..).trans<|(List.length_set ..).trans Y)<|Rq Y (Ju (ov Y) Y ((List.length_set ..).trans Y) Z9)<|Qk (Ent.focusH (r:=3) (j:=2) (e':=22) (g:=O22) (ys:=x.Sectors) Y (Zp h_x4).2 Y Zat)<|Rq Y (Jl (ov Y) Y ((List.length_set ..).trans Y) (Zp h_x4).2 Q7 Y)<|Rm Y<|bE h fun x8 h_x8 h=>Rq Y (Z4 (ov Y) (ov Y) Q3 Y Y h_x8)<|Qk (Ent.focusH (r:=6) (j:=0) (e':=5) (g:=R5) (ys:=x8) Y (Zp h_x8).2 Y DR5)<|Rq Y (Jl (ov Y) Y Y (Zp h_x8).2 Zek Y)<|Rm Y<|bE h fun y3 h_y3 h=>Rx Y (Zz [7] (ZhW h_y3) (.cons (ov Y) (.own _ Y)<|.cons (ov Y) (.dat Y) .nil) (.cons Y (roM D5) .nil) Y (.keep Y Y<|.none<|.none<|.keep Y Y<|.keep Y Y<|.none<|.keep Y Y<|.lent 0 (.inl Y) Y (roM D5) .nil) Y Y<|Qq<|rld Y)<|Rm Y<|Rj Y Y Y<|Rj Y Y Y<|Ra Y<|Ra Y<|ZdL [some ⟨80,[[.own 3 b.bank.memories.length,.own 4 b.bank.spots.length,.int .i64 b.copies,.bool b.frozen,.bool b.stopped,.int .i64 b.last,.bool b.some_]]⟩,none,none,some ⟨59,List.set (List.map O59 (b.bank.memories.set k.toNat (api_Memory.mk x.Slots x.Limit x.Sectors (x.Wear.set y.toNat (i64 (x2+1))) x.Bad))) k.toNat [.int .i64 x.Slots,.int .i64 x.Limit,.own 6 x.Sectors.length,.osub 3 (List.map R3 (x.Wear.set y.toNat (i64 (x2+1)))),.osub 4 (List.map R4 x.Bad)]⟩,some ⟨83,List.map R83 b.bank.spots⟩,none,some ⟨22,List.set (List.map O22 x.Sectors) y.toNat [.own 7 x8.length]⟩,some ⟨5,List.map R5 y3.2.2⟩] Y<|?_
 have h_x9:=Xb (y:=y3.2.2) h_x8
 have h_x10:=Xb (y:=(api_Memory.mk x.Slots x.Limit (x.Sectors.set y.toNat y3.2.2) (x.Wear.set y.toNat (i64 (x2+1))) x.Bad)) h_x4
 have h_x11:=Xb (y:=(api_Memory.mk x.Slots x.Limit (x.Sectors.set y.toNat y3.2.2) (x.Wear.set y.toNat (i64 (x2+1))) x.Bad)) h_x4
 have h_x12:=Xb (y:=(api_Memory.mk x.Slots x.Limit (x.Sectors.set y.toNat y3.2.2) (x.Wear.set y.toNat (i64 (x2+1))) x.Bad)) h_x4
 have h_x13:=Xb (y:=(api_Memory.mk x.Slots x.Limit (x.Sectors.set y.toNat y3.2.2) (x.Wear.set y.toNat (i64 (x2+1))) x.Bad)) h_x4
 refine Qk (Ent.absorbH (r:=6) (j:=0) (q:=7) Y (Zp h_x8).2 Y Y ((List.length_map ..).trans<|ZhO h_y3) Y)<|Qk (Ent.closeH (r:=6) (y:=y3.2.2) Y Y)<|Qk (Ent.absorbH (r:=3) (j:=2) (q:=6) Y (Zp h_x4).2 Y Y ((List.length_map ..).trans<|(List.length_set ..).trans Y) Y)<|Qk (Ent.closeH (r:=3) (y:=(api_Memory.mk x.Slots x.Limit (x.Sectors.set y.toNat y3.2.2) (x.Wear.set y.toNat (i64 (x2+1))) x.Bad)) Y Y)<|Zb<|Zh<|K7 0 1 2 8 9 10 11 Y<|ZH [some ⟨80,[[.own 3 b.bank.memories.length,.own 4 b.bank.spots.length,.int .i64 b.copies,.bool b.frozen,.bool b.stopped,.int .i64 b.last,.bool b.some_]]⟩,none,none,some ⟨59,List.map O59 ((b.bank.memories.set k.toNat (api_Memory.mk x.Slots x.Limit x.Sectors (x.Wear.set y.toNat (i64 (x2+1))) x.Bad)).set k.toNat (api_Memory.mk x.Slots x.Limit (x.Sectors.set y.toNat y3.2.2) (x.Wear.set y.toNat (i64 (x2+1))) x.Bad))⟩,some ⟨83,List.map R83 b.bank.spots⟩,none,none,none] Y<|Tr<|Rm Y<|R1 XM Y<|Zb<|K7 0 1 2 8 9 10 47 Y<|If h Y (fun h=>?_) fun h=>?_
 ·
  refine K1 2 Y<|Tr<|Rm Y<|Ra Y<|Rz Y<|?_
  obtain rfl:=rt h
  exact Zk<|Xu [some 0,some 1,some 2,some 3,some 4] Y (.cons (.tmp Y)<|.cons (.tmp Y) .nil) (.cons Y (ro1 (by exact tZ_80.symm)<|rlc (Zbu (Eq.symm<|(List.length_set ..).trans<|(List.length_set ..).trans Y) Y)<|rlc (.own _ Y)<|rlD Y<|rlD Y<|rlD Y<|rlD Y<|rlD Y rln)<|.dead<|.dead<|.cons Y (roO Zw)<|.cons Y (roM D83) .nil) Y Y<|Qq<|rlD Y<|rlD Y rln
 ·
  refine Zg<|I4 (fun memories spots power2 all=>⟨[(2,.int .i64 power2),(11,.bool all)],[some ⟨80,[[.own 3 memories.length,.own 4 spots.length,.int .i64 b.copies,.bool b.frozen,.bool b.stopped,.int .i64 b.last,.bool b.some_]]⟩,none,none,some ⟨59,List.map O59 memories⟩,some ⟨83,List.map R83 spots⟩]⟩) h (fun h=>?_) fun memories spots power2 all h=>?_
  ·
   refine Zh<|K6 0 1 2 8 9 10 Y<|bE h fun x14 h_x14 h=>ZbK (Ent.focusH (r:=3) (j:=2) (e':=22) (g:=O22) (ys:=x14.Sectors) Y (Zp h_x14).2 Y Zat)<|bE h fun x15 h_x15 h=>ZbK (Ent.focusH (r:=8) (j:=0) (e':=5) (g:=R5) (ys:=x15) Y (Zp h_x15).2 Y DR5)<|Z5 (cw:=⟨true,true,[some ⟨80,[[.own 3 b.bank.memories.length,.own 4 b.bank.spots.length,.int .i64 b.copies,.bool b.frozen,.bool b.stopped,.int .i64 b.last,.bool b.some_]]⟩,none,none,some ⟨59,List.set (List.map O59 ((b.bank.memories.set k.toNat (api_Memory.mk x.Slots x.Limit x.Sectors (x.Wear.set y.toNat (i64 (x2+1))) x.Bad)).set k.toNat (api_Memory.mk x.Slots x.Limit (x.Sectors.set y.toNat y3.2.2) (x.Wear.set y.toNat (i64 (x2+1))) x.Bad))) k.toNat [.int .i64 x14.Slots,.int .i64 x14.Limit,.own 8 x14.Sectors.length,.osub 3 (List.map R3 x14.Wear),.osub 4 (List.map R4 x14.Bad)]⟩,some ⟨83,List.map R83 b.bank.spots⟩,none,none,none,some ⟨22,List.set (List.map O22 x14.Sectors) y.toNat [.own 9 x15.length]⟩,some ⟨5,List.map R5 x15⟩],[],[9]⟩) (by kernel_rfl)<|D1 7 Zc Y<|ZO 0 _ Y (by kernel_rfl) Y Y (fun hp'=>Zc<|ov Y)<|Xq 1 _ Y (by kernel_rfl) Y Y Y (EL.ext<|.keep<|.keep<|.keep<|.keep<|.keep<|.keep<|.keep<|.keep<|.keep<|.wr Y Y Y .nil) (fun hp' hx=>Zi (ov Y) (hx.get Y Y)<|((List.length_set ..).trans (List.length_map ..)).trans<|(List.length_set ..).trans<|(List.length_set ..).trans Y)<|Xq 2 _ Y (by kernel_rfl) Y Y Y (EL.ext<|.keep<|.keep<|.keep<|.keep<|.keep<|.keep<|.keep<|.keep<|.keep<|.wr Y Y Y .nil) (fun hp' hx=>Zge (ov Y) (hx.get Y Y) ((List.length_set ..).trans<|(List.length_set ..).trans Y) Z9)<|Xq 3 _ Y (by kernel_rfl) Y Y Y (EL.ext<|.keep<|.keep<|.keep<|.keep<|.keep<|.keep<|.keep<|.keep<|.keep<|.wr Y Y Y .nil) (fun hp' hx=>Jl (ov Y) (hx.get Y Y) ((List.length_set ..).trans<|(List.length_set ..).trans Y) (Zp h_x14).2 Q7 Y)<|ZO 4 _ Y (by kernel_rfl) Y Y (fun hp'=>Zc<|ov Y)<|bE h fun x16 h_x16 h=>Xq 5 _ Y (by kernel_rfl) Y Y Y (EL.ext<|.keep<|.keep<|.keep<|.keep<|.keep<|.keep<|.keep<|.keep<|.keep<|.wr Y Y Y .nil) (fun hp' hx=>ZgD (ov Y) (ov Y) Q3 (hx.get Y Y) Y h_x16)<|Xq 6 _ Y (by kernel_rfl) Y Y Y (EL.ext<|.keep<|.keep<|.keep<|.keep<|.keep<|.keep<|.keep<|.keep<|.keep<|.wr Y Y Y .nil) (fun hp' hx=>Jl (ov Y) (hx.get Y Y) Y (Zp h_x15).2 Zek Y)<|ZO 9 _ Y (by kernel_rfl) Y Y (fun hp'=>Zc<|ov Y)<|bE h fun y4 h_y4 h=>Zba 8 _ _ Y (by kernel_rfl) Y Y (fun h=>by cases h) (fun _=>by exact EL.ext (.keep<| .keep<| .keep<| .keep<| .keep<| .keep<| .keep<| .keep<| .keep<| .wr rfl rfl rfl<| .nil)) (Zbh<|Zq (Zhk h_y4)<|.cons (ov Y) (.b Y) .nil)<|bE h fun y5 h_y5 h=>Zba 10 _ _ Y (by kernel_rfl) Y Y (fun h=>by cases h) (fun _=>by exact EL.ext (.keep<| .keep<| .keep<| .keep<| .keep<| .keep<| .keep<| .keep<| .keep<| .wr rfl rfl ((List.length_map ..).trans (Eq.trans (JP h_y5) (Eq.symm ((List.length_map ..).trans rfl))))<| .nil)) (Zz [9] (ZdX h_y5) (.cons (ov Y) (.own _ Y)<|.cons (ov Y) (.dat Y)<|.cons (ov Y) (.dat Y)<|.cons (ov Y) (.dat Y) .nil) (.cons Y (roM D5) .nil) Y (.keep Y Y<|.none<|.none<|.keep Y Y<|.keep Y Y<|.none<|.none<|.none<|.keep Y Y<|.lent 0 (.inl Y) Y (roM D5) .nil) Y Y<|Qq<|rld Y)<|D1 11 Zc Y<|Dq 12 Y (Xa (ov Y) Y)<|Dq 13 Y (Xa (ov Y) Y)<|D1 14 ZS Y<|D1 15 ZS Y<|?_
   have h_x17:=Xb (y:=y5.2.2) h_x16
   have h_x18:=Xb (y:=(api_Memory.mk x14.Slots x14.Limit (x14.Sectors.set y.toNat y5.2.2) x14.Wear x14.Bad)) h_x10
   have h_x19:=Xb (y:=(api_Memory.mk x14.Slots x14.Limit (x14.Sectors.set y.toNat y5.2.2) x14.Wear x14.Bad)) h_x10
   have h_x20:=Xb (y:=(api_Memory.mk x14.Slots x14.Limit (x14.Sectors.set y.toNat y5.2.2) x14.Wear x14.Bad)) h_x10
   have h_x21:=Xb (y:=(api_Memory.mk x14.Slots x14.Limit (x14.Sectors.set y.toNat y5.2.2) x14.Wear x14.Bad)) h_x10
   refine Jd (by kernel_rfl) (Ent.trans (Ent.absorbH (r:=8) (j:=0) (q:=9) Y (Zp h_x15).2 Y Y ((List.length_map ..).trans<|JP h_y5) Y)<|Ent.trans (Ent.closeH (r:=8) (y:=y5.2.2) Y Y)<|Ent.trans (Ent.absorbH (r:=3) (j:=2) (q:=8) Y (Zp h_x14).2 Y Y ((List.length_map ..).trans<|(List.length_set ..).trans Y) Y)<|Ent.closeH (r:=3) (y:=(api_Memory.mk x14.Slots x14.Limit (x14.Sectors.set y.toNat y5.2.2) x14.Wear x14.Bad)) Y Y)<|K5 0 1 2 9 11 Y<|ZH [some ⟨80,[[.own 3 b.bank.memories.length,.own 4 b.bank.spots.length,.int .i64 b.copies,.bool b.frozen,.bool b.stopped,.int .i64 b.last,.bool b.some_]]⟩,none,none,some ⟨59,List.map O59 (((b.bank.memories.set k.toNat (api_Memory.mk x.Slots x.Limit x.Sectors (x.Wear.set y.toNat (i64 (x2+1))) x.Bad)).set k.toNat (api_Memory.mk x.Slots x.Limit (x.Sectors.set y.toNat y3.2.2) (x.Wear.set y.toNat (i64 (x2+1))) x.Bad)).set k.toNat (api_Memory.mk x14.Slots x14.Limit (x14.Sectors.set y.toNat y5.2.2) x14.Wear x14.Bad))⟩,some ⟨83,List.map R83 b.bank.spots⟩,none,none,none,none,none] Y<|Tr<|Rm Y<|Zb<|If h Y (fun h=>?_) fun h=>?_
   ·
    exact K5 0 1 2 9 11 Y<|Zo<|Rm Y<|Rq Y (Zi (ov Y) Y Y)<|Rq Y (Ze (ov Y) Y Y ZhD)<|Rq Y (Zl (ov Y) Y Y Y ZmB Y)<|Rm Y<|Rm Y<|Rq Y (Xw (ys:= [_,_]) Zpt Zqb Znn (.cons (cvs (ov Y)<|Zn Y) .nil) Y)<|bE h fun x22 h_x22 h=>Rq Y (Z4 (ov Y) (ov Y) Zmj Y Y h_x22)<|Rx Y (Xg (u':=(ring_spot.mk y 0)) (ov Y) (ov Y) (ZB ZkQ Y) Y Y h_x22 Y (Za Y) Y)<|Zb<|⟨_,h,ES [some 0,some 1,some 2,some 3,some 4] (hhp:= .cons Y (ro1 (by exact tZ_80.symm)<|rlc (Zbu (Eq.symm<|(List.length_set ..).trans<|(List.length_set ..).trans<|(List.length_set ..).trans Y) Y)<|rlc (Zbu (Eq.symm<|(List.length_set ..).trans Y) Y)<|rlD Y<|rlD Y<|rlD Y<|rlD Y<|rlD Y rln)<|.dead<|.dead<|.cons Y (roO Zw)<|.cons Y (roM D83) .nil)⟩
   ·
    exact Zg<|⟨_,h,ES [some 0,some 1,some 2,some 3,some 4] (hhp:= .cons Y (ro1 (by exact tZ_80.symm)<|rlc (Zbu (Eq.symm<|(List.length_set ..).trans<|(List.length_set ..).trans<|(List.length_set ..).trans Y) Y)<|rlc (.own _ Y)<|rlD Y<|rlD Y<|rlD Y<|rlD Y<|rlD Y rln)<|.dead<|.dead<|.cons Y (roO Zw)<|.cons Y (roM D83) .nil)⟩
  ·
   refine Tr<|Rm Y<|Rm Y<|Ra Y<|Rz Y<|?_
   obtain rfl:=rt h
   exact Zk<|Xu [some 0,some 1,some 2,some 3,some 4] Y (.cons (.tmp Y)<|.cons (.tmp Y) .nil) (.cons Y (ro1 (by exact tZ_80.symm)<|rlc (.own _ Y)<|rlc (.own _ Y)<|rlD Y<|rlD Y<|rlD Y<|rlD Y<|rlD Y rln)<|.dead<|.dead<|.cons Y (roO Zw)<|.cons Y (roM D83) .nil) Y Y<|Qq<|rlD Y<|rlD Y rln
theorem Zfe{b:ring_Recorder}{k:Int}{data:List Int}{power:Int}{r:Int×Bool×ring_Recorder}(h:Jz b k data power=some r):
 GSpec Tryz.prog gl0 50 [.ptr 0 1 0 0,.int .i64 k,.slf 5 (List.map R5 data),.int .i64 power] [some ⟨80,[[.own 1 b.bank.memories.length,.own 2 b.bank.spots.length,.int .i64 b.copies,.bool b.frozen,.bool b.stopped,.int .i64 b.last,.bool b.some_]]⟩,some ⟨59,List.map O59 b.bank.memories⟩,some ⟨83,List.map R83 b.bank.spots⟩] (.tuple [.int .i64 r.1,.bool r.2.1]) [some ⟨80,[[.own 3 r.2.2.bank.memories.length,.own 4 r.2.2.bank.spots.length,.int .i64 r.2.2.copies,.bool r.2.2.frozen,.bool r.2.2.stopped,.int .i64 r.2.2.last,.bool r.2.2.some_]]⟩,none,none,some ⟨59,List.map O59 r.2.2.bank.memories⟩,some ⟨83,List.map R83 r.2.2.bank.spots⟩]:=by
 unfold Jz at h
 replace h:=Qb h
 refine Ql (by kernel_rfl) Tryz.func50 Y Y<|?_
 intro w0 A W φ0
 refine ZbK (Ent.sel [some 0,some 1,some 2,some 1,some 2] (sr 0 Y (.ptr (r':=0) _ _ _ Y)<|sd 1 Y Y<|sd 2 Y Y<|sd 3 Y Y sn) (.cons Y (ro1 (by exact tZ_80.symm)<|rlc (.own (r':=3) _ Y)<|rlc (.own (r':=4) _ Y)<|rlD Y<|rlD Y<|rlD Y<|rlD Y<|rlD Y rln)<|.dead<|.dead<|.cons Y (roO Zw)<|.cons Y (roM D83) .nil) Y Y)<|ZH [some ⟨80,[[.own 3 b.bank.memories.length,.own 4 b.bank.spots.length,.int .i64 b.copies,.bool b.frozen,.bool b.stopped,.int .i64 b.last,.bool b.some_]]⟩,none,none,some ⟨59,List.map O59 b.bank.memories⟩,some ⟨83,List.map R83 b.bank.spots⟩] Y<|Tr<|Ra Y<|Rz Y<|J8 (fun j=>(.inr j)) (fun memories spots copies frozen stopped last some_ power2=>⟨[(0,.ptr 0 1 0 0),(1,.int .i64 k),(2,.slf 5 (List.map R5 data)),(3,.int .i64 power2)],[some ⟨80,[[.own 3 memories.length,.own 4 spots.length,.int .i64 copies,.bool frozen,.bool stopped,.int .i64 last,.bool some_]]⟩,none,none,some ⟨59,List.map O59 memories⟩,some ⟨83,List.map R83 spots⟩]⟩) h (fun h=>?_) fun memories spots copies frozen stopped last some_ power2 h=>?_
 ·
  refine K4 0 1 2 3 Y<|Tr<|Rm Y<|Rm Y<|bE h fun y h_y h=>Rq Y (Jh (Zb8 h_y) .bool<|.cons (ov Y) (View.ptrS (j:=0) (k:=2) Y Y Y (nL Y)<|.cons (View.ownO Y Y Zw (fun x=>(D59 x).1) ZeK)<|.cons (View.ownM Y Y D83) .nil)<|.cons (ov Y) (Dat.view<|.b Y) .nil)<|Zb<|K5 0 1 2 3 15 Y<|If h Y (fun h=>?_) fun h=>?_
  ·
   refine K4 0 1 2 3 Y<|Tr<|Rz Y<|Tr<|Rm Y<|Rm Y<|Rm Y<|bE h fun y2 h_y2 h=>Rx Y (Zz [0,3,4] (Zff h_y2) (.cons (ov Y) (.ptr _ _ _ Y)<|.cons (ov Y) (.dat Y)<|.cons (ov Y) (.dat Y) .nil) (.cons Y (ro1 (by exact tZ_80.symm)<|rlc (.own _ Y)<|rlc (.own _ Y)<|rlD Y<|rlD Y<|rlD Y<|rlD Y<|rlD Y rln)<|.cons Y (roO Zw)<|.cons Y (roM D83) .nil) Y (.lent 0 (.inl Y) Y (ro1 (by exact tZ_80.symm)<|rlc (.own _<|Wa Y Y)<|rlc (.own _<|Wa Y Y)<|rlD Y<|rlD Y<|rlD Y<|rlD Y<|rlD Y rln)<|.none<|.none<|.none<|.none<|.lent 3 (Wa Y Y) Y (roO Zw)<|.lent 4 (Wa Y Y) Y (roM D83) .nil) Y Y<|Qq<|rld Y)<|Rm Y<|Rj Y Y Y<|Rj Y Y Y<|Ra Y<|Rz Y<|K5 0 1 2 3 10 Y<|ZH [some ⟨80,[[.own 5 y2.2.2.bank.memories.length,.own 6 y2.2.2.bank.spots.length,.int .i64 y2.2.2.copies,.bool y2.2.2.frozen,.bool y2.2.2.stopped,.int .i64 y2.2.2.last,.bool y2.2.2.some_]]⟩,none,none,none,none,some ⟨59,List.map O59 y2.2.2.bank.memories⟩,some ⟨83,List.map R83 y2.2.2.bank.spots⟩] Y<|Tr<|Rm Y<|R1 XM Y<|Zb<|K5 0 1 2 3 24 Y<|If h Y (fun h=>?_) fun h=>?_
   ·
    refine K1 3 Y<|Tr<|Rm Y<|Ra Y<|Rz Y<|?_
    obtain rfl:=rt h
    exact Zk<|Xu [some 0,some 1,some 2,some 5,some 6] Y (.cons (.tmp Y)<|.cons (.tmp Y) .nil) (.cons Y (ro1 (by exact tZ_80.symm)<|rlc (.own _ Y)<|rlc (.own _ Y)<|rlD Y<|rlD Y<|rlD Y<|rlD Y<|rlD Y rln)<|.dead<|.dead<|.cons Y (roO Zw)<|.cons Y (roM D83) .nil) Y Y<|Qq<|rlD Y<|rlD Y rln
   ·
    exact Zg<|⟨_,h,ES [some 0,some 1,some 2,some 5,some 6] (hhp:= .cons Y (ro1 (by exact tZ_80.symm)<|rlc (.own _ Y)<|rlc (.own _ Y)<|rlD Y<|rlD Y<|rlD Y<|rlD Y<|rlD Y rln)<|.dead<|.dead<|.cons Y (roO Zw)<|.cons Y (roM D83) .nil)⟩
  ·
   exact Zg<|⟨_,h,ES [some 0,some 1,some 2,some 3,some 4] (hhp:= .cons Y (ro1 (by exact tZ_80.symm)<|rlc (.own _ Y)<|rlc (.own _ Y)<|rlD Y<|rlD Y<|rlD Y<|rlD Y<|rlD Y rln)<|.dead<|.dead<|.cons Y (roO Zw)<|.cons Y (roM D83) .nil)⟩
 ·
  replace h:=elr h
  replace h:=t8i h
  refine Tr<|Rm Y<|Rq Y (Zi (ov Y) Y Y)<|Rq Y (Ze (ov Y) Y Y ZhD)<|Rq Y (Zl (ov Y) Y Y Y ZmB Y)<|Rm Y<|bE h fun x h_x h=>Rq Y (Z4 (ov Y) (ov Y) Zmj Y Y h_x)<|Rz Y<|Zh<|K5 0 1 2 3 11 Y<|bE h fun x2 h_x2 h=>ZbK (Ent.focusH (r:=3) (j:=2) (e':=22) (g:=O22) (ys:=x2.Sectors) Y (Zp h_x2).2 Y Zat)<|bE h fun x3 h_x3 h=>ZbK (Ent.focusH (r:=5) (j:=0) (e':=5) (g:=R5) (ys:=x3) Y (Zp h_x3).2 Y DR5)<|Z5 (cw:=⟨true,true,[some ⟨80,[[.own 3 memories.length,.own 4 spots.length,.int .i64 copies,.bool frozen,.bool stopped,.int .i64 last,.bool some_]]⟩,none,none,some ⟨59,List.set (List.map O59 memories) k.toNat [.int .i64 x2.Slots,.int .i64 x2.Limit,.own 5 x2.Sectors.length,.osub 3 (List.map R3 x2.Wear),.osub 4 (List.map R4 x2.Bad)]⟩,some ⟨83,List.map R83 spots⟩,some ⟨22,List.set (List.map O22 x2.Sectors) x.sector.toNat [.own 6 x3.length]⟩,some ⟨5,List.map R5 x3⟩],[],[6]⟩) (by kernel_rfl)<|ZO 0 _ Y (by kernel_rfl) Y Y (fun hp'=>Zc<|ov Y)<|Xq 1 _ Y (by kernel_rfl) Y Y Y (EL.ext<|.keep<|.keep<|.keep<|.keep<|.keep<|.keep<|.wr Y Y Y .nil) (fun hp' hx=>Zi (ov Y) (hx.get Y Y) Y)<|Xq 2 _ Y (by kernel_rfl) Y Y Y (EL.ext<|.keep<|.keep<|.keep<|.keep<|.keep<|.keep<|.wr Y Y Y .nil) (fun hp' hx=>Ze (ov Y) (hx.get Y Y) Y Ze6)<|Xq 3 _ Y (by kernel_rfl) Y Y Y (EL.ext<|.keep<|.keep<|.keep<|.keep<|.keep<|.keep<|.wr Y Y Y .nil) (fun hp' hx=>Zl (ov Y) (hx.get Y Y) Y Y Zcc Y)<|ZO 4 _ Y (by kernel_rfl) Y Y (fun hp'=>Zc<|ov Y)<|bE h fun x4 h_x4 h=>Xq 5 _ Y (by kernel_rfl) Y Y Y (EL.ext<|.keep<|.keep<|.keep<|.keep<|.keep<|.keep<|.wr Y Y Y .nil) (fun hp' hx=>ZgD (ov Y) (ov Y) XC (hx.get Y Y) Y h_x4)<|Xq 6 _ Y (by kernel_rfl) Y Y Y (EL.ext<|.keep<|.keep<|.keep<|.keep<|.keep<|.keep<|.wr Y Y Y .nil) (fun hp' hx=>Zge (ov Y) (hx.get Y Y) Y Z9)<|Xq 7 _ Y (by kernel_rfl) Y Y Y (EL.ext<|.keep<|.keep<|.keep<|.keep<|.keep<|.keep<|.wr Y Y Y .nil) (fun hp' hx=>Jl (ov Y) (hx.get Y Y) Y (Zp h_x2).2 Q7 Y)<|ZO 8 _ Y (by kernel_rfl) Y Y (fun hp'=>Zc<|ov Y)<|Xq 9 _ Y (by kernel_rfl) Y Y Y (EL.ext<|.keep<|.keep<|.keep<|.keep<|.keep<|.keep<|.wr Y Y Y .nil) (fun hp' hx=>Zi (ov Y) (hx.get Y Y)<|List.length_map ..)<|Xq 10 _ Y (by kernel_rfl) Y Y Y (EL.ext<|.keep<|.keep<|.keep<|.keep<|.keep<|.keep<|.wr Y Y Y .nil) (fun hp' hx=>Ju (ov Y) (hx.get Y Y) Y Zhu)<|Xq 11 _ Y (by kernel_rfl) Y Y Y (EL.ext<|.keep<|.keep<|.keep<|.keep<|.keep<|.keep<|.wr Y Y Y .nil) (fun hp' hx=>Qj (ov Y) (hx.get Y Y) Y h_x tS3 Y)<|bE h fun x5 h_x5 h=>Xq 12 _ Y (by kernel_rfl) Y Y Y (EL.ext<|.keep<|.keep<|.keep<|.keep<|.keep<|.keep<|.wr Y Y Y .nil) (fun hp' hx=>ZgD (ov Y) (ov Y) Q3 (hx.get Y Y) Y h_x5)<|Xq 13 _ Y (by kernel_rfl) Y Y Y (EL.ext<|.keep<|.keep<|.keep<|.keep<|.keep<|.keep<|.wr Y Y Y .nil) (fun hp' hx=>Jl (ov Y) (hx.get Y Y) Y (Zp h_x3).2 Zek Y)<|ZO 14 _ Y (by kernel_rfl) Y Y (fun hp'=>Zc<|ov Y)<|Xq 15 _ Y (by kernel_rfl) Y Y Y (EL.ext<|.keep<|.keep<|.keep<|.keep<|.keep<|.keep<|.wr Y Y Y .nil) (fun hp' hx=>Zi (ov Y) (hx.get Y Y)<|List.length_map ..)<|Xq 16 _ Y (by kernel_rfl) Y Y Y (EL.ext<|.keep<|.keep<|.keep<|.keep<|.keep<|.keep<|.wr Y Y Y .nil) (fun hp' hx=>Ju (ov Y) (hx.get Y Y) Y ZkB)<|Xq 17 _ Y (by kernel_rfl) Y Y Y (EL.ext<|.keep<|.keep<|.keep<|.keep<|.keep<|.keep<|.wr Y Y Y .nil) (fun hp' hx=>Qj (ov Y) (hx.get Y Y) Y h_x tS3 Y)<|ZO 18 _ Y (by kernel_rfl) Y Y (fun hp'=>Zrj (ov Y) (ov Y) Y)<|ZO 19 _ Y (by kernel_rfl) Y Y (fun hp'=>ZkV (ov Y) (ov Y) Y)<|ZO 20 _ Y (by kernel_rfl) Y Y (fun hp'=>Zc<|ov Y)<|ZO 23 _ Y (by kernel_rfl) Y Y (fun hp'=>Zc<|ov Y)<|Zba 21 (.sl 5<|List.map R5 ([0]:List Int)) _ Y (by kernel_rfl) Y Y (fun h=>by cases h) (fun _=>by exact EL.ext (.keep<| .keep<| .keep<| .keep<| .keep<| .keep<| .wr rfl rfl rfl<| .nil)) (Zbh<|Jc Qi (.cons (cvs (ov Y)<|Zn Y) Y (.cons (.b Y) .nil) .nil) Y Y)<|bE h fun l h_l h=>Zba 22 _ _ Y (by kernel_rfl) Y Y (fun h=>by cases h) (fun _=>by exact EL.ext (.keep<| .keep<| .keep<| .keep<| .keep<| .keep<| .wr rfl rfl rfl<| .nil)) (Zbh<|ZoA (f:=R5) (ov Y) (Qr (ov Y) tZ_5) Qi Y Y (fun x=>(D5 x).2) h_l)<|bE h fun y3 h_y3 h=>Zba 24 _ _ Y (by kernel_rfl) Y Y (fun h=>by cases h) (fun _=>by exact EL.ext (.keep<| .keep<| .keep<| .keep<| .keep<| .keep<| .wr rfl rfl ((List.length_map ..).trans (Eq.trans (JP h_y3) (Eq.symm ((List.length_map ..).trans rfl))))<| .nil)) (Zz [6] (ZdX h_y3) (.cons (ov Y) (.own _ Y)<|.cons (ov Y) (.dat Y)<|.cons (ov Y) (.dat Y)<|.cons (ov Y) (.dat Y) .nil) (.cons Y (roM D5) .nil) Y (.keep Y Y<|.none<|.none<|.keep Y Y<|.keep Y Y<|.keep Y Y<|.lent 0 (.inl Y) Y (roM D5) .nil) Y Y<|Qq<|rld Y)<|D1 25 Zc Y<|Dq 26 Y (Xa (ov Y) Y)<|Dq 27 Y (Xa (ov Y) Y)<|D1 28 ZS Y<|D1 29 ZS Y<|?_
  have h_x6:=Xb (y:=y3.2.2) h_x5
  have h_x7:=Xb (y:=(api_Memory.mk x2.Slots x2.Limit (x2.Sectors.set x.sector.toNat y3.2.2) x2.Wear x2.Bad)) h_x4
  have h_x8:=Xb (y:=(api_Memory.mk x2.Slots x2.Limit (x2.Sectors.set x.sector.toNat y3.2.2) x2.Wear x2.Bad)) h_x4
  refine Jd (by kernel_rfl) (Ent.trans (Ent.absorbH (r:=5) (j:=0) (q:=6) Y (Zp h_x3).2 Y Y ((List.length_map ..).trans<|JP h_y3) Y)<|Ent.trans (Ent.closeH (r:=5) (y:=y3.2.2) Y Y)<|Ent.trans (Ent.absorbH (r:=3) (j:=2) (q:=5) Y (Zp h_x2).2 Y Y ((List.length_map ..).trans<|(List.length_set ..).trans Y) Y)<|Ent.closeH (r:=3) (y:=(api_Memory.mk x2.Slots x2.Limit (x2.Sectors.set x.sector.toNat y3.2.2) x2.Wear x2.Bad)) Y Y)<|K3 3 11 12 Y<|ZH [some ⟨80,[[.own 3 memories.length,.own 4 spots.length,.int .i64 copies,.bool frozen,.bool stopped,.int .i64 last,.bool some_]]⟩,none,none,some ⟨59,List.map O59 (memories.set k.toNat (api_Memory.mk x2.Slots x2.Limit (x2.Sectors.set x.sector.toNat y3.2.2) x2.Wear x2.Bad))⟩,some ⟨83,List.map R83 spots⟩,none,none] Y<|Tr<|Rm Y<|Rq Y (Zi (ov Y) Y<|List.length_map ..)<|Rq Y (Ju (ov Y) Y Y ZkB)<|Rq Y (Qj (ov Y) Y Y h_x tS3 Y)<|R2 ZI Y<|Rq Y (Zi (ov Y) Y<|List.length_map ..)<|Rq Y (Ju (ov Y) Y Y ZkB)<|Rx Y (Xg (u':=(ring_spot.mk x.sector (i64 (x.slot+1)))) (ov Y) (ov Y) (Zj tS3) Y Y h_x Y (Za Y) Y)<|Zb<|K2 3 12 Y<|ZH [some ⟨80,[[.own 3 memories.length,.own 4 spots.length,.int .i64 copies,.bool frozen,.bool stopped,.int .i64 last,.bool some_]]⟩,none,none,some ⟨59,List.map O59 (memories.set k.toNat (api_Memory.mk x2.Slots x2.Limit (x2.Sectors.set x.sector.toNat y3.2.2) x2.Wear x2.Bad))⟩,some ⟨83,List.map R83 (spots.set k.toNat (ring_spot.mk x.sector (i64 (x.slot+1))))⟩,none,none] Y<|Tr<|Rm Y<|Rm Y<|Ra Y<|Rz Y<|?_
  obtain rfl:=rt h
  exact Zk<|Xu [some 0,some 1,some 2,some 3,some 4] Y (.cons (.tmp Y)<|.cons (.tmp Y) .nil) (.cons Y (ro1 (by exact tZ_80.symm)<|rlc (Zbu (Eq.symm<|(List.length_set ..).trans Y) Y)<|rlc (Zbu (Eq.symm<|(List.length_set ..).trans Y) Y)<|rlD Y<|rlD Y<|rlD Y<|rlD Y<|rlD Y rln)<|.dead<|.dead<|.cons Y (roO Zw)<|.cons Y (roM D83) .nil) Y Y<|Qq<|rlD Y<|rlD Y rln
theorem Zb2{r_:ring_Recorder}{f:Vector Int 64}{power:Int}{r:Int×Bool×Int×ring_Recorder}(h:QB r_ f power=some r):
 GSpec Tryz.prog gl0 17 [.ptr 0 1 0 0,.agg (List.map C44 f.toList),.int .i64 power] [some ⟨80,[[.own 1 r_.bank.memories.length,.own 2 r_.bank.spots.length,.int .i64 r_.copies,.bool r_.frozen,.bool r_.stopped,.int .i64 r_.last,.bool r_.some_]]⟩,some ⟨59,List.map O59 r_.bank.memories⟩,some ⟨83,List.map R83 r_.bank.spots⟩] (.tuple [.int .i64 r.1,.bool r.2.1,.int .i64 r.2.2.1]) [some ⟨80,[[.own 3 r.2.2.2.bank.memories.length,.own 4 r.2.2.2.bank.spots.length,.int .i64 r.2.2.2.copies,.bool r.2.2.2.frozen,.bool r.2.2.2.stopped,.int .i64 r.2.2.2.last,.bool r.2.2.2.some_]]⟩,none,none,some ⟨59,List.map O59 r.2.2.2.bank.memories⟩,some ⟨83,List.map R83 r.2.2.2.bank.spots⟩]:=by
 unfold QB at h
 replace h:=Qb h
 refine Ql (by kernel_rfl) Tryz.func17 Y Y<|?_
 intro w0 A W φ0
 refine ZbK (Ent.sel [some 0,some 1,some 2,some 1,some 2] (sr 0 Y (.ptr (r':=0) _ _ _ Y)<|sr 1 Y (Zb7<|rld<|arD fun _=>Y)<|sd 2 Y Y sn) (.cons Y (ro1 (by exact tZ_80.symm)<|rlc (.own (r':=3) _ Y)<|rlc (.own (r':=4) _ Y)<|rlD Y<|rlD Y<|rlD Y<|rlD Y<|rlD Y rln)<|.dead<|.dead<|.cons Y (roO Zw)<|.cons Y (roM D83) .nil) Y Y)<|ZH [some ⟨80,[[.own 3 r_.bank.memories.length,.own 4 r_.bank.spots.length,.int .i64 r_.copies,.bool r_.frozen,.bool r_.stopped,.int .i64 r_.last,.bool r_.some_]]⟩,none,none,some ⟨59,List.map O59 r_.bank.memories⟩,some ⟨83,List.map R83 r_.bank.spots⟩] Y<|Tr<|Rq Y (JL (cva<|ov Y) arL tZ_46<|arD fun _=>Y)<|Ra Y<|Ra Y<|Rz Y<|Zh<|K3 0 2 4 Y<|Tr<|Rm Y<|Rm Y<|bE h fun y h_y h=>Rq Y (Jh (Zdz h_y) .int<|.cons (ov Y) (View.ptrS (j:=0) (k:=7) Y Y Y (nL Y)<|.cons (View.ownO Y Y Zw (fun x=>(D59 x).1) ZeK)<|.cons (View.ownM Y Y D83)<|.cons (Dat.view<|.b Y)<|.cons (Dat.view<|.b Y)<|.cons (Dat.view<|.b Y)<|.cons (Dat.view<|.b Y)<|.cons (Dat.view<|.b Y) .nil)<|.cons (ov Y) (Dat.view<|.b Y) .nil)<|Rz Y<|K4 0 2 4 9 Y<|Tr<|Rm Y<|R2 Qy Y<|Zb<|K5 0 2 4 9 23 Y<|If h Y (fun h=>?_) fun h=>?_
 ·
  refine K1 9 Y<|Tr<|Rm Y<|Ra Y<|Ra Y<|Rz Y<|?_
  obtain rfl:=rt h
  exact Zk<|Xu [some 0,some 1,some 2,some 3,some 4] Y (.cons (.tmp Y)<|.cons (.tmp Y)<|.cons (.tmp Y) .nil) (.cons Y (ro1 (by exact tZ_80.symm)<|rlc (.own _ Y)<|rlc (.own _ Y)<|rlD Y<|rlD Y<|rlD Y<|rlD Y<|rlD Y rln)<|.dead<|.dead<|.cons Y (roO Zw)<|.cons Y (roM D83) .nil) Y Y<|Qq<|rlD Y<|rlD Y<|rlD Y rln
 ·
  refine Zg<|Zh<|K3 0 2 4 Y<|Tr<|Rq Y (Z3 (ov Y) X3 (Qs<|Zu arL) arL)<|bE h fun y2 h_y2 h=>Rq Y (Zq (Zhy h_y2)<|.cons (ov Y) (.aggB<|arD fun _=>Y) .nil)<|Rl tZ_133 ZeG Y<|R2 Za9 Y<|Zb<|K4 0 2 4 28 Y<|If h Y (fun h=>?_) fun h=>?_
  ·
   refine K0<|Tr<|Ra Y<|Ra Y<|Rz Y<|?_
   obtain rfl:=rt h
   exact Zk<|Xu [some 0,some 1,some 2,some 3,some 4] Y (.cons (.tmp Y)<|.cons (.tmp Y)<|.cons (.tmp Y) .nil) (.cons Y (ro1 (by exact tZ_80.symm)<|rlc (.own _ Y)<|rlc (.own _ Y)<|rlD Y<|rlD Y<|rlD Y<|rlD Y<|rlD Y rln)<|.dead<|.dead<|.cons Y (roO Zw)<|.cons Y (roM D83) .nil) Y Y<|Qq<|rlD Y<|rlD Y<|rlD Y rln
  ·
   refine Zg<|K3 0 2 4 Y<|Tr<|Rq Y (Z3 (ov Y) X3 (Qs<|Zu arL) arL)<|bE h fun y3 h_y3 h=>Rq Y (Zq (ZgM h_y3)<|.cons (ov Y) (.aggB<|arD fun _=>Y) .nil)<|Rm Y<|Rj Y Y Y<|Rj Y Y Y<|Ra Y<|Rz Y<|Zh<|K4 0 2 4 10 Y<|Z5 (cw:=md0) (by kernel_rfl)<|D1 0 Zc Y<|D1 1 Zc Y<|Dq 2 Y (Zi (ov Y) Y Y)<|Dq 3 Y (Ze (ov Y) Y Y Ze2)<|Dq 4 Y (Ze (ov Y) Y Y Ze6)<|Dq 5 Y (Zl (ov Y) Y Y Y Zcc Y)<|Dq 6 Y (Zb9 (ov Y) Y Y XC)<|D1 7 Zc Y<|Dq 8 Y (Zi (ov Y) Y Y)<|Dq 9 Y (Ze (ov Y) Y Y Zrm)<|Dq 10 Y (Zl (ov Y) Y Y Y tS3 Y)<|bE h fun y4 h_y4 h=>Dq 11 Y (Zq (Zj2 h_y4)<|.cons (ov Y) (.b Y)<|.cons (ov Y) (.b Y)<|.cons (ov Y) (.b Y) .nil)<|D1 12 ZS Y<|Dd<|Zh<|K5 0 2 4 10 12 Y<|Tr<|Rm Y<|Rq Y (Zi (ov Y) Y Y)<|Rq Y (Ze (ov Y) Y Y Ze2)<|Rm Y<|bE h fun y5 h_y5 h=>Rq Y (Jh (Zia h_y5) .int<|.cons (ov Y) (View.ptrS (j:=0) (k:=2) Y Y Y (nL Y)<|.cons (View.ownO Y Y Zw (fun x=>(D59 x).1) ZeK)<|.cons (View.ownM Y Y D83) .nil)<|.cons (ov Y) (Dat.view<|.b Y) .nil)<|Rz Y<|K6 0 2 4 10 12 13 Y<|Tr<|Rm Y<|R2 Qy Y<|Zb<|K7 0 2 4 10 12 13 52 Y<|If h Y (fun h=>?_) fun h=>?_
   ·
    refine K1 13 Y<|Tr<|Rm Y<|Ra Y<|Ra Y<|Rz Y<|?_
    obtain rfl:=rt h
    exact Zk<|Xu [some 0,some 1,some 2,some 3,some 4] Y (.cons (.tmp Y)<|.cons (.tmp Y)<|.cons (.tmp Y) .nil) (.cons Y (ro1 (by exact tZ_80.symm)<|rlc (.own _ Y)<|rlc (.own _ Y)<|rlD Y<|rlD Y<|rlD Y<|rlD Y<|rlD Y rln)<|.dead<|.dead<|.cons Y (roO Zw)<|.cons Y (roM D83) .nil) Y Y<|Qq<|rlD Y<|rlD Y<|rlD Y rln
   ·
    refine Zg<|K5 0 2 4 10 12 Y<|Tr<|Rq Y (Z3 (ov Y) X3 (Qs<|Zu arL) arL)<|bE h fun y6 h_y6 h=>Rq Y (Zq (Zjy h_y6)<|.cons (ov Y) (.aggB<|arD fun _=>Y) .nil)<|Rm Y<|Rj Y Y Y<|Rj Y Y Y<|Ra Y<|Rz Y<|J8 (fun j=>(.inr j)) (fun memories spots copies frozen stopped last some_ power2=>⟨[(0,.ptr 0 1 0 0),(2,.int .i64 power2),(10,.int .i64 y3.1)],[some ⟨80,[[.own 3 memories.length,.own 4 spots.length,.int .i64 copies,.bool frozen,.bool stopped,.int .i64 last,.bool some_]]⟩,none,none,some ⟨59,List.map O59 memories⟩,some ⟨83,List.map R83 spots⟩]⟩) h (fun h=>?_) fun memories spots copies frozen stopped last some_ power2 h=>?_
    ·
     refine K5 0 2 10 12 14 Y<|Tr<|Rm Y<|Rl tZ_3 QA Y<|Rm Y<|Zb<|Zf<|?_
     obtain⟨r1,hl1,ho1⟩:=QC h
     refine L9 (fun memories2 spots2 copies2 frozen2 stopped2 last2 some_2 power3 i=>⟨[(0,.ptr 0 1 0 0),(2,.int .i64 power3),(10,.int .i64 y3.1),(14,.sl 5 (List.map R5 y6.1)),(59,.sl 3 (List.map R3 y4)),(60,.int .i64 (y4.length:Int)),(61,.int .i64 i)],[some ⟨80,[[.own 3 memories2.length,.own 4 spots2.length,.int .i64 copies2,.bool frozen2,.bool stopped2,.int .i64 last2,.bool some_2]]⟩,none,none,some ⟨59,List.map O59 memories2⟩,some ⟨83,List.map R83 spots2⟩]⟩) hl1 (ES [some 0,some 1,some 2,some 3,some 4] (hhp:= .cons Y (ro1 (by exact tZ_80.symm)<|rlc (.own _ Y)<|rlc (.own _ Y)<|rlD Y<|rlD Y<|rlD Y<|rlD Y<|rlD Y rln)<|.dead<|.dead<|.cons Y (roO Zw)<|.cons Y (roM D83) .nil)) fun n1 memories2 spots2 copies2 frozen2 stopped2 last2 some_2 power3 i h=>?_
     unfold Qw at h
     refine Tr<|R2 ZL Y<|Zb<|Zh<|If h Y (fun h=>?_) fun h=>?_
     ·
      refine Zg<|Zh<|Zf<|K7 0 2 10 14 59 60 61 Y<|Tr<|bE h fun x h_x h=>Rq Y (ZP (ov Y) (ov Y) QA h_x)<|Rq Y (Zd (ov Y) tS3 Y)<|Rz Y<|K8 0 2 10 14 17 59 60 61 Y<|Tr<|Rz Y<|Zh<|Z5 (cw:=⟨true,false,[],[],[]⟩) (by kernel_rfl)<|D1 0 Zc Y<|Dq 1 Y (Zi (ov Y) Y Y)<|Dq 2 Y (Ze (ov Y) Y Y Ze2)<|D1 3 Zc Y<|D1 4 Zc Y<|D1 5 Zc Y<|Dq 6 Y (Zk2 (Qr (ov Y) tZ_5) Qi<|Zgw _ _)<|D1 7 Zc Y<|Dq 8 Y (Zk2 (Qr (ov Y) tZ_5) Qi<|Zgw _ _)<|bE h fun l h_l h=>Dq 9 Y (Zoz (ov Y) Qi (ov Y) (ov Y) h_l)<|D1 10 Zc Y<|bE h fun y7 h_y7 h=>Do 11 Y (Zz [0,3,4] (Zfe h_y7) (.cons (ov Y) (.ptr _ _ _ Y)<|.cons (ov Y) (.dat Y)<|.cons (ov Y) (.dat Y)<|.cons (ov Y) (.dat Y) .nil) (.cons Y (ro1 (by exact tZ_80.symm)<|rlc (.own _ Y)<|rlc (.own _ Y)<|rlD Y<|rlD Y<|rlD Y<|rlD Y<|rlD Y rln)<|.cons Y (roO Zw)<|.cons Y (roM D83) .nil) Y (.lent 0 (.inl Y) Y (ro1 (by exact tZ_80.symm)<|rlc (.own _<|Wa Y Y)<|rlc (.own _<|Wa Y Y)<|rlD Y<|rlD Y<|rlD Y<|rlD Y<|rlD Y rln)<|.none<|.none<|.none<|.none<|.lent 3 (Wa Y Y) Y (roO Zw)<|.lent 4 (Wa Y Y) Y (roM D83) .nil) Y Y<|Qq<|rld Y)<|D1 12 Zc Y<|Dq 13 Y (Xa (ov Y) Y)<|Dq 14 Y (Xa (ov Y) Y)<|D1 15 ZS Y<|D1 16 ZS Y<|Dd<|K8 0 2 10 14 18 59 60 61 Y<|ZH [some ⟨80,[[.own 5 y7.2.2.bank.memories.length,.own 6 y7.2.2.bank.spots.length,.int .i64 y7.2.2.copies,.bool y7.2.2.frozen,.bool y7.2.2.stopped,.int .i64 y7.2.2.last,.bool y7.2.2.some_]]⟩,none,none,none,none,some ⟨59,List.map O59 y7.2.2.bank.memories⟩,some ⟨83,List.map R83 y7.2.2.bank.spots⟩] Y<|Tr<|Rm Y<|R1 XM Y<|Zb<|K8 0 2 10 14 59 60 61 81 Y<|If h Y (fun h=>?_) fun h=>?_
      ·
       refine K2 0 2 Y<|Tr<|Rm Y<|Rq Y (Zi (ov Y) Y Y)<|Rq Y (Ze (ov Y) Y Y ZnB)<|Rx Y (Zm (ov Y) (ov Y) (Zj tS4) Y Y Y (nL Y) (Za Y) Y)<|Zb<|K1 2 Y<|ZH [some ⟨80,[[.own 5 y7.2.2.bank.memories.length,.own 6 y7.2.2.bank.spots.length,.int .i64 y7.2.2.copies,.bool y7.2.2.frozen,.bool true,.int .i64 y7.2.2.last,.bool y7.2.2.some_]]⟩,none,none,none,none,some ⟨59,List.map O59 y7.2.2.bank.memories⟩,some ⟨83,List.map R83 y7.2.2.bank.spots⟩] Y<|Tr<|Rm Y<|Ra Y<|Ra Y<|Rz Y<|?_
       replace h:=lx h▸ho1
       obtain rfl:=rt h
       exact Zk<|Xu [some 0,some 1,some 2,some 5,some 6] Y (.cons (.tmp Y)<|.cons (.tmp Y)<|.cons (.tmp Y) .nil) (.cons Y (ro1 (by exact tZ_80.symm)<|rlc (.own _ Y)<|rlc (.own _ Y)<|rlD Y<|rlD Y<|rlD Y<|rlD Y<|rlD Y rln)<|.dead<|.dead<|.cons Y (roO Zw)<|.cons Y (roM D83) .nil) Y Y<|Qq<|rlD Y<|rlD Y<|rlD Y rln
      ·
       exact Zg<|K7 0 2 10 14 59 60 61 Y<|Zo<|R2 ZI Y<|Rm Y<|Zb<|⟨_,h,ES [some 0,some 1,some 2,some 5,some 6] (hhp:= .cons Y (ro1 (by exact tZ_80.symm)<|rlc (.own _ Y)<|rlc (.own _ Y)<|rlD Y<|rlD Y<|rlD Y<|rlD Y<|rlD Y rln)<|.dead<|.dead<|.cons Y (roO Zw)<|.cons Y (roM D83) .nil)⟩
     ·
      refine ZA<|?_
      replace h:=lx h▸ho1
      exact⟨_,h,ES [some 0,some 1,some 2,some 3,some 4] (hhp:= .cons Y (ro1 (by exact tZ_80.symm)<|rlc (.own _ Y)<|rlc (.own _ Y)<|rlD Y<|rlD Y<|rlD Y<|rlD Y<|rlD Y rln)<|.dead<|.dead<|.cons Y (roO Zw)<|.cons Y (roM D83) .nil)⟩
    ·
     replace h:=elr h
     replace h:=t8i h
     refine Tr<|Rm Y<|Rm Y<|Rm Y<|Rq Y (Zi (ov Y) Y Y)<|Rq Y (Ze (ov Y) Y Y ZpU)<|Rx Y (Zm (ov Y) (ov Y) (Zj tS3) Y Y Y (nL Y) (Za Y) Y)<|Rq Y (Zi (ov Y) Y Y)<|Rq Y (Ze (ov Y) Y Y Zp1)<|Rx Y (Zm (ov Y) (ov Y) (Zj tS4) Y Y Y (nL Y) (Za Y) Y)<|Zb<|K1 2 Y<|ZH [some ⟨80,[[.own 3 memories.length,.own 4 spots.length,.int .i64 copies,.bool frozen,.bool stopped,.int .i64 y3.1,.bool true]]⟩,none,none,some ⟨59,List.map O59 memories⟩,some ⟨83,List.map R83 spots⟩] Y<|Tr<|Rm Y<|Ra Y<|Ra Y<|Rz Y<|?_
     obtain rfl:=rt h
     exact Zk<|Xu [some 0,some 1,some 2,some 3,some 4] Y (.cons (.tmp Y)<|.cons (.tmp Y)<|.cons (.tmp Y) .nil) (.cons Y (ro1 (by exact tZ_80.symm)<|rlc (.own _ Y)<|rlc (.own _ Y)<|rlD Y<|rlD Y<|rlD Y<|rlD Y<|rlD Y rln)<|.dead<|.dead<|.cons Y (roO Zw)<|.cons Y (roM D83) .nil) Y Y<|Qq<|rlD Y<|rlD Y<|rlD Y rln
theorem Zj3{l:List api_Memory}{r:(List api_Memory)}(h:Ji l=some r):
 CSpec Tryz.prog gl0 35 [.sl 59 (List.map R59 l)] (.sl 59 (List.map R59 r)):=by
 unfold Ji at h
 replace h:=Qb h
 refine So Tryz.func35 Y fun w0 A=>Tr<|Rz Y<|K1 0 Y<|Tr<|Rz Y<|I1 (fun out=>⟨[(3,.own 0 out.length)],[some ⟨59,List.map O59 out⟩]⟩) h (fun h=>?_) fun out h=>?_
 ·
  refine Tr<|Rm Y<|Rl tZ_59 XC Y<|Rm Y<|Zb<|Zf<|?_
  obtain⟨r1,hl1,ho1⟩:=QC h
  refine L2 (fun out2 i=>⟨[(3,.own 0 out2.length),(6,.sl 59 (List.map R59 l)),(7,.int .i64 (l.length:Int)),(8,.int .i64 i)],[some ⟨59,List.map O59 out2⟩]⟩) hl1 (ES [none]) fun n1 out2 i h=>?_
  unfold XX at h
  refine Tr<|R2 ZL Y<|Zb<|Zh<|If h Y (fun h=>?_) fun h=>?_
  ·
   exact Zg<|Zh<|Zf<|K4 3 6 7 8 Y<|Tr<|bE h fun x h_x h=>Rq Y (ZP (ov Y) (ov Y) XC h_x)<|Rq Y (Z3 (ov Y) XL Y Y)<|Rx Y (Qd (row:= [_,_,_,_,_]) 1 Y Zde Y tZ_59)<|Rx Y (Zm (ov Y) (ov Y) (ZB XL Y) Y Y Y (nL Y) (Za Y) Y)<|Zb<|K5 3 5 6 7 8 Y<|ZH [some ⟨59,List.map O59 out2⟩,some ⟨59,[[.int .i64 x.Slots,.int .i64 x.Limit,.sl 22 (List.map R22 x.Sectors),.sl 3 (List.map R3 x.Wear),.sl 4 (List.map R4 x.Bad)]]⟩] Y<|Zo<|Rm Y<|Rq Y (Qt (ov Y) Y Y Y XL Y Y)<|bE h fun y h_y h=>Rx Y (Zz [] (Zeo h_y) (.cons (ov Y) (Zb7<|rld Y) .nil) .nil Y (.keep Y Y<|.keep Y Y<|.lent 0 (Wa Y Y) Y (roO Zat)<|.lent 1 (Wa Y Y) Y (roM D3)<|.lent 2 (Wa Y Y) Y (roM D4) .nil) Y Y<|Zb7<|rlD Y<|rlD Y<|rlc (.own _<|Wa Y Y)<|rlc (.own _<|Wa Y Y)<|rlc (.own _<|Wa Y Y) rln)<|Rx Y (Xs (r:=5) Y XC (.cons (cva<|ov Y) Y .nil) Y Y)<|bE h fun l2 h_l2 h=>Rx Y (Q8 (f:=O59) (ov Y) (Jv (o:=⟨59,[[.int .i64 y.Slots,.int .i64 y.Limit,.own 2 y.Sectors.length,.own 3 y.Wear.length,.own 4 y.Bad.length]]⟩) (ov Y) Y Y tZ_59) XC Y Y (Za Y) Y h_l2)<|Ra Y<|ZdL [some ⟨59,List.set (List.map O59 l2) out2.length [.int .i64 y.Slots,.int .i64 y.Limit,.own 2 y.Sectors.length,.own 3 y.Wear.length,.own 4 y.Bad.length]⟩,some ⟨59,[[.int .i64 x.Slots,.int .i64 x.Limit,.sl 22 (List.map R22 x.Sectors),.sl 3 (List.map R3 x.Wear),.sl 4 (List.map R4 x.Bad)]]⟩,some ⟨22,List.map O22 y.Sectors⟩,some ⟨3,List.map R3 y.Wear⟩,some ⟨4,List.map R4 y.Bad⟩,some ⟨59,[[.int .i64 y.Slots,.int .i64 y.Limit,.own 2 y.Sectors.length,.own 3 y.Wear.length,.own 4 y.Bad.length]]⟩] Y<|Qk (Ent.absorbH (r:=0) (j:=2) (q:=2) Y (ZF h_l2) Y Y (List.length_map ..) Y)<|Qk (Ent.absorbH (r:=0) (j:=3) (q:=3) Y (ZF h_l2) Y Y (List.length_map ..) Y)<|Qk (Ent.absorbH (r:=0) (j:=4) (q:=4) Y (ZF h_l2) Y Y (List.length_map ..) Y)<|Qk (Ent.closeS (r:=0) Y (ZF h_l2) Y)<|Zb<|K4 3 6 7 8 Y<|ZH [some ⟨59,List.map O59 l2⟩,some ⟨59,[[.int .i64 x.Slots,.int .i64 x.Limit,.sl 22 (List.map R22 x.Sectors),.sl 3 (List.map R3 x.Wear),.sl 4 (List.map R4 x.Bad)]]⟩,none,none,none,some ⟨59,[[.int .i64 y.Slots,.int .i64 y.Limit,.own 2 y.Sectors.length,.own 3 y.Wear.length,.own 4 y.Bad.length]]⟩] Y<|Zo<|R2 ZI Y<|Rm Y<|Zb<|⟨_,h,ES [some 0] (hhp:= .cons Y (roO Zw) .nil)⟩
  ·
   refine ZA<|?_
   replace h:=lx h▸ho1
   exact⟨_,h,ES [some 0] (hhp:= .cons Y (roO Zw) .nil)⟩
 ·
  refine Tr<|Rm Y<|Rz Y<|?_
  obtain rfl:=rt h
  exact Zk (ZK Y (.one<|.tmp Y<|View.ownO Y Y Zw (fun x=>(D59 x).1) ZeK))
theorem ZeP{r_:ring_Recorder}{r:(List api_Memory)}(h:Z6 r_=some r):
 GSpec Tryz.prog gl0 21 [.ptr 0 1 0 0] [some ⟨80,[[.own 1 r_.bank.memories.length,.own 2 r_.bank.spots.length,.int .i64 r_.copies,.bool r_.frozen,.bool r_.stopped,.int .i64 r_.last,.bool r_.some_]]⟩,some ⟨59,List.map O59 r_.bank.memories⟩,some ⟨83,List.map R83 r_.bank.spots⟩] (.sl 59 (List.map R59 r)) [some ⟨80,[[.sl 59 (List.map R59 r_.bank.memories),.own 3 r_.bank.spots.length,.int .i64 r_.copies,.bool r_.frozen,.bool r_.stopped,.int .i64 r_.last,.bool r_.some_]]⟩,none,none,some ⟨83,List.map R83 r_.bank.spots⟩]:=by
 unfold Z6 at h
 replace h:=Qb h
 refine Ql (by kernel_rfl) Tryz.func21 Y Y<|?_
 intro w0 A W φ0
 refine ZbK (Ent.sel [some 0,some 1,some 2,some 1,some 2] (sr 0 Y (.ptr (r':=0) _ _ _ Y) sn) (.cons Y (ro1 (by exact tZ_80.symm)<|rlc (.own (r':=3) _ Y)<|rlc (.own (r':=4) _ Y)<|rlD Y<|rlD Y<|rlD Y<|rlD Y<|rlD Y rln)<|.dead<|.dead<|.cons Y (roO Zw)<|.cons Y (roM D83) .nil) Y Y)<|ZH [some ⟨80,[[.own 3 r_.bank.memories.length,.own 4 r_.bank.spots.length,.int .i64 r_.copies,.bool r_.frozen,.bool r_.stopped,.int .i64 r_.last,.bool r_.some_]]⟩,none,none,some ⟨59,List.map O59 r_.bank.memories⟩,some ⟨83,List.map R83 r_.bank.spots⟩] Y<|Tr<|Rz Y<|Tr<|Rm Y<|Rq Y (Zi (ov Y) Y Y)<|Rq Y (Ze (ov Y) Y Y Ze2)<|Rq Y (Ze (ov Y) Y Y Ze6)<|Rq Y (Zl (ov Y) Y Y Y Zcc Y)<|bE h fun y h_y h=>Qk (Ent.meltO (r:=3) Y Zw (fun x=>(D59 x).1) ZeK)<|Qk (Ent.sel [some 0,some 1,some 2,none,some 4] (sr 0 Y (.ptr (r':=0) _ _ _ Y)<|sd 2 Y Y<|sr 3 Y (.ptr (r':=0) _ _ _ Y)<|sr 4 Y (.ptr (r':=0) _ _ _ Y)<|sr 5 Y (.ptr (r':=0) _ _ _ Y)<|sr 6 Y (.ptr (r':=0) _ _ _ Y)<|sr 7 Y (Zms Y Y Y D59) sn) (.cons Y (ro1 (by exact tZ_80.symm)<|rlc (Zms Y Y Y D59)<|rlc (.own (r':=4) _ Y)<|rlD Y<|rlD Y<|rlD Y<|rlD Y<|rlD Y rln)<|.dead<|.dead<|.row 59<|.cons Y (roM D83) .nil) Y Y)<|Rq Y (Zq (Zj3 h_y)<|.cons (ov Y) (.b Y) .nil)<|Rz Y<|?_
 obtain rfl:=rt h
 exact Zk<|Xu [some 0,some 1,some 2,some 4] Y (.cons (.tmp Y) .nil) (.cons Y (ro1 (by exact tZ_80.symm)<|rlD Y<|rlc (.own _ Y)<|rlD Y<|rlD Y<|rlD Y<|rlD Y<|rlD Y rln)<|.dead<|.dead<|.cons Y (roM D83) .nil) Y Y<|.dat Y
theorem Zj6{p:Vector Int 96}{i:Int}{r:Int}(h:Zdo p i=some r):
 CSpec Tryz.prog gl0 131 [.rp (List.map C5 p.toList) 0,.int .i64 i] (.int .u16 r):=by
 unfold Zdo at h
 replace h:=Qb h
 refine So Tryz.func131 Y fun w0 A=>Tr<|Rz Y<|K2 0 1 Y<|Tr<|Rm Y<|bE h fun q h_q h=>Rq Y (Zgq (ov Y) (ov Y) h_q)<|R2 ZeC Y<|Rz Y<|Zh<|K3 0 1 5 Y<|Tr<|Rm Y<|bE h fun q2 h_q2 h=>Rq Y (Zaf (ov Y) (ov Y) h_q2)<|R2 Zae Y<|Zb<|K3 0 5 11 Y<|If h Y (fun h=>?_) fun h=>?_
 ·
  refine Zh<|K2 0 5 Y<|Z5 (cw:=md0) (by kernel_rfl)<|D1 0 Zc Y<|D1 1 Zc Y<|D1 2 ZG Y<|bE h fun x h_x h=>Dq 3 Y (Q6 (ov Y) (ov Y) ZfJ h_x)<|Dq 4 Y (Zd (ov Y) tS5<|Qx<|XV (o:=0) (o':=((i64 (q*3)).toNat*1)) (Zu arL)<|XR h_x)<|Dq 5 Y (Qh (ov Y) tI5 Zdl Y)<|bE h fun q3 h_q3 h=>Dq 6 Y (ZgJ (ov Y) (ov Y) h_q3)<|D1 7 Zc Y<|D1 8 Zc Y<|D2 9 ZI Y<|D1 10 ZG Y<|bE h fun x2 h_x2 h=>Dq 11 Y (Q6 (ov Y) (ov Y) ZfJ h_x2)<|Dq 12 Y (Zd (ov Y) tS5<|Qx<|XV (o:=0) (o':=((i64 ((i64 (q*3))+1)).toNat*1)) (Zu arL)<|XR h_x2)<|Dq 13 Y (Qh (ov Y) tI5 Zdl Y)<|bE h fun q4 h_q4 h=>Dq 14 Y (Zbf (ov Y) (ov Y) h_q4)<|D2 15 Zho Y<|D1 16 ZS Y<|Dd<|?_
  obtain rfl:=rt h
  exact Zk (ZK Y (.one<|rb Y))
 ·
  refine Zg<|Zh<|K2 0 5 Y<|Z5 (cw:=md0) (by kernel_rfl)<|D1 0 Zc Y<|D1 1 Zc Y<|D2 2 ZI Y<|D1 3 ZG Y<|bE h fun x3 h_x3 h=>Dq 4 Y (Q6 (ov Y) (ov Y) ZfJ h_x3)<|Dq 5 Y (Zd (ov Y) tS5<|Qx<|XV (o:=0) (o':=((i64 ((i64 (q*3))+1)).toNat*1)) (Zu arL)<|XR h_x3)<|Dq 6 Y (Qh (ov Y) tI5 Zdl Y)<|D2 7 Zbk Y<|bE h fun q5 h_q5 h=>Dq 8 Y (ZgJ (ov Y) (ov Y) h_q5)<|D1 9 Zc Y<|D1 10 Zc Y<|D2 11 ZI Y<|D1 12 ZG Y<|bE h fun x4 h_x4 h=>Dq 13 Y (Q6 (ov Y) (ov Y) ZfJ h_x4)<|Dq 14 Y (Zd (ov Y) tS5<|Qx<|XV (o:=0) (o':=((i64 ((i64 (q*3))+2)).toNat*1)) (Zu arL)<|XR h_x4)<|Dq 15 Y (Qh (ov Y) tI5 Zdl Y)<|D2 16 Zho Y<|D1 17 ZS Y<|Dd<|?_
  obtain rfl:=rt h
  exact Zk (ZK Y (.one<|rb Y))
theorem Zlj{p:Vector Int 96}{r:(Vector Int 64)}(h:Zfa p=some r):
 CSpec Tryz.prog gl0 116 [.rp (List.map C5 p.toList) 0] (.agg (List.map C44 r.toList)):=by
 unfold Zfa at h
 replace h:=Qb h
 refine So Tryz.func116 Y fun w0 A=>Tr<|Rx Y (Qd (row:=(List.map C44 (Vector.replicate 64 0).toList)) 0 Y Ziy Y tZ_46)<|Zb<|Tr<|Rx Y (Qd (row:=(List.map C44 (Vector.replicate 64 0).toList)) 1 Y Ziy Y tZ_46)<|Zb<|I1 (fun f=>⟨[(2,.ptr 0 1 0 0),(3,.ptr 1 1 0 0)],[some ⟨46,[(List.map C44 (Vector.replicate 64 0).toList)]⟩,some ⟨46,[(List.map C44 f.toList)]⟩]⟩) h (fun h=>?_) fun f h=>?_
 ·
  refine Tr<|Rm Y<|Zb<|Zf<|?_
  obtain⟨r1,hl1,ho1⟩:=QC h
  refine L2 (fun f2 i=>⟨[(0,.rp (List.map C5 p.toList) 0),(2,.ptr 0 1 0 0),(3,.ptr 1 1 0 0),(5,.int .i64 i)],[some ⟨46,[(List.map C44 (Vector.replicate 64 0).toList)]⟩,some ⟨46,[(List.map C44 f2.toList)]⟩]⟩) hl1 (ES [some 0,some 1]) fun n1 f2 i h=>?_
  unfold Zd8 at h
  refine Tr<|R2 ZL Y<|Zb<|Zh<|If h Y (fun h=>?_) fun h=>?_
  ·
   exact Zg<|Zh<|Zf<|K4 0 2 3 5 Y<|Tr<|Rm Y<|Rz Y<|K5 0 2 3 4 5 Y<|Zo<|Rm Y<|Rm Y<|Rm Y<|bE h fun y h_y h=>Rq Y (Zq (Zj6 h_y)<|.cons (ov Y) (.b Y)<|.cons (ov Y) (.b Y) .nil)<|bE h fun x h_x h=>Rq Y (Zbg (ov Y) (ov Y) Zaq Y Y h_x)<|Rx Y (Zm (ov Y) (ov Y) (Zj Za7) Y Y Y (arB h_x) (Za Y)<|arS h_x)<|Zb<|K4 0 2 3 5 Y<|Zo<|R2 ZI Y<|Rm Y<|Zb<|⟨_,h,ES [some 0,some 1]⟩
  ·
   refine ZA<|?_
   replace h:=lx h▸ho1
   exact⟨_,h,ES [some 0,some 1]⟩
 ·
  refine Tr<|Rq Y (Qt (ov Y) Y Y Y X3 (Qs<|Zu arL) arL (hns:=(nsM fun _=>Y)))<|Rx Y (Zm (ov Y) (ov Y) (ZB X3 arL) Y Y Y (Zb4 (Zu arL) arL) (Za<|arC fun _=>Y)<|ZaF<|Eq.trans arL<|Eq.symm arL)<|Zb<|?_
  obtain rfl:=rt h
  exact Zk (ZK Y (.one<|.agg Y Y Y Y X3 (Qs<|Zu arL) arL (pwB<|arD fun _=>Y) (hns:=(nsM fun _=>Y))))
theorem Zif{b:List Int}{r:(Vector Int 64)×Int}(h:Za8 b=some r):
 CSpec Tryz.prog gl0 97 [.sl 5 (List.map R5 b)] (.tuple [.agg (List.map C44 r.1.toList),.int .i64 r.2]):=by
 unfold Za8 at h
 replace h:=Qb h
 refine So Tryz.func97 Y fun w0 A=>Tr<|Rx Y (Qd (row:=(List.map C44 (Vector.replicate 64 0).toList)) 0 Y Ziy Y tZ_46)<|Rz Y<|Zh<|K2 0 2 Y<|Tr<|Rm Y<|Rl tZ_5 Qi Y<|R2 ZL Y<|Zb<|K3 0 2 7 Y<|If h Y (fun h=>?_) fun h=>?_
 ·
  refine K1 2 Y<|Tr<|R_q (.agg<|List.map C44 (#v[0,0,0,0,0,0,0,0,0,0,0,0,0,0,0,0,0,0,0,0,0,0,0,0,0,0,0,0,0,0,0,0,0,0,0,0,0,0,0,0,0,0,0,0,0,0,0,0,0,0,0,0,0,0,0,0,0,0,0,0,0,0,0,0]:Vector Int 64).toList) Y (Zf9 (ys:= [_,_,_,_,_,_,_,_,_,_,_,_,_,_,_,_,_,_,_,_,_,_,_,_,_,_,_,_,_,_,_,_,_,_,_,_,_,_,_,_,_,_,_,_,_,_,_,_,_,_,_,_,_,_,_,_,_,_,_,_,_,_,_,_]) Zaq Ziy .nil Y)<|Rx Y (Zm (ov Y) (ov Y) (ZB X3 arL) Y Y Y (Zb4 (Zu arL) arL) (Za<|arC fun _=>Y)<|ZaF<|Eq.trans arL<|Eq.symm arL)<|Rz Y<|?_
  obtain rfl:=rt h
  exact Zk (ZK Y (.two (.agg Y Y Y Y X3 (Qs<|Zu arL) arL (pwB<|arD fun _=>Y) (hns:=(nsM fun _=>Y)))<|rb Y))
 ·
  refine Zg<|K2 0 2 Y<|Tr<|Rm Y<|bE h fun l h_l h=>Rq Y (Zf8 (ov Y) Qi on (oi<|ov Y) h_l)<|bE h fun v h_v h=>Rq Y (Znl (f:=C5) (ov Y) ZfJ tZ_5 Y h_v)<|Rq Y (Z3 (ov Y) Zrk (Qs<|Zu arL) arL)<|Rx Y (Qd (row:=(List.map C5 (Vector.replicate 96 0).toList)) 1 Y Zq5 Y tZ_141)<|Rx Y (Zm (ov Y) (ov Y) (ZB Zrk arL) Y Y Y (Zb4 (Zu arL) arL) (Za<|arC fun _=>Y)<|ZaF<|Eq.trans arL<|Eq.symm arL)<|Zb<|K2 2 4 Y<|Tr<|bE h fun y h_y h=>Rq Y (Jh (Zlj h_y) (Zm7 fun _=>.int)<|.cons (ov Y) (View.ptr Y Y Y (pwB<|arD fun _=>Y) (hns:=(nsM fun _=>Y))) .nil)<|Rx Y (Zm (ov Y) (ov Y) (ZB X3 arL) Y Y Y (Zb4 (Zu arL) arL) (Za<|arC fun _=>Y)<|ZaF<|Eq.trans arL<|Eq.symm arL)<|Rz Y<|?_
  obtain rfl:=rt h
  exact Zk (ZK Y (.two (.agg Y Y Y Y X3 (Qs<|Zu arL) arL (pwB<|arD fun _=>Y) (hns:=(nsM fun _=>Y)))<|rb Y))
theorem Zj0{l:List api_Memory}{r:(List api_Kept)×Int}(h:ZcR l=some r):
 CSpec Tryz.prog gl0 65 [.sl 59 (List.map R59 l)] (.tuple [.sl 123 (List.map R123 r.1),.int .i64 r.2]):=by
 unfold ZcR at h
 replace h:=Qb h
 refine So Tryz.func65 Y fun w0 A=>Tr<|Ra Y<|Rz Y<|Zh<|K1 0 Y<|Tr<|Rm Y<|bE h fun y h_y h=>Rq Y (Zq (Zf6 h_y)<|.cons (ov Y) (.b Y) .nil)<|Rz Y<|K2 0 4 Y<|Tr<|Rm Y<|R2 Qy Y<|Zb<|K3 0 4 20 Y<|If h Y (fun h=>?_) fun h=>?_
 ·
  refine K1 4 Y<|Tr<|Rm Y<|Ra Y<|Rz Y<|?_
  obtain rfl:=rt h
  exact Zk (ZK Y (.two (.tmp Y<|View.nils 123)<|rb Y))
 ·
  refine Zg<|K1 0 Y<|Tr<|Rz Y<|I1 (fun out=>⟨[(5,.own 0 out.length)],[some ⟨123,List.map R123 out⟩]⟩) h (fun h=>?_) fun out h=>?_
  ·
   refine Tr<|Rm Y<|Rl tZ_59 XC Y<|Rm Y<|Zb<|Zf<|?_
   obtain⟨r1,hl1,ho1⟩:=QC h
   refine L2 (fun out2 i=>⟨[(5,.own 0 out2.length),(22,.sl 59 (List.map R59 l)),(23,.int .i64 (l.length:Int)),(24,.int .i64 i)],[some ⟨123,List.map R123 out2⟩]⟩) hl1 (ES [none]) fun n1 out2 i h=>?_
   unfold Zcq at h
   refine Tr<|R2 ZL Y<|Zb<|Zh<|If h Y (fun h=>?_) fun h=>?_
   ·
    refine Zg<|I1 (fun out3=>⟨[(5,.own 0 out3.length),(22,.sl 59 (List.map R59 l)),(23,.int .i64 (l.length:Int)),(24,.int .i64 i)],[some ⟨123,List.map R123 out3⟩]⟩) h (fun h=>?_) fun out3 h=>?_
    ·
     refine Zf<|K4 5 22 23 24 Y<|Tr<|Rm Y<|bE h fun x h_x h=>Rq Y (ZP (ov Y) (ov Y) XC h_x)<|Rq Y (Z3 (ov Y) XL Y Y)<|Rx Y (Qd (row:= [_,_,_,_,_]) 1 Y Zde Y tZ_59)<|Ra Y<|Rx Y (Zm (ov Y) (ov Y) (ZB XL Y) Y Y Y (nL Y) (Za Y) Y)<|Zb<|K6 5 6 7 22 23 24 Y<|Tr<|Rq Y (Qt (ov Y) Y Y Y XL Y Y)<|bE h fun y2 h_y2 h=>Rq Y (Zq (ZgO h_y2)<|.cons (ov Y) (.aggB Y) .nil)<|Rl tZ_3 QA Y<|Rm Y<|Zb<|Zf<|?_
     obtain⟨r2,hl2,ho2⟩:=QC h
     refine L2 (fun out4 i2=>⟨[(5,.own 0 out4.length),(6,.int .i64 i),(7,.ptr 1 1 0 0),(22,.sl 59 (List.map R59 l)),(23,.int .i64 (l.length:Int)),(24,.int .i64 i),(30,.sl 3 (List.map R3 y2)),(31,.int .i64 (y2.length:Int)),(32,.int .i64 i2)],[some ⟨123,List.map R123 out4⟩,some ⟨59,[[.int .i64 x.Slots,.int .i64 x.Limit,.sl 22 (List.map R22 x.Sectors),.sl 3 (List.map R3 x.Wear),.sl 4 (List.map R4 x.Bad)]]⟩]⟩) hl2 (ES [some 0,some 1]) fun n2 out4 i2 h=>?_
     unfold Zcs at h
     refine Tr<|R2 ZL Y<|Zb<|Zh<|If h Y (fun h=>?_) fun h=>?_
     ·
      refine Zg<|I1 (fun out5=>⟨[(5,.own 0 out5.length),(6,.int .i64 i),(7,.ptr 1 1 0 0),(22,.sl 59 (List.map R59 l)),(23,.int .i64 (l.length:Int)),(24,.int .i64 i),(30,.sl 3 (List.map R3 y2)),(31,.int .i64 (y2.length:Int)),(32,.int .i64 i2)],[some ⟨123,List.map R123 out5⟩,some ⟨59,[[.int .i64 x.Slots,.int .i64 x.Limit,.sl 22 (List.map R22 x.Sectors),.sl 3 (List.map R3 x.Wear),.sl 4 (List.map R4 x.Bad)]]⟩]⟩) h (fun h=>?_) fun out5 h=>?_
      ·
       refine Zf<|K9 5 6 7 22 23 24 30 31 32 Y<|Tr<|bE h fun x2 h_x2 h=>Rq Y (ZP (ov Y) (ov Y) QA h_x2)<|Rq Y (Zd (ov Y) tS3 Y)<|Rz Y<|K10 5 6 7 9 22 23 24 30 31 32 Y<|Tr<|Rq Y (Ze (ov Y) Y Y Z9)<|Rq Y (Zl (ov Y) Y Y Y Q7 Y)<|Rm Y<|bE h fun x3 h_x3 h=>Rq Y (ZP (ov Y) (ov Y) Q3 h_x3)<|Rq Y (Zd (ov Y) Zek Y)<|bE h fun y3 h_y3 h=>Rq Y (Zq (Zdv h_y3)<|.cons (ov Y) (.b Y) .nil)<|Rm Y<|Rj Y Y Y<|Rj Y Y Y<|Rj Y Y Y<|Ra Y<|Ra Y<|Rz Y<|K11 5 6 7 9 10 22 23 24 30 31 32 Y<|Tr<|Rq Y (Ze (ov Y) Y Y Zfb)<|Rq Y (Zl (ov Y) Y Y Y tS3 Y)<|Rm Y<|Zb<|Zf<|?_
       obtain⟨r3,hl3,ho3⟩:=QC h
       refine L2 (fun out6 i3=>⟨[(5,.own 0 out6.length),(6,.int .i64 i),(7,.ptr 1 1 0 0),(9,.int .i64 x2),(10,.int .i64 y3.1),(22,.sl 59 (List.map R59 l)),(23,.int .i64 (l.length:Int)),(24,.int .i64 i),(30,.sl 3 (List.map R3 y2)),(31,.int .i64 (y2.length:Int)),(32,.int .i64 i2),(47,.int .i64 x.Slots),(48,.int .i64 i3)],[some ⟨123,List.map R123 out6⟩,some ⟨59,[[.int .i64 x.Slots,.int .i64 x.Limit,.sl 22 (List.map R22 x.Sectors),.sl 3 (List.map R3 x.Wear),.sl 4 (List.map R4 x.Bad)]]⟩]⟩) hl3 (ES [some 0,some 1]) fun n3 out6 i3 h=>?_
       unfold Zcv at h
       refine Tr<|R2 ZL Y<|Zb<|Zh<|If h Y (fun h=>?_) fun h=>?_
       ·
        refine Zg<|Zh<|Zf<|JW (kc 5 Y<|kc 6 Y<|kc 7 Y<|kc 9 Y<|kc 10 Y<|kc 22 Y<|kc 23 Y<|kc 24 Y<|kc 30 Y<|kc 31 Y<|kc 32 Y<|kc 47 Y<|kc 48 Y kn) Y<|Tr<|Rm Y<|Rz Y<|JW (kc 5 Y<|kc 6 Y<|kc 7 Y<|kc 9 Y<|kc 10 Y<|kc 13 Y<|kc 22 Y<|kc 23 Y<|kc 24 Y<|kc 30 Y<|kc 31 Y<|kc 32 Y<|kc 47 Y<|kc 48 Y kn) Y<|Tr<|Rq Y (Ze (ov Y) Y Y Z9)<|Rq Y (Zl (ov Y) Y Y Y Q7 Y)<|Rm Y<|bE h fun x4 h_x4 h=>Rq Y (ZP (ov Y) (ov Y) Q3 h_x4)<|Rq Y (Zd (ov Y) Zek Y)<|Rm Y<|bE h fun y4 h_y4 h=>Rq Y (Zq (Zhe h_y4)<|.cons (ov Y) (.b Y)<|.cons (ov Y) (.b Y) .nil)<|Rz Y<|JW (kc 5 Y<|kc 6 Y<|kc 7 Y<|kc 9 Y<|kc 10 Y<|kc 13 Y<|kc 14 Y<|kc 22 Y<|kc 23 Y<|kc 24 Y<|kc 30 Y<|kc 31 Y<|kc 32 Y<|kc 47 Y<|kc 48 Y kn) Y<|Tr<|Rm Y<|bE h fun y5 h_y5 h=>Rq Y (Zq (ZgP h_y5)<|.cons (ov Y) (.b Y) .nil)<|R2 Zae Y<|Zb<|JW (kc 5 Y<|kc 6 Y<|kc 7 Y<|kc 9 Y<|kc 10 Y<|kc 13 Y<|kc 14 Y<|kc 22 Y<|kc 23 Y<|kc 24 Y<|kc 30 Y<|kc 31 Y<|kc 32 Y<|kc 47 Y<|kc 48 Y<|kc 60 Y kn) Y<|If h Y (fun h=>?_) fun h=>?_
        ·
         exact JW (kc 5 Y<|kc 6 Y<|kc 7 Y<|kc 9 Y<|kc 10 Y<|kc 13 Y<|kc 14 Y<|kc 22 Y<|kc 23 Y<|kc 24 Y<|kc 30 Y<|kc 31 Y<|kc 32 Y<|kc 47 Y<|kc 48 Y kn) Y<|Tr<|Rm Y<|R1 ZG Y<|bE h fun l2 h_l2 h=>Rq Y (Zoc (f:=C5) (ov Y) ZnS tZ_5 (Zu arL) Y on on h_l2)<|bE h fun y6 h_y6 h=>Rq Y (Zq (Zif h_y6)<|.cons (ov Y) (.b Y) .nil)<|Rm Y<|Rj Y Y Y<|Rj Y Y Y<|Rx Y (Qd (row:=(List.map C44 (Vector.replicate 64 0).toList)) 2 Y Ziy Y tZ_46)<|Rx Y (Zm (ov Y) (ov Y) (ZB X3 arL) Y Y Y (Zb4 (Zu arL) arL) (Za<|arC fun _=>Y)<|ZaF<|Eq.trans arL<|Eq.symm arL)<|Rz Y<|JW (kc 5 Y<|kc 6 Y<|kc 7 Y<|kc 9 Y<|kc 10 Y<|kc 13 Y<|kc 15 Y<|kc 22 Y<|kc 23 Y<|kc 24 Y<|kc 30 Y<|kc 31 Y<|kc 32 Y<|kc 47 Y<|kc 48 Y kn) Y<|Zo<|Rm Y<|Rm Y<|Rm Y<|Rm Y<|Rm Y<|Rq Y (Qt (ov Y) Y Y Y X3 (Qs<|Zu arL) arL (hns:=(nsM fun _=>Y)))<|Rq Y (Zpa (zr:=(.int .i64 0)::(.int .i64 0)::(.int .i64 0)::(.int .i64 0)::((List.map C44 (Vector.replicate 64 0).toList)++([]))) ZrW Zrr Zqf (by kernel_rfl) (.cons (cvs (ov Y)<|Zn Y)<|.cons (cvs (ov Y)<|Zn Y)<|.cons (cvs (ov Y)<|Zn Y)<|.cons (cvs (ov Y)<|Zn Y)<|.cons (cva<|ov Y) .nil)<|Zix Y Y at1 pt2<|Zix Y Y at3 pt4<|Zix Y Y at5 pt6<|Zix Y Y at7 pt8<|Zix Y arL at9 Ztz Zru)<|R_q (.sl 123<|List.map R123 ([(api_Kept.mk i x2 y3.1 i3 y6.1)]:List api_Kept)) Y (Jc Zn3 (.cons (cva<|ov Y) Zfs (pwD Zid) .nil) Y Y)<|bE h fun l3 h_l3 h=>Rx Y (QK (ov Y) (Qr (ov Y) tZ_123) Zn3 Y Y Y (fun x=>Za<|ZtD x) Y h_l3)<|Rz Y<|JW (kc 5 Y<|kc 6 Y<|kc 7 Y<|kc 9 Y<|kc 10 Y<|kc 22 Y<|kc 23 Y<|kc 24 Y<|kc 30 Y<|kc 31 Y<|kc 32 Y<|kc 47 Y<|kc 48 Y kn) Y<|Zo<|R2 ZI Y<|Rm Y<|Zb<|⟨_,h,ES [some 0,some 1]⟩
        ·
         exact Zg<|JW (kc 5 Y<|kc 6 Y<|kc 7 Y<|kc 9 Y<|kc 10 Y<|kc 22 Y<|kc 23 Y<|kc 24 Y<|kc 30 Y<|kc 31 Y<|kc 32 Y<|kc 47 Y<|kc 48 Y kn) Y<|Zo<|R2 ZI Y<|Rm Y<|Zb<|⟨_,h,ES [some 0,some 1]⟩
       ·
        refine ZA<|?_
        replace h:=lx h▸ho3
        exact⟨_,h,ES [some 0,some 1]⟩
      ·
       exact Zo<|R2 ZI Y<|Rm Y<|Zb<|⟨_,h,ES [some 0,some 1]⟩
     ·
      refine ZA<|?_
      replace h:=lx h▸ho2
      exact⟨_,h,ES [some 0]⟩
    ·
     exact Zo<|R2 ZI Y<|Rm Y<|Zb<|⟨_,h,ES [some 0]⟩
   ·
    refine ZA<|?_
    replace h:=lx h▸ho1
    exact⟨_,h,ES [some 0]⟩
  ·
   refine Tr<|Rm Y<|Ra Y<|Rz Y<|?_
   obtain rfl:=rt h
   exact Zk (ZK Y (.two (.tmp Y<|View.ownM Y Y D123)<|rb Y))
theorem Zot{xs r:List Int}(h:ZjC xs=some r):
    GSpec Tryz.prog gl0 66 [.own 0 xs.length] [some ⟨3,List.map R3 xs⟩] (.tuple []) [some ⟨3,List.map R3 r⟩]:=
  Zp3 (g:=R3) (fun _=>rfl) (by kernel_rfl) tZ_3 (fun _ _ _ _ _ h1 h2 h3=>Any.slices_Sort_int Tryz.lays189 _ _ _ _ _ h1 h2 h3) (fun p c w=>Any.slices_Sort_int_none Tryz.lays189 p c w) h
theorem Zkx{l:List api_Memory}{r:(List (Vector Int 64))×Int}(h:Zeh l=some r):
 CSpec Tryz.prog gl0 33 [.sl 59 (List.map R59 l)] (.tuple [.sl 46 (List.map R46 r.1),.int .i64 r.2]):=by
 unfold Zeh at h
 replace h:=Qb h
 refine So Tryz.func33 Y fun w0 A=>Tr<|Ra Y<|Rz Y<|K1 0 Y<|Tr<|Rm Y<|bE h fun y h_y h=>Rq Y (Zq (Zj0 h_y)<|.cons (ov Y) (.b Y) .nil)<|Rm Y<|Rj Y Y Y<|Rj Y Y Y<|Ra Y<|Rz Y<|Zh<|K2 4 5 Y<|Tr<|Rm Y<|R2 Qy Y<|Zb<|K3 4 5 23 Y<|If h Y (fun h=>?_) fun h=>?_
 ·
  refine K1 5 Y<|Tr<|Rm Y<|Ra Y<|Rz Y<|?_
  obtain rfl:=rt h
  exact Zk (ZK Y (.two (.tmp Y<|View.nils 46)<|rb Y))
 ·
  refine Zg<|K1 4 Y<|Tr<|Rx Y (ZoJ 0 Y ZlR)<|Rz Y<|K2 4 6 Y<|Tr<|Rz Y<|I2 (fun best numbers=>⟨[(6,.mref 0 1),(7,.own 1 numbers.length)],[some ⟨121,[[.mcon (List.map (Zcf FK3 ZeI) best)]]⟩,some ⟨3,List.map R3 numbers⟩]⟩) h (fun h=>?_) fun best numbers h=>?_
  ·
   refine Tr<|Rm Y<|Rl tZ_123 Zn3 Y<|Rm Y<|Zb<|Zf<|?_
   obtain⟨r1,hl1,ho1⟩:=QC h
   refine L3 (fun best2 numbers2 i=>⟨[(6,.mref 0 1),(7,.own 1 numbers2.length),(26,.sl 123 (List.map R123 y.1)),(27,.int .i64 (y.1.length:Int)),(28,.int .i64 i)],[some ⟨121,[[.mcon (List.map (Zcf FK3 ZeI) best2)]]⟩,some ⟨3,List.map R3 numbers2⟩]⟩) hl1 (ES [some 0,none] (hhp:= .cons Y (ZiO (fk:=FK3) (fv:=ZeI) (m:=([]:List (Int×api_Kept))) tZ_121 (fun _=>.dat Y) fun _=>.ren<|Zb7<|rld Zid)<|.row 3 .nil)) fun n1 best2 numbers2 i h=>?_
   unfold Zc7 at h
   refine Tr<|R2 ZL Y<|Zb<|Zh<|If h Y (fun h=>?_) fun h=>?_
   ·
    refine Zg<|Zh<|Zf<|K5 6 7 26 27 28 Y<|Tr<|bE h fun x h_x h=>Rq Y (ZP (ov Y) (ov Y) Zn3 h_x)<|Rq Y (Z3 (ov Y) Zn0 (Qs<|Zu Zfs) Zfs)<|Rx Y (Qd (row:=(.int .i64 0)::(.int .i64 0)::(.int .i64 0)::(.int .i64 0)::((List.map C44 (Vector.replicate 64 0).toList)++([]))) 2 Y Zqf (by kernel_rfl)<|by exact Eq.symm (Eq.trans (b:=68) Zfs tZ_123.symm))<|Rx Y (Zm (ov Y) (ov Y) (ZB Zn0 Zfs) Y Y Y (Zb4 (Zu Zfs) Zfs) (Za ZrR)<|ZaF<|Eq.trans Zfs<|Eq.symm Zfs)<|Zb<|Zh<|K6 6 7 9 26 27 28 Y<|Tr<|Rq Y (Ze (ov Y) Y Y Zoh)<|Rq Y (Qt (ov Y) Y Y Y X3 (Qs at9) arL (hns:=(nsM fun _=>Y)))<|bE h fun y2 h_y2 h=>Rq Y (Zq (Zhy h_y2)<|.cons (ov Y) (.aggB<|arD fun _=>Y) .nil)<|Rl tZ_133 ZeG Y<|R2 Za9 Y<|Zb<|K7 6 7 9 26 27 28 36 Y<|If h Y (fun h=>?_) fun h=>?_
    ·
     exact ZA<|K5 6 7 26 27 28 Y<|Zo<|R2 ZI Y<|Rm Y<|Zb<|⟨_,h,ES [some 0,some 1] (hhp:= .cons Y (ZiO (fk:=FK3) (fv:=ZeI) (m:=best2) tZ_121 (fun _=>.dat Y) fun _=>.ren<|Zb7<|rld Zid)<|.cons Y (roM D3) .nil)⟩
    ·
     refine Zg<|K6 6 7 9 26 27 28 Y<|Tr<|Rq Y (Ze (ov Y) Y Y Zoh)<|Rq Y (Qt (ov Y) Y Y Y X3 (Qs at9) arL (hns:=(nsM fun _=>Y)))<|bE h fun y3 h_y3 h=>Rq Y (Zq (ZgM h_y3)<|.cons (ov Y) (.aggB<|arD fun _=>Y) .nil)<|Rm Y<|Rj Y Y Y<|Rj Y Y Y<|Ra Y<|Rz Y<|K7 6 7 9 10 26 27 28 Y<|Tr<|Rm Y<|Rm Y<|bE h fun o h_o h=>Rq Y (Zs5 (m:=best2) (fk:=FK3) (fv:=ZeI) (k:=y3.1) (z0:=(api_Kept.mk 0 0 0 0 (Vector.replicate 64 0))) (ov Y) (ov Y) ZlR Zsi Y (fun _=>.b Y) (ZmV Zo7 Y) (fun _ _=>Y) h_o)<|Rm Y<|Rj Y Y Y<|Rj Y Y Y<|Rx Y (Qd (row:=(.int .i64 0)::(.int .i64 0)::(.int .i64 0)::(.int .i64 0)::((List.map C44 (Vector.replicate 64 0).toList)++([]))) 3 Y Zqf (by kernel_rfl)<|by exact Eq.symm (Eq.trans (b:=68) Zfs tZ_123.symm))<|Rx Y (Zm (ov Y) (ov Y) (ZB Zn0 Zfs) Y Y Y (Zb4 (Zu Zfs) Zfs) (Za ZrR)<|ZaF<|Eq.trans Zfs<|Eq.symm Zfs)<|Rz Y<|I1 (fun numbers3=>⟨[(6,.mref 0 1),(7,.own 1 numbers3.length),(9,.ptr 2 1 0 0),(10,.int .i64 y3.1),(12,.ptr 3 1 0 0),(13,.bool o.isSome),(26,.sl 123 (List.map R123 y.1)),(27,.int .i64 (y.1.length:Int)),(28,.int .i64 i)],[some ⟨121,[[.mcon (List.map (Zcf FK3 ZeI) best2)]]⟩,some ⟨3,List.map R3 numbers3⟩,some ⟨123,[(.int .i64 x.Memory)::(.int .i64 x.Sector)::(.int .i64 x.Sequence)::(.int .i64 x.Slot)::((List.map C44 x.Frame.toList)++([]))]⟩,some ⟨123,[(.int .i64 ((o.getD (api_Kept.mk 0 0 0 0 (Vector.replicate 64 0))).Memory))::(.int .i64 ((o.getD (api_Kept.mk 0 0 0 0 (Vector.replicate 64 0))).Sector))::(.int .i64 ((o.getD (api_Kept.mk 0 0 0 0 (Vector.replicate 64 0))).Sequence))::(.int .i64 ((o.getD (api_Kept.mk 0 0 0 0 (Vector.replicate 64 0))).Slot))::((List.map C44 ((o.getD (api_Kept.mk 0 0 0 0 (Vector.replicate 64 0))).Frame).toList)++([]))]⟩]⟩) h (fun h=>?_) fun numbers3 h=>?_
     ·
      refine K9 6 7 9 10 12 13 26 27 28 Y<|Tr<|Rm Y<|R1 XM Y<|Zb<|K10 6 7 9 10 12 13 26 27 28 50 Y<|If h Y (fun h=>?_) fun h=>?_
      ·
       exact K9 6 7 9 10 12 13 26 27 28 Y<|Zo<|Rm Y<|Rm Y<|R_q (.sl 3<|List.map R3 ([y3.1]:List Int)) Y (Jc QA (.cons (cvs (ov Y)<|Zn Y) Y (.cons (.b Y) .nil) .nil) Y Y)<|bE h fun l2 h_l2 h=>Rx Y (QK (ov Y) (Qr (ov Y) tZ_3) QA Y Y Y (fun _=>Za Y) Y h_l2)<|Rz Y<|⟨_,h,ES [some 0,some 1,some 2,some 3] (hhp:= .cons Y (ZiO (fk:=FK3) (fv:=ZeI) (m:=best2) tZ_121 (fun _=>.dat Y) fun _=>.ren<|Zb7<|rld Zid)<|.cons Y (roM D3)<|.cons Y (ro1 (by exact Eq.trans (b:=68) Zfs tZ_123.symm)<|rld Zid)<|.cons Y (ro1 (by exact Eq.trans (b:=68) Zfs tZ_123.symm)<|rld Zid) .nil)⟩
      ·
       exact Zg<|⟨_,h,ES [some 0,some 1,some 2,some 3] (hhp:= .cons Y (ZiO (fk:=FK3) (fv:=ZeI) (m:=best2) tZ_121 (fun _=>.dat Y) fun _=>.ren<|Zb7<|rld Zid)<|.cons Y (roM D3)<|.cons Y (ro1 (by exact Eq.trans (b:=68) Zfs tZ_123.symm)<|rld Zid)<|.cons Y (ro1 (by exact Eq.trans (b:=68) Zfs tZ_123.symm)<|rld Zid) .nil)⟩
     ·
      refine Tr<|Rm Y<|R1 XM Y<|Rm Y<|Rq Y (.guarded ((!o.isSome)==false) Y Y Y Y fun h=>Ze (ov Y) Y Y ZnZ)<|Rq Y (.guarded ((!o.isSome)==false) Y Y Y Y fun h=>Zl (ow Y h) Y Y Y tS3<|Qx at5)<|Rq Y (.guarded ((!o.isSome)==false) Y Y Y Y fun h=>Ze (ov Y) Y Y ZnZ)<|Rq Y (.guarded ((!o.isSome)==false) Y Y Y Y fun h=>Zl (ow Y h) Y Y Y tS3<|Qx at5)<|Rq Y (.guarded ((!o.isSome)==false) Y Y Y Y fun h=>Za9 (ow Y h)<|ow Y h)<|Rq Y (ZaO (ov Y) fun hp=>ow Y<|gF hp)<|Zb<|K8 6 7 9 10 26 27 28 63 Y<|If h Y (fun h=>?_) fun h=>?_
      ·
       exact K7 6 7 9 10 26 27 28 Y<|Zo<|Rm Y<|Rm Y<|Rq Y (Qt (ov Y) Y Y Y Zn0 (Qs<|Zu Zfs) Zfs (hns:=Zts))<|Rx Y (Zqe (m:=best2) (fk:=FK3) (fv:=ZeI) (k:=y3.1) (v:=x) (ov Y) (ov Y) (ov Y) ZlR Zsi Y fun _=>.b Y)<|Zb<|K5 6 7 26 27 28 Y<|Zo<|R2 ZI Y<|Rm Y<|Zb<|⟨_,h,ES [some 0,some 1] (hhp:= .cons Y (ZiO (fk:=FK3) (fv:=ZeI) (m:=(ZmR kqI best2 y3.1 x)) tZ_121 (fun _=>.dat Y) fun _=>.ren<|Zb7<|rld Zid)<|.cons Y (roM D3) .nil)⟩
      ·
       exact Zg<|K5 6 7 26 27 28 Y<|Zo<|R2 ZI Y<|Rm Y<|Zb<|⟨_,h,ES [some 0,some 1] (hhp:= .cons Y (ZiO (fk:=FK3) (fv:=ZeI) (m:=best2) tZ_121 (fun _=>.dat Y) fun _=>.ren<|Zb7<|rld Zid)<|.cons Y (roM D3) .nil)⟩
   ·
    refine ZA<|?_
    replace h:=lx h▸ho1
    exact⟨_,h,ES [some 0,some 1] (hhp:= .cons Y (ZiO (fk:=FK3) (fv:=ZeI) (m:=best2) tZ_121 (fun _=>.dat Y) fun _=>.ren<|Zb7<|rld Zid)<|.cons Y (roM D3) .nil)⟩
  ·
   refine Tr<|Rm Y<|bE h fun y4 h_y4 h=>Rx Y (Zz [1] (Zot h_y4) (.cons (ov Y) (.own _ Y) .nil) (.cons Y (roM D3) .nil) Y (.keep Y Y<|.lent 0 (.inl Y) Y (roM D3) .nil) Y Y<|Qq<|rld Y)<|Zb<|K2 6 7 Y<|Tr<|Rz Y<|I1 (fun out=>⟨[(14,.own 0 out.length)],[some ⟨46,List.map R46 out⟩]⟩) h (fun h=>?_) fun out h=>?_
   ·
    refine Tr<|Rm Y<|Rq Y (Zb9 (ov Y) Y (Zk8 h_y4) QA)<|Rm Y<|Zb<|Zf<|?_
    obtain⟨r2,hl2,ho2⟩:=QC h
    refine L2 (fun out2 i2=>⟨[(6,.mref 0 1),(14,.own 1 out2.length),(70,.own 2 y4.length),(71,.int .i64 (y4.length:Int)),(72,.int .i64 i2)],[some ⟨121,[[.mcon (List.map (Zcf FK3 ZeI) best)]]⟩,some ⟨46,List.map R46 out2⟩,some ⟨3,List.map R3 y4⟩]⟩) hl2 (Ent.sel [some 0,none,some 1] (sr 6 Y (.mref _ Y)<|sr 14 Y (.row Y)<|sr 70 Y (Zbu (Eq.symm<|Zk8 h_y4) Y)<|sd 71 Y Y<|sd 72 Y Y sn) (.cons Y (ZiO (fk:=FK3) (fv:=ZeI) (m:=best) tZ_121 (fun _=>.dat Y) fun _=>.ren<|Zb7<|rld Zid)<|.row 46<|.cons Y (roM D3) .nil) Y Y) fun n2 out2 i2 h=>?_
    unfold ZcX at h
    refine Tr<|R2 ZL Y<|Zb<|Zh<|If h Y (fun h=>?_) fun h=>?_
    ·
     exact Zg<|Zh<|Zf<|K5 6 14 70 71 72 Y<|Tr<|bE h fun x2 h_x2 h=>Rq Y (Z4 (ov Y) (ov Y) QA Y Y h_x2)<|Rq Y (Qj (ov Y) Y Y h_x2 tS3 Y)<|Rz Y<|K6 6 14 16 70 71 72 Y<|Zo<|Rm Y<|Rm Y<|Rm Y<|bE h fun o2 h_o2 h=>Rq Y (ZsY (m:=best) (fk:=FK3) (fv:=ZeI) (k:=x2) (z0:=(api_Kept.mk 0 0 0 0 (Vector.replicate 64 0))) (ov Y) (ov Y) ZlR Zsi Y (fun _=>.b Y) (ZmV Zo7 Y) (fun _ _=>Y) h_o2)<|Rq Y (ZpK (ov Y) ZpM at9)<|R_q (.sl 46<|List.map R46 ([o2.Frame]:List (Vector Int 64))) Y (Jc ZqY (.cons (cva<|ov Y) arL (pwD<|arD fun _=>Y) .nil) Y Y)<|bE h fun l3 h_l3 h=>Rx Y (QK (ov Y) (Qr (ov Y) tZ_46) ZqY Y Y Y (fun x=>Za<|E46 x) Y h_l3)<|Rz Y<|K5 6 14 70 71 72 Y<|Zo<|R2 ZI Y<|Rm Y<|Zb<|⟨_,h,ES [some 0,some 1,some 2] (hhp:= .cons Y (ZiO (fk:=FK3) (fv:=ZeI) (m:=best) tZ_121 (fun _=>.dat Y) fun _=>.ren<|Zb7<|rld Zid)<|.cons Y (roM D46)<|.cons Y (roM D3) .nil)⟩
    ·
     refine ZA<|?_
     replace h:=lx h▸ho2
     exact⟨_,h,ES [some 1]⟩
   ·
    refine Tr<|Rm Y<|Ra Y<|Rz Y<|?_
    obtain rfl:=rt h
    exact Zk (ZK Y (.two (.tmp Y<|View.ownM Y Y D46)<|rb Y))
end Go.Proofs.YtgohgnaapbpggaaGreatDoor
