/- A text of the proof: a verified executor of the program form, or the contracts of the functions that the law reaches. -/
import Derived.Test.YtailpehcgelmdaaGreatDoorOkTa
set_option linter.all false
namespace Go.Proofs.YtailpehcgelmdaaGreatDoor
open Go Go.Vx
set_option maxRecDepth 10000
set_option maxHeartbeats 1000000
set_option linter.unusedVariables false
theorem ZaR{n:Int}{r:Bool}(h:Xm n=some r):
 CSpec Tryz.prog gl0 126 [.int .i64 n] (.bool r):=by
 unfold Xm at h
 replace h:=ZM h
 refine So Tryz.func126 Y fun w0 A=>Tr<|Ra Y<|Za<|Tr<|Rm Y<|bE h fun y h_y h=>Rq Y (Zo (Z3 h_y)<|.cons (ov Y) (.b Y)<|.cons (ov Y) (.b Y)<|.cons (ov Y) (.b Y) .nil)<|Ra Y<|Za<|?_
 obtain rfl:=rt h
 exact Zi (Zu Y (.one<|rb Y))
theorem Zdl{i:api_Instrument}{r:Int}(h:XU i=some r):
 CSpec Tryz.prog gl0 138 [.agg [.int .i64 i.Kind,.str i.Name,.str i.Track,.int .i64 i.Places,.int .i64 i.Low,.int .i64 i.High,.int .i64 i.Steps,.sl 136 (List.map R136 i.Zones),.int .i64 i.Op,.int .i64 i.N,.bool i.Latch,.int .i64 i.Size]] (.int .i64 r):=by
 unfold XU at h
 replace h:=ZM h
 refine So Tryz.func138 Y fun w0 A=>Tr<|Rq Y (Z0 (cva<|ov Y) Y tZ_49 Y)<|Ra Y<|Za<|Zl<|Zk<|K1 1 Y<|Tr<|Rq Y (Zg (ov Y) Zd8)<|Rq Y (Zb (ov Y) tS3 Y)<|Rq Y (Zg (ov Y) Ze7)<|Rq Y (Zb (ov Y) tS3 Y)<|R2 Zag Y<|Rm Y<|Rq Y (.guarded ((decide (i.High≤i.Low))==false) Y Y Y Y fun h=>Zg (ov Y) Zd8)<|Rq Y (.guarded ((decide (i.High≤i.Low))==false) Y Y Y Y fun h=>Zb (ow Y h) tS3 Y)<|bE h fun y h_y h=>Rq Y (.guarded ((decide (i.High≤i.Low))==false) Y Y Y Y fun h=>Zo (ZaR<|gdT h_y h)<|.cons (ow Y h) (.b Y) .nil)<|Rq Y (.guarded ((decide (i.High≤i.Low))==false) Y Y Y Y fun h=>Qz<|ow Y h)<|Rq Y (Xa (ov Y) fun hp=>ow Y<|gF hp)<|Rm Y<|Rq Y (.guarded (((decide (i.High≤i.Low)) || (!y))==false) Y Y Y Y fun h=>Zg (ov Y) Ze7)<|Rq Y (.guarded (((decide (i.High≤i.Low)) || (!y))==false) Y Y Y Y fun h=>Zb (ow Y h) tS3 Y)<|bE h fun y2 h_y2 h=>Rq Y (.guarded (((decide (i.High≤i.Low)) || (!y))==false) Y Y Y Y fun h=>Zo (ZaR<|gdT h_y2 h)<|.cons (ow Y h) (.b Y) .nil)<|Rq Y (.guarded (((decide (i.High≤i.Low)) || (!y))==false) Y Y Y Y fun h=>Qz<|ow Y h)<|Rq Y (Xa (ov Y) fun hp=>ow Y<|gF hp)<|Rm Y<|Rq Y (.guarded ((((decide (i.High≤i.Low)) || (!y)) || (!y2))==false) Y Y Y Y fun h=>Zg (ov Y) Zgm)<|Rq Y (.guarded ((((decide (i.High≤i.Low)) || (!y)) || (!y2))==false) Y Y Y Y fun h=>Zb (ow Y h) tS3 Y)<|bE h fun y3 h_y3 h=>Rq Y (.guarded ((((decide (i.High≤i.Low)) || (!y)) || (!y2))==false) Y Y Y Y fun h=>Zo (Z3<|gdT h_y3 h)<|.cons (ow Y h) (.b Y)<|.cons (ov Y) (.b Y)<|.cons (ov Y) (.b Y) .nil)<|Rq Y (.guarded ((((decide (i.High≤i.Low)) || (!y)) || (!y2))==false) Y Y Y Y fun h=>Qz<|ow Y h)<|Rq Y (Xa (ov Y) fun hp=>ow Y<|gF hp)<|Ra Y<|Za<|K2 1 5 Y<|If h Y (fun h=>?_) fun h=>?_
 ·
  refine K0<|Tr<|Ra Y<|Za<|?_
  obtain rfl:=rt h
  exact Zi (Zu Y (.one<|rb Y))
 ·
  refine K1 1 Y<|Tr<|Rq Y (Zg (ov Y) Zdk)<|Rq Y (Zb (ov Y) Zhe Y)<|Rl tZ_136 Zgd Y<|R2 QN Y<|Ra Y<|Za<|K2 1 29 Y<|If h Y (fun h=>?_) fun h=>?_
  ·
   refine K0<|Tr<|Ra Y<|Za<|?_
   obtain rfl:=rt h
   exact Zi (Zu Y (.one<|rb Y))
  ·
   refine Zf<|J0 (fun j=>(.inr j)) ⟨[],[]⟩ h (fun h=>?_) fun h=>?_
   ·
    refine K1 1 Y<|Tr<|Rq Y (Zg (ov Y) Zdk)<|Rq Y (Zb (ov Y) Zhe Y)<|Rl tZ_136 Zgd Y<|Rm Y<|Za<|Zk<|?_
    obtain⟨r1,hl1,ho1⟩:=XB h
    refine L1 (fun i2=>⟨[(1,.rp [.int .i64 i.Kind,.str i.Name,.str i.Track,.int .i64 i.Places,.int .i64 i.Low,.int .i64 i.High,.int .i64 i.Steps,.sl 136 (List.map R136 i.Zones),.int .i64 i.Op,.int .i64 i.N,.bool i.Latch,.int .i64 i.Size] 0),(35,.sl 136 (List.map R136 i.Zones)),(36,.int .i64 (i.Zones.length:Int)),(37,.int .i64 i2)],[]⟩) hl1 (ES []) fun n1 i2 h=>?_
    unfold QD at h
    refine Tr<|R2 ZU Y<|Za<|Zl<|If h Y (fun h=>?_) fun h=>?_
    ·
     refine Zf<|Zl<|Zk<|K4 1 35 36 37 Y<|Tr<|Rm Y<|bE h fun x h_x h=>Rq Y (Qa (ov Y) (ov Y) Zgd h_x)<|Rq Y (Zy (ov Y) ZhQ Y Y)<|Rx Y (ZO (row:= [_,_,_]) 0 Y Zke Y tZ_136)<|Ra Y<|Rx Y (Zj (ov Y) (ov Y) (Zv ZhQ Y) Y Y Y (Nat.le_of_ble_eq_true Y) (Zd Y) Y)<|Za<|Zk<|K6 1 3 4 35 36 37 Y<|Tr<|Rq Y (Zc (ov Y) Y Y ZhC)<|Rq Y (Zm (ov Y) Y Y Y tS9 Y)<|bE h fun y4 h_y4 h=>Rq Y (Zo (Zb9 h_y4)<|.cons (ov Y) (.b Y) .nil)<|R1 Qz Y<|Ra Y<|Za<|K7 1 3 4 35 36 37 42 Y<|If h Y (fun h=>?_) fun h=>?_
     ·
      refine K0<|Tr<|Ra Y<|Za<|?_
      replace h:=lx h▸ho1
      obtain rfl:=rt h
      exact Zi (Zu Y (.one<|rb Y))
     ·
      refine K6 1 3 4 35 36 37 Y<|Tr<|Rq Y (Zc (ov Y) Y Y ZgB)<|Rq Y (Zm (ov Y) Y Y Y tS3 Y)<|Rq Y (Zc (ov Y) Y Y Zgi)<|Rq Y (Zm (ov Y) Y Y Y tS3 Y)<|R2 QN Y<|Ra Y<|Za<|K7 1 3 4 35 36 37 47 Y<|If h Y (fun h=>?_) fun h=>?_
      ·
       refine K0<|Tr<|Ra Y<|Za<|?_
       replace h:=lx h▸ho1
       obtain rfl:=rt h
       exact Zi (Zu Y (.one<|rb Y))
      ·
       refine K6 1 3 4 35 36 37 Y<|Td md0<|D1 0 Ze Y<|D2 1 QN Y<|D1 2 Ze Y<|Dq 3 Y (.guarded ((decide (0<i2))==true) Y Y Y Y fun h=>Zc (ov Y) Y Y ZgB)<|Dq 4 Y (.guarded ((decide (0<i2))==true) Y Y Y Y fun h=>Zm (ow Y h) Y Y Y tS3 Y)<|Dq 5 Y (.guarded ((decide (0<i2))==true) Y Y Y Y fun h=>Zg (ov Y) Zdk)<|Dq 6 Y (.guarded ((decide (0<i2))==true) Y Y Y Y fun h=>Zb (ow Y h) Zhe Y)<|Dq 7 Y (.guarded ((decide (0<i2))==true) Y Y Y Y fun h=>Ze<|ov Y)<|Dq 8 Y (.guarded ((decide (0<i2))==true) Y Y Y Y fun h=>ZfN (ow Y h) (ov Y) Y)<|bE h fun x2 h_x2 h=>Dq 9 Y (.guarded ((decide (0<i2))==true) Y Y Y Y fun h=>Qa (ow Y h) (ow Y h) Zgd<|gdT h_x2 h)<|Dq 10 Y (.guarded ((decide (0<i2))==true) Y Y Y Y fun h=>Zg (ow Y h) Zgi)<|Dq 11 Y (.guarded ((decide (0<i2))==true) Y Y Y Y fun h=>Zb (ow Y h) tS3 Y)<|Dq 12 Y (.guarded ((decide (0<i2))==true) Y Y Y Y fun h=>Zbl (ow Y h)<|ow Y h)<|Dq 13 Y (Qh (ov Y) fun hp=>ow Y<|gT hp)<|D1 14 Ji Y<|Dd<|K5 1 35 36 37 53 Y<|If h Y (fun h=>?_) fun h=>?_
       ·
        refine K0<|Tr<|Ra Y<|Za<|?_
        replace h:=lx h▸ho1
        obtain rfl:=rt h
        exact Zi (Zu Y (.one<|rb Y))
       ·
        exact Zf<|K4 1 35 36 37 Y<|ZE<|R2 Q4 Y<|Rm Y<|Za<|⟨_,h,ES []⟩
    ·
     refine ZL<|?_
     replace h:=lx h▸ho1
     exact⟨(),h,ES []⟩
   ·
    replace h:=elr h
    replace h:=t0i h
    refine Tr<|Ra Y<|Za<|?_
    obtain rfl:=rt h
    exact Zi (Zu Y (.one<|rb Y))
theorem Zbt{i:api_Instrument}{r:Int}(h:Qy i=some r):
 CSpec Tryz.prog gl0 97 [.agg [.int .i64 i.Kind,.str i.Name,.str i.Track,.int .i64 i.Places,.int .i64 i.Low,.int .i64 i.High,.int .i64 i.Steps,.sl 136 (List.map R136 i.Zones),.int .i64 i.Op,.int .i64 i.N,.bool i.Latch,.int .i64 i.Size]] (.int .i64 r):=by
 unfold Qy at h
 replace h:=ZM h
 refine So Tryz.func97 Y fun w0 A=>Tr<|Rq Y (Z0 (cva<|ov Y) Y tZ_49 Y)<|Ra Y<|Za<|Zl<|Zk<|K1 1 Y<|Tr<|Rq Y (Zg (ov Y) ZbB)<|Rq Y (Zb (ov Y) tS3 Y)<|bE h fun y h_y h=>Rq Y (Zo (Z3 h_y)<|.cons (ov Y) (.b Y)<|.cons (ov Y) (.b Y)<|.cons (ov Y) (.b Y) .nil)<|R1 Qz Y<|Ra Y<|Za<|K2 1 3 Y<|If h Y (fun h=>?_) fun h=>?_
 ·
  refine K0<|Tr<|Ra Y<|Za<|?_
  obtain rfl:=rt h
  exact Zi (Zu Y (.one<|rb Y))
 ·
  refine K1 1 Y<|Tr<|Rq Y (Zg (ov Y) Zhf)<|Rq Y (Zb (ov Y) tS9 Y)<|bE h fun y2 h_y2 h=>Rq Y (Zo (Zb9 h_y2)<|.cons (ov Y) (.b Y) .nil)<|R1 Qz Y<|Rm Y<|Rq Y (.guarded ((!y2)==false) Y Y Y Y fun h=>Zg (ov Y) Zi3)<|Rq Y (.guarded ((!y2)==false) Y Y Y Y fun h=>Zb (ow Y h) tS9 Y)<|Rq Y (.guarded ((!y2)==false) Y Y Y Y fun h=>Qn (ow Y h) Qb Y)<|bE h fun y3 h_y3 h=>Rq Y (.guarded ((!y2)==false) Y Y Y Y fun h=>Zo (Z3<|gdT h_y3 h)<|.cons (ow Y h) (.b Y)<|.cons (ov Y) (.b Y)<|.cons (ov Y) (.b Y) .nil)<|Rq Y (.guarded ((!y2)==false) Y Y Y Y fun h=>Qz<|ow Y h)<|Rq Y (Xa (ov Y) fun hp=>ow Y<|gF hp)<|Ra Y<|Za<|K2 1 8 Y<|If h Y (fun h=>?_) fun h=>?_
  ·
   refine K0<|Tr<|Ra Y<|Za<|?_
   obtain rfl:=rt h
   exact Zi (Zu Y (.one<|rb Y))
  ·
   refine K1 1 Y<|Tr<|Rq Y (Zy (ov Y) Zcu Y Y)<|bE h fun y4 h_y4 h=>Rq Y (Zo (Zex h_y4)<|.cons (ov Y) (.aggB Y) .nil)<|Ra Y<|Za<|K2 1 20 Y<|If h Y (fun h=>?_) fun h=>?_
   ·
    refine K0<|Tr<|Ra Y<|Za<|?_
    obtain rfl:=rt h
    exact Zi (Zu Y (.one<|rb Y))
   ·
    refine K1 1 Y<|Tr<|Rq Y (Zg (ov Y) ZeW)<|Rq Y (Zb (ov Y) tS3 Y)<|bE h fun y5 h_y5 h=>Rq Y (Zo (Z3 h_y5)<|.cons (ov Y) (.b Y)<|.cons (ov Y) (.b Y)<|.cons (ov Y) (.b Y) .nil)<|R1 Qz Y<|Ra Y<|Za<|K2 1 23 Y<|If h Y (fun h=>?_) fun h=>?_
    ·
     refine K0<|Tr<|Ra Y<|Za<|?_
     obtain rfl:=rt h
     exact Zi (Zu Y (.one<|rb Y))
    ·
     refine Zf<|Zl<|K1 1 Y<|Tr<|Rq Y (Zg (ov Y) ZbB)<|Rq Y (Zb (ov Y) tS3 Y)<|Za<|Zk<|K2 1 29 Y<|Tr<|R2 Qq Y<|Ra Y<|Za<|K3 1 29 30 Y<|If h Y (fun h=>?_) fun h=>?_
     ·
      refine K1 1 Y<|Tr<|Rq Y (Zy (ov Y) Zcu Y Y)<|bE h fun y6 h_y6 h=>Rq Y (Zo (Zdl h_y6)<|.cons (ov Y) (.aggB Y) .nil)<|Ra Y<|Za<|?_
      obtain rfl:=rt h
      exact Zi (Zu Y (.one<|rb Y))
     ·
      refine I1 (fun v=>⟨[(1,.rp [.int .i64 i.Kind,.str i.Name,.str i.Track,.int .i64 i.Places,.int .i64 i.Low,.int .i64 i.High,.int .i64 i.Steps,.sl 136 (List.map R136 i.Zones),.int .i64 i.Op,.int .i64 i.N,.bool i.Latch,.int .i64 i.Size] 0),(29,.int .i64 i.Kind),(34,.bool v)],[]⟩) h (fun h=>?_) fun v h=>?_
      ·
       refine K2 1 29 Y<|Tr<|R2 Qq Y<|Ra Y<|Za<|K3 1 29 34 Y<|If h Y (fun h=>?_) fun h=>?_
       ·
        exact Zf<|⟨_,h,ES []⟩
       ·
        exact ZE<|R2 Qq Y<|Ra Y<|Za<|⟨_,h,ES []⟩
      ·
       refine If h Y (fun h=>?_) fun h=>?_
       ·
        refine Zl<|K1 1 Y<|Tr<|Rq Y (Zg (ov Y) Zhg)<|Rq Y (Zb (ov Y) tS3 Y)<|bE h fun y7 h_y7 h=>Rq Y (Zo (Z3 h_y7)<|.cons (ov Y) (.b Y)<|.cons (ov Y) (.b Y)<|.cons (ov Y) (.b Y) .nil)<|R1 Qz Y<|Za<|K2 1 40 Y<|If h Y (fun h=>?_) fun h=>?_
        ·
         refine K0<|Tr<|Ra Y<|Za<|?_
         obtain rfl:=rt h
         exact Zi (Zu Y (.one<|rb Y))
        ·
         refine Zf<|K1 1 Y<|Tr<|Rq Y (Zg (ov Y) Zhi)<|Rq Y (Zb (ov Y) tS3 Y)<|bE h fun y8 h_y8 h=>Rq Y (Zo (ZaR h_y8)<|.cons (ov Y) (.b Y) .nil)<|R1 Qz Y<|Za<|K1 44 Y<|If h Y (fun h=>?_) fun h=>?_
         ·
          refine K0<|Tr<|Ra Y<|Za<|?_
          obtain rfl:=rt h
          exact Zi (Zu Y (.one<|rb Y))
         ·
          refine Zf<|K0<|Tr<|Ra Y<|Za<|?_
          obtain rfl:=rt h
          exact Zi (Zu Y (.one<|rb Y))
       ·
        refine K2 1 29 Y<|Tr<|R2 Qq Y<|Ra Y<|Za<|K2 1 45 Y<|If h Y (fun h=>?_) fun h=>?_
        ·
         refine K1 1 Y<|Tr<|Rq Y (Zg (ov Y) Zgx)<|Rq Y (Zb (ov Y) tS3 Y)<|bE h fun y9 h_y9 h=>Rq Y (Zo (Z3 h_y9)<|.cons (ov Y) (.b Y)<|.cons (ov Y) (.b Y)<|.cons (ov Y) (.b Y) .nil)<|R1 Qz Y<|Za<|K1 50 Y<|If h Y (fun h=>?_) fun h=>?_
         ·
          refine K0<|Tr<|Ra Y<|Za<|?_
          obtain rfl:=rt h
          exact Zi (Zu Y (.one<|rb Y))
         ·
          refine Zf<|K0<|Tr<|Ra Y<|Za<|?_
          obtain rfl:=rt h
          exact Zi (Zu Y (.one<|rb Y))
        ·
         refine Zf<|K0<|Tr<|Ra Y<|Za<|?_
         obtain rfl:=rt h
         exact Zi (Zu Y (.one<|rb Y))
theorem Q7{s:List api_Instrument}{f:api_Instrument→Option Bool}{r:Int}{f_f:FuncId}{f_c:List AV}(f_d:f_c.all datB=true)(f_h: ∀ (z0:api_Instrument) z,f z0=some z→CSpec Tryz.prog gl0 f_f ([.agg [.int .i64 z0.Kind,.str z0.Name,.str z0.Track,.int .i64 z0.Places,.int .i64 z0.Low,.int .i64 z0.High,.int .i64 z0.Steps,.sl 136 (List.map R136 z0.Zones),.int .i64 z0.Op,.int .i64 z0.N,.bool z0.Latch,.int .i64 z0.Size]]++f_c) (.bool z))(h:ZH s f=some r):
 CSpec Tryz.prog gl0 115 [.sl 49 (List.map R49 s),.fn f_f f_c] (.int .i64 r):=by
 unfold ZH at h
 replace h:=ZM h
 refine So Tryz.func115 Y fun w0 A=>Tr<|Ra Y<|Za<|J0 (fun j=>(.inr j)) ⟨[],[]⟩ h (fun h=>?_) fun h=>?_
 ·
  refine K2 0 1 Y<|Tr<|Rm Y<|Rl tZ_49 Zcq Y<|Rm Y<|Za<|Zk<|?_
  obtain⟨r1,hl1,ho1⟩:=XB h
  refine L1 (fun i=>⟨[(0,.sl 49 (List.map R49 s)),(1,.fn f_f f_c),(7,.int .i64 (s.length:Int)),(8,.int .i64 i)],[]⟩) hl1 (ES []<|sd 0 Y Y<|sr 1 Y (rFn<|rld f_d)<|sd 7 Y Y<|sd 8 Y Y sn) fun n1 i h=>?_
  unfold Zt at h
  refine Tr<|R2 ZU Y<|Za<|Zl<|If h Y (fun h=>?_) fun h=>?_
  ·
   refine Zf<|Zl<|Zk<|K4 0 1 7 8 Y<|Tr<|Rm Y<|Ra Y<|Za<|K5 0 1 5 7 8 Y<|Tr<|Rm Y<|Rm Y<|Rm Y<|bE h fun x h_x h=>Rq Y (Qa (ov Y) (ov Y) Zcq h_x)<|Rq Y (Zy (ov Y) Zcu Y Y)<|bE h fun y h_y h=>Rq Y (Zad (ov Y) f_d (f_h _ _ h_y)<|.cons (ov Y) (.aggB Y) .nil)<|Za<|K6 0 1 5 7 8 16 Y<|If h Y (fun h=>?_) fun h=>?_
   ·
    refine K1 5 Y<|Tr<|Rm Y<|Ra Y<|Za<|?_
    replace h:=lx h▸ho1
    obtain rfl:=rt h
    exact Zi (Zu Y (.one<|rb Y))
   ·
    exact Zf<|K4 0 1 7 8 Y<|ZE<|R2 Q4 Y<|Rm Y<|Za<|⟨_,h,ES []<|sd 0 Y Y<|sr 1 Y (rFn<|rld f_d)<|sd 7 Y Y<|sd 8 Y Y sn⟩
  ·
   refine ZL<|?_
   replace h:=lx h▸ho1
   exact⟨(),h,ES []⟩
 ·
  replace h:=elr h
  replace h:=t0i h
  refine Tr<|Ra Y<|Za<|?_
  obtain rfl:=rt h
  exact Zi (Zu Y (.one<|rb Y))
theorem Z5{s:List api_Instrument}{f:api_Instrument→Option Bool}{r:Bool}{f_f:FuncId}{f_c:List AV}(f_d:f_c.all datB=true)(f_h: ∀ (z0:api_Instrument) z,f z0=some z→CSpec Tryz.prog gl0 f_f ([.agg [.int .i64 z0.Kind,.str z0.Name,.str z0.Track,.int .i64 z0.Places,.int .i64 z0.Low,.int .i64 z0.High,.int .i64 z0.Steps,.sl 136 (List.map R136 z0.Zones),.int .i64 z0.Op,.int .i64 z0.N,.bool z0.Latch,.int .i64 z0.Size]]++f_c) (.bool z))(h:Zp s f=some r):
 CSpec Tryz.prog gl0 76 [.sl 49 (List.map R49 s),.fn f_f f_c] (.bool r):=by
 unfold Zp at h
 replace h:=ZM h
 refine So Tryz.func76 Y fun w0 A=>Tr<|Ra Y<|Za<|Tr<|Rm Y<|Rm Y<|bE h fun y h_y h=>Rq Y (Zo (Q7 f_d f_h h_y)<|.cons (ov Y) (.b Y)<|.cons (ov Y) (Dat.fnC<|.refl fun x hx=> .b<|List.all_eq_true.1 f_d x hx) .nil)<|R2 Zag Y<|Ra Y<|Za<|?_
 obtain rfl:=rt h
 exact Zi (Zu Y (.one<|rb Y))
theorem ZdS{x:api_Instrument}{c0:api_Instrument}{r:Bool}(h:Zat x c0=some r):
 CSpec Tryz.prog gl0 98 [.agg [.int .i64 x.Kind,.str x.Name,.str x.Track,.int .i64 x.Places,.int .i64 x.Low,.int .i64 x.High,.int .i64 x.Steps,.sl 136 (List.map R136 x.Zones),.int .i64 x.Op,.int .i64 x.N,.bool x.Latch,.int .i64 x.Size],.rp [.int .i64 c0.Kind,.str c0.Name,.str c0.Track,.int .i64 c0.Places,.int .i64 c0.Low,.int .i64 c0.High,.int .i64 c0.Steps,.sl 136 (List.map R136 c0.Zones),.int .i64 c0.Op,.int .i64 c0.N,.bool c0.Latch,.int .i64 c0.Size] 0] (.bool r):=by
 unfold Zat at h
 replace h:=ZM h
 refine So Tryz.func98 Y fun w0 A=>Tr<|Rq Y (Z0 (cva<|ov Y) Y tZ_49 Y)<|Ra Y<|Za<|K3 1 2 3 Y<|Tr<|Rq Y (Zg (ov Y) Zhf)<|Rq Y (Zb (ov Y) tS9 Y)<|Rq Y (Zg (ov Y) Zhf)<|Rq Y (Zb (ov Y) tS9 Y)<|R2 Qe Y<|Ra Y<|Za<|?_
 obtain rfl:=rt h
 exact Zi (Zu Y (.one<|rb Y))
theorem Zff{p:api_Panel}{r:Int}(h:Zay p=some r):
 CSpec Tryz.prog gl0 53 [.agg [.sl 49 (List.map R49 p.Instruments)]] (.int .i64 r):=by
 unfold Zay at h
 replace h:=ZM h
 refine So Tryz.func53 Y fun w0 A=>Tr<|Rq Y (Z0 (cva<|ov Y) Y tZ_24 Y)<|Ra Y<|Za<|Zl<|K1 1 Y<|Tr<|Rq Y (Zg (ov Y) ZaN)<|Rq Y (Zb (ov Y) Zem Y)<|Rl tZ_49 Zcq Y<|R2 QN Y<|Za<|K2 1 9 Y<|If h Y (fun h=>?_) fun h=>?_
 ·
  refine K0<|Tr<|Ra Y<|Za<|?_
  obtain rfl:=rt h
  exact Zi (Zu Y (.one<|rb Y))
 ·
  refine Zf<|J0 (fun j=>(.inr j)) ⟨[],[]⟩ h (fun h=>?_) fun h=>?_
  ·
   refine K1 1 Y<|Tr<|Rq Y (Zg (ov Y) ZaN)<|Rq Y (Zb (ov Y) Zem Y)<|Rl tZ_49 Zcq Y<|Rm Y<|Za<|Zk<|?_
   obtain⟨r1,hl1,ho1⟩:=XB h
   refine L1 (fun i=>⟨[(1,.rp [.sl 49 (List.map R49 p.Instruments)] 0),(11,.sl 49 (List.map R49 p.Instruments)),(12,.int .i64 (p.Instruments.length:Int)),(13,.int .i64 i)],[]⟩) hl1 (ES []) fun n1 i h=>?_
   unfold XC at h
   refine Tr<|R2 ZU Y<|Za<|Zl<|If h Y (fun h=>?_) fun h=>?_
   ·
    refine Zf<|Zl<|Zk<|K4 1 11 12 13 Y<|Tr<|Rm Y<|bE h fun x h_x h=>Rq Y (Qa (ov Y) (ov Y) Zcq h_x)<|Rq Y (Zy (ov Y) Zcu Y Y)<|Rx Y (ZO (row:= [_,_,_,_,_,_,_,_,_,_,_,_]) 0 Y ZkE Y tZ_49)<|Ra Y<|Rx Y (Zj (ov Y) (ov Y) (Zv Zcu Y) Y Y Y (Nat.le_of_ble_eq_true Y) (Zd Y) Y)<|Za<|Zl<|K6 1 3 4 11 12 13 Y<|Tr<|Rq Y (ZY (ov Y) Y Y Y Zcu Y Y)<|bE h fun y h_y h=>Rq Y (Zo (Zbt h_y)<|.cons (ov Y) (.aggB Y) .nil)<|Ra Y<|Za<|K7 1 3 4 5 11 12 13 Y<|Tr<|Rm Y<|R2 Qw Y<|Za<|K8 1 3 4 5 11 12 13 21 Y<|If h Y (fun h=>?_) fun h=>?_
    ·
     refine K1 5 Y<|Tr<|Rm Y<|Ra Y<|Za<|?_
     replace h:=lx h▸ho1
     obtain rfl:=rt h
     exact Zi (Zu Y (.one<|rb Y))
    ·
     refine Zf<|K6 1 3 4 11 12 13 Y<|Tr<|Rq Y (Zg (ov Y) ZaN)<|Rq Y (Zb (ov Y) Zem Y)<|Rm Y<|bE h fun l h_l h=>Rq Y (Zfd (ov Y) Zcq on (oi<|ov Y) h_l)<|Zi7 (Ent.sel [none] (sd 1 Y Y<|sd 3 Y Y<|sr 4 Y (.frp ⟨Y,⟨_,Y⟩,Y,Y⟩)<|sd 11 Y Y<|sd 12 Y Y<|sd 13 Y Y<|sd 23 Y Y<|sd 24 Y Y<|sd 25 Y Y<|sd 26 Y Y sn) (.row 49 .nil) Y Y)<|Rq Y (Zaq<|.cons (ov Y) .nil)<|bE h fun y2 h_y2 h=>Rq Y (Zo (Z5 Y (fun z0 _ hz=>ZdS hz) h_y2)<|.cons (ov Y) (.b Y)<|.cons (ov Y) (.fnC<|.cons (.b Y) .nil) .nil)<|Za<|K5 1 11 12 13 28 Y<|If h Y (fun h=>?_) fun h=>?_
     ·
      refine K0<|Tr<|Ra Y<|Za<|?_
      replace h:=lx h▸ho1
      obtain rfl:=rt h
      exact Zi (Zu Y (.one<|rb Y))
     ·
      exact Zf<|K4 1 11 12 13 Y<|ZE<|R2 Q4 Y<|Rm Y<|Za<|⟨_,h,ES []⟩
   ·
    refine ZL<|?_
    replace h:=lx h▸ho1
    exact⟨(),h,ES []⟩
  ·
   replace h:=elr h
   replace h:=t0i h
   refine Tr<|Ra Y<|Za<|?_
   obtain rfl:=rt h
   exact Zi (Zu Y (.one<|rb Y))
theorem Zca{n:Int}{low:Int}{high:Int}{r:Bool}(h:Jr n low high=some r):
 CSpec Tryz.prog gl0 114 [.int .i64 n,.int .i64 low,.int .i64 high] (.bool r):=by
 unfold Jr at h
 replace h:=ZM h
 refine So Tryz.func114 Y fun w0 A=>Tr<|Ra Y<|Za<|Tr<|Rm Y<|Rm Y<|R2 Zag Y<|Rm Y<|Rq Y (.guarded ((decide (low≤n))==true) Y Y Y Y fun h=>Ze<|ov Y)<|Rq Y (.guarded ((decide (low≤n))==true) Y Y Y Y fun h=>Ze<|ov Y)<|Rq Y (.guarded ((decide (low≤n))==true) Y Y Y Y fun h=>Zbl (ow Y h)<|ow Y h)<|Rq Y (Qh (ov Y) fun hp=>ow Y<|gT hp)<|Ra Y<|Za<|?_
 obtain rfl:=rt h
 exact Zi (Zu Y (.one<|rb Y))
theorem Zen{s:Str}{r:Bool}(h:JU s=some r):
 CSpec Tryz.prog gl0 148 [.str s] (.bool r):=by
 unfold JU at h
 replace h:=ZM h
 refine So Tryz.func148 Y fun w0 A=>Tr<|Ra Y<|Za<|Zl<|K1 0 Y<|Tr<|Rm Y<|Za<|Zk<|I1 (fun v=>⟨[(4,.bool v)],[]⟩) h (fun h=>?_) fun v h=>?_
 ·
  refine K1 3 Y<|Tr<|R2 Qe Y<|Ra Y<|Za<|K2 3 4 Y<|Zdc h Y (fun b4 h=>?_) fun b4 h=>?_
  ·
   exact Zf<|⟨_,h,ES []⟩
  ·
   refine Tr<|R2 Qe Y<|Ra Y<|Za<|K2 3 4 Y<|Zdc h Y (fun b4 h=>?_) fun b4 h=>?_
   ·
    exact Zf<|⟨_,h,ES []⟩
   ·
    refine Tr<|R2 Qe Y<|Ra Y<|Za<|K2 3 4 Y<|Zdc h Y (fun b4 h=>?_) fun b4 h=>?_
    ·
     exact Zf<|⟨_,h,ES []⟩
    ·
     refine Tr<|R2 Qe Y<|Ra Y<|Za<|K2 3 4 Y<|Zdc h Y (fun b4 h=>?_) fun b4 h=>?_
     ·
      exact Zf<|⟨_,h,ES []⟩
     ·
      refine Tr<|R2 Qe Y<|Ra Y<|Za<|K2 3 4 Y<|Zdc h Y (fun b4 h=>?_) fun b4 h=>?_
      ·
       exact Zf<|⟨_,h,ES []⟩
      ·
       refine Tr<|R2 Qe Y<|Ra Y<|Za<|K2 3 4 Y<|Zdc h Y (fun b4 h=>?_) fun b4 h=>?_
       ·
        exact Zf<|⟨_,h,ES []⟩
       ·
        refine Tr<|R2 Qe Y<|Ra Y<|Za<|K2 3 4 Y<|Zdc h Y (fun b4 h=>?_) fun b4 h=>?_
        ·
         exact Zf<|⟨_,h,ES []⟩
        ·
         refine Tr<|R2 Qe Y<|Ra Y<|Za<|K2 3 4 Y<|Zdc h Y (fun b4 h=>?_) fun b4 h=>?_
         ·
          exact Zf<|⟨_,h,ES []⟩
         ·
          refine Tr<|R2 Qe Y<|Ra Y<|Za<|K2 3 4 Y<|Zdc h Y (fun b4 h=>?_) fun b4 h=>?_
          ·
           exact Zf<|⟨_,h,ES []⟩
          ·
           refine Tr<|R2 Qe Y<|Ra Y<|Za<|K2 3 4 Y<|Zdc h Y (fun b4 h=>?_) fun b4 h=>?_
           ·
            exact Zf<|⟨_,h,ES []⟩
           ·
            refine Tr<|R2 Qe Y<|Ra Y<|Za<|K2 3 4 Y<|Zdc h Y (fun b4 h=>?_) fun b4 h=>?_
            ·
             exact Zf<|⟨_,h,ES []⟩
            ·
             refine Tr<|R2 Qe Y<|Ra Y<|Za<|K2 3 4 Y<|Zdc h Y (fun b4 h=>?_) fun b4 h=>?_
             ·
              exact Zf<|⟨_,h,ES []⟩
             ·
              refine Tr<|R2 Qe Y<|Ra Y<|Za<|K2 3 4 Y<|Zdc h Y (fun b4 h=>?_) fun b4 h=>?_
              ·
               exact Zf<|⟨_,h,ES []⟩
              ·
               refine Tr<|R2 Qe Y<|Ra Y<|Za<|K2 3 4 Y<|Zdc h Y (fun b4 h=>?_) fun b4 h=>?_
               ·
                exact Zf<|⟨_,h,ES []⟩
               ·
                refine Tr<|R2 Qe Y<|Ra Y<|Za<|K2 3 4 Y<|If h Y (fun h=>?_) fun h=>?_
                ·
                 exact Zf<|⟨_,h,ES []⟩
                ·
                 exact ZE<|R2 Qe Y<|Ra Y<|Za<|⟨_,h,ES []⟩
 ·
  refine If h Y (fun h=>?_) fun h=>?_
  ·
   refine K0<|Tr<|Ra Y<|Za<|?_
   obtain rfl:=rt h
   exact Zi (Zu Y (.one<|rb Y))
  ·
   refine Zf<|K0<|Tr<|Ra Y<|Za<|?_
   obtain rfl:=rt h
   exact Zi (Zu Y (.one<|rb Y))
theorem ZdG{c_:Int}{r:Bool}(h:JX c_=some r):
 CSpec Tryz.prog gl0 149 [.int .u8 c_] (.bool r):=by
 unfold JX at h
 replace h:=ZM h
 refine So Tryz.func149 Y fun w0 A=>Tr<|Ra Y<|Za<|Tr<|Rm Y<|R2 Zag Y<|Rm Y<|Rq Y (.guarded ((decide (97≤c_))==true) Y Y Y Y fun h=>Ze<|ov Y)<|Rq Y (.guarded ((decide (97≤c_))==true) Y Y Y Y fun h=>Zbl (ow Y h)<|ov Y)<|Rq Y (Qh (ov Y) fun hp=>ow Y<|gT hp)<|Rm Y<|Rq Y (.guarded (((decide (97≤c_))&&(decide (c_≤122)))==false) Y Y Y Y fun h=>Ze<|ov Y)<|Rq Y (.guarded (((decide (97≤c_))&&(decide (c_≤122)))==false) Y Y Y Y fun h=>Zag (ow Y h)<|ov Y)<|Rq Y (.guarded (((decide (97≤c_))&&(decide (c_≤122)))==false) Y Y Y Y fun h=>Ze<|ow Y h)<|Rq Y (.guarded2 ((((decide (97≤c_))&&(decide (c_≤122)))==false)&&((decide (48≤c_))==true)) Y Y Y Y fun h=>Ze<|ov Y)<|Rq Y (.guarded2 ((((decide (97≤c_))&&(decide (c_≤122)))==false)&&((decide (48≤c_))==true)) Y Y Y Y fun h=>Zbl (ow Y h)<|ov Y)<|Rq Y (.guarded (((decide (97≤c_))&&(decide (c_≤122)))==false) Y Y Y Y fun h=>Qh (ow Y h) fun hp=>ow Y<|gA h<|gT hp)<|Rq Y (Xa (ov Y) fun hp=>ow Y<|gF hp)<|Rm Y<|Rq Y (.guarded ((((decide (97≤c_))&&(decide (c_≤122))) || ((decide (48≤c_))&&(decide (c_≤57))))==false) Y Y Y Y fun h=>Ze<|ov Y)<|Rq Y (.guarded ((((decide (97≤c_))&&(decide (c_≤122))) || ((decide (48≤c_))&&(decide (c_≤57))))==false) Y Y Y Y fun h=>Qq (ow Y h)<|ov Y)<|Rq Y (Xa (ov Y) fun hp=>ow Y<|gF hp)<|Ra Y<|Za<|?_
 obtain rfl:=rt h
 exact Zi (Zu Y (.one<|rb Y))
theorem Zew{s:Str}{r:Bool}(h:JW s=some r):
 CSpec Tryz.prog gl0 110 [.str s] (.bool r):=by
 unfold JW at h
 replace h:=ZM h
 refine So Tryz.func110 Y fun w0 A=>Tr<|Ra Y<|Za<|Zl<|K1 0 Y<|Tr<|Rm Y<|Rq Y (Qn (ov Y) Qb Y)<|bE h fun y h_y h=>Rq Y (Zo (Zca h_y)<|.cons (ov Y) (.b Y)<|.cons (ov Y) (.b Y)<|.cons (ov Y) (.b Y) .nil)<|R1 Qz Y<|Rm Y<|Rq Y (.guarded ((!y)==false) Y Y Y Y fun h=>Ze<|ov Y)<|bE h fun b h_b h=>Rq Y (.guarded ((!y)==false) Y Y Y Y fun h=>Qu (ow Y h) (ov Y) Qb<|gdT h_b h)<|Rq Y (.guarded ((!y)==false) Y Y Y Y fun h=>ZU (ow Y h)<|ov Y)<|Rq Y (Xa (ov Y) fun hp=>ow Y<|gF hp)<|Rm Y<|Rq Y (.guarded (((!y) || (decide (b<97)))==false) Y Y Y Y fun h=>Ze<|ov Y)<|bE h fun b2 h_b2 h=>Rq Y (.guarded (((!y) || (decide (b<97)))==false) Y Y Y Y fun h=>Qu (ow Y h) (ov Y) Qb<|gdT h_b2 h)<|Rq Y (.guarded (((!y) || (decide (b<97)))==false) Y Y Y Y fun h=>QN (ow Y h)<|ov Y)<|Rq Y (Xa (ov Y) fun hp=>ow Y<|gF hp)<|Rm Y<|Rq Y (.guarded ((((!y) || (decide (b<97))) || (decide (122<b2)))==false) Y Y Y Y fun h=>Ze<|ov Y)<|bE h fun y2 h_y2 h=>Rq Y (.guarded ((((!y) || (decide (b<97))) || (decide (122<b2)))==false) Y Y Y Y fun h=>Zo (Zen<|gdT h_y2 h)<|.cons (ow Y h) (.b Y) .nil)<|Rq Y (Xa (ov Y) fun hp=>ow Y<|gF hp)<|Za<|K2 0 21 Y<|If h Y (fun h=>?_) fun h=>?_
 ·
  refine K0<|Tr<|Ra Y<|Za<|?_
  obtain rfl:=rt h
  exact Zi (Zu Y (.one<|rb Y))
 ·
  refine Zf<|J0 (fun j=>(.inr j)) ⟨[],[]⟩ h (fun h=>?_) fun h=>?_
  ·
   refine K1 0 Y<|Tr<|Rm Y<|Rq Y (Qn (ov Y) Qb Y)<|Rm Y<|Za<|Zk<|?_
   obtain⟨r1,hl1,ho1⟩:=XB h
   refine L1 (fun i=>⟨[(0,.str s),(23,.int .i64 (s.length:Int)),(24,.int .i64 i)],[]⟩) hl1 (ES []) fun n1 i h=>?_
   unfold Xb at h
   refine Tr<|R2 ZU Y<|Za<|Zl<|If h Y (fun h=>?_) fun h=>?_
   ·
    refine Zf<|Zl<|Zk<|K3 0 23 24 Y<|Tr<|Rm Y<|Ra Y<|Za<|K4 0 3 23 24 Y<|Tr<|Rm Y<|Rm Y<|bE h fun b3 h_b3 h=>Rq Y (Qu (ov Y) (ov Y) Qb h_b3)<|bE h fun y3 h_y3 h=>Rq Y (Zo (ZdG h_y3)<|.cons (ov Y) (.b Y) .nil)<|R1 Qz Y<|Za<|K4 0 23 24 31 Y<|If h Y (fun h=>?_) fun h=>?_
    ·
     refine K0<|Tr<|Ra Y<|Za<|?_
     replace h:=lx h▸ho1
     obtain rfl:=rt h
     exact Zi (Zu Y (.one<|rb Y))
    ·
     exact Zf<|K3 0 23 24 Y<|ZE<|R2 Q4 Y<|Rm Y<|Za<|⟨_,h,ES []⟩
   ·
    refine ZL<|?_
    replace h:=lx h▸ho1
    exact⟨(),h,ES []⟩
  ·
   replace h:=elr h
   replace h:=t0i h
   refine Tr<|Ra Y<|Za<|?_
   obtain rfl:=rt h
   exact Zi (Zu Y (.one<|rb Y))
theorem QE{s:List api_Track}{f:api_Track→Option Bool}{r:Int}{f_f:FuncId}{f_c:List AV}(f_d:f_c.all datB=true)(f_h: ∀ (z0:api_Track) z,f z0=some z→CSpec Tryz.prog gl0 f_f ([.agg [.str z0.Name,.int .i64 z0.Series.Den,.sl 56 (List.map R56 z0.Series.Samples),.int .i64 z0.Long]]++f_c) (.bool z))(h:ZF s f=some r):
 CSpec Tryz.prog gl0 116 [.sl 54 (List.map R54 s),.fn f_f f_c] (.int .i64 r):=by
 unfold ZF at h
 replace h:=ZM h
 refine So Tryz.func116 Y fun w0 A=>Tr<|Ra Y<|Za<|J0 (fun j=>(.inr j)) ⟨[],[]⟩ h (fun h=>?_) fun h=>?_
 ·
  refine K2 0 1 Y<|Tr<|Rm Y<|Rl tZ_54 ZdN Y<|Rm Y<|Za<|Zk<|?_
  obtain⟨r1,hl1,ho1⟩:=XB h
  refine L1 (fun i=>⟨[(0,.sl 54 (List.map R54 s)),(1,.fn f_f f_c),(7,.int .i64 (s.length:Int)),(8,.int .i64 i)],[]⟩) hl1 (ES []<|sd 0 Y Y<|sr 1 Y (rFn<|rld f_d)<|sd 7 Y Y<|sd 8 Y Y sn) fun n1 i h=>?_
  unfold Zq at h
  refine Tr<|R2 ZU Y<|Za<|Zl<|If h Y (fun h=>?_) fun h=>?_
  ·
   refine Zf<|Zl<|Zk<|K4 0 1 7 8 Y<|Tr<|Rm Y<|Ra Y<|Za<|K5 0 1 5 7 8 Y<|Tr<|Rm Y<|Rm Y<|Rm Y<|bE h fun x h_x h=>Rq Y (Qa (ov Y) (ov Y) ZdN h_x)<|Rq Y (Zy (ov Y) Zhj Y Y)<|bE h fun y h_y h=>Rq Y (Zad (ov Y) f_d (f_h _ _ h_y)<|.cons (ov Y) (.aggB Y) .nil)<|Za<|K6 0 1 5 7 8 16 Y<|If h Y (fun h=>?_) fun h=>?_
   ·
    refine K1 5 Y<|Tr<|Rm Y<|Ra Y<|Za<|?_
    replace h:=lx h▸ho1
    obtain rfl:=rt h
    exact Zi (Zu Y (.one<|rb Y))
   ·
    exact Zf<|K4 0 1 7 8 Y<|ZE<|R2 Q4 Y<|Rm Y<|Za<|⟨_,h,ES []<|sd 0 Y Y<|sr 1 Y (rFn<|rld f_d)<|sd 7 Y Y<|sd 8 Y Y sn⟩
  ·
   refine ZL<|?_
   replace h:=lx h▸ho1
   exact⟨(),h,ES []⟩
 ·
  replace h:=elr h
  replace h:=t0i h
  refine Tr<|Ra Y<|Za<|?_
  obtain rfl:=rt h
  exact Zi (Zu Y (.one<|rb Y))
theorem XK{s:List api_Track}{f:api_Track→Option Bool}{r:Bool}{f_f:FuncId}{f_c:List AV}(f_d:f_c.all datB=true)(f_h: ∀ (z0:api_Track) z,f z0=some z→CSpec Tryz.prog gl0 f_f ([.agg [.str z0.Name,.int .i64 z0.Series.Den,.sl 56 (List.map R56 z0.Series.Samples),.int .i64 z0.Long]]++f_c) (.bool z))(h:ZD s f=some r):
 CSpec Tryz.prog gl0 111 [.sl 54 (List.map R54 s),.fn f_f f_c] (.bool r):=by
 unfold ZD at h
 replace h:=ZM h
 refine So Tryz.func111 Y fun w0 A=>Tr<|Ra Y<|Za<|Tr<|Rm Y<|Rm Y<|bE h fun y h_y h=>Rq Y (Zo (QE f_d f_h h_y)<|.cons (ov Y) (.b Y)<|.cons (ov Y) (Dat.fnC<|.refl fun x hx=> .b<|List.all_eq_true.1 f_d x hx) .nil)<|R2 Zag Y<|Ra Y<|Za<|?_
 obtain rfl:=rt h
 exact Zi (Zu Y (.one<|rb Y))
theorem Zb4{x:api_Track}{c0:api_Track}{r:Bool}(h:Xx x c0=some r):
 CSpec Tryz.prog gl0 112 [.agg [.str x.Name,.int .i64 x.Series.Den,.sl 56 (List.map R56 x.Series.Samples),.int .i64 x.Long],.rp [.str c0.Name,.int .i64 c0.Series.Den,.sl 56 (List.map R56 c0.Series.Samples),.int .i64 c0.Long] 0] (.bool r):=by
 unfold Xx at h
 replace h:=ZM h
 refine So Tryz.func112 Y fun w0 A=>Tr<|Rq Y (Z0 (cva<|ov Y) Y tZ_54 Y)<|Ra Y<|Za<|K3 1 2 3 Y<|Tr<|Rq Y (Zg (ov Y) Zf1)<|Rq Y (Zb (ov Y) tS9 Y)<|Rq Y (Zg (ov Y) Zf1)<|Rq Y (Zb (ov Y) tS9 Y)<|R2 Qe Y<|Ra Y<|Za<|?_
 obtain rfl:=rt h
 exact Zi (Zu Y (.one<|rb Y))
theorem Jn{n:Int}{low:Int}{high:Int}{r:Bool}(h:Xr n low high=some r):
 CSpec Tryz.prog gl0 164 [.int .i64 n,.int .i64 low,.int .i64 high] (.bool r):=by
 unfold Xr at h
 replace h:=ZM h
 refine So Tryz.func164 Y fun w0 A=>Tr<|Ra Y<|Za<|Tr<|Rm Y<|Rm Y<|R2 Zag Y<|Rm Y<|Rq Y (.guarded ((decide (low≤n))==true) Y Y Y Y fun h=>Ze<|ov Y)<|Rq Y (.guarded ((decide (low≤n))==true) Y Y Y Y fun h=>Ze<|ov Y)<|Rq Y (.guarded ((decide (low≤n))==true) Y Y Y Y fun h=>Zbl (ow Y h)<|ow Y h)<|Rq Y (Qh (ov Y) fun hp=>ow Y<|gT hp)<|Ra Y<|Za<|?_
 obtain rfl:=rt h
 exact Zi (Zu Y (.one<|rb Y))
theorem Zek{s:api_Series}{r:Int×Int}(h:J9 s=some r):
 CSpec Tryz.prog gl0 150 [.agg [.int .i64 s.Den,.sl 56 (List.map R56 s.Samples)]] (.tuple [.int .i64 r.1,.int .i64 r.2]):=by
 unfold J9 at h
 replace h:=ZM h
 refine So Tryz.func150 Y fun w0 A=>Tr<|Rq Y (Z0 (cva<|ov Y) Y tZ_52 Y)<|Ra Y<|Ra Y<|Za<|Zl<|K1 1 Y<|Tr<|Rq Y (Zg (ov Y) Zjn)<|Rq Y (Zb (ov Y) tS3 Y)<|bE h fun y h_y h=>Rq Y (Zo (Jn h_y)<|.cons (ov Y) (.b Y)<|.cons (ov Y) (.b Y)<|.cons (ov Y) (.b Y) .nil)<|R1 Qz Y<|Za<|K2 1 9 Y<|If h Y (fun h=>?_) fun h=>?_
 ·
  refine K0<|Tr<|Ra Y<|Ra Y<|Za<|?_
  obtain rfl:=rt h
  exact Zi (Zu Y (.two (rb Y)<|rb Y))
 ·
  refine Zf<|Zl<|K1 1 Y<|Tr<|Rq Y (Zg (ov Y) Zb8)<|Rq Y (Zb (ov Y) Zgf Y)<|Rl tZ_56 Zev Y<|R2 QN Y<|Za<|K2 1 13 Y<|If h Y (fun h=>?_) fun h=>?_
  ·
   refine K0<|Tr<|Ra Y<|Ra Y<|Za<|?_
   obtain rfl:=rt h
   exact Zi (Zu Y (.two (rb Y)<|rb Y))
  ·
   refine Zf<|J0 (fun j=>(.inr j)) ⟨[],[]⟩ h (fun h=>?_) fun h=>?_
   ·
    refine K1 1 Y<|Tr<|Rq Y (Zg (ov Y) Zb8)<|Rq Y (Zb (ov Y) Zgf Y)<|Rl tZ_56 Zev Y<|Rm Y<|Za<|Zk<|?_
    obtain⟨r1,hl1,ho1⟩:=XB h
    refine L1 (fun i=>⟨[(1,.rp [.int .i64 s.Den,.sl 56 (List.map R56 s.Samples)] 0),(15,.sl 56 (List.map R56 s.Samples)),(16,.int .i64 (s.Samples.length:Int)),(17,.int .i64 i)],[]⟩) hl1 (ES []) fun n1 i h=>?_
    unfold XR at h
    refine Tr<|R2 ZU Y<|Za<|Zl<|If h Y (fun h=>?_) fun h=>?_
    ·
     refine Zf<|Zl<|Zk<|K4 1 15 16 17 Y<|Tr<|Rm Y<|bE h fun x h_x h=>Rq Y (Qa (ov Y) (ov Y) Zev h_x)<|Rq Y (Zy (ov Y) Zcx Y Y)<|Rx Y (ZO (row:= [_,_,_]) 0 Y Zhk Y tZ_56)<|Ra Y<|Rx Y (Zj (ov Y) (ov Y) (Zv Zcx Y) Y Y Y (Nat.le_of_ble_eq_true Y) (Zd Y) Y)<|Za<|Zk<|K6 1 4 5 15 16 17 Y<|Tr<|Rq Y (Zc (ov Y) Y Y ZeX)<|Rq Y (Zm (ov Y) Y Y Y tS3 Y)<|bE h fun y2 h_y2 h=>Rq Y (Zo (Jn h_y2)<|.cons (ov Y) (.b Y)<|.cons (ov Y) (.b Y)<|.cons (ov Y) (.b Y) .nil)<|R1 Qz Y<|Rm Y<|Rq Y (.guarded ((!y2)==false) Y Y Y Y fun h=>Zc (ov Y) Y Y ZdW)<|Rq Y (.guarded ((!y2)==false) Y Y Y Y fun h=>Zm (ow Y h) Y Y Y tS3 Y)<|bE h fun y3 h_y3 h=>Rq Y (.guarded ((!y2)==false) Y Y Y Y fun h=>Zo (Jn<|gdT h_y3 h)<|.cons (ow Y h) (.b Y)<|.cons (ov Y) (.b Y)<|.cons (ov Y) (.b Y) .nil)<|Rq Y (.guarded ((!y2)==false) Y Y Y Y fun h=>Qz<|ow Y h)<|Rq Y (Xa (ov Y) fun hp=>ow Y<|gF hp)<|Rm Y<|Rq Y (.guarded (((!y2) || (!y3))==false) Y Y Y Y fun h=>Zc (ov Y) Y Y Zgq)<|Rq Y (.guarded (((!y2) || (!y3))==false) Y Y Y Y fun h=>Zm (ow Y h) Y Y Y tS3 Y)<|bE h fun y4 h_y4 h=>Rq Y (.guarded (((!y2) || (!y3))==false) Y Y Y Y fun h=>Zo (Jn<|gdT h_y4 h)<|.cons (ow Y h) (.b Y)<|.cons (ov Y) (.b Y)<|.cons (ov Y) (.b Y) .nil)<|Rq Y (.guarded (((!y2) || (!y3))==false) Y Y Y Y fun h=>Qz<|ow Y h)<|Rq Y (Xa (ov Y) fun hp=>ow Y<|gF hp)<|Ra Y<|Za<|K7 1 4 5 15 16 17 22 Y<|If h Y (fun h=>?_) fun h=>?_
     ·
      refine K1 4 Y<|Tr<|Rm Y<|Ra Y<|Ra Y<|Za<|?_
      replace h:=lx h▸ho1
      obtain rfl:=rt h
      exact Zi (Zu Y (.two (rb Y)<|rb Y))
     ·
      refine K6 1 4 5 15 16 17 Y<|Tr<|Rq Y (Zc (ov Y) Y Y ZdW)<|Rq Y (Zm (ov Y) Y Y Y tS3 Y)<|R2 Qw Y<|Rm Y<|Rq Y (.guarded ((!decide (x.N=0))==true) Y Y Y Y fun h=>Zc (ov Y) Y Y Zgq)<|Rq Y (.guarded ((!decide (x.N=0))==true) Y Y Y Y fun h=>Zm (ow Y h) Y Y Y tS3 Y)<|Rq Y (.guarded ((!decide (x.N=0))==true) Y Y Y Y fun h=>Zbl (ow Y h)<|ov Y)<|Rq Y (Qh (ov Y) fun hp=>ow Y<|gT hp)<|Ra Y<|Za<|K7 1 4 5 15 16 17 40 Y<|If h Y (fun h=>?_) fun h=>?_
      ·
       refine K1 4 Y<|Tr<|Rm Y<|Ra Y<|Ra Y<|Za<|?_
       replace h:=lx h▸ho1
       obtain rfl:=rt h
       exact Zi (Zu Y (.two (rb Y)<|rb Y))
      ·
       refine K6 1 4 5 15 16 17 Y<|Td md0<|D1 0 Ze Y<|D2 1 QN Y<|D1 2 Ze Y<|Dq 3 Y (.guarded ((decide (0<i))==true) Y Y Y Y fun h=>Zc (ov Y) Y Y ZeX)<|Dq 4 Y (.guarded ((decide (0<i))==true) Y Y Y Y fun h=>Zm (ow Y h) Y Y Y tS3 Y)<|Dq 5 Y (.guarded ((decide (0<i))==true) Y Y Y Y fun h=>Zg (ov Y) Zb8)<|Dq 6 Y (.guarded ((decide (0<i))==true) Y Y Y Y fun h=>Zb (ow Y h) Zgf Y)<|Dq 7 Y (.guarded ((decide (0<i))==true) Y Y Y Y fun h=>Ze<|ov Y)<|Dq 8 Y (.guarded ((decide (0<i))==true) Y Y Y Y fun h=>ZfN (ow Y h) (ov Y) Y)<|bE h fun x2 h_x2 h=>Dq 9 Y (.guarded ((decide (0<i))==true) Y Y Y Y fun h=>Qa (ow Y h) (ow Y h) Zev<|gdT h_x2 h)<|Dq 10 Y (.guarded ((decide (0<i))==true) Y Y Y Y fun h=>Zg (ow Y h) ZeX)<|Dq 11 Y (.guarded ((decide (0<i))==true) Y Y Y Y fun h=>Zb (ow Y h) tS3 Y)<|Dq 12 Y (.guarded ((decide (0<i))==true) Y Y Y Y fun h=>Zbl (ow Y h)<|ow Y h)<|Dq 13 Y (Qh (ov Y) fun hp=>ow Y<|gT hp)<|D1 14 Ji Y<|Dd<|K6 1 4 15 16 17 50 Y<|If h Y (fun h=>?_) fun h=>?_
       ·
        refine K1 4 Y<|Tr<|Rm Y<|Ra Y<|Ra Y<|Za<|?_
        replace h:=lx h▸ho1
        obtain rfl:=rt h
        exact Zi (Zu Y (.two (rb Y)<|rb Y))
       ·
        exact Zf<|K4 1 15 16 17 Y<|ZE<|R2 Q4 Y<|Rm Y<|Za<|⟨_,h,ES []⟩
    ·
     refine ZL<|?_
     replace h:=lx h▸ho1
     exact⟨(),h,ES []⟩
   ·
    replace h:=elr h
    replace h:=t0i h
    refine Tr<|Ra Y<|Ra Y<|Za<|?_
    obtain rfl:=rt h
    exact Zi (Zu Y (.two (rb Y)<|rb Y))
theorem Zet{s:api_Series}{r:Int}(h:JV s=some r):
 CSpec Tryz.prog gl0 113 [.agg [.int .i64 s.Den,.sl 56 (List.map R56 s.Samples)]] (.int .i64 r):=by
 unfold JV at h
 replace h:=ZM h
 refine So Tryz.func113 Y fun w0 A=>Tr<|Rq Y (Z0 (cva<|ov Y) Y tZ_52 Y)<|Ra Y<|Za<|K1 1 Y<|Tr<|Rq Y (Zy (ov Y) Zi4 Y Y)<|bE h fun y h_y h=>Rq Y (Zo (Zek h_y)<|.cons (ov Y) (.aggB Y) .nil)<|Rm Y<|Rq Y (Zr (ov Y) Y)<|Rq Y (Zr (ov Y) Y)<|Ra Y<|Ra Y<|Za<|K1 4 Y<|Tr<|Rm Y<|Ra Y<|Za<|?_
 obtain rfl:=rt h
 exact Zi (Zu Y (.one<|rb Y))
theorem Zcn{l:List api_Track}{r:Int}(h:Xh l=some r):
 CSpec Tryz.prog gl0 75 [.sl 54 (List.map R54 l)] (.int .i64 r):=by
 unfold Xh at h
 replace h:=ZM h
 refine So Tryz.func75 Y fun w0 A=>Tr<|Ra Y<|Za<|Zl<|K1 0 Y<|Tr<|Rm Y<|Rl tZ_54 ZdN Y<|R2 QN Y<|Za<|K2 0 8 Y<|If h Y (fun h=>?_) fun h=>?_
 ·
  refine K0<|Tr<|Ra Y<|Za<|?_
  obtain rfl:=rt h
  exact Zi (Zu Y (.one<|rb Y))
 ·
  refine Zf<|J0 (fun j=>(.inr j)) ⟨[],[]⟩ h (fun h=>?_) fun h=>?_
  ·
   refine K1 0 Y<|Tr<|Rm Y<|Rl tZ_54 ZdN Y<|Rm Y<|Za<|Zk<|?_
   obtain⟨r1,hl1,ho1⟩:=XB h
   refine L1 (fun i=>⟨[(0,.sl 54 (List.map R54 l)),(9,.sl 54 (List.map R54 l)),(10,.int .i64 (l.length:Int)),(11,.int .i64 i)],[]⟩) hl1 (ES []) fun n1 i h=>?_
   unfold Qo at h
   refine Tr<|R2 ZU Y<|Za<|Zl<|If h Y (fun h=>?_) fun h=>?_
   ·
    refine Zf<|Zl<|Zk<|K4 0 9 10 11 Y<|Tr<|Rm Y<|bE h fun x h_x h=>Rq Y (Qa (ov Y) (ov Y) ZdN h_x)<|Rq Y (Zy (ov Y) Zhj Y Y)<|Rx Y (ZO (row:= [_,_,_,_]) 0 Y Zlm Y tZ_54)<|Ra Y<|Rx Y (Zj (ov Y) (ov Y) (Zv Zhj Y) Y Y Y (Nat.le_of_ble_eq_true Y) (Zd Y) Y)<|Za<|Zl<|K6 0 3 4 9 10 11 Y<|Tr<|Rq Y (Zc (ov Y) Y Y Zf1)<|Rq Y (Zm (ov Y) Y Y Y tS9 Y)<|bE h fun y h_y h=>Rq Y (Zo (Zew h_y)<|.cons (ov Y) (.b Y) .nil)<|R1 Qz Y<|Za<|K7 0 3 4 9 10 11 19 Y<|If h Y (fun h=>?_) fun h=>?_
    ·
     refine K0<|Tr<|Ra Y<|Za<|?_
     replace h:=lx h▸ho1
     obtain rfl:=rt h
     exact Zi (Zu Y (.one<|rb Y))
    ·
     refine Zf<|Zl<|K6 0 3 4 9 10 11 Y<|Tr<|Rm Y<|Rm Y<|bE h fun l2 h_l2 h=>Rq Y (Zfd (ov Y) ZdN on (oi<|ov Y) h_l2)<|Zi7 (Ent.sel [none] (sd 0 Y Y<|sd 3 Y Y<|sr 4 Y (.frp ⟨Y,⟨_,Y⟩,Y,Y⟩)<|sd 9 Y Y<|sd 10 Y Y<|sd 11 Y Y<|sd 20 Y Y<|sd 21 Y Y<|sd 22 Y Y sn) (.row 54 .nil) Y Y)<|Rq Y (Zaq<|.cons (ov Y) .nil)<|bE h fun y2 h_y2 h=>Rq Y (Zo (XK Y (fun z0 _ hz=>Zb4 hz) h_y2)<|.cons (ov Y) (.b Y)<|.cons (ov Y) (.fnC<|.cons (.b Y) .nil) .nil)<|Za<|K6 0 4 9 10 11 24 Y<|If h Y (fun h=>?_) fun h=>?_
     ·
      refine K0<|Tr<|Ra Y<|Za<|?_
      replace h:=lx h▸ho1
      obtain rfl:=rt h
      exact Zi (Zu Y (.one<|rb Y))
     ·
      refine Zf<|Zl<|K5 0 4 9 10 11 Y<|Tr<|Rq Y (Zg (ov Y) ZeV)<|Rq Y (Zy (ov Y) Zi4 Y Y)<|bE h fun y3 h_y3 h=>Rq Y (Zo (Zet h_y3)<|.cons (ov Y) (.aggB Y) .nil)<|Ra Y<|Za<|K6 0 4 5 9 10 11 Y<|Tr<|Rm Y<|R2 Qw Y<|Za<|K7 0 4 5 9 10 11 29 Y<|If h Y (fun h=>?_) fun h=>?_
      ·
       refine K1 5 Y<|Tr<|Rm Y<|Ra Y<|Za<|?_
       replace h:=lx h▸ho1
       obtain rfl:=rt h
       exact Zi (Zu Y (.one<|rb Y))
      ·
       refine Zf<|K5 0 4 9 10 11 Y<|Tr<|Rq Y (Zg (ov Y) Zjm)<|Rq Y (Zb (ov Y) tS3 Y)<|bE h fun y4 h_y4 h=>Rq Y (Zo (Zca h_y4)<|.cons (ov Y) (.b Y)<|.cons (ov Y) (.b Y)<|.cons (ov Y) (.b Y) .nil)<|R1 Qz Y<|Za<|K5 0 9 10 11 34 Y<|If h Y (fun h=>?_) fun h=>?_
       ·
        refine K0<|Tr<|Ra Y<|Za<|?_
        replace h:=lx h▸ho1
        obtain rfl:=rt h
        exact Zi (Zu Y (.one<|rb Y))
       ·
        exact Zf<|K4 0 9 10 11 Y<|ZE<|R2 Q4 Y<|Rm Y<|Za<|⟨_,h,ES []⟩
   ·
    refine ZL<|?_
    replace h:=lx h▸ho1
    exact⟨(),h,ES []⟩
  ·
   replace h:=elr h
   replace h:=t0i h
   refine Tr<|Ra Y<|Za<|?_
   obtain rfl:=rt h
   exact Zi (Zu Y (.one<|rb Y))
theorem Zdd{t:api_Track}{c0:api_Instrument}{r:Bool}(h:XS t c0=some r):
 CSpec Tryz.prog gl0 117 [.agg [.str t.Name,.int .i64 t.Series.Den,.sl 56 (List.map R56 t.Series.Samples),.int .i64 t.Long],.rp [.int .i64 c0.Kind,.str c0.Name,.str c0.Track,.int .i64 c0.Places,.int .i64 c0.Low,.int .i64 c0.High,.int .i64 c0.Steps,.sl 136 (List.map R136 c0.Zones),.int .i64 c0.Op,.int .i64 c0.N,.bool c0.Latch,.int .i64 c0.Size] 0] (.bool r):=by
 unfold XS at h
 replace h:=ZM h
 refine So Tryz.func117 Y fun w0 A=>Tr<|Rq Y (Z0 (cva<|ov Y) Y tZ_54 Y)<|Ra Y<|Za<|K3 1 2 3 Y<|Tr<|Rq Y (Zg (ov Y) Zf1)<|Rq Y (Zb (ov Y) tS9 Y)<|Rq Y (Zg (ov Y) Zi3)<|Rq Y (Zb (ov Y) tS9 Y)<|R2 Qe Y<|Ra Y<|Za<|?_
 obtain rfl:=rt h
 exact Zi (Zu Y (.one<|rb Y))
theorem Zao{l:List api_Track}{i:api_Instrument}{r:Int}(h:Qr l i=some r):
 CSpec Tryz.prog gl0 78 [.sl 54 (List.map R54 l),.agg [.int .i64 i.Kind,.str i.Name,.str i.Track,.int .i64 i.Places,.int .i64 i.Low,.int .i64 i.High,.int .i64 i.Steps,.sl 136 (List.map R136 i.Zones),.int .i64 i.Op,.int .i64 i.N,.bool i.Latch,.int .i64 i.Size]] (.int .i64 r):=by
 unfold Qr at h
 replace h:=ZM h
 refine So Tryz.func78 Y fun w0 A=>Tr<|Rq Y (Z0 (cva<|ov Y) Y tZ_49 Y)<|Ra Y<|Za<|K3 0 3 4 Y<|Tr<|Rm Y<|Rq Y (Zaq<|.cons (ov Y) .nil)<|bE h fun y h_y h=>Rq Y (Zo (QE Y (fun z0 _ hz=>Zdd hz) h_y)<|.cons (ov Y) (.b Y)<|.cons (ov Y) (.fnC<|.cons (.b Y) .nil) .nil)<|Ra Y<|Za<|?_
 obtain rfl:=rt h
 exact Zi (Zu Y (.one<|rb Y))
theorem Zcy{i:api_Instrument}{c0:List api_Track}{r:Bool}(h:Xn i c0=some r):
 CSpec Tryz.prog gl0 77 [.agg [.int .i64 i.Kind,.str i.Name,.str i.Track,.int .i64 i.Places,.int .i64 i.Low,.int .i64 i.High,.int .i64 i.Steps,.sl 136 (List.map R136 i.Zones),.int .i64 i.Op,.int .i64 i.N,.bool i.Latch,.int .i64 i.Size],.rp [.sl 54 (List.map R54 c0)] 0] (.bool r):=by
 unfold Xn at h
 replace h:=ZM h
 refine So Tryz.func77 Y fun w0 A=>Tr<|Rq Y (Z0 (cva<|ov Y) Y tZ_49 Y)<|Ra Y<|Za<|K3 1 2 3 Y<|Tr<|Rq Y (Zb (ov Y) Zi5 Y)<|Rq Y (Zy (ov Y) Zcu Y Y)<|bE h fun y h_y h=>Rq Y (Zo (Zao h_y)<|.cons (ov Y) (.b Y)<|.cons (ov Y) (.aggB Y) .nil)<|R2 ZU Y<|Ra Y<|Za<|?_
 obtain rfl:=rt h
 exact Zi (Zu Y (.one<|rb Y))
theorem Zc4{p:api_Panel}{l:List api_Track}{r:Int}(h:XO p l=some r):
 CSpec Tryz.prog gl0 36 [.agg [.sl 49 (List.map R49 p.Instruments)],.sl 54 (List.map R54 l)] (.int .i64 r):=by
 unfold XO at h
 replace h:=ZM h
 refine So Tryz.func36 Y fun w0 A=>Tr<|Rq Y (Z0 (cva<|ov Y) Y tZ_24 Y)<|Rq Y (Z0 (cvs (ov Y)<|Qp Y) Y tZ_25 Y)<|Ra Y<|Za<|Zl<|K2 2 3 Y<|Tr<|Rq Y (Zy (ov Y) Zdg Y Y)<|bE h fun y h_y h=>Rq Y (Zo (Zff h_y)<|.cons (ov Y) (.aggB Y) .nil)<|Ra Y<|Za<|K3 2 3 5 Y<|Tr<|Rm Y<|R2 Qw Y<|Za<|K4 2 3 5 10 Y<|If h Y (fun h=>?_) fun h=>?_
 ·
  refine K1 5 Y<|Tr<|Rm Y<|Ra Y<|Za<|?_
  obtain rfl:=rt h
  exact Zi (Zu Y (.one<|rb Y))
 ·
  refine Zf<|Zl<|K2 2 3 Y<|Tr<|Rq Y (Zb (ov Y) Zi5 Y)<|bE h fun y2 h_y2 h=>Rq Y (Zo (Zcn h_y2)<|.cons (ov Y) (.b Y) .nil)<|Ra Y<|Za<|K3 2 3 6 Y<|Tr<|Rm Y<|R2 Qw Y<|Za<|K4 2 3 6 15 Y<|If h Y (fun h=>?_) fun h=>?_
  ·
   refine K1 6 Y<|Tr<|Rm Y<|Ra Y<|Za<|?_
   obtain rfl:=rt h
   exact Zi (Zu Y (.one<|rb Y))
  ·
   refine Zf<|Zl<|K2 2 3 Y<|Tr<|Rq Y (Zg (ov Y) ZaN)<|Rq Y (Zb (ov Y) Zem Y)<|Rq Y (Zaq<|.cons (ov Y) .nil)<|bE h fun y3 h_y3 h=>Rq Y (Zo (Z5 Y (fun z0 _ hz=>Zcy hz) h_y3)<|.cons (ov Y) (.b Y)<|.cons (ov Y) (.fnC<|.cons (.b Y) .nil) .nil)<|Za<|K1 20 Y<|If h Y (fun h=>?_) fun h=>?_
   ·
    refine K0<|Tr<|Ra Y<|Za<|?_
    obtain rfl:=rt h
    exact Zi (Zu Y (.one<|rb Y))
   ·
    refine Zf<|K0<|Tr<|Ra Y<|Za<|?_
    obtain rfl:=rt h
    exact Zi (Zu Y (.one<|rb Y))
theorem Zf9{xs r:List api_Instrument}(h:ZaJ xs=some r):
 GSpec Tryz.prog gl0 79 [.sl 49 (List.map R49 xs)] [] (.own 0 r.length) [some ⟨49,List.map R49 r⟩]:=by
 have h2:app [] xs=some r:=h
 refine Qs (by kernel_rfl) Tryz.func79 Y Y<|?_
 intro w0 A W φ0
 refine Tr<|Ra Y<|Za<|Zl<|Zl<|ZE<|Rm Y<|Zb3 (ov Y) Zkk Y fun b hb=>?_
 refine Za<|Zcz Y (fun hb2=>?_) fun hb2=>?_
 ·
  obtain rfl:xs= []:=by simpa using hb hb2
  obtain rfl:r= []:=by simpa [app,apz] using h2.symm
  exact Tr<|Ra Y<|Za<|Zi<|Zbe [none] Y (.cons (.tmp Y) .nil) (.row 49 .nil) Y Y<|.row Y
 ·
  exact Zf<|Tr<|Rx Y (QA (r:=0) (xs:= []) (f:=R49) Y Zcq .nil Y Y Y)<|Rm Y<|Rx Y (JP (ov Y) (JF (ov Y) tZ_49) Zcq Y Y (fun _=>Zd Y) Y h2)<|Ra Y<|Za<|Zi<|Zbe [some 0] Y (.cons (.tmp Y) .nil) (.cons Y (roM D49) .nil) Y Y<|.own _ Y
theorem ZgS{xs r:List api_Zone}(h:ZaJ xs=some r):
 CSpec Tryz.prog gl0 80 [.sl 136 (List.map R136 xs)] (.sl 136 (List.map R136 r)):=by
 have h2:app [] xs=some r:=h
 refine So Tryz.func80 Y fun w0 A=>Tr<|Ra Y<|Za<|Zl<|Zl<|ZE<|Rm Y<|Zb3 (ov Y) ZkH Y fun b hb=>?_
 refine Za<|Zcz Y (fun hb2=>?_) fun hb2=>?_
 ·
  obtain rfl:xs= []:=by simpa using hb hb2
  obtain rfl:r= []:=by simpa [app,apz] using h2.symm
  refine Tr<|Ra Y<|Za<|Zi<|Zu Y<|.one<|.tmp Y<|View.nils _
 ·
  refine Zf<|Tr<|Rx Y (QA (r:=0) (xs:= []) (f:=R136) Y Zgd .nil Y Y Y)<|Rm Y<|Rx Y (JP (ov Y) (JF (ov Y) tZ_136) Zgd Y Y (fun _=>Zd Y) Y h2)<|Ra Y<|Za<|Zi<|Zu Y<|.one<|.tmp Y<|View.ownM Y Y D136
theorem Zc5{p:api_Panel}{r:api_Panel}(h:Xc p=some r):
 CSpec Tryz.prog gl0 38 [.agg [.sl 49 (List.map R49 p.Instruments)]] (.agg [.sl 49 (List.map R49 r.Instruments)]):=by
 unfold Xc at h
 replace h:=ZM h
 refine So Tryz.func38 Y fun w0 A=>Tr<|Rq Y (Z0 (cva<|ov Y) Y tZ_24 Y)<|Rx Y (ZO (row:= [_]) 0 Y Zkz Y tZ_24)<|Za<|K2 1 2 Y<|Tr<|Rq Y (Zg (ov Y) ZaN)<|Rq Y (Zb (ov Y) Zem Y)<|bE h fun y h_y h=>Rx Y (ZS [] (Zf9 h_y) (.cons (ov Y) (.dat Y) .nil) .nil Y (.keep Y Y<|.lent 0 (.inr ⟨Nat.le_of_ble_eq_true Y,Y⟩) Y (roM D49) .nil) Y Y<|.own _<|.inr ⟨Nat.le_of_ble_eq_true Y,Y⟩)<|Rq Y (Zb0 (ys:= [_]) Zk8 Zk5 Zkz (.cons (cvs (ov Y)<|Qp Y) .nil) Y)<|Rx Y (ZO (row:= [_]) 2 Y Zkz Y tZ_24)<|Rx Y (Zj (ov Y) (ov Y) (Zv Zdg Y) Y Y Y (Nat.le_of_ble_eq_true Y) (Zd Y) Y)<|Za<|I1 (fun Instruments=>⟨[(2,.ptr 0 1 0 0),(3,.ptr 1 1 0 0)],[some ⟨24,[[.nils]]⟩,some ⟨24,[[.own 2 Instruments.length]]⟩,some ⟨49,List.map R49 Instruments⟩]⟩) h (fun h=>?_) fun Instruments h=>?_
 ·
  refine K2 2 3 Y<|Tr<|Rq Y (Zc (ov Y) Y Y ZaN)<|Rq Y (Zm (ov Y) Y Y Y Zem Y)<|Rq Y (Zcl (ov Y) Y Y Zcq)<|Rm Y<|Za<|Zk<|?_
  obtain⟨r1,hl1,ho1⟩:=XB h
  refine L2 (fun Instruments2 i=>⟨[(2,.ptr 0 1 0 0),(3,.ptr 1 1 0 0),(11,.int .i64 (y.length:Int)),(12,.int .i64 i)],[some ⟨24,[[.nils]]⟩,some ⟨24,[[.own 2 Instruments2.length]]⟩,some ⟨49,List.map R49 Instruments2⟩]⟩) hl1 (ES [some 0,some 2,some 1]) fun n1 Instruments2 i h=>?_
  unfold QC at h
  refine Tr<|R2 ZU Y<|Za<|Zl<|If h Y (fun h=>?_) fun h=>?_
  ·
   exact Zf<|Zl<|Zk<|K4 2 3 11 12 Y<|Tr<|Rm Y<|Ra Y<|Za<|K5 2 3 4 11 12 Y<|Zbh (cw:=md0) (by kernel_rfl)<|Dq 0 Y (Zc (ov Y) Y Y ZaN)<|Dq 1 Y (Zm (ov Y) Y Y Y Zem Y)<|D1 2 Ze Y<|Dq 3 Y (Zc (ov Y) Y Y ZaN)<|Dq 4 Y (Zm (ov Y) Y Y Y Zem Y)<|D1 5 Ze Y<|bE h fun x h_x h=>Dq 6 Y (Zbu (ov Y) (ov Y) Zcq Y Y h_x)<|Dq 7 Y (XX (ov Y) Y Y Zdk)<|Dq 8 Y (Zcs (ov Y) Y Y h_x Zhe Y)<|bE h fun y2 h_y2 h=>Dq 9 Y (Zo (ZgS h_y2)<|.cons (ov Y) (.b Y) .nil)<|bE h fun x2 h_x2 h=>Dq 10 Y (Zbu (ov Y) (ov Y) Zcq Y Y h_x2)<|Dq 11 Y (XX (ov Y) Y Y Zdk)<|Do 12 Y (ZbP (u':=(api_Instrument.mk x2.Kind x2.Name x2.Track x2.Places x2.Low x2.High x2.Steps y2 x2.Op x2.N x2.Latch x2.Size)) (ov Y) (ov Y) (Zn Zhe) Y Y h_x2 Y (Zd Y) Y)<|Dd<|K4 2 3 11 12 Y<|ZE<|R2 Q4 Y<|Rm Y<|Za<|⟨_,h,ES [some 0,some 1,some 2] (hhp:= .cons Y (ro1 (by exact tZ_24.symm)<|rld Y)<|.cons Y (ro1 (by exact tZ_24.symm)<|rlc (Zi8 (Eq.symm<|(List.length_set ..).trans Y) Y) rln)<|.cons Y (roM D49) .nil)⟩
  ·
   refine ZL<|?_
   replace h:=lx h▸ho1
   exact⟨_,h,ES [some 0,some 1,some 2]⟩
 ·
  refine Tr<|Rq Y (ZY (ov Y) Y Y Y Zdg Y Y)<|Rx Y (Zj (ov Y) (ov Y) (Zv Zdg Y) Y Y Y (Nat.le_of_ble_eq_true Y) (Zd Y) Y)<|Za<|?_
  obtain rfl:=rt h
  exact Zi (Zu Y (.one<|.agg Y Y Y Y Zdg Y Y<|.cons (View.ownM Y Y D49) .nil))
theorem Zgp{xs r:List api_Track}(h:ZaJ xs=some r):
 GSpec Tryz.prog gl0 81 [.sl 54 (List.map R54 xs)] [] (.own 0 r.length) [some ⟨54,List.map R54 r⟩]:=by
 have h2:app [] xs=some r:=h
 refine Qs (by kernel_rfl) Tryz.func81 Y Y<|?_
 intro w0 A W φ0
 refine Tr<|Ra Y<|Za<|Zl<|Zl<|ZE<|Rm Y<|Zb3 (ov Y) Zkh Y fun b hb=>?_
 refine Za<|Zcz Y (fun hb2=>?_) fun hb2=>?_
 ·
  obtain rfl:xs= []:=by simpa using hb hb2
  obtain rfl:r= []:=by simpa [app,apz] using h2.symm
  exact Tr<|Ra Y<|Za<|Zi<|Zbe [none] Y (.cons (.tmp Y) .nil) (.row 54 .nil) Y Y<|.row Y
 ·
  exact Zf<|Tr<|Rx Y (QA (r:=0) (xs:= []) (f:=R54) Y ZdN .nil Y Y Y)<|Rm Y<|Rx Y (JP (ov Y) (JF (ov Y) tZ_54) ZdN Y Y (fun _=>Zd Y) Y h2)<|Ra Y<|Za<|Zi<|Zbe [some 0] Y (.cons (.tmp Y) .nil) (.cons Y (roM D54) .nil) Y Y<|.own _ Y
theorem Zha{xs r:List api_Sample}(h:ZaJ xs=some r):
 CSpec Tryz.prog gl0 82 [.sl 56 (List.map R56 xs)] (.sl 56 (List.map R56 r)):=by
 have h2:app [] xs=some r:=h
 refine So Tryz.func82 Y fun w0 A=>Tr<|Ra Y<|Za<|Zl<|Zl<|ZE<|Rm Y<|Zb3 (ov Y) Zkq Y fun b hb=>?_
 refine Za<|Zcz Y (fun hb2=>?_) fun hb2=>?_
 ·
  obtain rfl:xs= []:=by simpa using hb hb2
  obtain rfl:r= []:=by simpa [app,apz] using h2.symm
  refine Tr<|Ra Y<|Za<|Zi<|Zu Y<|.one<|.tmp Y<|View.nils _
 ·
  refine Zf<|Tr<|Rx Y (QA (r:=0) (xs:= []) (f:=R56) Y Zev .nil Y Y Y)<|Rm Y<|Rx Y (JP (ov Y) (JF (ov Y) tZ_56) Zev Y Y (fun _=>Zd Y) Y h2)<|Ra Y<|Za<|Zi<|Zu Y<|.one<|.tmp Y<|View.ownM Y Y D56
theorem ZcM{l:List api_Track}{r:(List api_Track)}(h:QY l=some r):
 CSpec Tryz.prog gl0 39 [.sl 54 (List.map R54 l)] (.sl 54 (List.map R54 r)):=by
 unfold QY at h
 replace h:=ZM h
 refine So Tryz.func39 Y fun w0 A=>Tr<|Ra Y<|Za<|K1 0 Y<|Tr<|Rm Y<|bE h fun y h_y h=>Rx Y (ZS [] (Zgp h_y) (.cons (ov Y) (.dat Y) .nil) .nil Y (.lent 0 (.inr ⟨Nat.le_of_ble_eq_true Y,Y⟩) Y (roM D54) .nil) Y Y<|.own _<|.inr ⟨Nat.le_of_ble_eq_true Y,Y⟩)<|Ra Y<|Za<|I1 (fun out=>⟨[(3,.own 0 out.length)],[some ⟨54,List.map R54 out⟩]⟩) h (fun h=>?_) fun out h=>?_
 ·
  refine K1 3 Y<|Tr<|Rm Y<|Rq Y (Zcl (ov Y) Y Y ZdN)<|Rm Y<|Za<|Zk<|?_
  obtain⟨r1,hl1,ho1⟩:=XB h
  refine L2 (fun out2 i=>⟨[(3,.own 0 out2.length),(8,.int .i64 (y.length:Int)),(9,.int .i64 i)],[some ⟨54,List.map R54 out2⟩]⟩) hl1 (ES [some 0]) fun n1 out2 i h=>?_
  unfold Qv at h
  refine Tr<|R2 ZU Y<|Za<|Zl<|If h Y (fun h=>?_) fun h=>?_
  ·
   exact Zf<|Zl<|Zk<|K3 3 8 9 Y<|Tr<|Rm Y<|Ra Y<|Za<|K4 3 4 8 9 Y<|ZE<|Rm Y<|Rm Y<|Rm Y<|Rm Y<|bE h fun x h_x h=>Rq Y (Zbu (ov Y) (ov Y) ZdN Y Y h_x)<|Rq Y (XX (ov Y) Y Y ZeV)<|Rq Y (XX (ov Y) Y Y Zb8)<|Rq Y (Zcs (ov Y) Y Y h_x Zgf Y)<|bE h fun y2 h_y2 h=>Rq Y (Zo (Zha h_y2)<|.cons (ov Y) (.b Y) .nil)<|bE h fun x2 h_x2 h=>Rq Y (Zbu (ov Y) (ov Y) ZdN Y Y h_x2)<|Rq Y (XX (ov Y) Y Y ZeV)<|Rq Y (XX (ov Y) Y Y Zb8)<|Rx Y (ZbP (u':=(api_Track.mk x2.Name (api_Series.mk x2.Series.Den y2) x2.Long)) (ov Y) (ov Y) (Zn Zgf) Y Y h_x2 Y (Zd Y) Y)<|Za<|K3 3 8 9 Y<|ZE<|R2 Q4 Y<|Rm Y<|Za<|⟨_,h,ES [some 0]<|sr 3 Y (Zi8 (Eq.symm<|(List.length_set ..).trans Y) Y)<|sd 8 Y Y<|sd 9 Y Y sn⟩
  ·
   refine ZL<|?_
   replace h:=lx h▸ho1
   exact⟨_,h,ES [some 0]⟩
 ·
  refine Tr<|Rm Y<|Ra Y<|Za<|?_
  obtain rfl:=rt h
  exact Zi (Zu Y (.one<|.tmp Y<|View.ownM Y Y D54))
theorem ZeU{p:api_Panel}{r:api_PanelState}(h:QV p=some r):
 CSpec Tryz.prog gl0 40 [.agg [.sl 49 (List.map R49 p.Instruments)]] (.agg [.int .i64 r.Frame,.sl 99 (List.map R99 r.Memos)]):=by
 unfold QV at h
 replace h:=ZM h
 refine So Tryz.func40 Y fun w0 A=>Tr<|Rq Y (Z0 (cva<|ov Y) Y tZ_24 Y)<|Rx Y (ZO (row:= [_,_]) 0 Y ZeS Y tZ_44)<|Za<|K2 1 2 Y<|Tr<|Rq Y (Zg (ov Y) ZaN)<|Rq Y (Zb (ov Y) Zem Y)<|Rl tZ_49 Zcq Y<|bE h fun l h_l h=>Rx Y (Zgn [none,none,none,none,some 3] (r:=1) (f:=R99) (z0:=(api_Memo.mk false false 0 0 [])) Y (ov Y) (ov Y) ZbX Y Zh6 Y Y h_l)<|Rq Y (Zb0 (ys:= [_,_]) Zio Zix ZeS (.cons (cvs (ov Y)<|Qp Y)<|.cons (cvs (ov Y)<|Qp Y) .nil) Y)<|Rx Y (Zj (ov Y) (ov Y) (Zv X8 Y) Y Y Y (Nat.le_of_ble_eq_true Y) (Zd Y) Y)<|Za<|?_
 obtain rfl:=rt h
 exact Zi (Zu Y (.one<|.agg Y Y Y Y X8 Y Y<|.cons (Dat.view<|.b Y)<|.cons (View.ownM Y Y D99) .nil))
theorem ZcA{p:api_Panel}{l:List api_Track}{keep:Int}{r:(Int) ⊕ (panel_Replay×Int)}(h:QZ p l keep=some r):
 GSpec Tryz.prog gl0 8 [.agg [.sl 49 (List.map R49 p.Instruments)],.sl 54 (List.map R54 l),.int .i64 keep] [] (Sum.elim (fun r=> .tuple [.lit (.pointer none),.int .i64 r]) (fun r=> .tuple [.ptr 0 1 0 0,.int .i64 r.2]) r) (Sum.elim (fun r=> []) (fun r=> [some ⟨91,[[.sl 49 (List.map R49 r.1.p.Instruments),.sl 54 (List.map R54 r.1.l),.int .i64 r.1.keep,.int .i64 r.1.state.Frame,.sl 99 (List.map R99 r.1.state.Memos),.own 1 r.1.kept.length,.own 2 r.1.marks.length]]⟩,some ⟨44,List.map R44 r.1.kept⟩,some ⟨120,List.map R120 r.1.marks⟩]) r):=by
 unfold QZ at h
 replace h:=ZM h
 refine Qs (by kernel_rfl) Tryz.func8 Y Y<|?_
 intro w0 A W φ0
 refine Tr<|Rq Y (Z0 (cva<|ov Y) Y tZ_24 Y)<|Ra Y<|Ra Y<|Za<|Zl<|K3 1 2 3 Y<|Tr<|Rq Y (Zy (ov Y) Zdg Y Y)<|Rm Y<|bE h fun y h_y h=>Rq Y (Zo (Zc4 h_y)<|.cons (ov Y) (.aggB Y)<|.cons (ov Y) (.b Y) .nil)<|Ra Y<|Za<|K4 1 2 3 8 Y<|Tr<|Rm Y<|R2 Qw Y<|Za<|K5 1 2 3 8 13 Y<|If h Y (fun h=>?_) fun h=>?_
 ·
  refine K1 8 Y<|Tr<|Rm Y<|Ra Y<|Ra Y<|Za<|?_
  obtain rfl:=rt h
  exact Zi<|Zbe [] Y (.cons (.tmp Y)<|.cons (.tmp Y) .nil) .nil Y Y<|Jw<|rlc (.dat Y)<|rlc (.dat Y) rln
 ·
  refine Zf<|Zl<|K3 1 2 3 Y<|Tr<|Rm Y<|bE h fun y2 h_y2 h=>Rq Y (Zo (Z3 h_y2)<|.cons (ov Y) (.b Y)<|.cons (ov Y) (.b Y)<|.cons (ov Y) (.b Y) .nil)<|R1 Qz Y<|Za<|K4 1 2 3 17 Y<|If h Y (fun h=>?_) fun h=>?_
  ·
   refine K0<|Tr<|Ra Y<|Ra Y<|Za<|?_
   obtain rfl:=rt h
   exact Zi<|Zbe [] Y (.cons (.tmp Y)<|.cons (.tmp Y) .nil) .nil Y Y<|Jw<|rlc (.dat Y)<|rlc (.dat Y) rln
  ·
   refine Zf<|K3 1 2 3 Y<|Td md0<|Dq 0 Y (Zy (ov Y) Zdg Y Y)<|bE h fun y3 h_y3 h=>Dq 1 Y (Zo (Zc5 h_y3)<|.cons (ov Y) (.aggB Y) .nil)<|D1 2 Ze Y<|bE h fun y4 h_y4 h=>Dq 3 Y (Zo (ZcM h_y4)<|.cons (ov Y) (.b Y) .nil)<|D1 4 Ze Y<|Dq 5 Y (Zy (ov Y) Zdg Y Y)<|bE h fun y5 h_y5 h=>Dq 6 Y (Zo (ZeU h_y5)<|.cons (ov Y) (.aggB Y) .nil)<|Dq 7 Y (Zb0 (ys:= [_,_,_,_,_,_,_]) Zld ZkT Zlu (.cons (cva<|ov Y)<|.cons (cvs (ov Y)<|Qp Y)<|.cons (cvs (ov Y)<|Qp Y)<|.cons (cva<|ov Y) .nil) Y)<|Zi0 8 _ _ Y (by kernel_rfl) Y Y (fun _=>Ext.app) (fun h=>by cases h) (ZhM 0 Y (ov Y) Zls Y)<|D1 9 Ji Y<|D1 10 Ji Y<|Dd<|?_
   obtain rfl:=rt h
   exact Zi<|Zbe [some 0,none,none] Y (.cons (.tmp Y)<|.cons (.tmp Y) .nil) (.cons Y (ro1 (by exact tZ_91.symm)<|rlc (.dat Y)<|rlc (.dat Y)<|rlc (.dat Y)<|rlc (.dat Y)<|rlc (.dat Y)<|rlc (.row Y)<|rlc (.row Y) rln)<|.row 44<|.row 120 .nil) Y Y<|Jw<|rlc (.ptr _ _ _ Y)<|rlc (.dat Y) rln
theorem JI{p:api_Panel}{l:List api_Track}{keep:Int}{r:Int}(h:QZ p l keep=some (.inl r)):
    GSpec Tryz.prog gl0 8 [.agg [.sl 49 (List.map R49 p.Instruments)],.sl 54 (List.map R54 l),.int .i64 keep] [] (.tuple [.lit (.pointer none),.int .i64 r]) []:=ZcA h
theorem JG{p:api_Panel}{l:List api_Track}{keep:Int}{r:panel_Replay×Int}(h:QZ p l keep=some (.inr r)):
    GSpec Tryz.prog gl0 8 [.agg [.sl 49 (List.map R49 p.Instruments)],.sl 54 (List.map R54 l),.int .i64 keep] [] (.tuple [.ptr 0 1 0 0,.int .i64 r.2]) [some ⟨91,[[.sl 49 (List.map R49 r.1.p.Instruments),.sl 54 (List.map R54 r.1.l),.int .i64 r.1.keep,.int .i64 r.1.state.Frame,.sl 99 (List.map R99 r.1.state.Memos),.own 1 r.1.kept.length,.own 2 r.1.marks.length]]⟩,some ⟨44,List.map R44 r.1.kept⟩,some ⟨120,List.map R120 r.1.marks⟩]:=ZcA h
theorem ZdI{p:api_Panel}{r:api_PanelState}(h:QV p=some r):
 GSpec Tryz.prog gl0 40 [.agg [.sl 49 (List.map R49 p.Instruments)]] [] (.agg [.int .i64 r.Frame,.own 0 r.Memos.length]) [some ⟨99,List.map R99 r.Memos⟩]:=by
 unfold QV at h
 replace h:=ZM h
 refine Qs (by kernel_rfl) Tryz.func40 Y Y<|?_
 intro w0 A W φ0
 refine Tr<|Rq Y (Z0 (cva<|ov Y) Y tZ_24 Y)<|Rx Y (ZO (row:= [_,_]) 0 Y ZeS Y tZ_44)<|Za<|K2 1 2 Y<|Tr<|Rq Y (Zg (ov Y) ZaN)<|Rq Y (Zb (ov Y) Zem Y)<|Rl tZ_49 Zcq Y<|bE h fun l h_l h=>Rx Y (Zgn [none,none,none,none,some 3] (r:=1) (f:=R99) (z0:=(api_Memo.mk false false 0 0 [])) Y (ov Y) (ov Y) ZbX Y Zh6 Y Y h_l)<|Rq Y (Zb0 (ys:= [_,_]) Zio Zix ZeS (.cons (cvs (ov Y)<|Qp Y)<|.cons (cvs (ov Y)<|Qp Y) .nil) Y)<|Rx Y (Zj (ov Y) (ov Y) (Zv X8 Y) Y Y Y (Nat.le_of_ble_eq_true Y) (Zd Y) Y)<|Za<|?_
 obtain rfl:=rt h
 exact Zi<|Zbe [some 1] Y (.cons (.agg Y Y Y Y X8 Y Y) .nil) (.cons Y (roM D99) .nil) Y Y<|ZaH<|rlc (.dat Y)<|rlc (.own _ Y) rln
theorem ZP{x:List api_PanelState}{target:Int}{cmp:api_PanelState→Int→Option Int}{r:Int×Bool}{cmp_f:FuncId}{cmp_c:List AV}(cmp_d:cmp_c.all datB=true)(cmp_h: ∀ (z0:api_PanelState) (z1:Int) z,cmp z0 z1=some z→CSpec Tryz.prog gl0 cmp_f ([.agg [.int .i64 z0.Frame,.sl 99 (List.map R99 z0.Memos)],.int .i64 z1]++cmp_c) (.int .i64 z))(h:ZB x target cmp=some r):
 CSpec Tryz.prog gl0 85 [.sl 44 (List.map R44 x),.int .i64 target,.fn cmp_f cmp_c] (.tuple [.int .i64 r.1,.bool r.2]):=by
 unfold ZB at h
 replace h:=ZM h
 refine So Tryz.func85 Y fun w0 A=>Tr<|Ra Y<|Ra Y<|Za<|K3 0 1 2 Y<|Tr<|Rm Y<|Rl tZ_44 Xo Y<|Ra Y<|Za<|K4 0 1 2 8 Y<|Tr<|Rm Y<|Ra Y<|Ra Y<|Za<|I1 (fun i=>⟨[(0,.sl 44 (List.map R44 x)),(1,.int .i64 target),(2,.fn cmp_f cmp_c),(8,.int .i64 (x.length:Int)),(9,.int .i64 i)],[]⟩) h (fun h=>?_) fun i h=>?_
 ·
  refine Zk<|?_
  obtain⟨r1,hl1,ho1⟩:=XB h
  refine L2 (fun i2 j=>⟨[(0,.sl 44 (List.map R44 x)),(1,.int .i64 target),(2,.fn cmp_f cmp_c),(8,.int .i64 (x.length:Int)),(9,.int .i64 i2),(10,.int .i64 j)],[]⟩) hl1 (ES []<|sd 0 Y Y<|sd 1 Y Y<|sr 2 Y (rFn<|rld cmp_d)<|sd 8 Y Y<|sd 9 Y Y<|sd 10 Y Y sn) fun n1 i2 j h=>?_
  unfold Zs at h
  refine Zl<|Tr<|Rm Y<|Rm Y<|R2 ZU Y<|Za<|K7 0 1 2 8 9 10 17 Y<|If h Y (fun h=>?_) fun h=>?_
  ·
   refine Zf<|Zk<|K6 0 1 2 8 9 10 Y<|Tr<|Rm Y<|Rm Y<|R2 Q4 Y<|Rq Y (Zby (ov Y) tI3 ZhD Y)<|bE h fun q h_q h=>Rq Y (Zd3 (ov Y) (ov Y) h_q)<|Rq Y (Zby (ov Y) ZhD tI3 Y)<|Ra Y<|Za<|K7 0 1 2 8 9 10 11 Y<|Tr<|Rm Y<|Rm Y<|Rm Y<|bE h fun x2 h_x2 h=>Rq Y (Qa (ov Y) (ov Y) Xo h_x2)<|Rq Y (Zy (ov Y) X8 Y Y)<|Rm Y<|bE h fun y h_y h=>Rq Y (Zad (ov Y) cmp_d (cmp_h _ _ _ h_y)<|.cons (ov Y) (.aggB Y)<|.cons (ov Y) (.b Y) .nil)<|R2 ZU Y<|Za<|K8 0 1 2 8 9 10 11 31 Y<|If h Y (fun h=>?_) fun h=>?_
   ·
    exact K7 0 1 2 8 9 10 11 Y<|ZE<|Rm Y<|R2 Q4 Y<|Ra Y<|Za<|⟨_,h,ES []<|sd 0 Y Y<|sd 1 Y Y<|sr 2 Y (rFn<|rld cmp_d)<|sd 8 Y Y<|sd 9 Y Y<|sd 10 Y Y sn⟩
   ·
    exact K7 0 1 2 8 9 10 11 Y<|ZE<|Rm Y<|Ra Y<|Za<|⟨_,h,ES []<|sd 0 Y Y<|sd 1 Y Y<|sr 2 Y (rFn<|rld cmp_d)<|sd 8 Y Y<|sd 9 Y Y<|sd 10 Y Y sn⟩
  ·
   refine ZL<|?_
   replace h:=lx h▸ho1
   exact⟨_,h,ES []<|sd 0 Y Y<|sd 1 Y Y<|sr 2 Y (rFn<|rld cmp_d)<|sd 8 Y Y<|sd 9 Y Y sn⟩
 ·
  refine Tr<|Rm Y<|Rm Y<|Rm Y<|R2 ZU Y<|Rm Y<|Rq Y (.guarded ((decide (i<(x.length:Int)))==true) Y Y Y Y fun h=>Ze<|ov Y)<|Rq Y (.guarded ((decide (i<(x.length:Int)))==true) Y Y Y Y fun h=>Ze<|ov Y)<|Rq Y (.guarded ((decide (i<(x.length:Int)))==true) Y Y Y Y fun h=>Ze<|ov Y)<|bE h fun x3 h_x3 h=>Rq Y (.guarded ((decide (i<(x.length:Int)))==true) Y Y Y Y fun h=>Qa (ow Y h) (ow Y h) Xo<|gdT h_x3 h)<|Rq Y (.guarded ((decide (i<(x.length:Int)))==true) Y Y Y Y fun h=>Zy (ow Y h) X8 Y Y)<|Rq Y (.guarded ((decide (i<(x.length:Int)))==true) Y Y Y Y fun h=>Ze<|ov Y)<|bE h fun y2 h_y2 h=>Rq Y (.guarded ((decide (i<(x.length:Int)))==true) Y Y Y Y fun h=>Zad (ow Y h) cmp_d (cmp_h _ _ _<|gdT h_y2 h)<|.cons (ow Y h) (.aggB Y)<|.cons (ow Y h) (.b Y) .nil)<|Rq Y (.guarded ((decide (i<(x.length:Int)))==true) Y Y Y Y fun h=>Qq (ow Y h)<|ov Y)<|Rq Y (Qh (ov Y) fun hp=>ow Y<|gT hp)<|Ra Y<|Ra Y<|Za<|?_
  obtain rfl:=rt h
  exact Zi (Zu Y (.two (rb Y)<|rb Y))
theorem Jy{s:api_PanelState}{frame:Int}{r:Int}(h:Qg s frame=some r):
 CSpec Tryz.prog gl0 86 [.agg [.int .i64 s.Frame,.sl 99 (List.map R99 s.Memos)],.int .i64 frame] (.int .i64 r):=by
 unfold Qg at h
 replace h:=ZM h
 refine So Tryz.func86 Y fun w0 A=>Tr<|Rq Y (Z0 (cva<|ov Y) Y tZ_44 Y)<|Ra Y<|Za<|K3 1 2 4 Y<|Tr<|Rq Y (Zg (ov Y) X6)<|Rq Y (Zb (ov Y) tS3 Y)<|Rm Y<|R2 Zbk Y<|Ra Y<|Za<|?_
 obtain rfl:=rt h
 exact Zi (Zu Y (.one<|rb Y))
theorem Zdq{xs r:List api_Memo}(h:ZaJ xs=some r):
 GSpec Tryz.prog gl0 83 [.sl 99 (List.map R99 xs)] [] (.own 0 r.length) [some ⟨99,List.map R99 r⟩]:=by
 have h2:app [] xs=some r:=h
 refine Qs (by kernel_rfl) Tryz.func83 Y Y<|?_
 intro w0 A W φ0
 refine Tr<|Ra Y<|Za<|Zl<|Zl<|ZE<|Rm Y<|Zb3 (ov Y) Zkx Y fun b hb=>?_
 refine Za<|Zcz Y (fun hb2=>?_) fun hb2=>?_
 ·
  obtain rfl:xs= []:=by simpa using hb hb2
  obtain rfl:r= []:=by simpa [app,apz] using h2.symm
  exact Tr<|Ra Y<|Za<|Zi<|Zbe [none] Y (.cons (.tmp Y) .nil) (.row 99 .nil) Y Y<|.row Y
 ·
  exact Zf<|Tr<|Rx Y (QA (r:=0) (xs:= []) (f:=R99) Y ZbX .nil Y Y Y)<|Rm Y<|Rx Y (JP (ov Y) (JF (ov Y) tZ_99) ZbX Y Y (fun _=>Zd Y) Y h2)<|Ra Y<|Za<|Zi<|Zbe [some 0] Y (.cons (.tmp Y) .nil) (.cons Y (roM D99) .nil) Y Y<|.own _ Y
theorem ZfO{xs r:List Int}(h:ZaJ xs=some r):
 CSpec Tryz.prog gl0 84 [.sl 3 (List.map R3 xs)] (.sl 3 (List.map R3 r)):=by
 have h2:app [] xs=some r:=h
 refine So Tryz.func84 Y fun w0 A=>Tr<|Ra Y<|Za<|Zl<|Zl<|ZE<|Rm Y<|Zb3 (ov Y) Zja Y fun b hb=>?_
 refine Za<|Zcz Y (fun hb2=>?_) fun hb2=>?_
 ·
  obtain rfl:xs= []:=by simpa using hb hb2
  obtain rfl:r= []:=by simpa [app,apz] using h2.symm
  refine Tr<|Ra Y<|Za<|Zi<|Zu Y<|.one<|.tmp Y<|View.nils _
 ·
  refine Zf<|Tr<|Rx Y (QA (r:=0) (xs:= []) (f:=R3) Y XM .nil Y Y Y)<|Rm Y<|Rx Y (JP (ov Y) (JF (ov Y) tZ_3) XM Y Y (fun _=>Zd Y) Y h2)<|Ra Y<|Za<|Zi<|Zu Y<|.one<|.tmp Y<|View.ownM Y Y D3
theorem Zcp{s:api_PanelState}{r:api_PanelState}(h:Z2 s=some r):
 GSpec Tryz.prog gl0 42 [.agg [.int .i64 s.Frame,.sl 99 (List.map R99 s.Memos)]] [] (.agg [.int .i64 r.Frame,.own 0 r.Memos.length]) [some ⟨99,List.map R99 r.Memos⟩]:=by
 unfold Z2 at h
 replace h:=ZM h
 refine Qs (by kernel_rfl) Tryz.func42 Y Y<|?_
 intro w0 A W φ0
 refine Tr<|Rx Y (ZhM 0 Y (ov Y) X8 Y)<|Rx Y (ZO (row:= [_,_]) 1 Y ZeS Y tZ_44)<|Za<|K2 1 2 Y<|Tr<|Rq Y (Zc (ov Y) Y Y X0)<|Rq Y (Zm (ov Y) Y Y Y Zcf Y)<|bE h fun y h_y h=>Rx Y (ZS [] (Zdq h_y) (.cons (ov Y) (.dat Y) .nil) .nil Y (.keep Y Y<|.keep Y Y<|.lent 0 (.inr ⟨Nat.le_of_ble_eq_true Y,Y⟩) Y (roM D99) .nil) Y Y<|.own _<|.inr ⟨Nat.le_of_ble_eq_true Y,Y⟩)<|Rq Y (Zc (ov Y) Y Y X0)<|Rx Y (Zj (ov Y) (ov Y) (Zn Zcf) Y Y Y (Nat.le_of_ble_eq_true Y) (Zd Y) Y)<|Za<|I1 (fun Memos=>⟨[(1,.ptr 0 1 0 0),(2,.ptr 2 1 0 0)],[some ⟨44,[[.int .i64 s.Frame,.own 1 Memos.length]]⟩,some ⟨99,List.map R99 Memos⟩,some ⟨44,[[.int .i64 0,.nils]]⟩]⟩) h (fun h=>?_) fun Memos h=>?_
 ·
  refine K2 1 2 Y<|Tr<|Rq Y (Zc (ov Y) Y Y X0)<|Rq Y (Zm (ov Y) Y Y Y Zcf Y)<|Rq Y (Zcl (ov Y) Y Y ZbX)<|Rm Y<|Za<|Zk<|?_
  obtain⟨r1,hl1,ho1⟩:=XB h
  refine L2 (fun Memos2 i=>⟨[(1,.ptr 0 1 0 0),(2,.ptr 2 1 0 0),(10,.int .i64 (y.length:Int)),(11,.int .i64 i)],[some ⟨44,[[.int .i64 s.Frame,.own 1 Memos2.length]]⟩,some ⟨99,List.map R99 Memos2⟩,some ⟨44,[[.int .i64 0,.nils]]⟩]⟩) hl1 (ES [some 0,some 2,some 1]) fun n1 Memos2 i h=>?_
  unfold Qi at h
  refine Tr<|R2 ZU Y<|Za<|Zl<|If h Y (fun h=>?_) fun h=>?_
  ·
   exact Zf<|Zl<|Zk<|K4 1 2 10 11 Y<|Tr<|Rm Y<|Ra Y<|Za<|K5 1 2 3 10 11 Y<|Zbh (cw:=md0) (by kernel_rfl)<|Dq 0 Y (Zc (ov Y) Y Y X0)<|Dq 1 Y (Zm (ov Y) Y Y Y Zcf Y)<|D1 2 Ze Y<|Dq 3 Y (Zc (ov Y) Y Y X0)<|Dq 4 Y (Zm (ov Y) Y Y Y Zcf Y)<|D1 5 Ze Y<|bE h fun x h_x h=>Dq 6 Y (Zbu (ov Y) (ov Y) ZbX Y Y h_x)<|Dq 7 Y (XX (ov Y) Y Y Zbf)<|Dq 8 Y (Zcs (ov Y) Y Y h_x Zfg Y)<|bE h fun y2 h_y2 h=>Dq 9 Y (Zo (ZfO h_y2)<|.cons (ov Y) (.b Y) .nil)<|bE h fun x2 h_x2 h=>Dq 10 Y (Zbu (ov Y) (ov Y) ZbX Y Y h_x2)<|Dq 11 Y (XX (ov Y) Y Y Zbf)<|Do 12 Y (ZbP (u':=(api_Memo.mk x2.Lit x2.Some x2.N x2.Count y2)) (ov Y) (ov Y) (Zn Zfg) Y Y h_x2 Y (Zd Y) Y)<|Dd<|K4 1 2 10 11 Y<|ZE<|R2 Q4 Y<|Rm Y<|Za<|⟨_,h,ES [some 0,some 1,some 2] (hhp:= .cons Y (ro1 (by exact tZ_44.symm)<|rlc (.dat Y)<|rlc (Zi8 (Eq.symm<|(List.length_set ..).trans Y) Y) rln)<|.cons Y (roM D99)<|.cons Y (ro1 (by exact tZ_44.symm)<|rld Y) .nil)⟩
  ·
   refine ZL<|?_
   replace h:=lx h▸ho1
   exact⟨_,h,ES [some 0,some 1,some 2]⟩
 ·
  refine Tr<|Rq Y (ZY (ov Y) Y Y Y X8 Y Y)<|Rx Y (Zj (ov Y) (ov Y) (Zv X8 Y) Y Y Y (Nat.le_of_ble_eq_true Y) (Zd Y) Y)<|Za<|?_
  obtain rfl:=rt h
  exact Zi<|Zbe [some 1] Y (.cons (.agg Y Y Y Y X8 Y Y) .nil) (.cons Y (roM D99) .nil) Y Y<|ZaH<|rlc (.dat Y)<|rlc (.own _ Y) rln
theorem Zab{s:api_PanelState}{c0:Int}{c1:api_PanelState}{r:api_PanelState}(h:Qf s c0 c1=some r):
 GSpec Tryz.prog gl0 41 [.agg [.int .i64 s.Frame,.sl 99 (List.map R99 s.Memos)],.rp [.int .i64 c0] 0,.ptr 0 1 0 0] [some ⟨44,[[.int .i64 c1.Frame,.own 1 c1.Memos.length]]⟩,some ⟨99,List.map R99 c1.Memos⟩] (.tuple []) [some ⟨44,[[.int .i64 r.Frame,.own 2 r.Memos.length]]⟩,none,some ⟨99,List.map R99 r.Memos⟩]:=by
 unfold Qf at h
 replace h:=ZM h
 refine Qs (by kernel_rfl) Tryz.func41 Y Y<|?_
 intro w0 A W φ0
 refine Za5 (Ent.sel [some 0,some 1,some 1] (sr 0 Y (ZaH<|rld Y)<|sd 1 Y Y<|sr 2 Y (.ptr (r':=0) _ _ _ Y) sn) (.cons Y (ro1 (by exact tZ_44.symm)<|rlc (.dat Y)<|rlc (.own (r':=2) _ Y) rln)<|.dead<|.cons Y (roM D99) .nil) Y Y)<|Tr<|Rq Y (Z0 (cva<|ov Y) Y tZ_44 Y)<|Za<|K3 1 2 3 Y<|Tr<|Rq Y (Zg (ov Y) X6)<|Rq Y (Zb (ov Y) tS3 Y)<|Rq Y (Zb (ov Y) tS3 Y)<|R2 Zbl Y<|Rm Y<|Rq Y (.guarded ((decide (s.Frame≤c0))==true) Y Y Y Y fun h=>Zg (ov Y) X6)<|Rq Y (.guarded ((decide (s.Frame≤c0))==true) Y Y Y Y fun h=>Zb (ow Y h) tS3 Y)<|Rq Y (.guarded ((decide (s.Frame≤c0))==true) Y Y Y Y fun h=>Zc (ov Y) Y Y X6)<|Rq Y (.guarded ((decide (s.Frame≤c0))==true) Y Y Y Y fun h=>Zm (ow Y h) Y Y Y tS3 Y)<|Rq Y (.guarded ((decide (s.Frame≤c0))==true) Y Y Y Y fun h=>QN (ow Y h)<|ow Y h)<|Rq Y (Qh (ov Y) fun hp=>ow Y<|gT hp)<|Za<|K3 2 3 14 Y<|If h Y (fun h=>?_) fun h=>?_
 ·
  refine K2 2 3 Y<|ZE<|Rq Y (Zy (ov Y) X8 Y Y)<|bE h fun y h_y h=>Rx Y (ZS [] (Zcp h_y) (.cons (ov Y) (ZaH<|rld Y) .nil) .nil Y (.keep Y Y<|.none<|.keep Y Y<|.lent 0 (.inr ⟨Nat.le_of_ble_eq_true Y,Y⟩) Y (roM D99) .nil) Y Y<|ZaH<|rlc (.dat Y)<|rlc (.own _<|.inr ⟨Nat.le_of_ble_eq_true Y,Y⟩) rln)<|Rx Y (Zj (ov Y) (ov Y) (Zv X8 Y) Y Y Y (Nat.le_of_ble_eq_true Y) (Zd Y) Y)<|Za<|?_
  obtain rfl:=rt h
  exact ZfT [some 0,some 1,some 3] Y .nil (.cons Y (ro1 (by exact tZ_44.symm)<|rlc (.dat Y)<|rlc (.own _ Y) rln)<|.dead<|.cons Y (roM D99) .nil) Y Y<|Jw rln
 ·
  refine Zf<|?_
  obtain rfl:=rt h
  exact ZfT [some 0,some 1,some 2] Y .nil (.cons Y (ro1 (by exact tZ_44.symm)<|rlc (.dat Y)<|rlc (.own _ Y) rln)<|.dead<|.cons Y (roM D99) .nil) Y Y<|Jw rln
theorem Zax{r_:panel_Replay}{frame:Int}{r:Int×Bool}(h:ZQ r_ frame=some r):
 GSpec Tryz.prog gl0 43 [.ptr 0 1 0 0,.int .i64 frame] [some ⟨91,[[.sl 49 (List.map R49 r_.p.Instruments),.sl 54 (List.map R54 r_.l),.int .i64 r_.keep,.int .i64 r_.state.Frame,.sl 99 (List.map R99 r_.state.Memos),.own 1 r_.kept.length,.own 2 r_.marks.length]]⟩,some ⟨44,List.map R44 r_.kept⟩,some ⟨120,List.map R120 r_.marks⟩] (.tuple [.int .i64 r.1,.bool r.2]) [some ⟨91,[[.sl 49 (List.map R49 r_.p.Instruments),.sl 54 (List.map R54 r_.l),.int .i64 r_.keep,.int .i64 r_.state.Frame,.sl 99 (List.map R99 r_.state.Memos),.own 3 r_.kept.length,.own 4 r_.marks.length]]⟩,none,none,some ⟨44,List.map R44 r_.kept⟩,some ⟨120,List.map R120 r_.marks⟩]:=by
 unfold ZQ at h
 replace h:=ZM h
 refine Qs (by kernel_rfl) Tryz.func43 Y Y<|?_
 intro w0 A W φ0
 refine Za5 (Ent.sel [some 0,some 1,some 2,some 1,some 2] (sr 0 Y (.ptr (r':=0) _ _ _ Y)<|sd 1 Y Y sn) (.cons Y (ro1 (by exact tZ_91.symm)<|rlc (.dat Y)<|rlc (.dat Y)<|rlc (.dat Y)<|rlc (.dat Y)<|rlc (.dat Y)<|rlc (.own (r':=3) _ Y)<|rlc (.own (r':=4) _ Y) rln)<|.dead<|.dead<|.cons Y (roM D44)<|.cons Y (roM D120) .nil) Y Y)<|Tr<|Ra Y<|Ra Y<|Za<|Tr<|Rm Y<|Rq Y (Zh (ov Y) Y Y)<|Rq Y (Zc (ov Y) Y Y Z9)<|Rq Y (Zm (ov Y) Y Y Y Xt Y)<|Rm Y<|bE h fun y h_y h=>Rq Y (ZaZ (ZP Y (fun z0 z1 _ hz=>Jy hz) h_y) (.tuple<|by simp only [List.mem_cons,List.not_mem_nil,or_false,forall_eq_or_imp,forall_eq];exact⟨.int,.bool⟩)<|.cons (ov Y) (View.ownM Y Y D44)<|.cons (ov Y) (Dat.view<|.b Y)<|.cons (ov Y) (Dat.view .fn) .nil)<|Rq Y (Zr (ov Y) Y)<|Rq Y (Zr (ov Y) Y)<|Ra Y<|Ra Y<|Za<|?_
 obtain rfl:=rt h
 exact Zi<|Zbe [some 0,some 1,some 2,some 3,some 4] Y (.cons (.tmp Y)<|.cons (.tmp Y) .nil) (.cons Y (ro1 (by exact tZ_91.symm)<|rlc (.dat Y)<|rlc (.dat Y)<|rlc (.dat Y)<|rlc (.dat Y)<|rlc (.dat Y)<|rlc (.own _ Y)<|rlc (.own _ Y) rln)<|.dead<|.dead<|.cons Y (roM D44)<|.cons Y (roM D120) .nil) Y Y<|Jw<|rlc (.dat Y)<|rlc (.dat Y) rln
end Go.Proofs.YtailpehcgelmdaaGreatDoor
