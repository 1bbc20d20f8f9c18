/- A text of the proof: a verified executor of the program form, or the contracts of the functions that the law reaches. -/
import Derived.Test.YtjjknklgafdeiaaGreatDoorOkWb
set_option linter.all false
namespace Go.Proofs.YtjjknklgafdeiaaGreatDoor
open Go Go.Vx
set_option maxRecDepth 10000
set_option maxHeartbeats 1000000
set_option linter.unusedVariables false
theorem Zcg{state:Int}{r:(Vector Int 64)}(h:Jv state=some r):
 CSpec Tryz.prog gl0 41 [.int .i64 state] (.agg (List.map C3 r.toList)):=by
 unfold Jv at h
 replace h:=Qk h
 refine So Tryz.func41 Y fun w0 A=>Tr<|Rx Y (ZP (row:=(List.map C3 (Vector.replicate 64 0).toList)) 0 Y Zs0 Y tZ_50)<|Za<|Tr<|Rx Y (ZP (row:=(List.map C3 (Vector.replicate 64 0).toList)) 1 Y Zs0 Y tZ_50)<|Za<|I1 (fun out=>⟨[(2,.ptr 0 1 0 0),(3,.ptr 1 1 0 0)],[some ⟨50,[(List.map C3 (Vector.replicate 64 0).toList)]⟩,some ⟨50,[(List.map C3 out.toList)]⟩]⟩) h (fun h=>?_) fun out h=>?_
 ·
  refine Tr<|Rm Y<|Za<|Zi<|?_
  obtain⟨r1,hl1,ho1⟩:=QZ h
  refine L2 (fun out2 i=>⟨[(0,.int .i64 state),(2,.ptr 0 1 0 0),(3,.ptr 1 1 0 0),(5,.int .i64 i)],[some ⟨50,[(List.map C3 (Vector.replicate 64 0).toList)]⟩,some ⟨50,[(List.map C3 out2.toList)]⟩]⟩) hl1 (ES [some 0,some 1]) fun n1 out2 i h=>?_
  unfold JM at h
  refine Tr<|R2 ZV Y<|Za<|Zl<|If h Y (fun h=>?_) fun h=>?_
  ·
   exact Zj<|Zl<|Zi<|K4 0 2 3 5 Y<|Tr<|Rm Y<|Ra Y<|Za<|K5 0 2 3 4 5 Y<|Zt<|Rm Y<|Rm Y<|bE h fun x h_x h=>Rq Y (QB (ov Y) (ov Y) ZhK Y Y h_x)<|Rx Y (Zf (ov Y) (ov Y) (Zg tS3) Y Y Y (arB h_x) (Zb Y)<|arS h_x)<|Za<|K4 0 2 3 5 Y<|Zt<|R2 ZX Y<|Rm Y<|Za<|⟨_,h,ES [some 0,some 1]⟩
  ·
   refine ZI<|?_
   replace h:=lx h▸ho1
   exact⟨_,h,ES [some 0,some 1]⟩
 ·
  refine Tr<|Rq Y (ZJ (ov Y) Y Y Y ZmC (Zu<|Zh arL) arL (hns:=(nsM fun _=>Y)))<|Rx Y (Zf (ov Y) (ov Y) (Zp ZmC arL) Y Y Y (ZG (Zh arL) arL) (Zb<|arC fun _=>Y)<|ZO<|Eq.trans arL<|Eq.symm arL)<|Za<|?_
  obtain rfl:=rt h
  exact Zs (ZK Y (.one<|.agg Y Y Y Y ZmC (Zu<|Zh arL) arL (pwB<|arD fun _=>Y) (hns:=(nsM fun _=>Y))))
theorem JD{x:List api_Found}{target:Int}{cmp:api_Found→Int→Option Int}{r:Int×Bool}{cmp_f:FuncId}{cmp_c:List AV}(cmp_d:cmp_c.all datB=true)(cmp_h: ∀ (z0:api_Found) (z1:Int) z,cmp z0 z1=some z→CSpec Tryz.prog gl0 cmp_f ([.agg ((.int .i64 z0.At)::((List.map C35 z0.Frame.toList)++([]))),.int .i64 z1]++cmp_c) (.int .i64 z))(h:Z4 x target cmp=some r):
 CSpec Tryz.prog gl0 90 [.sl 47 (List.map R47 x),.int .i64 target,.fn cmp_f cmp_c] (.tuple [.int .i64 r.1,.bool r.2]):=by
 unfold Z4 at h
 replace h:=Qk h
 refine So Tryz.func90 Y fun w0 A=>Tr<|Ra Y<|Ra Y<|Za<|K3 0 1 2 Y<|Tr<|Rm Y<|Rl tZ_47 Zaw Y<|Ra Y<|Za<|K4 0 1 2 8 Y<|Tr<|Rm Y<|Ra Y<|Ra Y<|Za<|I1 (fun i=>⟨[(0,.sl 47 (List.map R47 x)),(1,.int .i64 target),(2,.fn cmp_f cmp_c),(8,.int .i64 (x.length:Int)),(9,.int .i64 i)],[]⟩) h (fun h=>?_) fun i h=>?_
 ·
  refine Zi<|?_
  obtain⟨r1,hl1,ho1⟩:=QZ h
  refine L2 (fun i2 j=>⟨[(0,.sl 47 (List.map R47 x)),(1,.int .i64 target),(2,.fn cmp_f cmp_c),(8,.int .i64 (x.length:Int)),(9,.int .i64 i2),(10,.int .i64 j)],[]⟩) hl1 (ES []<|sd 0 Y Y<|sd 1 Y Y<|sr 2 Y (rFn<|rld cmp_d)<|sd 8 Y Y<|sd 9 Y Y<|sd 10 Y Y sn) fun n1 i2 j h=>?_
  unfold ZS at h
  refine Zl<|Tr<|Rm Y<|Rm Y<|R2 ZV Y<|Za<|K7 0 1 2 8 9 10 17 Y<|If h Y (fun h=>?_) fun h=>?_
  ·
   refine Zj<|Zi<|K6 0 1 2 8 9 10 Y<|Tr<|Rm Y<|Rm Y<|R2 ZX Y<|Rq Y (Qy (ov Y) tI3 ZjO Y)<|bE h fun q h_q h=>Rq Y (Zbo (ov Y) (ov Y) h_q)<|Rq Y (Qy (ov Y) ZjO tI3 Y)<|Ra Y<|Za<|K7 0 1 2 8 9 10 11 Y<|Tr<|Rm Y<|Rm Y<|Rm Y<|bE h fun x2 h_x2 h=>Rq Y (ZW (ov Y) (ov Y) Zaw h_x2)<|Rq Y (ZU (ov Y) Zf9 (Zu<|Zh Xq) Xq)<|Rm Y<|bE h fun y h_y h=>Rq Y (Zch (ov Y) cmp_d (cmp_h _ _ _ h_y)<|.cons (ov Y) (.aggB Zlm)<|.cons (ov Y) (.b Y) .nil)<|R2 ZV Y<|Za<|K8 0 1 2 8 9 10 11 31 Y<|If h Y (fun h=>?_) fun h=>?_
   ·
    exact K7 0 1 2 8 9 10 11 Y<|Zt<|Rm Y<|R2 ZX Y<|Ra Y<|Za<|⟨_,h,ES []<|sd 0 Y Y<|sd 1 Y Y<|sr 2 Y (rFn<|rld cmp_d)<|sd 8 Y Y<|sd 9 Y Y<|sd 10 Y Y sn⟩
   ·
    exact K7 0 1 2 8 9 10 11 Y<|Zt<|Rm Y<|Ra Y<|Za<|⟨_,h,ES []<|sd 0 Y Y<|sd 1 Y Y<|sr 2 Y (rFn<|rld cmp_d)<|sd 8 Y Y<|sd 9 Y Y<|sd 10 Y Y sn⟩
  ·
   refine ZI<|?_
   replace h:=lx h▸ho1
   exact⟨_,h,ES []<|sd 0 Y Y<|sd 1 Y Y<|sr 2 Y (rFn<|rld cmp_d)<|sd 8 Y Y<|sd 9 Y Y sn⟩
 ·
  refine Tr<|Rm Y<|Rm Y<|Rm Y<|R2 ZV Y<|Rm Y<|Rq Y (.guarded ((decide (i<(x.length:Int)))==true) Y Y Y Y fun h=>Zc<|ov Y)<|Rq Y (.guarded ((decide (i<(x.length:Int)))==true) Y Y Y Y fun h=>Zc<|ov Y)<|Rq Y (.guarded ((decide (i<(x.length:Int)))==true) Y Y Y Y fun h=>Zc<|ov Y)<|bE h fun x3 h_x3 h=>Rq Y (.guarded ((decide (i<(x.length:Int)))==true) Y Y Y Y fun h=>ZW (ow Y h) (ow Y h) Zaw<|gdT h_x3 h)<|Rq Y (.guarded ((decide (i<(x.length:Int)))==true) Y Y Y Y fun h=>ZU (ow Y h) Zf9 (Zu<|Zh Xq) Xq)<|Rq Y (.guarded ((decide (i<(x.length:Int)))==true) Y Y Y Y fun h=>Zc<|ov Y)<|bE h fun y2 h_y2 h=>Rq Y (.guarded ((decide (i<(x.length:Int)))==true) Y Y Y Y fun h=>Zch (ow Y h) cmp_d (cmp_h _ _ _<|gdT h_y2 h)<|.cons (ow Y h) (.aggB Zlm)<|.cons (ow Y h) (.b Y) .nil)<|Rq Y (.guarded ((decide (i<(x.length:Int)))==true) Y Y Y Y fun h=>Q3 (ow Y h)<|ov Y)<|Rq Y (XJ (ov Y) fun hp=>ow Y<|gT hp)<|Ra Y<|Ra Y<|Za<|?_
  obtain rfl:=rt h
  exact Zs (ZK Y (.two (rb Y)<|rb Y))
theorem Zdu{c_:api_Found}{at_:Int}{r:Int}(h:QD c_ at_=some r):
 CSpec Tryz.prog gl0 91 [.agg ((.int .i64 c_.At)::((List.map C35 c_.Frame.toList)++([]))),.int .i64 at_] (.int .i64 r):=by
 unfold QD at h
 replace h:=Qk h
 refine So Tryz.func91 Y fun w0 A=>Tr<|Rq Y (Xh (cva<|ov Y) Xq tZ_47 Zlm)<|Ra Y<|Za<|K3 1 2 4 Y<|Tr<|Rq Y (ZE (ov Y) Xm)<|Rq Y (Zd (ov Y) tS3<|Zn Xo)<|Rm Y<|R2 ZaO Y<|Ra Y<|Za<|?_
 obtain rfl:=rt h
 exact Zs (ZK Y (.one<|rb Y))
theorem Zea{x:salvage_finder}{place:Int}{r:Int}(h:Q4 x place=some r):
 CSpec Tryz.prog gl0 66 [.rp [.sl 5 (List.map R5 x.h_),.sl 47 (List.map R47 x.certain),.sl 3 (List.map R3 x.numbers),.any] 0,.int .i64 place] (.int .i64 r):=by
 unfold Q4 at h
 replace h:=Qk h
 refine So Tryz.func66 Y fun w0 A=>Tr<|Ra Y<|Za<|K2 0 1 Y<|Tr<|Rm Y<|R1 ZD Y<|Rq Y (ZE (ov Y) ZcT)<|Rq Y (Zd (ov Y) Zge Y)<|Rm Y<|bE h fun y h_y h=>Rq Y (Zq (JD Y (fun z0 z1 _ hz=>Zdu hz) h_y)<|.cons (ov Y) (.b Y)<|.cons (ov Y) (.b Y)<|.cons (ov Y) .fn .nil)<|Rm Y<|Rq Y (Zk (ov Y) Y)<|Rq Y (Zk (ov Y) Y)<|Ra Y<|Ra Y<|Za<|Zl<|Zl<|K3 0 1 5 Y<|Qe (cw:=md0) (by kernel_rfl)<|D1 0 Zc Y<|D1 1 Zc Y<|D1 2 ZD Y<|Dq 3 Y (ZE (ov Y) ZcT)<|Dq 4 Y (Zd (ov Y) Zge Y)<|Dq 5 Y (ZfO (ZH (ov Y) tZ_47) Zaw<|Zcs _ _)<|D2 6 Q3 Y<|D1 7 Zc Y<|Dq 8 Y (.guarded ((decide (y.1=(x.certain.length:Int)))==false) Y Y Y Y fun h=>Zc<|ov Y)<|Dq 9 Y (.guarded ((decide (y.1=(x.certain.length:Int)))==false) Y Y Y Y fun h=>ZaL (ow Y h)<|ov Y)<|Dq 10 Y (.guarded ((decide (y.1=(x.certain.length:Int)))==false) Y Y Y Y fun h=>Zc<|ow Y h)<|Dq 11 Y (.guarded2 (((decide (y.1=(x.certain.length:Int)))==false)&&((decide (0<y.1))==true)) Y Y Y Y fun h=>Zc<|ov Y)<|Dq 12 Y (.guarded2 (((decide (y.1=(x.certain.length:Int)))==false)&&((decide (0<y.1))==true)) Y Y Y Y fun h=>Zc<|ov Y)<|Dq 13 Y (.guarded2 (((decide (y.1=(x.certain.length:Int)))==false)&&((decide (0<y.1))==true)) Y Y Y Y fun h=>ZD<|ow Y h)<|Dq 14 Y (.guarded2 (((decide (y.1=(x.certain.length:Int)))==false)&&((decide (0<y.1))==true)) Y Y Y Y fun h=>ZE (ow Y h) ZcT)<|Dq 15 Y (.guarded2 (((decide (y.1=(x.certain.length:Int)))==false)&&((decide (0<y.1))==true)) Y Y Y Y fun h=>Zd (ow Y h) Zge Y)<|Dq 16 Y (.guarded2 (((decide (y.1=(x.certain.length:Int)))==false)&&((decide (0<y.1))==true)) Y Y Y Y fun h=>Zc<|ov Y)<|Dq 17 Y (.guarded2 (((decide (y.1=(x.certain.length:Int)))==false)&&((decide (0<y.1))==true)) Y Y Y Y fun h=>Zdo (ow Y h) (ov Y) Y)<|bE h fun x2 h_x2 h=>Dq 18 Y (.guarded2 (((decide (y.1=(x.certain.length:Int)))==false)&&((decide (0<y.1))==true)) Y Y Y Y fun h=>ZW (ow Y h) (ow Y h) Zaw<|gdT h_x2 h)<|Dq 19 Y (.guarded2 (((decide (y.1=(x.certain.length:Int)))==false)&&((decide (0<y.1))==true)) Y Y Y Y fun h=>ZE (ow Y h) Xm)<|Dq 20 Y (.guarded2 (((decide (y.1=(x.certain.length:Int)))==false)&&((decide (0<y.1))==true)) Y Y Y Y fun h=>Zd (ow Y h) tS3<|Zn Xo)<|Dq 21 Y (.guarded2 (((decide (y.1=(x.certain.length:Int)))==false)&&((decide (0<y.1))==true)) Y Y Y Y fun h=>Zdo (ow Y h) (ow Y h) Y)<|Dq 22 Y (.guarded2 (((decide (y.1=(x.certain.length:Int)))==false)&&((decide (0<y.1))==true)) Y Y Y Y fun h=>Zc<|ov Y)<|Dq 23 Y (.guarded2 (((decide (y.1=(x.certain.length:Int)))==false)&&((decide (0<y.1))==true)) Y Y Y Y fun h=>ZD<|ow Y h)<|Dq 24 Y (.guarded2 (((decide (y.1=(x.certain.length:Int)))==false)&&((decide (0<y.1))==true)) Y Y Y Y fun h=>ZE (ow Y h) ZcT)<|Dq 25 Y (.guarded2 (((decide (y.1=(x.certain.length:Int)))==false)&&((decide (0<y.1))==true)) Y Y Y Y fun h=>Zd (ow Y h) Zge Y)<|Dq 26 Y (.guarded2 (((decide (y.1=(x.certain.length:Int)))==false)&&((decide (0<y.1))==true)) Y Y Y Y fun h=>Zc<|ov Y)<|bE h fun x3 h_x3 h=>Dq 27 Y (.guarded2 (((decide (y.1=(x.certain.length:Int)))==false)&&((decide (0<y.1))==true)) Y Y Y Y fun h=>ZW (ow Y h) (ow Y h) Zaw<|gdT h_x3 h)<|Dq 28 Y (.guarded2 (((decide (y.1=(x.certain.length:Int)))==false)&&((decide (0<y.1))==true)) Y Y Y Y fun h=>ZE (ow Y h) Xm)<|Dq 29 Y (.guarded2 (((decide (y.1=(x.certain.length:Int)))==false)&&((decide (0<y.1))==true)) Y Y Y Y fun h=>Zd (ow Y h) tS3<|Zn Xo)<|Dq 30 Y (.guarded2 (((decide (y.1=(x.certain.length:Int)))==false)&&((decide (0<y.1))==true)) Y Y Y Y fun h=>Zc<|ov Y)<|Dq 31 Y (.guarded2 (((decide (y.1=(x.certain.length:Int)))==false)&&((decide (0<y.1))==true)) Y Y Y Y fun h=>Zdo (ow Y h) (ow Y h) Y)<|Dq 32 Y (.guarded2 (((decide (y.1=(x.certain.length:Int)))==false)&&((decide (0<y.1))==true)) Y Y Y Y fun h=>Zfc (ow Y h)<|ow Y h)<|Dq 33 Y (.guarded ((decide (y.1=(x.certain.length:Int)))==false) Y Y Y Y fun h=>XJ (ow Y h) fun hp=>ow Y<|gA h<|gT hp)<|Dq 34 Y (Za2 (ov Y) fun hp=>ow Y<|gF hp)<|Dd<|K2 5 50 Y<|If h Y (fun h=>?_) fun h=>?_
 ·
  refine K1 5 Y<|Tr<|Rm Y<|R2 ZaO Y<|Ra Y<|Za<|?_
  obtain rfl:=rt h
  exact Zs (ZK Y (.one<|rb Y))
 ·
  refine Zj<|K1 5 Y<|Tr<|Rm Y<|Ra Y<|Za<|?_
  obtain rfl:=rt h
  exact Zs (ZK Y (.one<|rb Y))
theorem Zfe{n:Int}{r:Int}(h:Zbe n=some r):
 CSpec Tryz.prog gl0 67 [.int .i64 n] (.int .i64 r):=by
 unfold Zbe at h
 replace h:=Qk h
 refine So Tryz.func67 Y fun w0 A=>Tr<|Ra Y<|Za<|Tr<|Rm Y<|Rm Y<|Rq Y (Ztu (ov Y) Y)<|Rq Y (ZoZ (ov Y) (ov Y) Y)<|Ra Y<|Za<|?_
 obtain rfl:=rt h
 exact Zs (ZK Y (.one<|rb Y))
theorem Zes{x:salvage_finder}{i:Int}{r:(List Int)}(h:Xd x i=some r):
 CSpec Tryz.prog gl0 42 [.rp [.sl 5 (List.map R5 x.h_),.sl 47 (List.map R47 x.certain),.sl 3 (List.map R3 x.numbers),.any] 0,.int .i64 i] (.sl 3 (List.map R3 r)):=by
 unfold Xd at h
 replace h:=Qk h
 refine So Tryz.func42 Y fun w0 A=>Tr<|Ra Y<|Za<|K2 0 1 Y<|Tr<|Ra Y<|Za<|Tr<|Rm Y<|R1 ZD Y<|Rq Y (ZE (ov Y) ZcT)<|Rq Y (Zd (ov Y) Zge Y)<|Rm Y<|bE h fun x2 h_x2 h=>Rq Y (ZW (ov Y) (ov Y) Zaw h_x2)<|Rq Y (ZE (ov Y) Xm)<|Rq Y (Zd (ov Y) tS3<|Zn Xo)<|Ra Y<|Za<|I1 (fun out=>⟨[(5,.own 0 out.length)],[some ⟨3,List.map R3 out⟩]⟩) h (fun h=>?_) fun out h=>?_
 ·
  refine K4 0 1 5 6 Y<|Tr<|R_q (.sl 3<|List.map R3 ([(-194),194]:List Int)) Y (Jm Qp (.cons (cvs (ov Y)<|Z5 Y) Y (.cons (.b Y) .nil)<|.cons (cvs (ov Y)<|Z5 Y) Y (.cons (.b Y) .nil) .nil) Y Y)<|Rl tZ_3 Qp Y<|Rm Y<|Za<|Zi<|?_
  obtain⟨r1,hl1,ho1⟩:=QZ h
  refine L2 (fun out2 i2=>⟨[(0,.rp [.sl 5 (List.map R5 x.h_),.sl 47 (List.map R47 x.certain),.sl 3 (List.map R3 x.numbers),.any] 0),(1,.int .i64 i),(5,.own 0 out2.length),(6,.int .i64 x2.At),(19,.sl 3 (List.map R3 ([(-194),194]:List Int))),(20,.int .i64 (([(-194),194]:List Int).length:Int)),(21,.int .i64 i2)],[some ⟨3,List.map R3 out2⟩]⟩) hl1 (ES [none]) fun n1 out2 i2 h=>?_
  unfold Xg at h
  refine Tr<|R2 ZV Y<|Za<|Zl<|If h Y (fun h=>?_) fun h=>?_
  ·
   refine Zj<|I1 (fun out3=>⟨[(0,.rp [.sl 5 (List.map R5 x.h_),.sl 47 (List.map R47 x.certain),.sl 3 (List.map R3 x.numbers),.any] 0),(1,.int .i64 i),(5,.own 0 out3.length),(6,.int .i64 x2.At),(19,.sl 3 (List.map R3 ([(-194),194]:List Int))),(20,.int .i64 (([(-194),194]:List Int).length:Int)),(21,.int .i64 i2)],[some ⟨3,List.map R3 out3⟩]⟩) h (fun h=>?_) fun out3 h=>?_
   ·
    refine Zi<|K7 0 1 5 6 19 20 21 Y<|Tr<|bE h fun x3 h_x3 h=>Rq Y (ZW (ov Y) (ov Y) Qp h_x3)<|Rq Y (Zd (ov Y) tS3 Y)<|Ra Y<|Za<|K8 0 1 5 6 8 19 20 21 Y<|Tr<|Rm Y<|Rm Y<|R2 ZX Y<|Ra Y<|Za<|Zi<|?_
    obtain⟨r2,hl2,ho2⟩:=QZ h
    refine L2 (fun out4 p=>⟨[(0,.rp [.sl 5 (List.map R5 x.h_),.sl 47 (List.map R47 x.certain),.sl 3 (List.map R3 x.numbers),.any] 0),(1,.int .i64 i),(5,.own 0 out4.length),(6,.int .i64 x2.At),(8,.int .i64 x3),(9,.int .i64 p),(19,.sl 3 (List.map R3 ([(-194),194]:List Int))),(20,.int .i64 (([(-194),194]:List Int).length:Int)),(21,.int .i64 i2)],[some ⟨3,List.map R3 out4⟩]⟩) hl2 (ES [some 0]) fun n2 out4 p h=>?_
    unfold Xf at h
    refine Zl<|Tr<|Rm Y<|R2 ZaL Y<|Rm Y<|Rq Y (.guarded ((decide ((-192)<p))==true) Y Y Y Y fun h=>Zc<|ov Y)<|Rq Y (.guarded ((decide ((-192)<p))==true) Y Y Y Y fun h=>Zc<|ov Y)<|Rq Y (.guarded ((decide ((-192)<p))==true) Y Y Y Y fun h=>ZD<|ow Y h)<|Rq Y (.guarded ((decide ((-192)<p))==true) Y Y Y Y fun h=>ZE (ow Y h) Zo3)<|Rq Y (.guarded ((decide ((-192)<p))==true) Y Y Y Y fun h=>Zd (ow Y h) Zdz Y)<|Rq Y (.guarded ((decide ((-192)<p))==true) Y Y Y Y fun h=>ZfO (ZH (ow Y h) tZ_5) Q6<|Zcs _ _)<|Rq Y (.guarded ((decide ((-192)<p))==true) Y Y Y Y fun h=>ZV (ow Y h)<|ow Y h)<|Rq Y (XJ (ov Y) fun hp=>ow Y<|gT hp)<|Za<|K10 0 1 5 6 8 9 19 20 21 38 Y<|If h Y (fun h=>?_) fun h=>?_
    ·
     refine Zj<|J1 (fun j=>(.inr j)) (fun out5=>⟨[(0,.rp [.sl 5 (List.map R5 x.h_),.sl 47 (List.map R47 x.certain),.sl 3 (List.map R3 x.numbers),.any] 0),(1,.int .i64 i),(5,.own 0 out5.length),(6,.int .i64 x2.At),(8,.int .i64 x3),(9,.int .i64 p),(19,.sl 3 (List.map R3 ([(-194),194]:List Int))),(20,.int .i64 (([(-194),194]:List Int).length:Int)),(21,.int .i64 i2)],[some ⟨3,List.map R3 out5⟩]⟩) h (fun h=>?_) fun out5 h=>?_
     ·
      refine Zi<|K9 0 1 5 6 8 9 19 20 21 Y<|Tr<|Rm Y<|Rm Y<|bE h fun y h_y h=>Rq Y (Zq (Zea h_y)<|.cons (ov Y) (.b Y)<|.cons (ov Y) (.b Y) .nil)<|Ra Y<|Za<|Zl<|K10 0 1 5 6 8 9 10 19 20 21 Y<|Tr<|Rm Y<|Rm Y<|R2 XW Y<|Za<|K11 0 1 5 6 8 9 10 19 20 21 47 Y<|If h Y (fun h=>?_) fun h=>?_
      ·
       refine ZI<|?_
       replace h:=lx h▸ho2
       exact⟨_,h,ES [some 0]⟩
      ·
       refine Zj<|K10 0 1 5 6 8 9 10 19 20 21 Y<|Tr<|Rm Y<|R1 ZD Y<|Rq Y (ZE (ov Y) ZcT)<|Rq Y (Zd (ov Y) Zge Y)<|Rm Y<|bE h fun x4 h_x4 h=>Rq Y (ZW (ov Y) (ov Y) Zaw h_x4)<|Rq Y (ZE (ov Y) Xm)<|Rq Y (Zd (ov Y) tS3<|Zn Xo)<|Rm Y<|R2 ZaO Y<|bE h fun y2 h_y2 h=>Rq Y (Zq (Zfe h_y2)<|.cons (ov Y) (.b Y) .nil)<|R2 Zc5 Y<|Za<|K10 0 1 5 6 8 9 19 20 21 59 Y<|If h Y (fun h=>?_) fun h=>?_
       ·
        exact K9 0 1 5 6 8 9 19 20 21 Y<|Zt<|Rm Y<|Rm Y<|R_q (.sl 3<|List.map R3 ([p]:List Int)) Y (Jm Qp (.cons (cvs (ov Y)<|Z5 Y) Y (.cons (.b Y) .nil) .nil) Y Y)<|bE h fun l h_l h=>Rx Y (Zv (ov Y) (ZH (ov Y) tZ_3) Qp Y Y Y (fun _=>Zb Y) Y h_l)<|Ra Y<|Za<|⟨_,h,ES [some 0]⟩
       ·
        exact Zj<|⟨_,h,ES [some 0]⟩
     ·
      replace h:=elr h
      replace h:=t1i h
      exact Zt<|Rm Y<|Rm Y<|R2 ZX Y<|Ra Y<|Za<|⟨_,h,ES [some 0]⟩
    ·
     refine ZI<|?_
     replace h:=lx h▸ho2
     exact⟨_,h,ES [some 0]⟩
   ·
    exact Zt<|R2 ZX Y<|Rm Y<|Za<|⟨_,h,ES [some 0]⟩
  ·
   refine ZI<|?_
   replace h:=lx h▸ho1
   exact⟨_,h,ES [some 0]⟩
 ·
  refine Tr<|Rm Y<|Ra Y<|Za<|?_
  obtain rfl:=rt h
  exact Zs (ZK Y (.one<|.tmp Y<|View.ownM Y Y D3))
theorem Zhn{h_:List Int}{at_:Int}{r:(Vector Int 64)×(Vector Bool 64)}(h:X7 h_ at_=some r):
 CSpec Tryz.prog gl0 68 [.sl 5 (List.map R5 h_),.int .i64 at_] (.tuple [.agg (List.map C35 r.1.toList),.agg (List.map C4 r.2.toList)]):=by
 unfold X7 at h
 replace h:=Qk h
 refine So Tryz.func68 Y fun w0 A=>Tr<|Rx Y (ZP (row:=(List.map C35 (Vector.replicate 64 0).toList)) 0 Y ZcI Y tZ_37)<|Rx Y (ZP (row:=(List.map C4 (Vector.replicate 64 false).toList)) 1 Y Zkl Y tZ_118)<|Za<|I2 (fun f whole=>⟨[(4,.ptr 0 1 0 0),(5,.ptr 1 1 0 0)],[some ⟨37,[(List.map C35 f.toList)]⟩,some ⟨118,[(List.map C4 whole.toList)]⟩]⟩) h (fun h=>?_) fun f whole h=>?_
 ·
  refine Tr<|Rm Y<|Za<|Zi<|?_
  obtain⟨r1,hl1,ho1⟩:=QZ h
  refine L3 (fun f2 whole2 i=>⟨[(0,.sl 5 (List.map R5 h_)),(1,.int .i64 at_),(4,.ptr 0 1 0 0),(5,.ptr 1 1 0 0),(8,.int .i64 i)],[some ⟨37,[(List.map C35 f2.toList)]⟩,some ⟨118,[(List.map C4 whole2.toList)]⟩]⟩) hl1 (ES [some 0,some 1]) fun n1 f2 whole2 i h=>?_
  unfold Qh at h
  refine Tr<|R2 ZV Y<|Za<|Zl<|If h Y (fun h=>?_) fun h=>?_
  ·
   refine Zj<|Zl<|Zi<|K5 0 1 4 5 8 Y<|Tr<|Rm Y<|Ra Y<|Za<|K6 0 1 4 5 6 8 Y<|Tr<|Rm Y<|Rm Y<|R2 Zd7 Y<|R2 ZX Y<|Ra Y<|Za<|K7 0 1 4 5 6 7 8 Y<|Tr<|Rm Y<|R2 Zc5 Y<|Rm Y<|Rq Y (.guarded ((decide (0≤(i64 (at_+(i64 (3*i))))))==true) Y Y Y Y fun h=>Zc<|ov Y)<|Rq Y (.guarded ((decide (0≤(i64 (at_+(i64 (3*i))))))==true) Y Y Y Y fun h=>Zh4 (ow Y h) (ov Y) Y)<|Rq Y (.guarded ((decide (0≤(i64 (at_+(i64 (3*i))))))==true) Y Y Y Y fun h=>Zc<|ov Y)<|Rq Y (.guarded ((decide (0≤(i64 (at_+(i64 (3*i))))))==true) Y Y Y Y fun h=>ZfO (ZH (ow Y h) tZ_5) Q6<|Zcs _ _)<|Rq Y (.guarded ((decide (0≤(i64 (at_+(i64 (3*i))))))==true) Y Y Y Y fun h=>Zfc (ow Y h)<|ow Y h)<|Rq Y (XJ (ov Y) fun hp=>ow Y<|gT hp)<|Za<|K8 0 1 4 5 6 7 8 23 Y<|If h Y (fun h=>?_) fun h=>?_
   ·
    exact K7 0 1 4 5 6 7 8 Y<|Zt<|Rm Y<|Rm Y<|Rm Y<|Rm Y<|Rm Y<|R2 ZX Y<|bE h fun l h_l h=>Rq Y (Zd0 (ov Y) Q6 (oi<|ov Y) (oi<|ov Y) h_l)<|bE h fun y h_y h=>Rq Y (Zq (Zcq h_y)<|.cons (ov Y) (.b Y) .nil)<|bE h fun x h_x h=>Rq Y (QB (ov Y) (ov Y) Xc Y Y h_x)<|Rx Y (Zf (ov Y) (ov Y) (Zg Xn) Y Y Y (arB h_x) (Zb Y)<|arS h_x)<|bE h fun x2 h_x2 h=>Rq Y (QB (ov Y) (ov Y) ZiK Y Y h_x2)<|Rx Y (Zf (ov Y) (ov Y) (Zg tS4) Y Y Y (arB h_x2) (Zb Y)<|arS h_x2)<|Za<|K5 0 1 4 5 8 Y<|Zt<|R2 ZX Y<|Rm Y<|Za<|⟨_,h,ES [some 0,some 1]⟩
   ·
    exact Zj<|K5 0 1 4 5 8 Y<|Zt<|R2 ZX Y<|Rm Y<|Za<|⟨_,h,ES [some 0,some 1]⟩
  ·
   refine ZI<|?_
   replace h:=lx h▸ho1
   exact⟨_,h,ES [some 0,some 1]⟩
 ·
  refine Zl<|Qe (cw:=md0) (by kernel_rfl)<|Dq 0 Y (ZJ (ov Y) Y Y Y Qz (Zu<|Zh arL) arL (hns:=(nsM fun _=>Y)))<|Dw 1 2 Y (ZJ (ov Y) Y Y Y Zc8 (Zu<|Zh arL) arL (hns:=(nsM fun _=>Y))) (Zf (ov Y) (ov Y) (Zp Qz arL) Y Y Y (ZG (Zh arL) arL) (Zb<|arC fun _=>Y)<|ZO<|Eq.trans arL<|Eq.symm arL) ?_ ?_
  ·
   refine Do 2 Y (Zf (ov Y) (ov Y) (Zp Qz arL) Y Y Y (ZG (Zh arL) arL) (Zb<|arC fun _=>Y)<|ZO<|Eq.trans arL<|Eq.symm arL)<|Do 3 Y (Zf (ov Y) (ov Y) (Zp Zc8 arL) Y Y Y (ZG (Zh arL) arL) (Zb<|arC fun _=>Y)<|ZO<|Eq.trans arL<|Eq.symm arL)<|Dd<|?_
   obtain rfl:=rt h
   exact Zs (ZK Y (.two (.agg Y Y Y Y Qz (Zu<|Zh arL) arL (pwB<|arD fun _=>Y) (hns:=(nsM fun _=>Y)))<|.agg Y Y Y Y Zc8 (Zu<|Zh arL) arL (pwB<|arD fun _=>Y) (hns:=(nsM fun _=>Y))))
  ·
   refine Dq 1 Y (ZJ (ov Y) Y Y Y Zc8 (Zu<|Zh arL) arL (hns:=(nsM fun _=>Y)))<|Do 3 Y (Zf (ov Y) (ov Y) (Zp Zc8 arL) Y Y Y (ZG (Zh arL) arL) (Zb<|arC fun _=>Y)<|ZO<|Eq.trans arL<|Eq.symm arL)<|Dd<|?_
   obtain rfl:=rt h
   exact Zs (ZK Y (.two (.agg Y Y Y Y Qz (Zu<|Zh arL) arL (pwB<|arD fun _=>Y) (hns:=(nsM fun _=>Y)))<|.agg Y Y Y Y Zc8 (Zu<|Zh arL) arL (pwB<|arD fun _=>Y) (hns:=(nsM fun _=>Y))))
theorem Zjm{f:Vector Int 64}{whole:Vector Bool 64}{r:Int×Bool}(h:Zc7 f whole=some r):
 CSpec Tryz.prog gl0 93 [.agg (List.map C35 f.toList),.agg (List.map C4 whole.toList)] (.tuple [.int .i64 r.1,.bool r.2]):=by
 unfold Zc7 at h
 replace h:=Qk h
 refine So Tryz.func93 Y fun w0 A=>Tr<|Rq Y (Xh (cva<|ov Y) arL tZ_37<|arD fun _=>Y)<|Rq Y (Xh (cva<|ov Y) arL tZ_118<|arD fun _=>Y)<|Ra Y<|Ra Y<|Za<|Zl<|K2 2 3 Y<|Tr<|bE h fun x h_x h=>Rq Y (QI (ov Y) (ov Y) ZiK h_x)<|Rq Y (Zd (ov Y) tS4<|Zn<|Qn (o:=0) (o':=((Int.toNat 0)*1)) (Zh arL)<|Qd h_x)<|R1 XV Y<|Rm Y<|bE h fun x2 h_x2 h=>Rq Y (.guarded ((!x)==false) Y Y Y Y fun h=>QI (ov Y) (ov Y) ZiK<|gdT h_x2 h)<|Rq Y (.guarded ((!x)==false) Y Y Y Y fun h=>Zd (ow Y h) tS4<|Zn<|Qn (o:=0) (o':=((Int.toNat 1)*1)) (Zh arL)<|Qd<|gdT h_x2 h)<|Rq Y (.guarded ((!x)==false) Y Y Y Y fun h=>XV<|ow Y h)<|Rq Y (Za2 (ov Y) fun hp=>ow Y<|gF hp)<|Rm Y<|bE h fun x3 h_x3 h=>Rq Y (.guarded (((!x) || (!x2))==false) Y Y Y Y fun h=>QI (ov Y) (ov Y) ZiK<|gdT h_x3 h)<|Rq Y (.guarded (((!x) || (!x2))==false) Y Y Y Y fun h=>Zd (ow Y h) tS4<|Zn<|Qn (o:=0) (o':=((Int.toNat 2)*1)) (Zh arL)<|Qd<|gdT h_x3 h)<|Rq Y (.guarded (((!x) || (!x2))==false) Y Y Y Y fun h=>XV<|ow Y h)<|Rq Y (Za2 (ov Y) fun hp=>ow Y<|gF hp)<|Za<|K2 2 22 Y<|If h Y (fun h=>?_) fun h=>?_
 ·
  refine K0<|Tr<|Ra Y<|Ra Y<|Za<|?_
  obtain rfl:=rt h
  exact Zs (ZK Y (.two (rb Y)<|rb Y))
 ·
  refine Zj<|K1 2 Y<|Tr<|Rq Y (ZU (ov Y) Qz (Zu<|Zh arL) arL)<|bE h fun y h_y h=>Rq Y (Zq (Zdk h_y)<|.cons (ov Y) (.aggB<|arD fun _=>Y) .nil)<|Rm Y<|Rq Y (Zk (ov Y) Y)<|Rq Y (Zk (ov Y) Y)<|Ra Y<|Ra Y<|Za<|K3 2 6 7 Y<|Tr<|Rm Y<|bE h fun y2 h_y2 h=>Rq Y (Zq (Zek h_y2)<|.cons (ov Y) (.b Y) .nil)<|Rm Y<|Rq Y (Zk (ov Y) Y)<|Rq Y (Zk (ov Y) Y)<|Ra Y<|Ra Y<|Za<|Zl<|K4 2 6 7 8 Y<|Qe (cw:=md0) (by kernel_rfl)<|D1 0 Zc Y<|D1 1 Zc Y<|D1 2 Zc Y<|bE h fun x4 h_x4 h=>Dq 3 Y (.guarded (y.2==true) Y Y Y Y fun h=>QI (ov Y) (ov Y) Xc<|gdT h_x4 h)<|Dq 4 Y (.guarded (y.2==true) Y Y Y Y fun h=>Zd (ow Y h) Xn<|Zn<|Qn (o:=0) (o':=((Int.toNat 0)*1)) (Zh arL)<|Qd<|gdT h_x4 h)<|Dq 5 Y (.guarded (y.2==true) Y Y Y Y fun h=>Zc<|ov Y)<|Dq 6 Y (.guarded (y.2==true) Y Y Y Y fun h=>Qy (ow Y h) tI3 ZcN Y)<|Dq 7 Y (.guarded (y.2==true) Y Y Y Y fun h=>Q3 (ow Y h)<|ow Y h)<|Dq 8 Y (XJ (ov Y) fun hp=>ow Y<|gT hp)<|D1 9 QK Y<|D1 10 QK Y<|Dd<|?_
  obtain rfl:=rt h
  exact Zs (ZK Y (.two (rb Y)<|rb Y))
theorem ZeO{x:salvage_finder}{i:Int}{place:Int}{r:Int}(h:Xs x i place=some r):
 CSpec Tryz.prog gl0 94 [.rp [.sl 5 (List.map R5 x.h_),.sl 47 (List.map R47 x.certain),.sl 3 (List.map R3 x.numbers),.any] 0,.int .i64 i,.int .i64 place] (.int .i64 r):=by
 unfold Xs at h
 replace h:=Qk h
 refine So Tryz.func94 Y fun w0 A=>Tr<|Ra Y<|Za<|K3 0 1 2 Y<|Tr<|Ra Y<|Ra Y<|Za<|I1 (fun best=>⟨[(7,.int .i64 best)],[]⟩) h (fun h=>?_) fun best h=>?_
 ·
  refine Tr<|Rm Y<|R1 ZD Y<|Rq Y (ZE (ov Y) ZcT)<|Rq Y (Zd (ov Y) Zge Y)<|Rl tZ_47 Zaw Y<|Rm Y<|Za<|Zi<|?_
  obtain⟨r1,hl1,ho1⟩:=QZ h
  refine L3 (fun best2 least i2=>⟨[(0,.rp [.sl 5 (List.map R5 x.h_),.sl 47 (List.map R47 x.certain),.sl 3 (List.map R3 x.numbers),.any] 0),(1,.int .i64 i),(2,.int .i64 place),(7,.int .i64 best2),(8,.int .i64 least),(15,.sl 47 (List.map R47 x.certain)),(16,.int .i64 (x.certain.length:Int)),(17,.int .i64 i2)],[]⟩) hl1 (ES []) fun n1 best2 least i2 h=>?_
  unfold Xr at h
  refine Tr<|R2 ZV Y<|Za<|Zl<|If h Y (fun h=>?_) fun h=>?_
  ·
   refine Zj<|Zl<|Zi<|K8 0 1 2 7 8 15 16 17 Y<|Tr<|Rm Y<|bE h fun x2 h_x2 h=>Rq Y (ZW (ov Y) (ov Y) Zaw h_x2)<|Rq Y (ZU (ov Y) Zf9 (Zu<|Zh Xq) Xq)<|Rx Y (ZP (row:=(.int .i64 0)::((List.map C35 (Vector.replicate 64 0).toList)++([]))) 0 Y ZlH (by kernel_rfl)<|by exact Eq.symm (Eq.trans (b:=65) Xq tZ_47.symm))<|Ra Y<|Rx Y (Zf (ov Y) (ov Y) (Zp Zf9 Xq) Y Y Y (ZG (Zh Xq) Xq) (Zb Zmh)<|ZO<|Eq.trans Xq<|Eq.symm Xq)<|Za<|Zl<|Zl<|K10 0 1 2 7 8 9 10 15 16 17 Y<|Qe (cw:=md0) (by kernel_rfl)<|D1 0 Zc Y<|D1 1 Zc Y<|D2 2 Q3 Y<|D1 3 Zc Y<|Dq 4 Y (.guarded ((decide (i2=i))==false) Y Y Y Y fun h=>Ze (ov Y) Y Y Xm)<|Dq 5 Y (.guarded ((decide (i2=i))==false) Y Y Y Y fun h=>Zm (ow Y h) Y Y Y tS3<|Zn Xo)<|Dq 6 Y (.guarded ((decide (i2=i))==false) Y Y Y Y fun h=>Zc<|ov Y)<|Dq 7 Y (.guarded ((decide (i2=i))==false) Y Y Y Y fun h=>ZD<|ow Y h)<|Dq 8 Y (.guarded ((decide (i2=i))==false) Y Y Y Y fun h=>ZE (ow Y h) ZcT)<|Dq 9 Y (.guarded ((decide (i2=i))==false) Y Y Y Y fun h=>Zd (ow Y h) Zge Y)<|Dq 10 Y (.guarded ((decide (i2=i))==false) Y Y Y Y fun h=>Zc<|ov Y)<|bE h fun x3 h_x3 h=>Dq 11 Y (.guarded ((decide (i2=i))==false) Y Y Y Y fun h=>ZW (ow Y h) (ow Y h) Zaw<|gdT h_x3 h)<|Dq 12 Y (.guarded ((decide (i2=i))==false) Y Y Y Y fun h=>ZE (ow Y h) Xm)<|Dq 13 Y (.guarded ((decide (i2=i))==false) Y Y Y Y fun h=>Zd (ow Y h) tS3<|Zn Xo)<|Dq 14 Y (.guarded ((decide (i2=i))==false) Y Y Y Y fun h=>Zdo (ow Y h) (ow Y h) Y)<|bE h fun q h_q h=>Dq 15 Y (.guarded ((decide (i2=i))==false) Y Y Y Y fun h=>JI (ow Y h) (ov Y)<|gdT h_q h)<|Dq 16 Y (.guarded ((decide (i2=i))==false) Y Y Y Y fun h=>XW (ow Y h)<|ov Y)<|Dq 17 Y (Za2 (ov Y) fun hp=>ow Y<|gF hp)<|Dd<|K11 0 1 2 7 8 9 10 15 16 17 39 Y<|If h Y (fun h=>?_) fun h=>?_
   ·
    exact ZI<|K8 0 1 2 7 8 15 16 17 Y<|Zt<|R2 ZX Y<|Rm Y<|Za<|⟨_,h,ES []⟩
   ·
    refine Zj<|K10 0 1 2 7 8 9 10 15 16 17 Y<|Tr<|Rq Y (Ze (ov Y) Y Y Xm)<|Rq Y (Zm (ov Y) Y Y Y tS3<|Zn Xo)<|Rm Y<|R2 ZaO Y<|bE h fun y h_y h=>Rq Y (Zq (Zfe h_y)<|.cons (ov Y) (.b Y) .nil)<|Ra Y<|Za<|K10 0 1 2 7 8 9 11 15 16 17 Y<|Tr<|Rm Y<|R2 ZV Y<|Rm Y<|Rq Y (.guarded ((decide (best2<0))==false) Y Y Y Y fun h=>Zc<|ov Y)<|Rq Y (.guarded ((decide (best2<0))==false) Y Y Y Y fun h=>Zc<|ov Y)<|Rq Y (.guarded ((decide (best2<0))==false) Y Y Y Y fun h=>ZV (ow Y h)<|ow Y h)<|Rq Y (Za2 (ov Y) fun hp=>ow Y<|gF hp)<|Za<|K11 0 1 2 7 8 9 11 15 16 17 51 Y<|If h Y (fun h=>?_) fun h=>?_
    ·
     exact K10 0 1 2 7 8 9 11 15 16 17 Y<|Zt<|Rm Y<|Rm Y<|Ra Y<|Ra Y<|Za<|K8 0 1 2 7 8 15 16 17 Y<|Zt<|R2 ZX Y<|Rm Y<|Za<|⟨_,h,ES []⟩
    ·
     exact Zj<|K8 0 1 2 7 8 15 16 17 Y<|Zt<|R2 ZX Y<|Rm Y<|Za<|⟨_,h,ES []⟩
  ·
   refine ZI<|?_
   replace h:=lx h▸ho1
   exact⟨_,h,ES []⟩
 ·
  refine Tr<|Rm Y<|Ra Y<|Za<|?_
  obtain rfl:=rt h
  exact Zs (ZK Y (.one<|rb Y))
theorem Zg1{n:Int}{low:Int}{high:Int}{r:Bool}(h:ZcE n low high=some r):
 CSpec Tryz.prog gl0 95 [.int .i64 n,.int .i64 low,.int .i64 high] (.bool r):=by
 unfold ZcE at h
 replace h:=Qk h
 refine So Tryz.func95 Y fun w0 A=>Tr<|Ra Y<|Za<|Tr<|Rm Y<|Rm Y<|R2 Zc5 Y<|Rm Y<|Rq Y (.guarded ((decide (low≤n))==true) Y Y Y Y fun h=>Zc<|ov Y)<|Rq Y (.guarded ((decide (low≤n))==true) Y Y Y Y fun h=>Zc<|ov Y)<|Rq Y (.guarded ((decide (low≤n))==true) Y Y Y Y fun h=>Zfc (ow Y h)<|ow Y h)<|Rq Y (XJ (ov Y) fun hp=>ow Y<|gT hp)<|Ra Y<|Za<|?_
 obtain rfl:=rt h
 exact Zs (ZK Y (.one<|rb Y))
theorem Zep{x:salvage_finder}{i:Int}{place:Int}{f:Vector Int 64}{whole:Vector Bool 64}{r:Int×Bool}(h:XI x i place f whole=some r):
 CSpec Tryz.prog gl0 69 [.rp [.sl 5 (List.map R5 x.h_),.sl 47 (List.map R47 x.certain),.sl 3 (List.map R3 x.numbers),.any] 0,.int .i64 i,.int .i64 place,.agg (List.map C35 f.toList),.agg (List.map C4 whole.toList)] (.tuple [.int .i64 r.1,.bool r.2]):=by
 unfold XI at h
 replace h:=Qk h
 refine So Tryz.func69 Y fun w0 A=>Tr<|Rq Y (Xh (cva<|ov Y) arL tZ_37<|arD fun _=>Y)<|Rq Y (Xh (cva<|ov Y) arL tZ_118<|arD fun _=>Y)<|Ra Y<|Ra Y<|Za<|Zl<|K5 0 1 2 8 9 Y<|Tr<|Rq Y (ZU (ov Y) Qz (Zu<|Zh arL) arL)<|Rq Y (ZU (ov Y) Zc8 (Zu<|Zh arL) arL)<|bE h fun y h_y h=>Rq Y (Zq (Zjm h_y)<|.cons (ov Y) (.aggB<|arD fun _=>Y)<|.cons (ov Y) (.aggB<|arD fun _=>Y) .nil)<|Rm Y<|Rq Y (Zk (ov Y) Y)<|Rq Y (Zk (ov Y) Y)<|Ra Y<|Ra Y<|Za<|K5 0 1 2 12 13 Y<|Tr<|Rm Y<|Za<|K5 0 1 2 12 25 Y<|If h Y (fun h=>?_) fun h=>?_
 ·
  refine K1 12 Y<|Tr<|Rm Y<|Ra Y<|Ra Y<|Za<|?_
  obtain rfl:=rt h
  exact Zs (ZK Y (.two (rb Y)<|rb Y))
 ·
  refine Zj<|K3 0 1 2 Y<|Tr<|Rm Y<|Rm Y<|Rm Y<|bE h fun y2 h_y2 h=>Rq Y (Zq (ZeO h_y2)<|.cons (ov Y) (.b Y)<|.cons (ov Y) (.b Y)<|.cons (ov Y) (.b Y) .nil)<|Ra Y<|Za<|Zl<|K4 0 1 2 14 Y<|Tr<|Rm Y<|R2 ZV Y<|Za<|K5 0 1 2 14 32 Y<|If h Y (fun h=>?_) fun h=>?_
  ·
   refine K0<|Tr<|Ra Y<|Ra Y<|Za<|?_
   obtain rfl:=rt h
   exact Zs (ZK Y (.two (rb Y)<|rb Y))
  ·
   refine Zj<|Zl<|K4 0 1 2 14 Y<|Qe (cw:=md0) (by kernel_rfl)<|D1 0 Zc Y<|D1 1 Zc Y<|D1 2 ZD Y<|Dq 3 Y (ZE (ov Y) ZcT)<|Dq 4 Y (Zd (ov Y) Zge Y)<|D1 5 Zc Y<|bE h fun x2 h_x2 h=>Dq 6 Y (ZW (ov Y) (ov Y) Zaw h_x2)<|Dq 7 Y (ZE (ov Y) Xm)<|Dq 8 Y (Zd (ov Y) tS3<|Zn Xo)<|D2 9 ZaO Y<|bE h fun q h_q h=>Dq 10 Y (Zd6 (ov Y) (ov Y) h_q)<|D1 11 Zc Y<|D1 12 ZD Y<|Dq 13 Y (ZE (ov Y) ZcT)<|Dq 14 Y (Zd (ov Y) Zge Y)<|D1 15 Zc Y<|bE h fun x3 h_x3 h=>Dq 16 Y (ZW (ov Y) (ov Y) Zaw h_x3)<|Dq 17 Y (ZE (ov Y) Xm)<|Dq 18 Y (Zd (ov Y) tS3<|Zn Xo)<|D1 19 Zc Y<|D1 20 ZD Y<|Dq 21 Y (ZE (ov Y) ZcT)<|Dq 22 Y (Zd (ov Y) Zge Y)<|D1 23 Zc Y<|bE h fun x4 h_x4 h=>Dq 24 Y (ZW (ov Y) (ov Y) Zaw h_x4)<|Dq 25 Y (ZE (ov Y) Xm)<|Dq 26 Y (Zd (ov Y) tS3<|Zn Xo)<|D2 27 ZaO Y<|bE h fun q2 h_q2 h=>Dq 28 Y (Zd6 (ov Y) (ov Y) h_q2)<|D1 29 QK Y<|D1 30 QK Y<|Dd<|Zl<|K5 0 1 14 15 16 Y<|Qe (cw:=md0) (by kernel_rfl)<|D1 0 Zc Y<|D1 1 ZD Y<|Dq 2 Y (ZE (ov Y) QQ)<|Dq 3 Y (Zd (ov Y) XA Y)<|D1 4 Zc Y<|bE h fun x5 h_x5 h=>Dq 5 Y (ZW (ov Y) (ov Y) Qp h_x5)<|Dq 6 Y (Zd (ov Y) tS3 Y)<|D1 7 Zc Y<|D1 8 ZD Y<|Dq 9 Y (ZE (ov Y) QQ)<|Dq 10 Y (Zd (ov Y) XA Y)<|D1 11 Zc Y<|bE h fun x6 h_x6 h=>Dq 12 Y (ZW (ov Y) (ov Y) Qp h_x6)<|Dq 13 Y (Zd (ov Y) tS3 Y)<|D2 14 ZaO Y<|D1 15 QK Y<|Dd<|Zl<|K5 0 1 15 16 17 Y<|Tr<|Rm Y<|Rm Y<|bE h fun q3 h_q3 h=>Rq Y (JI (ov Y) (ov Y) h_q3)<|R2 XW Y<|Rm Y<|Rq Y (.guarded ((!decide (q3=0))==false) Y Y Y Y fun h=>Zc<|ov Y)<|Rq Y (.guarded ((!decide (q3=0))==false) Y Y Y Y fun h=>Zc<|ov Y)<|bE h fun q4 h_q4 h=>Rq Y (.guarded ((!decide (q3=0))==false) Y Y Y Y fun h=>Zd6 (ow Y h) (ow Y h)<|gdT h_q4 h)<|Rq Y (.guarded ((!decide (q3=0))==false) Y Y Y Y fun h=>Zfc (ow Y h)<|ov Y)<|Rq Y (Za2 (ov Y) fun hp=>ow Y<|gF hp)<|Za<|K6 0 1 15 16 17 86 Y<|If h Y (fun h=>?_) fun h=>?_
   ·
    refine K0<|Tr<|Ra Y<|Ra Y<|Za<|?_
    obtain rfl:=rt h
    exact Zs (ZK Y (.two (rb Y)<|rb Y))
   ·
    refine Zj<|Zl<|K5 0 1 15 16 17 Y<|Qe (cw:=md0) (by kernel_rfl)<|D1 0 Zc Y<|D1 1 ZD Y<|Dq 2 Y (ZE (ov Y) QQ)<|Dq 3 Y (Zd (ov Y) XA Y)<|D1 4 Zc Y<|bE h fun x7 h_x7 h=>Dq 5 Y (ZW (ov Y) (ov Y) Qp h_x7)<|Dq 6 Y (Zd (ov Y) tS3 Y)<|D1 7 Zc Y<|D1 8 Zc Y<|D1 9 Zc Y<|bE h fun q5 h_q5 h=>Dq 10 Y (Zd6 (ov Y) (ov Y) h_q5)<|D2 11 Zd7 Y<|D2 12 ZX Y<|D1 13 QK Y<|Dd<|K1 18 Y<|Tr<|Rm Y<|Rm Y<|bE h fun y3 h_y3 h=>Rq Y (Zq (Zg1 h_y3)<|.cons (ov Y) (.b Y)<|.cons (ov Y) (.b Y)<|.cons (ov Y) (.b Y) .nil)<|Ra Y<|Ra Y<|Za<|?_
    obtain rfl:=rt h
    exact Zs (ZK Y (.two (rb Y)<|rb Y))
theorem Ze3{w:Int}{r:Bool}(h:ZdH w=some r):
 CSpec Tryz.prog gl0 97 [.int .u16 w] (.bool r):=by
 unfold ZdH at h
 replace h:=Qk h
 refine So Tryz.func97 Y fun w0 A=>Tr<|Ra Y<|Za<|Tr<|Rm Y<|bE h fun y h_y h=>Rq Y (Zq (Zcf h_y)<|.cons (ov Y) (.b Y) .nil)<|Ra Y<|Za<|?_
 obtain rfl:=rt h
 exact Zs (ZK Y (.one<|rb Y))
theorem Zfk{w:Int}{i:Int}{number:Int}{r:Bool}(h:Jz w i number=some r):
 CSpec Tryz.prog gl0 70 [.int .u16 w,.int .i64 i,.int .i64 number] (.bool r):=by
 unfold Jz at h
 replace h:=Qk h
 refine So Tryz.func70 Y fun w0 A=>Tr<|Ra Y<|Za<|K3 0 1 2 Y<|Tr<|Rm Y<|R2 ZbX Y<|Rq Y (Qy (ov Y) ZcN tI3 Y)<|Ra Y<|Za<|Zl<|K4 0 1 2 7 Y<|Tr<|Rm Y<|Za<|Zi<|K4 0 2 7 13 Y<|Tr<|R2 Q3 Y<|Ra Y<|Za<|K5 0 2 7 13 14 Y<|If h Y (fun h=>?_) fun h=>?_
 ·
  refine K2 0 2 Y<|Tr<|Rm Y<|bE h fun y h_y h=>Rq Y (Zq (Zek h_y)<|.cons (ov Y) (.b Y) .nil)<|Rm Y<|Rq Y (Zk (ov Y) Y)<|Rq Y (Zk (ov Y) Y)<|Ra Y<|Ra Y<|Za<|K2 0 8 Y<|Tr<|Rm Y<|Rm Y<|Rq Y (Qy (ov Y) tI3 ZcN Y)<|R2 Q3 Y<|Ra Y<|Za<|?_
  obtain rfl:=rt h
  exact Zs (ZK Y (.one<|rb Y))
 ·
  refine K4 0 2 7 13 Y<|Tr<|R2 Q3 Y<|Ra Y<|Za<|K5 0 2 7 13 25 Y<|If h Y (fun h=>?_) fun h=>?_
  ·
   refine K3 0 2 7 Y<|Tr<|Rm Y<|bE h fun y2 h_y2 h=>Rq Y (Zq (Ze3 h_y2)<|.cons (ov Y) (.b Y) .nil)<|Rm Y<|Rq Y (.guarded (y2==true) Y Y Y Y fun h=>Zc<|ov Y)<|Rq Y (.guarded (y2==true) Y Y Y Y fun h=>Zc<|ov Y)<|Rq Y (.guarded (y2==true) Y Y Y Y fun h=>ZbX (ow Y h)<|ov Y)<|Rq Y (.guarded (y2==true) Y Y Y Y fun h=>Q3 (ow Y h)<|ow Y h)<|Rq Y (XJ (ov Y) fun hp=>ow Y<|gT hp)<|Ra Y<|Za<|?_
   obtain rfl:=rt h
   exact Zs (ZK Y (.one<|rb Y))
  ·
   refine K4 0 2 7 13 Y<|Tr<|R2 Q3 Y<|Ra Y<|Za<|K4 0 2 7 35 Y<|If h Y (fun h=>?_) fun h=>?_
   ·
    refine K3 0 2 7 Y<|Tr<|Rm Y<|bE h fun y3 h_y3 h=>Rq Y (Zq (Ze3 h_y3)<|.cons (ov Y) (.b Y) .nil)<|Rm Y<|Rq Y (.guarded (y3==true) Y Y Y Y fun h=>Zc<|ov Y)<|Rq Y (.guarded (y3==true) Y Y Y Y fun h=>Zc<|ov Y)<|bE h fun q h_q h=>Rq Y (.guarded (y3==true) Y Y Y Y fun h=>Zbo (ow Y h) (ov Y)<|gdT h_q h)<|Rq Y (.guarded (y3==true) Y Y Y Y fun h=>Q3 (ow Y h)<|ow Y h)<|Rq Y (XJ (ov Y) fun hp=>ow Y<|gT hp)<|Ra Y<|Za<|?_
    obtain rfl:=rt h
    exact Zs (ZK Y (.one<|rb Y))
   ·
    refine Zj<|K1 0 Y<|Tr<|Rm Y<|bE h fun y4 h_y4 h=>Rq Y (Zq (Ze3 h_y4)<|.cons (ov Y) (.b Y) .nil)<|Ra Y<|Za<|?_
    obtain rfl:=rt h
    exact Zs (ZK Y (.one<|rb Y))
theorem Zdw{s:List Int}{f:Int→Option Bool}{r:Int}{f_f:FuncId}{f_c:List AV}(f_d:f_c.all datB=true)(f_h: ∀ (z0:Int) z,f z0=some z→CSpec Tryz.prog gl0 f_f ([.int .i64 z0]++f_c) (.bool z))(h:X0 s f=some r):
 CSpec Tryz.prog gl0 116 [.sl 3 (List.map R3 s),.fn f_f f_c] (.int .i64 r):=by
 unfold X0 at h
 replace h:=Qk h
 refine So Tryz.func116 Y fun w0 A=>Tr<|Ra Y<|Za<|J0 (fun j=>(.inr j)) ⟨[],[]⟩ h (fun h=>?_) fun h=>?_
 ·
  refine K2 0 1 Y<|Tr<|Rm Y<|Rl tZ_3 Qp Y<|Rm Y<|Za<|Zi<|?_
  obtain⟨r1,hl1,ho1⟩:=QZ h
  refine L1 (fun i=>⟨[(0,.sl 3 (List.map R3 s)),(1,.fn f_f f_c),(7,.int .i64 (s.length:Int)),(8,.int .i64 i)],[]⟩) hl1 (ES []<|sd 0 Y Y<|sr 1 Y (rFn<|rld f_d)<|sd 7 Y Y<|sd 8 Y Y sn) fun n1 i h=>?_
  unfold QF at h
  refine Tr<|R2 ZV Y<|Za<|Zl<|If h Y (fun h=>?_) fun h=>?_
  ·
   refine Zj<|Zl<|Zi<|K4 0 1 7 8 Y<|Tr<|Rm Y<|Ra Y<|Za<|K5 0 1 5 7 8 Y<|Tr<|Rm Y<|Rm Y<|Rm Y<|bE h fun x h_x h=>Rq Y (ZW (ov Y) (ov Y) Qp h_x)<|Rq Y (Zd (ov Y) tS3 Y)<|bE h fun y h_y h=>Rq Y (Zch (ov Y) f_d (f_h _ _ h_y)<|.cons (ov Y) (.b Y) .nil)<|Za<|K6 0 1 5 7 8 16 Y<|If h Y (fun h=>?_) fun h=>?_
   ·
    refine K1 5 Y<|Tr<|Rm Y<|Ra Y<|Za<|?_
    replace h:=lx h▸ho1
    obtain rfl:=rt h
    exact Zs (ZK Y (.one<|rb Y))
   ·
    exact Zj<|K4 0 1 7 8 Y<|Zt<|R2 ZX Y<|Rm Y<|Za<|⟨_,h,ES []<|sd 0 Y Y<|sr 1 Y (rFn<|rld f_d)<|sd 7 Y Y<|sd 8 Y Y sn⟩
  ·
   refine ZI<|?_
   replace h:=lx h▸ho1
   exact⟨(),h,ES []⟩
 ·
  replace h:=elr h
  replace h:=t0i h
  refine Tr<|Ra Y<|Za<|?_
  obtain rfl:=rt h
  exact Zs (ZK Y (.one<|rb Y))
theorem J6{s:List Int}{f:Int→Option Bool}{r:Bool}{f_f:FuncId}{f_c:List AV}(f_d:f_c.all datB=true)(f_h: ∀ (z0:Int) z,f z0=some z→CSpec Tryz.prog gl0 f_f ([.int .i64 z0]++f_c) (.bool z))(h:QE s f=some r):
 CSpec Tryz.prog gl0 98 [.sl 3 (List.map R3 s),.fn f_f f_c] (.bool r):=by
 unfold QE at h
 replace h:=Qk h
 refine So Tryz.func98 Y fun w0 A=>Tr<|Ra Y<|Za<|Tr<|Rm Y<|Rm Y<|bE h fun y h_y h=>Rq Y (Zq (Zdw f_d f_h h_y)<|.cons (ov Y) (.b Y)<|.cons (ov Y) (Dat.fnC<|.refl fun x hx=> .b<|List.all_eq_true.1 f_d x hx) .nil)<|R2 Zc5 Y<|Ra Y<|Za<|?_
 obtain rfl:=rt h
 exact Zs (ZK Y (.one<|rb Y))
theorem ZhQ{s:Int}{c0:Int}{r:Bool}(h:ZcU s c0=some r):
 CSpec Tryz.prog gl0 99 [.int .i64 s,.rp [.int .i64 c0] 0] (.bool r):=by
 unfold ZcU at h
 replace h:=Qk h
 refine So Tryz.func99 Y fun w0 A=>Tr<|Ra Y<|Za<|Tr<|Rm Y<|Rq Y (Zd (ov Y) tS3 Y)<|R2 XW Y<|Ra Y<|Za<|?_
 obtain rfl:=rt h
 exact Zs (ZK Y (.one<|rb Y))
theorem Zfm{r_:api_Rest}{state:Int}{r:Bool}(h:Zai r_ state=some r):
 CSpec Tryz.prog gl0 71 [.agg ((.int .i64 r_.Number)::((List.map C35 r_.Frame.toList)++(((List.map C3 r_.States.toList)++((.bool r_.Sound)::(.int .i64 r_.Copies)::(.bool r_.Conflict):: []))))),.int .i64 state] (.bool r):=by
 unfold Zai at h
 replace h:=Qk h
 refine So Tryz.func71 Y fun w0 A=>Tr<|Rq Y (Xh (cva<|ov Y) ZC tZ_52 Zak)<|Rq Y (Xh (cvs (ov Y)<|Z5 Y) Y tZ_3 Y)<|Ra Y<|Za<|K3 2 3 4 Y<|Tr<|Rq Y (ZE (ov Y) Zce)<|bE h fun l h_l h=>Rq Y (ZjV (f:=C3) (ov Y) ZhK tZ_3 Zdy Y on on h_l)<|Rq Y (Zd4<|.cons (ov Y) .nil)<|bE h fun y h_y h=>Rq Y (Zq (J6 Y (fun z0 _ hz=>ZhQ hz) h_y)<|.cons (ov Y) (.b Y)<|.cons (ov Y) (.fnC<|.cons (.b Y) .nil) .nil)<|R1 XV Y<|Ra Y<|Za<|?_
 obtain rfl:=rt h
 exact Zs (ZK Y (.one<|rb Y))
theorem Zem{x:salvage_finder}{i:Int}{place:Int}{r:api_Rest×Bool}(h:QX x i place=some r):
 CSpec Tryz.prog gl0 43 [.rp [.sl 5 (List.map R5 x.h_),.sl 47 (List.map R47 x.certain),.sl 3 (List.map R3 x.numbers),.any] 0,.int .i64 i,.int .i64 place] (.tuple [.agg ((.int .i64 r.1.Number)::((List.map C35 r.1.Frame.toList)++(((List.map C3 r.1.States.toList)++((.bool r.1.Sound)::(.int .i64 r.1.Copies)::(.bool r.1.Conflict):: []))))),.bool r.2]):=by
 unfold QX at h
 replace h:=Qk h
 refine So Tryz.func43 Y fun w0 A=>Tr<|Rx Y (ZP (row:=(.int .i64 0)::((List.map C35 (Vector.replicate 64 0).toList)++(((List.map C3 (Vector.replicate 64 0).toList)++((.bool false)::(.int .i64 0)::(.bool false):: []))))) 0 Y ZfL (by kernel_rfl)<|by exact Eq.symm (Eq.trans (b:=132) ZC tZ_52.symm))<|Ra Y<|Za<|K4 0 1 2 6 Y<|Tr<|Rm Y<|R1 ZD Y<|Rq Y (ZE (ov Y) Zo3)<|Rq Y (Zd (ov Y) Zdz Y)<|Rm Y<|bE h fun y h_y h=>Rq Y (Zq (Zhn h_y)<|.cons (ov Y) (.b Y)<|.cons (ov Y) (.b Y) .nil)<|Rm Y<|Rq Y (Zk (ov Y) Y)<|Rq Y (Zk (ov Y) Y)<|Rx Y (ZP (row:=(List.map C35 (Vector.replicate 64 0).toList)) 1 Y ZcI Y tZ_37)<|Rx Y (ZP (row:=(List.map C4 (Vector.replicate 64 false).toList)) 2 Y Zkl Y tZ_118)<|Rx Y (Zf (ov Y) (ov Y) (Zp Qz arL) Y Y Y (ZG (Zh arL) arL) (Zb<|arC fun _=>Y)<|ZO<|Eq.trans arL<|Eq.symm arL)<|Rx Y (Zf (ov Y) (ov Y) (Zp Zc8 arL) Y Y Y (ZG (Zh arL) arL) (Zb<|arC fun _=>Y)<|ZO<|Eq.trans arL<|Eq.symm arL)<|Za<|K6 0 1 2 6 8 9 Y<|Tr<|Rm Y<|Rm Y<|Rm Y<|Rq Y (ZJ (ov Y) Y Y Y Qz (Zu<|Zh arL) arL (hns:=(nsM fun _=>Y)))<|Rq Y (ZJ (ov Y) Y Y Y Zc8 (Zu<|Zh arL) arL (hns:=(nsM fun _=>Y)))<|bE h fun y2 h_y2 h=>Rq Y (Zq (Zep h_y2)<|.cons (ov Y) (.b Y)<|.cons (ov Y) (.b Y)<|.cons (ov Y) (.b Y)<|.cons (ov Y) (.aggB<|arD fun _=>Y)<|.cons (ov Y) (.aggB<|arD fun _=>Y) .nil)<|Rm Y<|Rq Y (Zk (ov Y) Y)<|Rq Y (Zk (ov Y) Y)<|Ra Y<|Ra Y<|Za<|Zl<|K5 6 8 9 10 11 Y<|Tr<|Rm Y<|R1 XV Y<|Za<|K5 6 8 9 10 34 Y<|If h Y (fun h=>?_) fun h=>?_
 ·
  refine K1 6 Y<|Tr<|Rq Y (Zc9 (zr:=(.int .i64 0)::((List.map C35 (Vector.replicate 64 0).toList)++(((List.map C3 (Vector.replicate 64 0).toList)++((.bool false)::(.int .i64 0)::(.bool false):: []))))) ZlG ZlS ZfL (by kernel_rfl) .nil Zfy)<|Rx Y (Zf (ov Y) (ov Y) (Zp X8 ZC) Y Y Y (ZG (Zh ZC) ZC) (Zb ZeG)<|ZO<|Eq.trans ZC<|Eq.symm ZC)<|Ra Y<|Za<|?_
  obtain rfl:=rt h
  exact Zs (ZK Y (.two (.agg Y Y Y Y X8 (Zu<|Zh ZC) ZC (pwB Zak) (hns:=Zdi))<|rb Y))
 ·
  refine Zj<|K4 6 8 9 10 Y<|Tr<|Rm Y<|Rq Y (Zc9 (zr:=(.int .i64 0)::((List.map C35 (Vector.replicate 64 0).toList)++(((List.map C3 (Vector.replicate 64 0).toList)++((.bool false)::(.int .i64 0)::(.bool false):: []))))) ZlG ZlS ZfL (by kernel_rfl) (.cons (cvs (ov Y)<|Z5 Y) .nil)<|Jj Y Y ZbW Zqo Zfy)<|Rx Y (ZP (row:=(.int .i64 0)::((List.map C35 (Vector.replicate 64 0).toList)++(((List.map C3 (Vector.replicate 64 0).toList)++((.bool false)::(.int .i64 0)::(.bool false):: []))))) 3 Y ZfL (by kernel_rfl)<|by exact Eq.symm (Eq.trans (b:=132) ZC tZ_52.symm))<|Rx Y (Zf (ov Y) (ov Y) (Zp X8 ZC) Y Y Y (ZG (Zh ZC) ZC) (Zb ZeG)<|ZO<|Eq.trans ZC<|Eq.symm ZC)<|Za<|I1 (fun r_=>⟨[(6,.ptr 0 1 0 0),(12,.ptr 1 1 0 0)],[some ⟨52,[(.int .i64 0)::((List.map C35 (Vector.replicate 64 0).toList)++(((List.map C3 (Vector.replicate 64 0).toList)++((.bool false)::(.int .i64 0)::(.bool false):: []))))]⟩,some ⟨52,[(.int .i64 r_.Number)::((List.map C35 r_.Frame.toList)++(((List.map C3 r_.States.toList)++((.bool r_.Sound)::(.int .i64 r_.Copies)::(.bool r_.Conflict):: []))))]⟩]⟩) h (fun h=>?_) fun r_ h=>?_
  ·
   refine K5 6 8 9 10 12 Y<|Tr<|Rq Y (ZJ (ov Y) Y Y Y Qz (Zu<|Zh arL) arL (hns:=(nsM fun _=>Y)))<|Rm Y<|Za<|Zi<|?_
   obtain⟨r1,hl1,ho1⟩:=QZ h
   refine L2 (fun r_2 i2=>⟨[(6,.ptr 0 1 0 0),(9,.ptr 1 1 0 0),(10,.int .i64 y2.1),(12,.ptr 2 1 0 0),(38,.agg (List.map C35 y.1.toList)),(39,.int .i64 i2)],[some ⟨52,[(.int .i64 0)::((List.map C35 (Vector.replicate 64 0).toList)++(((List.map C3 (Vector.replicate 64 0).toList)++((.bool false)::(.int .i64 0)::(.bool false):: []))))]⟩,some ⟨118,[(List.map C4 y.2.toList)]⟩,some ⟨52,[(.int .i64 r_2.Number)::((List.map C35 r_2.Frame.toList)++(((List.map C3 r_2.States.toList)++((.bool r_2.Sound)::(.int .i64 r_2.Copies)::(.bool r_2.Conflict):: []))))]⟩]⟩) hl1 (ES [some 0,some 2,some 3]) fun n1 r_2 i2 h=>?_
   unfold QT at h
   refine Tr<|R2 ZV Y<|Za<|Zl<|If h Y (fun h=>?_) fun h=>?_
   ·
    refine Zj<|Zl<|Zi<|K6 6 9 10 12 38 39 Y<|Tr<|Rm Y<|bE h fun x2 h_x2 h=>Rq Y (ZeN (ov Y) (ov Y) Xc Xn h_x2)<|Ra Y<|Ra Y<|Za<|K8 6 9 10 12 13 14 38 39 Y<|Tr<|Rm Y<|bE h fun x3 h_x3 h=>Rq Y (QB (ov Y) (ov Y) ZiK Y Y h_x3)<|Rq Y (Zm (ov Y) Y Y Y tS4<|Zn<|Qn (o:=0) (o':=(i2.toNat*1)) (Zh arL)<|Qd h_x3)<|Rm Y<|Rq Y (.guarded (x3==true) Y Y Y Y fun h=>Zc<|ov Y)<|Rq Y (.guarded (x3==true) Y Y Y Y fun h=>Zc<|ov Y)<|Rq Y (.guarded (x3==true) Y Y Y Y fun h=>Zc<|ov Y)<|bE h fun y3 h_y3 h=>Rq Y (.guarded (x3==true) Y Y Y Y fun h=>Zq (Zfk<|gdT h_y3 h)<|.cons (ow Y h) (.b Y)<|.cons (ow Y h) (.b Y)<|.cons (ow Y h) (.b Y) .nil)<|Rq Y (XJ (ov Y) fun hp=>ow Y<|gT hp)<|Za<|K9 6 9 10 12 13 14 38 39 51 Y<|If h Y (fun h=>?_) fun h=>?_
    ·
     exact K8 6 9 10 12 13 14 38 39 Y<|Zt<|Rm Y<|Rm Y<|Rm Y<|Rq Y (Ze (ov Y) Y Y Zao)<|bE h fun x4 h_x4 h=>Rq Y (QB (ov Y) (ov Y) Xc Y Y h_x4)<|Rx Y (Zf (ov Y) (ov Y) (Zg Xn) Y Y Y (ZG (Qn (o:=1) (o':=(i2.toNat*1)) Zdd<|Qd h_x4) Y) (Zb Y)<|ZbF (o:=1) (o':=(i2.toNat*1)) Zdd (Qd h_x4) Y (Zdn h_x4 (x:=x2)) ZjJ)<|Rq Y (Ze (ov Y) Y Y Zce)<|bE h fun x5 h_x5 h=>Rq Y (QB (ov Y) (ov Y) ZhK Y Y h_x5)<|Rx Y (Zf (ov Y) (ov Y) (Zg tS3) Y Y Y (ZG (Qn (o:=65) (o':=(i2.toNat*1)) Zdy<|Qd h_x5) Y) (Zb Y)<|ZbF (o:=65) (o':=(i2.toNat*1)) Zdy (Qd h_x5) Y (Zdn h_x5 (x:=1)) ZjM)<|Za<|K6 6 9 10 12 38 39 Y<|Zt<|R2 ZX Y<|Rm Y<|Za<|⟨_,h,ES [some 0,some 1,some 2]⟩
    ·
     exact Zj<|K6 6 9 10 12 38 39 Y<|Zt<|R2 ZX Y<|Rm Y<|Za<|⟨_,h,ES [some 0,some 1,some 2]⟩
   ·
    refine ZI<|?_
    replace h:=lx h▸ho1
    exact⟨_,h,ES [some 0,some 2]⟩
  ·
   refine Zl<|Qe (cw:=md0) (by kernel_rfl)<|Dq 0 Y (ZJ (ov Y) Y Y Y X8 (Zu<|Zh ZC) ZC (hns:=Zdi))<|Dq 1 Y (ZJ (ov Y) Y Y Y X8 (Zu<|Zh ZC) ZC (hns:=Zdi))<|bE h fun y4 h_y4 h=>Dq 2 Y (Zq (Zfm h_y4)<|.cons (ov Y) (.aggB Zak)<|.cons (ov Y) (.b Y) .nil)<|XG 3 _ Y (by kernel_rfl) Y Y (fun hp'=>XV<|ov Y)<|Do 4 Y (Zf (ov Y) (ov Y) (Zp X8 ZC) Y Y Y (ZG (Zh ZC) ZC) (Zb ZeG)<|ZO<|Eq.trans ZC<|Eq.symm ZC)<|D1 5 QK Y<|Dd<|?_
   obtain rfl:=rt h
   exact Zs (ZK Y (.two (.agg Y Y Y Y X8 (Zu<|Zh ZC) ZC (pwB Zak) (hns:=Zdi))<|rb Y))
theorem ZjU{xs r:List Int}(h:Zh1 xs=some r):
    GSpec Tryz.prog gl0 47 [.own 0 xs.length] [some ⟨3,List.map R3 xs⟩] (.tuple []) [some ⟨3,List.map R3 r⟩]:=
  ZoD (g:=R3) (fun _=>rfl) (by kernel_rfl) tZ_3 (fun _ _ _ _ _ h1 h2 h3=>Any.slices_Sort_int Tryz.lays189 _ _ _ _ _ h1 h2 h3) (fun p c w=>Any.slices_Sort_int_none Tryz.lays189 p c w) h
theorem Zbj{s:List api_Rest}{f:api_Rest→Option Bool}{r:Int}{f_f:FuncId}{f_c:List AV}(f_d:f_c.all datB=true)(f_h: ∀ (z0:api_Rest) z,f z0=some z→CSpec Tryz.prog gl0 f_f ([.agg ((.int .i64 z0.Number)::((List.map C35 z0.Frame.toList)++(((List.map C3 z0.States.toList)++((.bool z0.Sound)::(.int .i64 z0.Copies)::(.bool z0.Conflict):: [])))))]++f_c) (.bool z))(h:QS s f=some r):
 CSpec Tryz.prog gl0 111 [.sl 52 (List.map R52 s),.fn f_f f_c] (.int .i64 r):=by
 unfold QS at h
 replace h:=Qk h
 refine So Tryz.func111 Y fun w0 A=>Tr<|Ra Y<|Za<|J0 (fun j=>(.inr j)) ⟨[],[]⟩ h (fun h=>?_) fun h=>?_
 ·
  refine K2 0 1 Y<|Tr<|Rm Y<|Rl tZ_52 Jg Y<|Rm Y<|Za<|Zi<|?_
  obtain⟨r1,hl1,ho1⟩:=QZ h
  refine L1 (fun i=>⟨[(0,.sl 52 (List.map R52 s)),(1,.fn f_f f_c),(7,.int .i64 (s.length:Int)),(8,.int .i64 i)],[]⟩) hl1 (ES []<|sd 0 Y Y<|sr 1 Y (rFn<|rld f_d)<|sd 7 Y Y<|sd 8 Y Y sn) fun n1 i h=>?_
  unfold Qb at h
  refine Tr<|R2 ZV Y<|Za<|Zl<|If h Y (fun h=>?_) fun h=>?_
  ·
   refine Zj<|Zl<|Zi<|K4 0 1 7 8 Y<|Tr<|Rm Y<|Ra Y<|Za<|K5 0 1 5 7 8 Y<|Tr<|Rm Y<|Rm Y<|Rm Y<|bE h fun x h_x h=>Rq Y (ZW (ov Y) (ov Y) Jg h_x)<|Rq Y (ZU (ov Y) X8 (Zu<|Zh ZC) ZC)<|bE h fun y h_y h=>Rq Y (Zch (ov Y) f_d (f_h _ _ h_y)<|.cons (ov Y) (.aggB Zak) .nil)<|Za<|K6 0 1 5 7 8 16 Y<|If h Y (fun h=>?_) fun h=>?_
   ·
    refine K1 5 Y<|Tr<|Rm Y<|Ra Y<|Za<|?_
    replace h:=lx h▸ho1
    obtain rfl:=rt h
    exact Zs (ZK Y (.one<|rb Y))
   ·
    exact Zj<|K4 0 1 7 8 Y<|Zt<|R2 ZX Y<|Rm Y<|Za<|⟨_,h,ES []<|sd 0 Y Y<|sr 1 Y (rFn<|rld f_d)<|sd 7 Y Y<|sd 8 Y Y sn⟩
  ·
   refine ZI<|?_
   replace h:=lx h▸ho1
   exact⟨(),h,ES []⟩
 ·
  replace h:=elr h
  replace h:=t0i h
  refine Tr<|Ra Y<|Za<|?_
  obtain rfl:=rt h
  exact Zs (ZK Y (.one<|rb Y))
theorem ZaG{s:List api_Rest}{f:api_Rest→Option Bool}{r:Bool}{f_f:FuncId}{f_c:List AV}(f_d:f_c.all datB=true)(f_h: ∀ (z0:api_Rest) z,f z0=some z→CSpec Tryz.prog gl0 f_f ([.agg ((.int .i64 z0.Number)::((List.map C35 z0.Frame.toList)++(((List.map C3 z0.States.toList)++((.bool z0.Sound)::(.int .i64 z0.Copies)::(.bool z0.Conflict):: [])))))]++f_c) (.bool z))(h:Ql s f=some r):
 CSpec Tryz.prog gl0 74 [.sl 52 (List.map R52 s),.fn f_f f_c] (.bool r):=by
 unfold Ql at h
 replace h:=Qk h
 refine So Tryz.func74 Y fun w0 A=>Tr<|Ra Y<|Za<|Tr<|Rm Y<|Rm Y<|bE h fun y h_y h=>Rq Y (Zq (Zbj f_d f_h h_y)<|.cons (ov Y) (.b Y)<|.cons (ov Y) (Dat.fnC<|.refl fun x hx=> .b<|List.all_eq_true.1 f_d x hx) .nil)<|R2 Zc5 Y<|Ra Y<|Za<|?_
 obtain rfl:=rt h
 exact Zs (ZK Y (.one<|rb Y))
theorem Zgx{r_:api_Rest}{r:Bool}(h:ZbO r_=some r):
 CSpec Tryz.prog gl0 75 [.agg ((.int .i64 r_.Number)::((List.map C35 r_.Frame.toList)++(((List.map C3 r_.States.toList)++((.bool r_.Sound)::(.int .i64 r_.Copies)::(.bool r_.Conflict):: [])))))] (.bool r):=by
 unfold ZbO at h
 replace h:=Qk h
 refine So Tryz.func75 Y fun w0 A=>Tr<|Rq Y (Xh (cva<|ov Y) ZC tZ_52 Zak)<|Ra Y<|Za<|K2 1 2 Y<|Tr<|Rq Y (ZE (ov Y) Zl2)<|Rq Y (Zd (ov Y) tS4<|Zn ZqV)<|Ra Y<|Za<|?_
 obtain rfl:=rt h
 exact Zs (ZK Y (.one<|rb Y))
theorem Zfo{out:api_Rest}{l:List api_Rest}{r:Bool×api_Rest}(h:Zap out l=some r):
 GSpec Tryz.prog gl0 76 [.ptr 0 1 0 0,.sl 52 (List.map R52 l)] [some ⟨52,[(.int .i64 out.Number)::((List.map C35 out.Frame.toList)++(((List.map C3 out.States.toList)++((.bool out.Sound)::(.int .i64 out.Copies)::(.bool out.Conflict):: []))))]⟩] (.bool r.1) [some ⟨52,[(.int .i64 r.2.Number)::((List.map C35 r.2.Frame.toList)++(((List.map C3 r.2.States.toList)++((.bool r.2.Sound)::(.int .i64 r.2.Copies)::(.bool r.2.Conflict):: []))))]⟩]:=by
 unfold Zap at h
 replace h:=Qk h
 refine ZaU (by kernel_rfl) Tryz.func76 Y Y<|?_
 intro w0 A W φ0
 refine Tr<|Ra Y<|Za<|J1 (fun j=>(.inr j)) (fun o=>⟨[],[some ⟨52,[(.int .i64 o.Number)::((List.map C35 o.Frame.toList)++(((List.map C3 o.States.toList)++((.bool o.Sound)::(.int .i64 o.Copies)::(.bool o.Conflict):: []))))]⟩]⟩) h (fun h=>?_) fun o h=>?_
 ·
  refine K2 0 1 Y<|Tr<|Rm Y<|Rl tZ_52 Jg Y<|Rm Y<|Za<|Zi<|?_
  obtain⟨r1,hl1,ho1⟩:=QZ h
  refine L2 (fun o2 i=>⟨[(0,.ptr 0 1 0 0),(9,.sl 52 (List.map R52 l)),(10,.int .i64 (l.length:Int)),(11,.int .i64 i)],[some ⟨52,[(.int .i64 o2.Number)::((List.map C35 o2.Frame.toList)++(((List.map C3 o2.States.toList)++((.bool o2.Sound)::(.int .i64 o2.Copies)::(.bool o2.Conflict):: []))))]⟩]⟩) hl1 (ES [some 0]) fun n1 o2 i h=>?_
  unfold JF at h
  refine Tr<|R2 ZV Y<|Za<|Zl<|If h Y (fun h=>?_) fun h=>?_
  ·
   refine Zj<|J1 (fun j=>(.inr j)) (fun o3=>⟨[(0,.ptr 0 1 0 0),(9,.sl 52 (List.map R52 l)),(10,.int .i64 (l.length:Int)),(11,.int .i64 i)],[some ⟨52,[(.int .i64 o3.Number)::((List.map C35 o3.Frame.toList)++(((List.map C3 o3.States.toList)++((.bool o3.Sound)::(.int .i64 o3.Copies)::(.bool o3.Conflict):: []))))]⟩]⟩) h (fun h=>?_) fun o3 h=>?_
   ·
    refine Zi<|K4 0 9 10 11 Y<|Tr<|bE h fun x h_x h=>Rq Y (ZW (ov Y) (ov Y) Jg h_x)<|Rq Y (ZU (ov Y) X8 (Zu<|Zh ZC) ZC)<|Rx Y (ZP (row:=(.int .i64 0)::((List.map C35 (Vector.replicate 64 0).toList)++(((List.map C3 (Vector.replicate 64 0).toList)++((.bool false)::(.int .i64 0)::(.bool false):: []))))) 1 Y ZfL (by kernel_rfl)<|by exact Eq.symm (Eq.trans (b:=132) ZC tZ_52.symm))<|Rx Y (Zf (ov Y) (ov Y) (Zp X8 ZC) Y Y Y (ZG (Zh ZC) ZC) (Zb ZeG)<|ZO<|Eq.trans ZC<|Eq.symm ZC)<|Za<|Zl<|K5 0 6 9 10 11 Y<|Tr<|Rq Y (Ze (ov Y) Y Y ZeQ)<|Rq Y (Zm (ov Y) Y Y Y tS4<|Zn Zim)<|R1 XV Y<|Za<|K6 0 6 9 10 11 17 Y<|If h Y (fun h=>?_) fun h=>?_
    ·
     exact ZI<|⟨_,h,ES [some 0]⟩
    ·
     refine Zj<|Zl<|Zl<|K5 0 6 9 10 11 Y<|Qe (cw:=md0) (by kernel_rfl)<|D1 0 Zc Y<|Dq 1 Y (Zo (ov Y) Y Y)<|Dq 2 Y (Ze (ov Y) Y Y ZeQ)<|Dq 3 Y (Zm (ov Y) Y Y Y tS4<|Zn Zim)<|D1 4 Zc Y<|Dq 5 Y (.guarded (o2.Sound==true) Y Y Y Y fun h=>Zc<|ov Y)<|Dq 6 Y (.guarded (o2.Sound==true) Y Y Y Y fun h=>Zo (ow Y h) Y Y)<|Dq 7 Y (.guarded (o2.Sound==true) Y Y Y Y fun h=>Ze (ow Y h) Y Y Zao)<|Dq 8 Y (.guarded (o2.Sound==true) Y Y Y Y fun h=>ZJ (ow Y h) Y Y Y Qz (Zu Zdd) arL (hns:=(nsM fun _=>Y)))<|Dq 9 Y (.guarded (o2.Sound==true) Y Y Y Y fun h=>Ze (ov Y) Y Y Zao)<|Dq 10 Y (.guarded (o2.Sound==true) Y Y Y Y fun h=>ZJ (ow Y h) Y Y Y Qz (Zu Zdd) arL (hns:=(nsM fun _=>Y)))<|Dq 11 Y (.guarded (o2.Sound==true) Y Y Y Y fun h=>Zsp Zn9 (ow Y h) (ow Y h) (.aggB<|arD fun _=>Y) (.aggB<|arD fun _=>Y) (fkV fun _=>Y) (fkV fun _=>Y)<|eqV fun _ _=>Y)<|Dq 12 Y (XJ (ov Y) fun hp=>ow Y<|gT hp)<|Dd<|K6 0 6 9 10 11 30 Y<|If h Y (fun h=>?_) fun h=>?_
     ·
      refine K0<|Tr<|Ra Y<|Za<|?_
      replace h:=lx h▸ho1
      obtain rfl:=rt h
      exact Zs<|ZlW [some 0] Y (.cons (.tmp Y) .nil) (.cons Y (ro1 (by exact Eq.trans (b:=132) ZC tZ_52.symm)<|rld Zak) .nil) Y Y<|.dat Y
     ·
      refine Zj<|I0 ⟨[(0,.ptr 0 1 0 0),(6,.ptr 1 1 0 0),(9,.sl 52 (List.map R52 l)),(10,.int .i64 (l.length:Int)),(11,.int .i64 i)],[some ⟨52,[(.int .i64 o2.Number)::((List.map C35 x.Frame.toList)++(((List.map C3 o2.States.toList)++((.bool true)::(.int .i64 o2.Copies)::(.bool o2.Conflict):: []))))]⟩,some ⟨52,[(.int .i64 x.Number)::((List.map C35 x.Frame.toList)++(((List.map C3 x.States.toList)++((.bool x.Sound)::(.int .i64 x.Copies)::(.bool x.Conflict):: []))))]⟩]⟩ h (fun h=>?_) fun h=>?_
      ·
       refine K5 0 6 9 10 11 Y<|Qe (cw:=md0) (by kernel_rfl)<|D1 0 Zc Y<|Dq 4 Y (Zo (ov Y) Y Y)<|Dq 5 Y (Ze (ov Y) Y Y ZeQ)<|XG 1 _ Y (by kernel_rfl) Y Y (fun hp'=>Zc<|ov Y)<|Dw 2 6 Y (Ze (ov Y) Y Y Zao) (Zf (ov Y) (ov Y) (Zg tS4) Y Y Y (ZG Zim Y) (Zb Y) ZnH) ?_ ?_
       ·
        refine Dw 3 6 Y (ZJ (ov Y) Y Y Y Qz (Zu Zdd) arL (hns:=(nsM fun _=>Y))) (Zf (ov Y) (ov Y) (Zg tS4) Y Y Y (ZG Zim Y) (Zb Y) ZnH) ?_ ?_
        ·
         exact Do 6 Y (Zf (ov Y) (ov Y) (Zg tS4) Y Y Y (ZG Zim Y) (Zb Y) ZnH)<|Dq 7 Y (Zo (ov Y) Y Y)<|Dq 8 Y (Ze (ov Y) Y Y Zao)<|Do 9 Y (Zf (ov Y) (ov Y) (Zp Qz arL) Y Y Y (ZG Zdd arL) (Zb<|arC fun _=>Y) ZjJ)<|Dd<|⟨(),h,ES [some 0,some 1]⟩
        ·
         exact Dq 3 Y (ZJ (ov Y) Y Y Y Qz (Zu Zdd) arL (hns:=(nsM fun _=>Y)))<|Dq 7 Y (Zo (ov Y) Y Y)<|Dq 8 Y (Ze (ov Y) Y Y Zao)<|Do 9 Y (Zf (ov Y) (ov Y) (Zp Qz arL) Y Y Y (ZG Zdd arL) (Zb<|arC fun _=>Y) ZjJ)<|Dd<|⟨(),h,ES [some 0,some 1]⟩
       ·
        exact Dq 2 Y (Ze (ov Y) Y Y Zao)<|Dq 3 Y (ZJ (ov Y) Y Y Y Qz (Zu Zdd) arL (hns:=(nsM fun _=>Y)))<|Dq 7 Y (Zo (ov Y) Y Y)<|Dq 8 Y (Ze (ov Y) Y Y Zao)<|Do 9 Y (Zf (ov Y) (ov Y) (Zp Qz arL) Y Y Y (ZG Zdd arL) (Zb<|arC fun _=>Y) ZjJ)<|Dd<|⟨(),h,ES [some 0,some 1]⟩
      ·
       refine Tr<|Rq Y (Ze (ov Y) Y Y Zce)<|Rq Y (ZJ (ov Y) Y Y Y ZmC (Zu Zdy) arL (hns:=(nsM fun _=>Y)))<|Rm Y<|Za<|Zi<|?_
       obtain⟨r2,hl2,ho2⟩:=bnd h
       refine L2 (fun States i2=>⟨[(0,.ptr 0 1 0 0),(9,.sl 52 (List.map R52 l)),(10,.int .i64 (l.length:Int)),(11,.int .i64 i),(40,.agg (List.map C3 x.States.toList)),(41,.int .i64 i2)],[some ⟨52,[(.int .i64 o2.Number)::((List.map C35 x.Frame.toList)++(((List.map C3 States.toList)++((.bool true)::(.int .i64 o2.Copies)::(.bool o2.Conflict):: []))))]⟩]⟩) hl2 (ES [some 0]) fun n2 States i2 h=>?_
       unfold XK at h
       refine Tr<|R2 ZV Y<|Za<|Zl<|If h Y (fun h=>?_) fun h=>?_
       ·
        exact Zj<|Zl<|Zi<|K6 0 9 10 11 40 41 Y<|Tr<|Rm Y<|bE h fun x2 h_x2 h=>Rq Y (ZeN (ov Y) (ov Y) ZhK tS3 h_x2)<|Ra Y<|Ra Y<|Za<|K8 0 7 8 9 10 11 40 41 Y<|Qe (cw:=md0) (by kernel_rfl)<|D1 0 Zc Y<|D1 1 Zc Y<|D1 2 Zc Y<|D1 3 Zc Y<|Dq 4 Y (Zo (ov Y) Y Y)<|Dq 5 Y (Ze (ov Y) Y Y Zce)<|bE h fun x3 h_x3 h=>Dq 6 Y (QB (ov Y) (ov Y) ZhK Y Y h_x3)<|Dq 7 Y (Zm (ov Y) Y Y Y tS3<|Zn<|Qn (o:=65) (o':=(i2.toNat*1)) Zdy<|Qd h_x3)<|D1 8 Zc Y<|Dq 9 Y (ZoZ (ov Y) (ov Y) Y)<|Dq 10 Y (Zo (ov Y) Y Y)<|Dq 11 Y (Ze (ov Y) Y Y Zce)<|bE h fun x4 h_x4 h=>Dq 12 Y (QB (ov Y) (ov Y) ZhK Y Y h_x4)<|Do 13 Y (Zf (ov Y) (ov Y) (Zg tS3) Y Y Y (ZG (Qn (o:=65) (o':=(i2.toNat*1)) Zdy<|Qd h_x4) Y) (Zb Y)<|ZbF (o:=65) (o':=(i2.toNat*1)) Zdy (Qd h_x4) Y (Zdn h_x4 (x:=(max x3 x2))) ZjM)<|Dd<|K6 0 9 10 11 40 41 Y<|Zt<|R2 ZX Y<|Rm Y<|Za<|⟨_,h,ES [some 0]⟩
       ·
        refine ZI<|?_
        replace h:=lx h▸ho2
        exact⟨_,h,ES [some 0]⟩
   ·
    replace h:=elr h
    replace h:=t1i h
    exact Zt<|R2 ZX Y<|Rm Y<|Za<|⟨_,h,ES [some 0]⟩
  ·
   refine ZI<|?_
   replace h:=lx h▸ho1
   exact⟨_,h,ES [some 0]⟩
 ·
  replace h:=elr h
  replace h:=t1i h
  refine Tr<|Ra Y<|Za<|?_
  obtain rfl:=rt h
  exact Zs<|ZlW [some 0] Y (.cons (.tmp Y) .nil) (.cons Y (ro1 (by exact Eq.trans (b:=132) ZC tZ_52.symm)<|rld Zak) .nil) Y Y<|.dat Y
theorem Zft{out:api_Rest}{l:List api_Rest}{r:api_Rest}(h:ZbH out l=some r):
 GSpec Tryz.prog gl0 77 [.ptr 0 1 0 0,.sl 52 (List.map R52 l)] [some ⟨52,[(.int .i64 out.Number)::((List.map C35 out.Frame.toList)++(((List.map C3 out.States.toList)++((.bool out.Sound)::(.int .i64 out.Copies)::(.bool out.Conflict):: []))))]⟩] (.tuple []) [some ⟨52,[(.int .i64 r.Number)::((List.map C35 r.Frame.toList)++(((List.map C3 r.States.toList)++((.bool r.Sound)::(.int .i64 r.Copies)::(.bool r.Conflict):: []))))]⟩]:=by
 unfold ZbH at h
 replace h:=Qk h
 refine ZaU (by kernel_rfl) Tryz.func77 Y Y<|?_
 intro w0 A W φ0
 refine Tr<|Rm Y<|Za<|Zi<|?_
 obtain⟨r1,hl1,ho1⟩:=QZ h
 refine L2 (fun o i=>⟨[(0,.ptr 0 1 0 0),(1,.sl 52 (List.map R52 l)),(8,.int .i64 i)],[some ⟨52,[(.int .i64 o.Number)::((List.map C35 o.Frame.toList)++(((List.map C3 o.States.toList)++((.bool o.Sound)::(.int .i64 o.Copies)::(.bool o.Conflict):: []))))]⟩]⟩) hl1 (ES [some 0]) fun n1 o i h=>?_
 unfold JB at h
 refine Tr<|R2 ZV Y<|Za<|Zl<|If h Y (fun h=>?_) fun h=>?_
 ·
  refine Zj<|I1 (fun o2=>⟨[(0,.ptr 0 1 0 0),(1,.sl 52 (List.map R52 l)),(8,.int .i64 i)],[some ⟨52,[(.int .i64 o2.Number)::((List.map C35 o2.Frame.toList)++(((List.map C3 o2.States.toList)++((.bool o2.Sound)::(.int .i64 o2.Copies)::(.bool o2.Conflict):: []))))]⟩]⟩) h (fun h=>?_) fun o2 h=>?_
  ·
   refine Zi<|K3 0 1 8 Y<|Tr<|Rm Y<|Ra Y<|Za<|K4 0 1 4 8 Y<|Tr<|Ra Y<|Za<|I2 (fun o3 differ=>⟨[(0,.ptr 0 1 0 0),(1,.sl 52 (List.map R52 l)),(4,.int .i64 i),(5,.bool differ),(8,.int .i64 i)],[some ⟨52,[(.int .i64 o3.Number)::((List.map C35 o3.Frame.toList)++(((List.map C3 o3.States.toList)++((.bool o3.Sound)::(.int .i64 o3.Copies)::(.bool o3.Conflict):: []))))]⟩]⟩) h (fun h=>?_) fun o3 differ h=>?_
   ·
    refine Tr<|Rm Y<|Rl tZ_52 Jg Y<|Rm Y<|Za<|Zi<|?_
    obtain⟨r2,hl2,ho2⟩:=QZ h
    refine L3 (fun o4 differ2 i2=>⟨[(0,.ptr 0 1 0 0),(1,.sl 52 (List.map R52 l)),(4,.int .i64 i),(5,.bool differ2),(8,.int .i64 i),(11,.sl 52 (List.map R52 l)),(12,.int .i64 (l.length:Int)),(13,.int .i64 i2)],[some ⟨52,[(.int .i64 o4.Number)::((List.map C35 o4.Frame.toList)++(((List.map C3 o4.States.toList)++((.bool o4.Sound)::(.int .i64 o4.Copies)::(.bool o4.Conflict):: []))))]⟩]⟩) hl2 (ES [some 0]) fun n2 o4 differ2 i2 h=>?_
    unfold XN at h
    refine Tr<|R2 ZV Y<|Za<|Zl<|If h Y (fun h=>?_) fun h=>?_
    ·
     refine Zj<|Zl<|Zi<|K8 0 1 4 5 8 11 12 13 Y<|Tr<|bE h fun x h_x h=>Rq Y (ZW (ov Y) (ov Y) Jg h_x)<|Rq Y (ZU (ov Y) X8 (Zu<|Zh ZC) ZC)<|Rx Y (ZP (row:=(.int .i64 0)::((List.map C35 (Vector.replicate 64 0).toList)++(((List.map C3 (Vector.replicate 64 0).toList)++((.bool false)::(.int .i64 0)::(.bool false):: []))))) 1 Y ZfL (by kernel_rfl)<|by exact Eq.symm (Eq.trans (b:=132) ZC tZ_52.symm))<|Rx Y (Zf (ov Y) (ov Y) (Zp X8 ZC) Y Y Y (ZG (Zh ZC) ZC) (Zb ZeG)<|ZO<|Eq.trans ZC<|Eq.symm ZC)<|Za<|Zl<|K9 0 1 4 5 7 8 11 12 13 Y<|Tr<|Rm Y<|Rq Y (Ze (ov Y) Y Y Zce)<|bE h fun x2 h_x2 h=>Rq Y (QB (ov Y) (ov Y) ZhK Y Y h_x2)<|Rq Y (Zm (ov Y) Y Y Y tS3<|Zn<|Qn (o:=65) (o':=(i.toNat*1)) Zdy<|Qd h_x2)<|R2 Q3 Y<|Za<|K10 0 1 4 5 7 8 11 12 13 21 Y<|If h Y (fun h=>?_) fun h=>?_
     ·
      exact ZI<|K8 0 1 4 5 8 11 12 13 Y<|Zt<|R2 ZX Y<|Rm Y<|Za<|⟨_,h,ES [some 0]⟩
     ·
      exact Zj<|Zl<|K9 0 1 4 5 7 8 11 12 13 Y<|Qe (cw:=md0) (by kernel_rfl)<|D1 0 Zc Y<|D1 1 Zc Y<|Dq 2 Y (.guarded (differ2==false) Y Y Y Y fun h=>Zc<|ov Y)<|Dq 3 Y (.guarded (differ2==false) Y Y Y Y fun h=>Zc<|ov Y)<|Dq 4 Y (.guarded (differ2==false) Y Y Y Y fun h=>Zo (ow Y h) Y Y)<|Dq 5 Y (.guarded (differ2==false) Y Y Y Y fun h=>Ze (ow Y h) Y Y Zce)<|bE h fun x3 h_x3 h=>Dq 6 Y (.guarded (differ2==false) Y Y Y Y fun h=>QB (ow Y h) (ow Y h) ZhK Y Y<|gdT h_x3 h)<|Dq 7 Y (.guarded (differ2==false) Y Y Y Y fun h=>Zm (ow Y h) Y Y Y tS3<|Zn<|Qn (o:=65) (o':=(i.toNat*1)) Zdy<|Qd<|gdT h_x3 h)<|Dq 8 Y (.guarded (differ2==false) Y Y Y Y fun h=>XW (ow Y h)<|ov Y)<|Dq 9 Y (.guarded (differ2==false) Y Y Y Y fun h=>Zc<|ow Y h)<|Dq 10 Y (.guarded2 ((differ2==false)&&((!decide (x3=0))==true)) Y Y Y Y fun h=>Zc<|ov Y)<|Dq 11 Y (.guarded2 ((differ2==false)&&((!decide (x3=0))==true)) Y Y Y Y fun h=>Zc<|ov Y)<|Dq 12 Y (.guarded2 ((differ2==false)&&((!decide (x3=0))==true)) Y Y Y Y fun h=>Zo (ow Y h) Y Y)<|Dq 13 Y (.guarded2 ((differ2==false)&&((!decide (x3=0))==true)) Y Y Y Y fun h=>Ze (ow Y h) Y Y Zao)<|bE h fun x4 h_x4 h=>Dq 14 Y (.guarded2 ((differ2==false)&&((!decide (x3=0))==true)) Y Y Y Y fun h=>QB (ow Y h) (ow Y h) Xc Y Y<|gdT h_x4 h)<|Dq 15 Y (.guarded2 ((differ2==false)&&((!decide (x3=0))==true)) Y Y Y Y fun h=>Zm (ow Y h) Y Y Y Xn<|Zn<|Qn (o:=1) (o':=(i.toNat*1)) Zdd<|Qd<|gdT h_x4 h)<|Dq 16 Y (.guarded2 ((differ2==false)&&((!decide (x3=0))==true)) Y Y Y Y fun h=>Zc<|ov Y)<|Dq 17 Y (.guarded2 ((differ2==false)&&((!decide (x3=0))==true)) Y Y Y Y fun h=>Ze (ov Y) Y Y Zao)<|bE h fun x5 h_x5 h=>Dq 18 Y (.guarded2 ((differ2==false)&&((!decide (x3=0))==true)) Y Y Y Y fun h=>QB (ow Y h) (ow Y h) Xc Y Y<|gdT h_x5 h)<|Dq 19 Y (.guarded2 ((differ2==false)&&((!decide (x3=0))==true)) Y Y Y Y fun h=>Zm (ow Y h) Y Y Y Xn<|Zn<|Qn (o:=1) (o':=(i.toNat*1)) Zdd<|Qd<|gdT h_x5 h)<|Dq 20 Y (.guarded2 ((differ2==false)&&((!decide (x3=0))==true)) Y Y Y Y fun h=>XW (ow Y h)<|ow Y h)<|Dq 21 Y (.guarded (differ2==false) Y Y Y Y fun h=>XJ (ow Y h) fun hp=>ow Y<|gA h<|gT hp)<|Dq 22 Y (Za2 (ov Y) fun hp=>ow Y<|gF hp)<|D1 23 QK Y<|Dd<|K9 0 1 4 5 7 8 11 12 13 Y<|Qe (cw:=⟨false,true,[some ⟨52,[(.int .i64 o4.Number)::((List.map C35 o4.Frame.toList)++(((List.map C3 o4.States.toList)++((.bool o4.Sound)::(.int .i64 o4.Copies)::(.bool o4.Conflict):: []))))]⟩,some ⟨52,[(.int .i64 x.Number)::((List.map C35 x.Frame.toList)++(((List.map C3 x.States.toList)++((.bool x.Sound)::(.int .i64 x.Copies)::(.bool x.Conflict):: []))))]⟩],[],[0]⟩) (by kernel_rfl)<|D1 0 Zc Y<|D1 1 Zc Y<|Dq 8 Y (Zo (ov Y) Y Y)<|Dq 9 Y (Ze (ov Y) Y Y Zce)<|bE h fun x6 h_x6 h=>Dq 10 Y (QB (ov Y) (ov Y) ZhK Y Y h_x6)<|XG 2 _ Y (by kernel_rfl) Y Y (fun hp'=>Zc<|ov Y)<|XG 3 _ Y (by kernel_rfl) Y Y (fun hp'=>Zc<|ov Y)<|XG 4 _ Y (by kernel_rfl) Y Y (fun hp'=>Zc<|ov Y)<|Zi1 5 _ Y (by kernel_rfl) Y Y Y (EL.ext<|.wr Y Y Y<|.keep .nil) (fun hp' hx=>Ze (ov Y) (hx.get Y Y) Y Zao)<|bE h fun x7 h_x7 h=>Zi1 6 _ Y (by kernel_rfl) Y Y Y (EL.ext<|.wr Y Y Y<|.keep .nil) (fun hp' hx=>QB (ov Y) (ov Y) Xc (hx.get Y Y) Y h_x7)<|Zi1 7 _ Y (by kernel_rfl) Y Y Y (EL.ext<|.wr Y Y Y<|.keep .nil) (fun hp' hx=>Zm (ov Y) (hx.get Y Y) Y Y Xn<|Zn<|Qn (o:=1) (o':=(i.toNat*1)) Zdd<|Qd h_x7)<|Zi1 12 _ Y (by kernel_rfl) Y Y Y (EL.ext<|.wr Y Y Y<|.keep .nil) (fun hp' hx=>exW (r:=0) hx Y fun _ ho hn=>Zo (ov Y) ho hn)<|Zi1 13 _ Y (by kernel_rfl) Y Y Y (EL.ext<|.wr Y Y Y<|.keep .nil) (fun hp' hx=>exW (r:=0) hx Y fun _ ho hn=>Ze (ov Y) ho hn Zao)<|ZoG 11 _ _ Y (by kernel_rfl) Y Y (fun h=>by cases h) (fun _=>by exact EL.ext (.wr rfl rfl rfl<| .keep<| .nil)) (Zf (ov Y) (ov Y) (Zg tS3) Y Y Y (ZG (Qn (o:=65) (o':=(i.toNat*1)) Zdy<|Qd h_x6) Y) (Zb Y)<|ZbF (o:=65) (o':=(i.toNat*1)) Zdy (Qd h_x6) Y (Zdn h_x6 (x:=1)) ZjM)<|bE h fun x8 h_x8 h=>Dq 14 Y (QB (ov Y) (ov Y) Xc Y Y h_x8)<|ZoG 15 _ _ Y (by kernel_rfl) Y Y (fun h=>by cases h) (fun _=>by exact EL.ext (.wr rfl rfl rfl<| .keep<| .nil)) (Zf (ov Y) (ov Y) (Zg Xn) Y Y Y (ZG (Qn (o:=1) (o':=(i.toNat*1)) Zdd<|Qd h_x8) Y) (Zb Y)<|ZbF (o:=1) (o':=(i.toNat*1)) Zdd (Qd h_x8) Y (Zdn h_x8 (x:=x7)) ZjJ)<|Dd<|K8 0 1 4 5 8 11 12 13 Y<|Zt<|R2 ZX Y<|Rm Y<|Za<|⟨_,h,ES [some 0]⟩
    ·
     refine ZI<|?_
     replace h:=lx h▸ho2
     exact⟨_,h,ES [some 0]⟩
   ·
    refine Tr<|Rm Y<|Za<|K5 0 1 4 8 60 Y<|If h Y (fun h=>?_) fun h=>?_
    ·
     refine K4 0 1 4 8 Y<|Qe (cw:=md0) (by kernel_rfl)<|D1 0 Zc Y<|D1 1 Zc Y<|Dq 4 Y (Zo (ov Y) Y Y)<|Dq 5 Y (Ze (ov Y) Y Y Zce)<|bE h fun x9 h_x9 h=>Dq 6 Y (QB (ov Y) (ov Y) ZhK Y Y h_x9)<|XG 2 _ Y (by kernel_rfl) Y Y (fun hp'=>Zc<|ov Y)<|XG 3 _ Y (by kernel_rfl) Y Y (fun hp'=>Zc<|ov Y)<|Dw 8 7 Y (Zo (ov Y) Y Y) (Zf (ov Y) (ov Y) (Zg tS3) Y Y Y (ZG (Qn (o:=65) (o':=(i.toNat*1)) Zdy<|Qd h_x9) Y) (Zb Y)<|ZbF (o:=65) (o':=(i.toNat*1)) Zdy (Qd h_x9) Y (Zdn h_x9 (x:=0)) ZjM) ?_ ?_
     ·
      refine Dw 9 7 Y (Ze (ov Y) Y Y Zao) (Zf (ov Y) (ov Y) (Zg tS3) Y Y Y (ZG (Qn (o:=65) (o':=(i.toNat*1)) Zdy<|Qd h_x9) Y) (Zb Y)<|ZbF (o:=65) (o':=(i.toNat*1)) Zdy (Qd h_x9) Y (Zdn h_x9 (x:=0)) ZjM) ?_ ?_
      ·
       exact Do 7 Y (Zf (ov Y) (ov Y) (Zg tS3) Y Y Y (ZG (Qn (o:=65) (o':=(i.toNat*1)) Zdy<|Qd h_x9) Y) (Zb Y)<|ZbF (o:=65) (o':=(i.toNat*1)) Zdy (Qd h_x9) Y (Zdn h_x9 (x:=0)) ZjM)<|bE h fun x10 h_x10 h=>Dq 10 Y (QB (ov Y) (ov Y) Xc Y Y h_x10)<|Do 11 Y (Zf (ov Y) (ov Y) (Zg Xn) Y Y Y (ZG (Qn (o:=1) (o':=(i.toNat*1)) Zdd<|Qd h_x10) Y) (Zb Y)<|ZbF (o:=1) (o':=(i.toNat*1)) Zdd (Qd h_x10) Y (Zdn h_x10 (x:=0)) ZjJ)<|Dd<|⟨_,h,ES [some 0]⟩
      ·
       exact Dq 9 Y (Ze (ov Y) Y Y Zao)<|bE h fun x10 h_x10 h=>Dq 10 Y (QB (ov Y) (ov Y) Xc Y Y h_x10)<|Do 11 Y (Zf (ov Y) (ov Y) (Zg Xn) Y Y Y (ZG (Qn (o:=1) (o':=(i.toNat*1)) Zdd<|Qd h_x10) Y) (Zb Y)<|ZbF (o:=1) (o':=(i.toNat*1)) Zdd (Qd h_x10) Y (Zdn h_x10 (x:=0)) ZjJ)<|Dd<|⟨_,h,ES [some 0]⟩
     ·
      exact Dq 8 Y (Zo (ov Y) Y Y)<|Dq 9 Y (Ze (ov Y) Y Y Zao)<|bE h fun x10 h_x10 h=>Dq 10 Y (QB (ov Y) (ov Y) Xc Y Y h_x10)<|Do 11 Y (Zf (ov Y) (ov Y) (Zg Xn) Y Y Y (ZG (Qn (o:=1) (o':=(i.toNat*1)) Zdd<|Qd h_x10) Y) (Zb Y)<|ZbF (o:=1) (o':=(i.toNat*1)) Zdd (Qd h_x10) Y (Zdn h_x10 (x:=0)) ZjJ)<|Dd<|⟨_,h,ES [some 0]⟩
    ·
     exact Zj<|⟨_,h,ES [some 0]⟩
  ·
   exact Zt<|R2 ZX Y<|Rm Y<|Za<|⟨_,h,ES [some 0]⟩
 ·
  refine ZI<|?_
  replace h:=lx h▸ho1
  obtain rfl:=rt h
  exact Zfz [some 0] Y .nil (.cons Y (ro1 (by exact Eq.trans (b:=132) ZC tZ_52.symm)<|rld Zak) .nil) Y Y<|ZbA rln
theorem Zhs{s:Int}{c0:Int}{c1:Int}{r:Bool}(h:Zcb s c0 c1=some r):
 CSpec Tryz.prog gl0 112 [.int .i64 s,.rp [.int .i64 c0] 0,.rp [.int .i64 c1] 0] (.bool r):=by
 unfold Zcb at h
 replace h:=Qk h
 refine So Tryz.func112 Y fun w0 A=>Tr<|Ra Y<|Za<|Tr<|Rm Y<|Rq Y (Zd (ov Y) tS3 Y)<|R2 Q3 Y<|Rm Y<|Rq Y (.guarded ((decide (s=c0))==false) Y Y Y Y fun h=>Zc<|ov Y)<|Rq Y (.guarded ((decide (s=c0))==false) Y Y Y Y fun h=>Zd (ov Y) tS3 Y)<|Rq Y (.guarded ((decide (s=c0))==false) Y Y Y Y fun h=>Q3 (ow Y h)<|ow Y h)<|Rq Y (Za2 (ov Y) fun hp=>ow Y<|gF hp)<|Ra Y<|Za<|?_
 obtain rfl:=rt h
 exact Zs (ZK Y (.one<|rb Y))
theorem Zih{r_:api_Rest}{a:Int}{b:Int}{r:Bool}(h:Zcc r_ a b=some r):
 CSpec Tryz.prog gl0 78 [.agg ((.int .i64 r_.Number)::((List.map C35 r_.Frame.toList)++(((List.map C3 r_.States.toList)++((.bool r_.Sound)::(.int .i64 r_.Copies)::(.bool r_.Conflict):: []))))),.int .i64 a,.int .i64 b] (.bool r):=by
 unfold Zcc at h
 replace h:=Qk h
 refine So Tryz.func78 Y fun w0 A=>Tr<|Rq Y (Xh (cva<|ov Y) ZC tZ_52 Zak)<|Rq Y (Xh (cvs (ov Y)<|Z5 Y) Y tZ_3 Y)<|Rq Y (Xh (cvs (ov Y)<|Z5 Y) Y tZ_3 Y)<|Ra Y<|Za<|K4 3 4 5 6 Y<|Tr<|Rq Y (ZE (ov Y) Zce)<|bE h fun l h_l h=>Rq Y (ZjV (f:=C3) (ov Y) ZhK tZ_3 Zdy Y on on h_l)<|Rq Y (Zd4<|.cons (ov Y)<|.cons (ov Y) .nil)<|bE h fun y h_y h=>Rq Y (Zq (J6 Y (fun z0 _ hz=>Zhs hz) h_y)<|.cons (ov Y) (.b Y)<|.cons (ov Y) (.fnC<|.cons (.b Y)<|.cons (.b Y) .nil) .nil)<|Ra Y<|Za<|?_
 obtain rfl:=rt h
 exact Zs (ZK Y (.one<|rb Y))
theorem Zd1{f:Vector Int 64}{number:Int}{r:Bool}(h:Je f number=some r):
 CSpec Tryz.prog gl0 50 [.agg (List.map C35 f.toList),.int .i64 number] (.bool r):=by
 unfold Je at h
 replace h:=Qk h
 refine So Tryz.func50 Y fun w0 A=>Tr<|Rq Y (Xh (cva<|ov Y) arL tZ_37<|arD fun _=>Y)<|Ra Y<|Za<|K2 1 2 Y<|Tr<|Rq Y (ZU (ov Y) Qz (Zu<|Zh arL) arL)<|bE h fun y h_y h=>Rq Y (Zq (Zdk h_y)<|.cons (ov Y) (.aggB<|arD fun _=>Y) .nil)<|Rm Y<|Rq Y (Zk (ov Y) Y)<|Rq Y (Zk (ov Y) Y)<|Ra Y<|Ra Y<|Za<|K3 1 2 5 Y<|Tr<|Rq Y (ZU (ov Y) Qz (Zu<|Zh arL) arL)<|bE h fun y2 h_y2 h=>Rq Y (Zq (ZfJ h_y2)<|.cons (ov Y) (.aggB<|arD fun _=>Y) .nil)<|Rm Y<|Rq Y (.guarded (y2==true) Y Y Y Y fun h=>Zc<|ov Y)<|Rq Y (.guarded (y2==true) Y Y Y Y fun h=>Zc<|ov Y)<|Rq Y (.guarded (y2==true) Y Y Y Y fun h=>Q3 (ow Y h)<|ow Y h)<|Rq Y (XJ (ov Y) fun hp=>ow Y<|gT hp)<|Ra Y<|Za<|?_
 obtain rfl:=rt h
 exact Zs (ZK Y (.one<|rb Y))
theorem Zbi{l:List api_Rest}{r:api_Rest}(h:JU l=some r):
 CSpec Tryz.prog gl0 48 [.sl 52 (List.map R52 l)] (.agg ((.int .i64 r.Number)::((List.map C35 r.Frame.toList)++(((List.map C3 r.States.toList)++((.bool r.Sound)::(.int .i64 r.Copies)::(.bool r.Conflict):: [])))))):=by
 unfold JU at h
 replace h:=Qk h
 refine So Tryz.func48 Y fun w0 A=>Tr<|Rx Y (ZP (row:=(.int .i64 0)::((List.map C35 (Vector.replicate 64 0).toList)++(((List.map C3 (Vector.replicate 64 0).toList)++((.bool false)::(.int .i64 0)::(.bool false):: []))))) 0 Y ZfL (by kernel_rfl)<|by exact Eq.symm (Eq.trans (b:=132) ZC tZ_52.symm))<|Za<|Tr<|Rm Y<|bE h fun x h_x h=>Rq Y (ZW (ov Y) (ov Y) Jg h_x)<|Rq Y (ZE (ov Y) JC)<|Rq Y (Zd (ov Y) tS3<|Zn ZbW)<|Rq Y (Zc9 (zr:=(.int .i64 0)::((List.map C35 (Vector.replicate 64 0).toList)++(((List.map C3 (Vector.replicate 64 0).toList)++((.bool false)::(.int .i64 0)::(.bool false):: []))))) ZlG ZlS ZfL (by kernel_rfl) (.cons (cvs (ov Y)<|Z5 Y) .nil)<|Jj Y Y ZbW Zqo Zfy)<|Rx Y (ZP (row:=(.int .i64 0)::((List.map C35 (Vector.replicate 64 0).toList)++(((List.map C3 (Vector.replicate 64 0).toList)++((.bool false)::(.int .i64 0)::(.bool false):: []))))) 1 Y ZfL (by kernel_rfl)<|by exact Eq.symm (Eq.trans (b:=132) ZC tZ_52.symm))<|Rx Y (Zf (ov Y) (ov Y) (Zp X8 ZC) Y Y Y (ZG (Zh ZC) ZC) (Zb ZeG)<|ZO<|Eq.trans ZC<|Eq.symm ZC)<|Za<|I1 (fun Copies=>⟨[(0,.sl 52 (List.map R52 l)),(2,.ptr 0 1 0 0),(3,.ptr 1 1 0 0)],[some ⟨52,[(.int .i64 0)::((List.map C35 (Vector.replicate 64 0).toList)++(((List.map C3 (Vector.replicate 64 0).toList)++((.bool false)::(.int .i64 0)::(.bool false):: []))))]⟩,some ⟨52,[(.int .i64 x.Number)::((List.map C35 (Vector.replicate 64 0).toList)++(((List.map C3 (Vector.replicate 64 0).toList)++((.bool false)::(.int .i64 Copies)::(.bool false):: []))))]⟩]⟩) h (fun h=>?_) fun Copies h=>?_
 ·
  refine K3 0 2 3 Y<|Tr<|Rm Y<|Rl tZ_52 Jg Y<|Rm Y<|Za<|Zi<|?_
  obtain⟨r1,hl1,ho1⟩:=QZ h
  refine L2 (fun Copies2 i=>⟨[(0,.sl 52 (List.map R52 l)),(2,.ptr 0 1 0 0),(3,.ptr 1 1 0 0),(13,.sl 52 (List.map R52 l)),(14,.int .i64 (l.length:Int)),(15,.int .i64 i)],[some ⟨52,[(.int .i64 0)::((List.map C35 (Vector.replicate 64 0).toList)++(((List.map C3 (Vector.replicate 64 0).toList)++((.bool false)::(.int .i64 0)::(.bool false):: []))))]⟩,some ⟨52,[(.int .i64 x.Number)::((List.map C35 (Vector.replicate 64 0).toList)++(((List.map C3 (Vector.replicate 64 0).toList)++((.bool false)::(.int .i64 Copies2)::(.bool false):: []))))]⟩]⟩) hl1 (ES [some 0,some 1]) fun n1 Copies2 i h=>?_
  unfold Js at h
  refine Tr<|R2 ZV Y<|Za<|Zl<|If h Y (fun h=>?_) fun h=>?_
  ·
   exact Zj<|Zl<|Zi<|K6 0 2 3 13 14 15 Y<|Tr<|bE h fun x2 h_x2 h=>Rq Y (ZW (ov Y) (ov Y) Jg h_x2)<|Rq Y (ZU (ov Y) X8 (Zu<|Zh ZC) ZC)<|Rx Y (ZP (row:=(.int .i64 0)::((List.map C35 (Vector.replicate 64 0).toList)++(((List.map C3 (Vector.replicate 64 0).toList)++((.bool false)::(.int .i64 0)::(.bool false):: []))))) 2 Y ZfL (by kernel_rfl)<|by exact Eq.symm (Eq.trans (b:=132) ZC tZ_52.symm))<|Rx Y (Zf (ov Y) (ov Y) (Zp X8 ZC) Y Y Y (ZG (Zh ZC) ZC) (Zb ZeG)<|ZO<|Eq.trans ZC<|Eq.symm ZC)<|Za<|K7 0 2 3 5 13 14 15 Y<|Zt<|Rq Y (Ze (ov Y) Y Y Zfp)<|Rq Y (Zm (ov Y) Y Y Y tS3<|Zn ZjH)<|Rq Y (Ze (ov Y) Y Y Zfp)<|Rq Y (Zm (ov Y) Y Y Y tS3<|Zn ZjH)<|R2 ZX Y<|Rq Y (Ze (ov Y) Y Y Zfp)<|Rx Y (Zf (ov Y) (ov Y) (Zg tS3) Y Y Y (ZG ZjH Y) (Zb Y) ZnI)<|Za<|K6 0 2 3 13 14 15 Y<|Zt<|R2 ZX Y<|Rm Y<|Za<|⟨_,h,ES [some 0,some 1]⟩
  ·
   refine ZI<|?_
   replace h:=lx h▸ho1
   exact⟨_,h,ES [some 0,some 1]⟩
 ·
  refine Tr<|Rm Y<|bE h fun y h_y h=>Rq Y (Zq (ZaG Y (fun z0 _ hz=>Zgx hz) h_y)<|.cons (ov Y) (.b Y)<|.cons (ov Y) .fn .nil)<|Ra Y<|Za<|Zl<|K4 0 2 3 6 Y<|Tr<|Rm Y<|bE h fun y2 h_y2 h=>Rx Y (JH [1] (Zfo h_y2) (.cons (ov Y) (.ptr _ _ _ Y)<|.cons (ov Y) (.dat Y) .nil) (.cons Y (ro1 (by exact Eq.trans (b:=132) ZC tZ_52.symm)<|rld Zak) .nil) Y (.keep Y Y<|.lent 0 (.inl Y) Y (ro1 (by exact Eq.trans (b:=132) ZC tZ_52.symm)<|rld Zak) .nil) Y Y<|.dat Y)<|Ra Y<|Za<|K5 0 2 3 6 7 Y<|Tr<|Rm Y<|Rm Y<|Rq Y (.guarded (y==false) Y Y Y Y fun h=>Zc<|ov Y)<|Rq Y (.guarded (y==false) Y Y Y Y fun h=>XV<|ow Y h)<|Rq Y (Za2 (ov Y) fun hp=>ow Y<|gF hp)<|Za<|K4 0 2 3 34 Y<|If h Y (fun h=>?_) fun h=>?_
  ·
   refine K2 2 3 Y<|Tr<|Rq Y (Ze (ov Y) Y Y JC)<|Rq Y (Zm (ov Y) Y Y Y tS3<|Zn ZbW)<|Rq Y (Ze (ov Y) Y Y Zfp)<|Rq Y (Zm (ov Y) Y Y Y tS3<|Zn ZjH)<|Rq Y (Zc9 (zr:=(.int .i64 0)::((List.map C35 (Vector.replicate 64 0).toList)++(((List.map C3 (Vector.replicate 64 0).toList)++((.bool false)::(.int .i64 0)::(.bool false):: []))))) ZlG ZlS ZfL (by kernel_rfl) (.cons (cvs (ov Y)<|Z5 Y)<|.cons (cvs (ov Y)<|Z5 Y)<|.cons (cvs (ov Y)<|Z5 Y) .nil)<|Jj Y Y ZbW Zqo<|Jj Y Y ZjH ZnI<|Jj Y Y ZqV ZtV Zfy)<|Rx Y (Zf (ov Y) (ov Y) (Zp X8 ZC) Y Y Y (ZG (Zh ZC) ZC) (Zb ZeG)<|ZO<|Eq.trans ZC<|Eq.symm ZC)<|Za<|?_
   obtain rfl:=rt h
   exact Zs (ZK Y (.one<|.agg Y Y Y Y X8 (Zu<|Zh ZC) ZC (pwB Zak) (hns:=Zdi)))
  ·
   refine Zj<|I1 (fun out=>⟨[(2,.ptr 0 1 0 0),(3,.ptr 1 1 0 0)],[some ⟨52,[(.int .i64 0)::((List.map C35 (Vector.replicate 64 0).toList)++(((List.map C3 (Vector.replicate 64 0).toList)++((.bool false)::(.int .i64 0)::(.bool false):: []))))]⟩,some ⟨52,[(.int .i64 out.Number)::((List.map C35 out.Frame.toList)++(((List.map C3 out.States.toList)++((.bool out.Sound)::(.int .i64 out.Copies)::(.bool out.Conflict):: []))))]⟩]⟩) h (fun h=>?_) fun out h=>?_
   ·
    refine K3 0 2 3 Y<|Tr<|Rq Y (Ze (ov Y) Y Y ZeQ)<|Rq Y (Zm (ov Y) Y Y Y tS4<|Zn Zim)<|R1 XV Y<|Za<|K4 0 2 3 42 Y<|If h Y (fun h=>?_) fun h=>?_
    ·
     refine K3 0 2 3 Y<|Tr<|Rm Y<|bE h fun y3 h_y3 h=>Rx Y (JH [1] (Zft h_y3) (.cons (ov Y) (.ptr _ _ _ Y)<|.cons (ov Y) (.dat Y) .nil) (.cons Y (ro1 (by exact Eq.trans (b:=132) ZC tZ_52.symm)<|rld Zak) .nil) Y (.keep Y Y<|.lent 0 (.inl Y) Y (ro1 (by exact Eq.trans (b:=132) ZC tZ_52.symm)<|rld Zak) .nil) Y Y<|ZbA<|rld Y)<|Za<|K2 2 3 Y<|Tr<|Rq Y (ZJ (ov Y) Y Y Y X8 (Zu<|Zh ZC) ZC (hns:=Zdi))<|bE h fun y4 h_y4 h=>Rq Y (Zq (Zih h_y4)<|.cons (ov Y) (.aggB Zak)<|.cons (ov Y) (.b Y)<|.cons (ov Y) (.b Y) .nil)<|R1 XV Y<|Rm Y<|Rq Y (.guarded ((!y4)==true) Y Y Y Y fun h=>Ze (ov Y) Y Y Zao)<|Rq Y (.guarded ((!y4)==true) Y Y Y Y fun h=>ZJ (ow Y h) Y Y Y Qz (Zu Zdd) arL (hns:=(nsM fun _=>Y)))<|Rq Y (.guarded ((!y4)==true) Y Y Y Y fun h=>Ze (ov Y) Y Y JC)<|Rq Y (.guarded ((!y4)==true) Y Y Y Y fun h=>Zm (ow Y h) Y Y Y tS3<|Zn ZbW)<|bE h fun y5 h_y5 h=>Rq Y (.guarded ((!y4)==true) Y Y Y Y fun h=>Zq (Zd1<|gdT h_y5 h)<|.cons (ow Y h) (.aggB<|arD fun _=>Y)<|.cons (ow Y h) (.b Y) .nil)<|Rq Y (XJ (ov Y) fun hp=>ow Y<|gT hp)<|Za<|K3 2 3 54 Y<|If h Y (fun h=>?_) fun h=>?_
     ·
      exact K2 2 3 Y<|Zt<|bE h fun y6 h_y6 h=>Rq Y (Zq (Zcg h_y6)<|.cons (ov Y) (.b Y) .nil)<|Rq Y (Ze (ov Y) Y Y ZeQ)<|Rx Y (Zf (ov Y) (ov Y) (Zg tS4) Y Y Y (ZG Zim Y) (Zb Y) ZnH)<|Rq Y (Ze (ov Y) Y Y Zce)<|Rx Y (Zf (ov Y) (ov Y) (Zp ZmC arL) Y Y Y (ZG Zdy arL) (Zb<|arC fun _=>Y) ZjM)<|Rq Y (Ze (ov Y) Y Y Zfp)<|Rx Y (Zf (ov Y) (ov Y) (Zg tS3) Y Y Y (ZG ZjH Y) (Zb Y) ZnI)<|Za<|⟨_,h,ES [some 0,some 1]⟩
     ·
      exact Zj<|⟨_,h,ES [some 0,some 1]⟩
    ·
     exact Zj<|⟨_,h,ES [some 0,some 1]⟩
   ·
    refine Zl<|Tr<|Rq Y (Ze (ov Y) Y Y ZeQ)<|Rq Y (Zm (ov Y) Y Y Y tS4<|Zn Zim)<|Rm Y<|Rq Y (.guarded (out.Sound==true) Y Y Y Y fun h=>ZJ (ov Y) Y Y Y X8 (Zu<|Zh ZC) ZC (hns:=Zdi))<|bE h fun y7 h_y7 h=>Rq Y (.guarded (out.Sound==true) Y Y Y Y fun h=>Zq (Zfm<|gdT h_y7 h)<|.cons (ow Y h) (.aggB Zak)<|.cons (ov Y) (.b Y) .nil)<|Rq Y (XJ (ov Y) fun hp=>ow Y<|gT hp)<|Za<|K3 2 3 64 Y<|If h Y (fun h=>?_) fun h=>?_
    ·
     refine K2 2 3 Y<|Zt<|Rq Y (Ze (ov Y) Y Y Zfp)<|Rq Y (Zm (ov Y) Y Y Y tS3<|Zn ZjH)<|Rq Y (ZoZ (ov Y) (ov Y) Y)<|Rq Y (Ze (ov Y) Y Y Zfp)<|Rx Y (Zf (ov Y) (ov Y) (Zg tS3) Y Y Y (ZG ZjH Y) (Zb Y) ZnI)<|Za<|K2 2 3 Y<|Tr<|Rq Y (ZJ (ov Y) Y Y Y X8 (Zu<|Zh ZC) ZC (hns:=Zdi))<|Rx Y (Zf (ov Y) (ov Y) (Zp X8 ZC) Y Y Y (ZG (Zh ZC) ZC) (Zb ZeG)<|ZO<|Eq.trans ZC<|Eq.symm ZC)<|Za<|?_
     obtain rfl:=rt h
     exact Zs (ZK Y (.one<|.agg Y Y Y Y X8 (Zu<|Zh ZC) ZC (pwB Zak) (hns:=Zdi)))
    ·
     refine Zj<|K2 2 3 Y<|Tr<|Rq Y (ZJ (ov Y) Y Y Y X8 (Zu<|Zh ZC) ZC (hns:=Zdi))<|Rx Y (Zf (ov Y) (ov Y) (Zp X8 ZC) Y Y Y (ZG (Zh ZC) ZC) (Zb ZeG)<|ZO<|Eq.trans ZC<|Eq.symm ZC)<|Za<|?_
     obtain rfl:=rt h
     exact Zs (ZK Y (.one<|.agg Y Y Y Y X8 (Zu<|Zh ZC) ZC (pwB Zak) (hns:=Zdi)))
theorem Zgw{l:List api_Rest}{r:(List api_Rest)}(h:Xi l=some r):
 CSpec Tryz.prog gl0 22 [.sl 52 (List.map R52 l)] (.sl 52 (List.map R52 r)):=by
 unfold Xi at h
 replace h:=Qk h
 refine So Tryz.func22 Y fun w0 A=>Tr<|Ra Y<|Za<|K1 0 Y<|Tr<|Rx Y (ZhL 0 Y X4)<|Ra Y<|Za<|K2 0 3 Y<|Tr<|Ra Y<|Za<|I2 (fun groups numbers=>⟨[(3,.mref 0 1),(4,.own 1 numbers.length)],[some ⟨105,[[.mcon (List.map (Q8 FK3 (osF 52 R52)) groups)]]⟩,some ⟨3,List.map R3 numbers⟩]⟩) h (fun h=>?_) fun groups numbers h=>?_
 ·
  refine Tr<|Rm Y<|Rl tZ_52 Jg Y<|Rm Y<|Za<|Zi<|?_
  obtain⟨r1,hl1,ho1⟩:=QZ h
  refine L3 (fun groups2 numbers2 i=>⟨[(3,.mref 0 1),(4,.own 1 numbers2.length),(11,.sl 52 (List.map R52 l)),(12,.int .i64 (l.length:Int)),(13,.int .i64 i)],[some ⟨105,[[.mcon (List.map (Q8 FK3 (osF 52 R52)) groups2)]]⟩,some ⟨3,List.map R3 numbers2⟩]⟩) hl1 (ES [some 0,none] (hhp:= .cons Y (Z7 (fk:=FK3) (fv:=(osF 52 R52)) (m:=([]:List (Int×(List api_Rest)))) tZ_105 (fun _=>.dat Y) fun _=>ZcH D52)<|.row 3 .nil)) fun n1 groups2 numbers2 i h=>?_
  unfold XU at h
  refine Tr<|R2 ZV Y<|Za<|Zl<|If h Y (fun h=>?_) fun h=>?_
  ·
   refine Zj<|I2 (fun groups3 numbers3=>⟨[(3,.mref 0 1),(4,.own 1 numbers3.length),(11,.sl 52 (List.map R52 l)),(12,.int .i64 (l.length:Int)),(13,.int .i64 i)],[some ⟨105,[[.mcon (List.map (Q8 FK3 (osF 52 R52)) groups3)]]⟩,some ⟨3,List.map R3 numbers3⟩]⟩) h (fun h=>?_) fun groups3 numbers3 h=>?_
   ·
    refine Zi<|K5 3 4 11 12 13 Y<|Tr<|bE h fun x h_x h=>Rq Y (ZW (ov Y) (ov Y) Jg h_x)<|Rq Y (ZU (ov Y) X8 (Zu<|Zh ZC) ZC)<|Rx Y (ZP (row:=(.int .i64 0)::((List.map C35 (Vector.replicate 64 0).toList)++(((List.map C3 (Vector.replicate 64 0).toList)++((.bool false)::(.int .i64 0)::(.bool false):: []))))) 2 Y ZfL (by kernel_rfl)<|by exact Eq.symm (Eq.trans (b:=132) ZC tZ_52.symm))<|Rx Y (Zf (ov Y) (ov Y) (Zp X8 ZC) Y Y Y (ZG (Zh ZC) ZC) (Zb ZeG)<|ZO<|Eq.trans ZC<|Eq.symm ZC)<|Za<|I1 (fun numbers4=>⟨[(3,.mref 0 1),(4,.own 1 numbers4.length),(6,.ptr 2 1 0 0),(11,.sl 52 (List.map R52 l)),(12,.int .i64 (l.length:Int)),(13,.int .i64 i)],[some ⟨105,[[.mcon (List.map (Q8 FK3 (osF 52 R52)) groups2)]]⟩,some ⟨3,List.map R3 numbers4⟩,some ⟨52,[(.int .i64 x.Number)::((List.map C35 x.Frame.toList)++(((List.map C3 x.States.toList)++((.bool x.Sound)::(.int .i64 x.Copies)::(.bool x.Conflict):: []))))]⟩]⟩) h (fun h=>?_) fun numbers4 h=>?_
    ·
     refine K6 3 4 6 11 12 13 Y<|Tr<|Rm Y<|Rq Y (Ze (ov Y) Y Y JC)<|Rq Y (Zm (ov Y) Y Y Y tS3<|Zn ZbW)<|bE h fun z h_z h=>?_
     rcases z with z |z
     ·
      replace h:=ell h
      refine Rq Y (ZjX (e1:=52) (R:=R52) (m:=groups2) (k:=x.Number) (Zh0 h_z) (ov Y) (ov Y) X4 QV Y (fun _=>.b Y)<|Zx Zfb Y)<|Rq Y (ZpJ (ng:=false) (ov Y) ZkT)<|Za<|K7 3 4 6 11 12 13 21 Y<|Znq h Y (fun b21 h=>?_) fun b21 h=>?_
      ·
       exact K6 3 4 6 11 12 13 Y<|Zt<|Rm Y<|Rq Y (Ze (ov Y) Y Y JC)<|Rq Y (Zm (ov Y) Y Y Y tS3<|Zn ZbW)<|R_q (.sl 3<|List.map R3 ([x.Number]:List Int)) Y (Jm Qp (.cons (cvs (ov Y)<|Z5 Y) Y (.cons (.b Y) .nil) .nil) Y Y)<|bE h fun l2 h_l2 h=>Rx Y (Zv (ov Y) (ZH (ov Y) tZ_3) Qp Y Y Y (fun _=>Zb Y) Y h_l2)<|Ra Y<|Za<|⟨_,h,ES [some 0,some 1,some 2] (hhp:= .cons Y (Z7 (fk:=FK3) (fv:=(osF 52 R52)) (m:=groups2) tZ_105 (fun _=>.dat Y) fun _=>ZcH D52)<|.cons Y (roM D3)<|.cons Y (ro1 (by exact Eq.trans (b:=132) ZC tZ_52.symm)<|rld Zak) .nil)⟩
      ·
       exact Bool.noConfusion b21
     ·
      replace h:=elr h
      refine Zgk (Ent.focusMk1 (e:=52) (R:=R52) (m:=groups2) (k:=x.Number) (r:=0) Y tZ_105 (Zeq h_z) D52)<|Rq Y (Zkg (e1:=52) (R:=R52) (m:=groups2) (k:=x.Number) (ov Y) (ov Y) X4 QV Y (fun _=>.b Y)<|Zx Zfb Y)<|bE h fun u h_u h=>Rq Y (ZpQ (ng:=false) (ov Y) ZkT Y (List.length_map ..) h_u)<|Zgk (by exact Ent.absorbMs1 (e:=52) (R:=R52) (m:=groups2) (k:=x.Number) (ys:=z) (fk:=FK3) (r:=0) (q:=3) (Zeq h_z) rfl tZ_105 rfl rfl rfl)<|Za<|K7 3 4 6 11 12 13 21 Y<|Znq h Y (fun b21 h=>?_) fun b21 h=>?_
      ·
       exact Bool.noConfusion b21
      ·
       exact Zj<|⟨_,h,ES [some 0,some 1,some 2] (hhp:= .cons Y (Z7 (fk:=FK3) (fv:=(osF 52 R52)) (m:=groups2) tZ_105 (fun _=>.dat Y) fun _=>ZcH D52)<|.cons Y (roM D3)<|.cons Y (ro1 (by exact Eq.trans (b:=132) ZC tZ_52.symm)<|rld Zak) .nil)⟩
    ·
     refine bE h fun z2 h_z2 h=>?_
     rcases z2 with z2 |z2
     ·
      replace h:=ell h
      refine Qe (cw:=md0) (by kernel_rfl)<|D1 3 Zc Y<|Dq 4 Y (Ze (ov Y) Y Y JC)<|Dq 5 Y (Zm (ov Y) Y Y Y tS3<|Zn ZbW)<|Dq 6 Y (ZjX (e1:=52) (R:=R52) (m:=groups2) (k:=x.Number) (Zh0 h_z2) (ov Y) (ov Y) X4 QV Y (fun _=>.b Y)<|Zx Zfb Y)<|Dq 7 Y (ZJ (ov Y) Y Y Y X8 (Zu<|Zh ZC) ZC (hns:=Zdi))<|Zkz 8 (.sl 52<|List.map R52 ([x]:List api_Rest)) Y (by kernel_rfl) Y Y (Jm Jg (.cons (cva<|ov Y) ZC (pwD Zak) .nil) Y Y)<|XG 0 _ Y (by kernel_rfl) Y Y (fun hp'=>Zc<|ov Y)<|bE h fun l3 h_l3 h=>Dw 1 9 Y (Ze (ov Y) Y Y JC) (ZbS (r:=3) Y (ov Y) (ZH (ov Y) tZ_52) Jg Y h_l3) ?_ ?_
      ·
       refine Dw 2 9 Y (Zm (ov Y) Y Y Y tS3<|Zn ZbW) (ZbS (r:=3) Y (ov Y) (ZH (ov Y) tZ_52) Jg Y h_l3) ?_ ?_
       ·
        exact Do 9 Y (ZbS (r:=3) Y (ov Y) (ZH (ov Y) tZ_52) Jg Y h_l3)<|Do 10 Y (ZhI (e1:=52) (R:=R52) (m:=groups2) (k:=x.Number) (ov Y) (ov Y) (ov Y) X4 QV Y fun _=>.b Y)<|ZbP (by kernel_rfl) (Ent.absorbMk1 (e:=52) (R:=R52) (m:=groups2) (k:=x.Number) (ys:=l3) (fk:=FK3) (r:=0) (q:=3) Y tZ_105 Y Y Y)<|⟨_,h,ES [some 0,some 1] (hhp:= .cons Y (Z7 (fk:=FK3) (fv:=(osF 52 R52)) (m:=(Qc kqI groups2 x.Number l3)) tZ_105 (fun _=>.dat Y) fun _=>ZcH D52)<|.cons Y (roM D3) .nil)⟩
       ·
        exact Dq 2 Y (Zm (ov Y) Y Y Y tS3<|Zn ZbW)<|Do 10 Y (ZhI (e1:=52) (R:=R52) (m:=groups2) (k:=x.Number) (ov Y) (ov Y) (ov Y) X4 QV Y fun _=>.b Y)<|ZbP (by kernel_rfl) (Ent.absorbMk1 (e:=52) (R:=R52) (m:=groups2) (k:=x.Number) (ys:=l3) (fk:=FK3) (r:=0) (q:=3) Y tZ_105 Y Y Y)<|⟨_,h,ES [some 0,some 1] (hhp:= .cons Y (Z7 (fk:=FK3) (fv:=(osF 52 R52)) (m:=(Qc kqI groups2 x.Number l3)) tZ_105 (fun _=>.dat Y) fun _=>ZcH D52)<|.cons Y (roM D3) .nil)⟩
      ·
       exact Dq 1 Y (Ze (ov Y) Y Y JC)<|Dq 2 Y (Zm (ov Y) Y Y Y tS3<|Zn ZbW)<|Do 10 Y (ZhI (e1:=52) (R:=R52) (m:=groups2) (k:=x.Number) (ov Y) (ov Y) (ov Y) X4 QV Y fun _=>.b Y)<|ZbP (by kernel_rfl) (Ent.absorbMk1 (e:=52) (R:=R52) (m:=groups2) (k:=x.Number) (ys:=l3) (fk:=FK3) (r:=0) (q:=3) Y tZ_105 Y Y Y)<|⟨_,h,ES [some 0,some 1] (hhp:= .cons Y (Z7 (fk:=FK3) (fv:=(osF 52 R52)) (m:=(Qc kqI groups2 x.Number l3)) tZ_105 (fun _=>.dat Y) fun _=>ZcH D52)<|.cons Y (roM D3) .nil)⟩
     ·
      replace h:=elr h
      refine ZiS (Ent.focusMk1 (e:=52) (R:=R52) (m:=groups2) (k:=x.Number) (r:=0) Y tZ_105 (Zeq h_z2) D52)<|Qe (cw:=md0) (by kernel_rfl)<|D1 3 Zc Y<|Dq 4 Y (Ze (ov Y) Y Y JC)<|Dq 5 Y (Zm (ov Y) Y Y Y tS3<|Zn ZbW)<|Dq 6 Y (Zkg (e1:=52) (R:=R52) (m:=groups2) (k:=x.Number) (ov Y) (ov Y) X4 QV Y (fun _=>.b Y)<|Zx Zfb Y)<|Dq 7 Y (ZJ (ov Y) Y Y Y X8 (Zu<|Zh ZC) ZC (hns:=Zdi))<|Zkz 8 (.sl 52<|List.map R52 ([x]:List api_Rest)) Y (by kernel_rfl) Y Y (Jm Jg (.cons (cva<|ov Y) ZC (pwD Zak) .nil) Y Y)<|XG 0 _ Y (by kernel_rfl) Y Y (fun hp'=>Zc<|ov Y)<|bE h fun l4 h_l4 h=>Dw 1 9 Y (Ze (ov Y) Y Y JC) (Zv (ov Y) (ZH (ov Y) tZ_52) Jg Y Y Y (fun x=>Zb<|E52 x) Y h_l4) ?_ ?_
      ·
       refine Dw 2 9 Y (Zm (ov Y) Y Y Y tS3<|Zn ZbW) (Zv (ov Y) (ZH (ov Y) tZ_52) Jg Y Y Y (fun x=>Zb<|E52 x) Y h_l4) ?_ ?_
       ·
        exact Do 9 Y (Zv (ov Y) (ZH (ov Y) tZ_52) Jg Y Y Y (fun x=>Zb<|E52 x) Y h_l4)<|Do 10 Y (ZhH (e1:=52) (R:=R52) (m:=groups2) (k:=x.Number) (ov Y) (ov Y) (ov Y) X4 QV Y fun _=>.b Y)<|ZbP (by kernel_rfl) (Ent.absorbMk1 (e:=52) (R:=R52) (m:=groups2) (k:=x.Number) (ys:=l4) (fk:=FK3) (r:=0) (q:=3) Y tZ_105 Y Y Y)<|⟨_,h,ES [some 0,some 1] (hhp:= .cons Y (Z7 (fk:=FK3) (fv:=(osF 52 R52)) (m:=(Qc kqI groups2 x.Number l4)) tZ_105 (fun _=>.dat Y) fun _=>ZcH D52)<|.cons Y (roM D3) .nil)⟩
       ·
        exact Dq 2 Y (Zm (ov Y) Y Y Y tS3<|Zn ZbW)<|Do 10 Y (ZhH (e1:=52) (R:=R52) (m:=groups2) (k:=x.Number) (ov Y) (ov Y) (ov Y) X4 QV Y fun _=>.b Y)<|ZbP (by kernel_rfl) (Ent.absorbMk1 (e:=52) (R:=R52) (m:=groups2) (k:=x.Number) (ys:=l4) (fk:=FK3) (r:=0) (q:=3) Y tZ_105 Y Y Y)<|⟨_,h,ES [some 0,some 1] (hhp:= .cons Y (Z7 (fk:=FK3) (fv:=(osF 52 R52)) (m:=(Qc kqI groups2 x.Number l4)) tZ_105 (fun _=>.dat Y) fun _=>ZcH D52)<|.cons Y (roM D3) .nil)⟩
      ·
       exact Dq 1 Y (Ze (ov Y) Y Y JC)<|Dq 2 Y (Zm (ov Y) Y Y Y tS3<|Zn ZbW)<|Do 10 Y (ZhH (e1:=52) (R:=R52) (m:=groups2) (k:=x.Number) (ov Y) (ov Y) (ov Y) X4 QV Y fun _=>.b Y)<|ZbP (by kernel_rfl) (Ent.absorbMk1 (e:=52) (R:=R52) (m:=groups2) (k:=x.Number) (ys:=l4) (fk:=FK3) (r:=0) (q:=3) Y tZ_105 Y Y Y)<|⟨_,h,ES [some 0,some 1] (hhp:= .cons Y (Z7 (fk:=FK3) (fv:=(osF 52 R52)) (m:=(Qc kqI groups2 x.Number l4)) tZ_105 (fun _=>.dat Y) fun _=>ZcH D52)<|.cons Y (roM D3) .nil)⟩
   ·
    exact Zt<|R2 ZX Y<|Rm Y<|Za<|⟨_,h,ES [some 0,some 1] (hhp:= .cons Y (Z7 (fk:=FK3) (fv:=(osF 52 R52)) (m:=groups3) tZ_105 (fun _=>.dat Y) fun _=>ZcH D52)<|.cons Y (roM D3) .nil)⟩
  ·
   refine ZI<|?_
   replace h:=lx h▸ho1
   exact⟨_,h,ES [some 0,some 1] (hhp:= .cons Y (Z7 (fk:=FK3) (fv:=(osF 52 R52)) (m:=groups2) tZ_105 (fun _=>.dat Y) fun _=>ZcH D52)<|.cons Y (roM D3) .nil)⟩
 ·
  refine Tr<|Rm Y<|bE h fun y h_y h=>Rx Y (JH [1] (ZjU h_y) (.cons (ov Y) (.own _ Y) .nil) (.cons Y (roM D3) .nil) Y (.keep Y Y<|.lent 0 (.inl Y) Y (roM D3) .nil) Y Y<|ZbA<|rld Y)<|Za<|K2 3 4 Y<|Tr<|Ra Y<|Za<|I1 (fun out=>⟨[(7,.own 0 out.length)],[some ⟨52,List.map R52 out⟩]⟩) h (fun h=>?_) fun out h=>?_
  ·
   refine Tr<|Rm Y<|Rq Y (Zd3 (ov Y) Y (ZfD h_y) Qp)<|Rm Y<|Za<|Zi<|?_
   obtain⟨r2,hl2,ho2⟩:=QZ h
   refine L2 (fun out2 i2=>⟨[(3,.mref 0 1),(7,.own 1 out2.length),(40,.own 2 y.length),(41,.int .i64 (y.length:Int)),(42,.int .i64 i2)],[some ⟨105,[[.mcon (List.map (Q8 FK3 (osF 52 R52)) groups)]]⟩,some ⟨52,List.map R52 out2⟩,some ⟨3,List.map R3 y⟩]⟩) hl2 (Ent.sel [some 0,none,some 1] (sr 3 Y (.mref _ Y)<|sr 7 Y (.row Y)<|sr 40 Y (ZfM (Eq.symm<|ZfD h_y) Y)<|sd 41 Y Y<|sd 42 Y Y sn) (.cons Y (Z7 (fk:=FK3) (fv:=(osF 52 R52)) (m:=groups) tZ_105 (fun _=>.dat Y) fun _=>ZcH D52)<|.row 52<|.cons Y (roM D3) .nil) Y Y) fun n2 out2 i2 h=>?_
   unfold XO at h
   refine Tr<|R2 ZV Y<|Za<|Zl<|If h Y (fun h=>?_) fun h=>?_
   ·
    refine Zj<|Zl<|Zi<|K5 3 7 40 41 42 Y<|Tr<|bE h fun x2 h_x2 h=>Rq Y (QW (ov Y) (ov Y) Qp Y Y h_x2)<|Rq Y (Q0 (ov Y) Y Y h_x2 tS3 Y)<|Ra Y<|Za<|K6 3 7 9 40 41 42 Y<|Zt<|Rm Y<|Rm Y<|Rm Y<|bE h fun z3 h_z3 h=>?_
    rcases z3 with z3 |z3
    ·
     replace h:=ell h
     exact Rq Y (ZjX (e1:=52) (R:=R52) (m:=groups) (k:=x2) (Zh0 h_z3) (ov Y) (ov Y) X4 QV Y (fun _=>.b Y)<|Zx Zfb Y)<|bE h fun y2 h_y2 h=>Rq Y (Zq (Zbi h_y2)<|.cons (ov Y) (Dat.nils _) .nil)<|R_q (.sl 52<|List.map R52 ([y2]:List api_Rest)) Y (Jm Jg (.cons (cva<|ov Y) ZC (pwD Zak) .nil) Y Y)<|bE h fun l5 h_l5 h=>Rx Y (Zv (ov Y) (ZH (ov Y) tZ_52) Jg Y Y Y (fun x=>Zb<|E52 x) Y h_l5)<|Ra Y<|Za<|K5 3 7 40 41 42 Y<|Zt<|R2 ZX Y<|Rm Y<|Za<|⟨_,h,ES [some 0,some 1,some 2] (hhp:= .cons Y (Z7 (fk:=FK3) (fv:=(osF 52 R52)) (m:=groups) tZ_105 (fun _=>.dat Y) fun _=>ZcH D52)<|.cons Y (roM D52)<|.cons Y (roM D3) .nil)⟩
    ·
     replace h:=elr h
     exact Zgk (Ent.focusMk1 (e:=52) (R:=R52) (m:=groups) (k:=x2) (r:=0) Y tZ_105 (Zeq h_z3) D52)<|Rq Y (Zkg (e1:=52) (R:=R52) (m:=groups) (k:=x2) (ov Y) (ov Y) X4 QV Y (fun _=>.b Y)<|Zx Zfb Y)<|bE h fun y3 h_y3 h=>Rq Y (ZaN (Zbi h_y3) (.agg<|faC .int<|faA (faV fun _=> .int)<|faA (faV fun _=> .int)<|faC .bool<|faC .int<|faC .bool faN)<|.cons (ov Y) (View.ownM Y Y D52) .nil)<|R_q (.sl 52<|List.map R52 ([y3]:List api_Rest)) Y (Jm Jg (.cons (cva<|ov Y) ZC (pwD Zak) .nil) Y Y)<|bE h fun l6 h_l6 h=>Rx Y (Zv (ov Y) (ZH (ov Y) tZ_52) Jg Y Y Y (fun x=>Zb<|E52 x) Y h_l6)<|Ra Y<|Zgk (by exact Ent.absorbMs1 (e:=52) (R:=R52) (m:=groups) (k:=x2) (ys:=z3) (fk:=FK3) (r:=0) (q:=3) (Zeq h_z3) rfl tZ_105 rfl rfl rfl)<|Za<|K5 3 7 40 41 42 Y<|Zt<|R2 ZX Y<|Rm Y<|Za<|⟨_,h,ES [some 0,some 1,some 2] (hhp:= .cons Y (Z7 (fk:=FK3) (fv:=(osF 52 R52)) (m:=groups) tZ_105 (fun _=>.dat Y) fun _=>ZcH D52)<|.cons Y (roM D52)<|.cons Y (roM D3) .nil)⟩
   ·
    refine ZI<|?_
    replace h:=lx h▸ho2
    exact⟨_,h,ES [some 1]⟩
  ·
   refine Tr<|Rm Y<|Ra Y<|Za<|?_
   obtain rfl:=rt h
   exact Zs (ZK Y (.one<|.tmp Y<|View.ownM Y Y D52))
end Go.Proofs.YtjjknklgafdeiaaGreatDoor
