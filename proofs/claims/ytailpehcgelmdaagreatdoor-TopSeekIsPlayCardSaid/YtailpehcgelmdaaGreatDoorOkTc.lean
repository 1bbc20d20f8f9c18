/- A text of the proof: a verified executor of the program form, or the contracts of the functions that the law reaches. -/
import Derived.Test.YtailpehcgelmdaaGreatDoorOkTb
set_option linter.all false
namespace Go.Proofs.YtailpehcgelmdaaGreatDoor
open Go Go.Vx
set_option maxRecDepth 10000
set_option maxHeartbeats 1000000
set_option linter.unusedVariables false
theorem QU{x:List api_Sample}{target:Int}{cmp:api_Sample→Int→Option Int}{r:Int×Bool}{cmp_f:FuncId}{cmp_c:List AV}(cmp_d:cmp_c.all datB=true)(cmp_h: ∀ (z0:api_Sample) (z1:Int) z,cmp z0 z1=some z→CSpec Tryz.prog gl0 cmp_f ([.agg [.int .i64 z0.At,.int .i64 z0.N,.int .i64 z0.Mark],.int .i64 z1]++cmp_c) (.int .i64 z))(h:ZA x target cmp=some r):
 CSpec Tryz.prog gl0 184 [.sl 56 (List.map R56 x),.int .i64 target,.fn cmp_f cmp_c] (.tuple [.int .i64 r.1,.bool r.2]):=by
 unfold ZA at h
 replace h:=ZM h
 refine So Tryz.func184 Y fun w0 A=>Tr<|Ra Y<|Ra Y<|Za<|K3 0 1 2 Y<|Tr<|Rm Y<|Rl tZ_56 Zev Y<|Ra Y<|Za<|K4 0 1 2 8 Y<|Tr<|Rm Y<|Ra Y<|Ra Y<|Za<|I1 (fun i=>⟨[(0,.sl 56 (List.map R56 x)),(1,.int .i64 target),(2,.fn cmp_f cmp_c),(8,.int .i64 (x.length:Int)),(9,.int .i64 i)],[]⟩) h (fun h=>?_) fun i h=>?_
 ·
  refine Zk<|?_
  obtain⟨r1,hl1,ho1⟩:=XB h
  refine L2 (fun i2 j=>⟨[(0,.sl 56 (List.map R56 x)),(1,.int .i64 target),(2,.fn cmp_f cmp_c),(8,.int .i64 (x.length:Int)),(9,.int .i64 i2),(10,.int .i64 j)],[]⟩) hl1 (ES []<|sd 0 Y Y<|sd 1 Y Y<|sr 2 Y (rFn<|rld cmp_d)<|sd 8 Y Y<|sd 9 Y Y<|sd 10 Y Y sn) fun n1 i2 j h=>?_
  unfold Zx at h
  refine Zl<|Tr<|Rm Y<|Rm Y<|R2 ZU Y<|Za<|K7 0 1 2 8 9 10 17 Y<|If h Y (fun h=>?_) fun h=>?_
  ·
   refine Zf<|Zk<|K6 0 1 2 8 9 10 Y<|Tr<|Rm Y<|Rm Y<|R2 Q4 Y<|Rq Y (Zby (ov Y) tI3 ZhD Y)<|bE h fun q h_q h=>Rq Y (Zd3 (ov Y) (ov Y) h_q)<|Rq Y (Zby (ov Y) ZhD tI3 Y)<|Ra Y<|Za<|K7 0 1 2 8 9 10 11 Y<|Tr<|Rm Y<|Rm Y<|Rm Y<|bE h fun x2 h_x2 h=>Rq Y (Qa (ov Y) (ov Y) Zev h_x2)<|Rq Y (Zy (ov Y) Zcx Y Y)<|Rm Y<|bE h fun y h_y h=>Rq Y (Zad (ov Y) cmp_d (cmp_h _ _ _ h_y)<|.cons (ov Y) (.aggB Y)<|.cons (ov Y) (.b Y) .nil)<|R2 ZU Y<|Za<|K8 0 1 2 8 9 10 11 31 Y<|If h Y (fun h=>?_) fun h=>?_
   ·
    exact K7 0 1 2 8 9 10 11 Y<|ZE<|Rm Y<|R2 Q4 Y<|Ra Y<|Za<|⟨_,h,ES []<|sd 0 Y Y<|sd 1 Y Y<|sr 2 Y (rFn<|rld cmp_d)<|sd 8 Y Y<|sd 9 Y Y<|sd 10 Y Y sn⟩
   ·
    exact K7 0 1 2 8 9 10 11 Y<|ZE<|Rm Y<|Ra Y<|Za<|⟨_,h,ES []<|sd 0 Y Y<|sd 1 Y Y<|sr 2 Y (rFn<|rld cmp_d)<|sd 8 Y Y<|sd 9 Y Y<|sd 10 Y Y sn⟩
  ·
   refine ZL<|?_
   replace h:=lx h▸ho1
   exact⟨_,h,ES []<|sd 0 Y Y<|sd 1 Y Y<|sr 2 Y (rFn<|rld cmp_d)<|sd 8 Y Y<|sd 9 Y Y sn⟩
 ·
  refine Tr<|Rm Y<|Rm Y<|Rm Y<|R2 ZU Y<|Rm Y<|Rq Y (.guarded ((decide (i<(x.length:Int)))==true) Y Y Y Y fun h=>Ze<|ov Y)<|Rq Y (.guarded ((decide (i<(x.length:Int)))==true) Y Y Y Y fun h=>Ze<|ov Y)<|Rq Y (.guarded ((decide (i<(x.length:Int)))==true) Y Y Y Y fun h=>Ze<|ov Y)<|bE h fun x3 h_x3 h=>Rq Y (.guarded ((decide (i<(x.length:Int)))==true) Y Y Y Y fun h=>Qa (ow Y h) (ow Y h) Zev<|gdT h_x3 h)<|Rq Y (.guarded ((decide (i<(x.length:Int)))==true) Y Y Y Y fun h=>Zy (ow Y h) Zcx Y Y)<|Rq Y (.guarded ((decide (i<(x.length:Int)))==true) Y Y Y Y fun h=>Ze<|ov Y)<|bE h fun y2 h_y2 h=>Rq Y (.guarded ((decide (i<(x.length:Int)))==true) Y Y Y Y fun h=>Zad (ow Y h) cmp_d (cmp_h _ _ _<|gdT h_y2 h)<|.cons (ow Y h) (.aggB Y)<|.cons (ow Y h) (.b Y) .nil)<|Rq Y (.guarded ((decide (i<(x.length:Int)))==true) Y Y Y Y fun h=>Qq (ow Y h)<|ov Y)<|Rq Y (Qh (ov Y) fun hp=>ow Y<|gT hp)<|Ra Y<|Ra Y<|Za<|?_
  obtain rfl:=rt h
  exact Zi (Zu Y (.two (rb Y)<|rb Y))
theorem Zc7{x:api_Sample}{at_:Int}{r:Int}(h:QM x at_=some r):
 CSpec Tryz.prog gl0 185 [.agg [.int .i64 x.At,.int .i64 x.N,.int .i64 x.Mark],.int .i64 at_] (.int .i64 r):=by
 unfold QM at h
 replace h:=ZM h
 refine So Tryz.func185 Y fun w0 A=>Tr<|Rq Y (Z0 (cva<|ov Y) Y tZ_56 Y)<|Ra Y<|Za<|K3 1 2 4 Y<|Tr<|Rq Y (Zg (ov Y) ZeX)<|Rq Y (Zb (ov Y) tS3 Y)<|Rm Y<|R2 Zbk Y<|Ra Y<|Za<|?_
 obtain rfl:=rt h
 exact Zi (Zu Y (.one<|rb Y))
theorem ZdT{s:api_Series}{at_:Int}{r:Int}(h:JC s at_=some r):
 CSpec Tryz.prog gl0 166 [.agg [.int .i64 s.Den,.sl 56 (List.map R56 s.Samples)],.int .i64 at_] (.int .i64 r):=by
 unfold JC at h
 replace h:=ZM h
 refine So Tryz.func166 Y fun w0 A=>Tr<|Rq Y (Z0 (cva<|ov Y) Y tZ_52 Y)<|Ra Y<|Za<|K2 1 2 Y<|Tr<|Rq Y (Zg (ov Y) Zb8)<|Rq Y (Zb (ov Y) Zgf Y)<|Rm Y<|bE h fun y h_y h=>Rq Y (Zo (QU Y (fun z0 z1 _ hz=>Zc7 hz) h_y)<|.cons (ov Y) (.b Y)<|.cons (ov Y) (.b Y)<|.cons (ov Y) .fn .nil)<|Rm Y<|Rq Y (Zr (ov Y) Y)<|Rq Y (Zr (ov Y) Y)<|Ra Y<|Ra Y<|Za<|Zl<|K2 5 6 Y<|Tr<|Rm Y<|Za<|K2 5 14 Y<|If h Y (fun h=>?_) fun h=>?_
 ·
  refine K1 5 Y<|Tr<|Rm Y<|Ra Y<|Za<|?_
  obtain rfl:=rt h
  exact Zi (Zu Y (.one<|rb Y))
 ·
  refine Zf<|K1 5 Y<|Tr<|Rm Y<|R2 Zbk Y<|Ra Y<|Za<|?_
  obtain rfl:=rt h
  exact Zi (Zu Y (.one<|rb Y))
theorem Zes{x:api_Sample}{r:Bool}(h:ZaY x=some r):
 CSpec Tryz.prog gl0 167 [.agg [.int .i64 x.At,.int .i64 x.N,.int .i64 x.Mark]] (.bool r):=by
 unfold ZaY at h
 replace h:=ZM h
 refine So Tryz.func167 Y fun w0 A=>Tr<|Rq Y (Z0 (cva<|ov Y) Y tZ_56 Y)<|Ra Y<|Za<|K2 1 2 Y<|Tr<|Rq Y (Zg (ov Y) Zgq)<|Rq Y (Zb (ov Y) tS3 Y)<|R2 Zag Y<|Ra Y<|Za<|?_
 obtain rfl:=rt h
 exact Zi (Zu Y (.one<|rb Y))
theorem Zfn{s:api_Series}{at_:Int}{long:Int}{r:api_Sample×Bool}(h:ZaD s at_ long=some r):
 CSpec Tryz.prog gl0 152 [.agg [.int .i64 s.Den,.sl 56 (List.map R56 s.Samples)],.int .i64 at_,.int .i64 long] (.tuple [.agg [.int .i64 r.1.At,.int .i64 r.1.N,.int .i64 r.1.Mark],.bool r.2]):=by
 unfold ZaD at h
 replace h:=ZM h
 refine So Tryz.func152 Y fun w0 A=>Tr<|Rq Y (Z0 (cva<|ov Y) Y tZ_52 Y)<|Rx Y (ZO (row:= [_,_,_]) 0 Y Zhk Y tZ_56)<|Ra Y<|Za<|K4 1 2 3 6 Y<|Tr<|Rq Y (Zy (ov Y) Zi4 Y Y)<|Rm Y<|bE h fun y h_y h=>Rq Y (Zo (ZdT h_y)<|.cons (ov Y) (.aggB Y)<|.cons (ov Y) (.b Y) .nil)<|Ra Y<|Za<|Zl<|K5 1 2 3 6 8 Y<|Tr<|Rm Y<|R2 ZU Y<|Rm Y<|Rq Y (.guarded ((decide (y<0))==false) Y Y Y Y fun h=>Zg (ov Y) Zb8)<|Rq Y (.guarded ((decide (y<0))==false) Y Y Y Y fun h=>Zb (ow Y h) Zgf Y)<|Rq Y (.guarded ((decide (y<0))==false) Y Y Y Y fun h=>Ze<|ov Y)<|bE h fun x h_x h=>Rq Y (.guarded ((decide (y<0))==false) Y Y Y Y fun h=>Qa (ow Y h) (ow Y h) Zev<|gdT h_x h)<|Rq Y (.guarded ((decide (y<0))==false) Y Y Y Y fun h=>Zy (ow Y h) Zcx Y Y)<|bE h fun y2 h_y2 h=>Rq Y (.guarded ((decide (y<0))==false) Y Y Y Y fun h=>Zo (Zes<|gdT h_y2 h)<|.cons (ow Y h) (.aggB Y) .nil)<|Rq Y (.guarded ((decide (y<0))==false) Y Y Y Y fun h=>Qz<|ow Y h)<|Rq Y (Xa (ov Y) fun hp=>ow Y<|gF hp)<|Rm Y<|Rq Y (.guarded (((decide (y<0)) || (!y2))==false) Y Y Y Y fun h=>Ze<|ov Y)<|Rq Y (.guarded (((decide (y<0)) || (!y2))==false) Y Y Y Y fun h=>Zg (ov Y) Zb8)<|Rq Y (.guarded (((decide (y<0)) || (!y2))==false) Y Y Y Y fun h=>Zb (ow Y h) Zgf Y)<|Rq Y (.guarded (((decide (y<0)) || (!y2))==false) Y Y Y Y fun h=>Ze<|ov Y)<|bE h fun x2 h_x2 h=>Rq Y (.guarded (((decide (y<0)) || (!y2))==false) Y Y Y Y fun h=>Qa (ow Y h) (ow Y h) Zev<|gdT h_x2 h)<|Rq Y (.guarded (((decide (y<0)) || (!y2))==false) Y Y Y Y fun h=>Zg (ow Y h) ZeX)<|Rq Y (.guarded (((decide (y<0)) || (!y2))==false) Y Y Y Y fun h=>Zb (ow Y h) tS3 Y)<|Rq Y (.guarded (((decide (y<0)) || (!y2))==false) Y Y Y Y fun h=>ZfN (ow Y h) (ow Y h) Y)<|Rq Y (.guarded (((decide (y<0)) || (!y2))==false) Y Y Y Y fun h=>Ze<|ov Y)<|Rq Y (.guarded (((decide (y<0)) || (!y2))==false) Y Y Y Y fun h=>QN (ow Y h)<|ow Y h)<|Rq Y (Xa (ov Y) fun hp=>ow Y<|gF hp)<|Za<|K4 3 6 8 34 Y<|If h Y (fun h=>?_) fun h=>?_
 ·
  refine K1 6 Y<|Tr<|Rq Y (Zb0 (ys:= [_,_,_]) Zln ZkX Zhk .nil Y)<|Rx Y (Zj (ov Y) (ov Y) (Zv Zcx Y) Y Y Y (Nat.le_of_ble_eq_true Y) (Zd Y) Y)<|Ra Y<|Za<|?_
  obtain rfl:=rt h
  exact Zi (Zu Y (.two (.agg Y Y Y Y Zcx Y Y<|pwB Y)<|rb Y))
 ·
  refine Zf<|K3 3 6 8 Y<|Tr<|Rq Y (Zg (ov Y) Zb8)<|Rq Y (Zb (ov Y) Zgf Y)<|Rm Y<|bE h fun x3 h_x3 h=>Rq Y (Qa (ov Y) (ov Y) Zev h_x3)<|Rq Y (Zy (ov Y) Zcx Y Y)<|Rx Y (Zj (ov Y) (ov Y) (Zv Zcx Y) Y Y Y (Nat.le_of_ble_eq_true Y) (Zd Y) Y)<|Ra Y<|Za<|?_
  obtain rfl:=rt h
  exact Zi (Zu Y (.two (.agg Y Y Y Y Zcx Y Y<|pwB Y)<|rb Y))
theorem ZeY{s:api_Series}{at_:Int}{long:Int}{r:api_Sample×Bool}(h:Zbr s at_ long=some r):
 CSpec Tryz.prog gl0 120 [.agg [.int .i64 s.Den,.sl 56 (List.map R56 s.Samples)],.int .i64 at_,.int .i64 long] (.tuple [.agg [.int .i64 r.1.At,.int .i64 r.1.N,.int .i64 r.1.Mark],.bool r.2]):=by
 unfold Zbr at h
 replace h:=ZM h
 refine So Tryz.func120 Y fun w0 A=>Tr<|Rq Y (Z0 (cva<|ov Y) Y tZ_52 Y)<|Rx Y (ZO (row:= [_,_,_]) 0 Y Zhk Y tZ_56)<|Ra Y<|Za<|K5 1 2 3 6 7 Y<|Tr<|Rq Y (Zy (ov Y) Zi4 Y Y)<|Rm Y<|Rm Y<|bE h fun y h_y h=>Rq Y (Zo (Zfn h_y)<|.cons (ov Y) (.aggB Y)<|.cons (ov Y) (.b Y)<|.cons (ov Y) (.b Y) .nil)<|Rq Y (Zr (ov Y) Y)<|Rq Y (Zr (ov Y) Y)<|Rx Y (Zj (ov Y) (ov Y) (Zv Zcx Y) Y Y Y (Nat.le_of_ble_eq_true Y) (Zd Y) Y)<|Ra Y<|Za<|?_
 obtain rfl:=rt h
 exact Zi (Zu Y (.two (.agg Y Y Y Y Zcx Y Y<|pwB Y)<|rb Y))
theorem Zcr{t:api_Track}{frame:Int}{r:api_Sample×Bool}(h:Jc t frame=some r):
 CSpec Tryz.prog gl0 88 [.agg [.str t.Name,.int .i64 t.Series.Den,.sl 56 (List.map R56 t.Series.Samples),.int .i64 t.Long],.int .i64 frame] (.tuple [.agg [.int .i64 r.1.At,.int .i64 r.1.N,.int .i64 r.1.Mark],.bool r.2]):=by
 unfold Jc at h
 replace h:=ZM h
 refine So Tryz.func88 Y fun w0 A=>Tr<|Rq Y (Z0 (cva<|ov Y) Y tZ_54 Y)<|Rx Y (ZO (row:= [_,_,_]) 0 Y Zhk Y tZ_56)<|Ra Y<|Za<|K4 1 2 4 5 Y<|Tr<|Rq Y (Zg (ov Y) ZeV)<|Rq Y (Zy (ov Y) Zi4 Y Y)<|Rm Y<|R2 Zh9 Y<|R2 Q4 Y<|R2 Zbk Y<|Rq Y (Zg (ov Y) Zjm)<|Rq Y (Zb (ov Y) tS3 Y)<|bE h fun y h_y h=>Rq Y (Zo (ZeY h_y)<|.cons (ov Y) (.aggB Y)<|.cons (ov Y) (.b Y)<|.cons (ov Y) (.b Y) .nil)<|Rq Y (Zr (ov Y) Y)<|Rq Y (Zr (ov Y) Y)<|Rx Y (Zj (ov Y) (ov Y) (Zv Zcx Y) Y Y Y (Nat.le_of_ble_eq_true Y) (Zd Y) Y)<|Ra Y<|Za<|?_
 obtain rfl:=rt h
 exact Zi (Zu Y (.two (.agg Y Y Y Y Zcx Y Y<|pwB Y)<|rb Y))
theorem Zee{xs r:List Int}(h:ZaJ xs=some r):
 GSpec Tryz.prog gl0 84 [.sl 3 (List.map R3 xs)] [] (.own 0 r.length) [some ⟨3,List.map R3 r⟩]:=by
 have h2:app [] xs=some r:=h
 refine Qs (by kernel_rfl) Tryz.func84 Y Y<|?_
 intro w0 A W φ0
 refine Tr<|Ra Y<|Za<|Zl<|Zl<|ZE<|Rm Y<|Zb3 (ov Y) Zja Y fun b hb=>?_
 refine Za<|Zcz Y (fun hb2=>?_) fun hb2=>?_
 ·
  obtain rfl:xs= []:=by simpa using hb hb2
  obtain rfl:r= []:=by simpa [app,apz] using h2.symm
  exact Tr<|Ra Y<|Za<|Zi<|Zbe [none] Y (.cons (.tmp Y) .nil) (.row 3 .nil) Y Y<|.row Y
 ·
  exact Zf<|Tr<|Rx Y (QA (r:=0) (xs:= []) (f:=R3) Y XM .nil Y Y Y)<|Rm Y<|Rx Y (JP (ov Y) (JF (ov Y) tZ_3) XM Y Y (fun _=>Zd Y) Y h2)<|Ra Y<|Za<|Zi<|Zbe [some 0] Y (.cons (.tmp Y) .nil) (.cons Y (roM D3) .nil) Y Y<|.own _ Y
theorem Zfa{op:Int}{a:Int}{b:Int}{r:Bool}(h:ZaL op a b=some r):
 CSpec Tryz.prog gl0 129 [.int .i64 op,.int .i64 a,.int .i64 b] (.bool r):=by
 unfold ZaL at h
 replace h:=ZM h
 refine So Tryz.func129 Y fun w0 A=>Tr<|Ra Y<|Za<|Zl<|K3 0 1 2 Y<|Tr<|Rm Y<|Za<|Zk<|K3 1 2 7 Y<|Tr<|R2 Qq Y<|Ra Y<|Za<|K4 1 2 7 8 Y<|If h Y (fun h=>?_) fun h=>?_
 ·
  refine K2 1 2 Y<|Tr<|Rm Y<|Rm Y<|R2 ZU Y<|Ra Y<|Za<|?_
  obtain rfl:=rt h
  exact Zi (Zu Y (.one<|rb Y))
 ·
  refine K3 1 2 7 Y<|Tr<|R2 Qq Y<|Ra Y<|Za<|K4 1 2 7 13 Y<|If h Y (fun h=>?_) fun h=>?_
  ·
   refine K2 1 2 Y<|Tr<|Rm Y<|Rm Y<|R2 Zbl Y<|Ra Y<|Za<|?_
   obtain rfl:=rt h
   exact Zi (Zu Y (.one<|rb Y))
  ·
   refine K3 1 2 7 Y<|Tr<|R2 Qq Y<|Ra Y<|Za<|K4 1 2 7 18 Y<|If h Y (fun h=>?_) fun h=>?_
   ·
    refine K2 1 2 Y<|Tr<|Rm Y<|Rm Y<|R2 Qq Y<|Ra Y<|Za<|?_
    obtain rfl:=rt h
    exact Zi (Zu Y (.one<|rb Y))
   ·
    refine K3 1 2 7 Y<|Tr<|R2 Qq Y<|Ra Y<|Za<|K4 1 2 7 23 Y<|If h Y (fun h=>?_) fun h=>?_
    ·
     refine K2 1 2 Y<|Tr<|Rm Y<|Rm Y<|R2 Qw Y<|Ra Y<|Za<|?_
     obtain rfl:=rt h
     exact Zi (Zu Y (.one<|rb Y))
    ·
     refine K3 1 2 7 Y<|Tr<|R2 Qq Y<|Ra Y<|Za<|K3 1 2 28 Y<|If h Y (fun h=>?_) fun h=>?_
     ·
      refine K2 1 2 Y<|Tr<|Rm Y<|Rm Y<|R2 Zag Y<|Ra Y<|Za<|?_
      obtain rfl:=rt h
      exact Zi (Zu Y (.one<|rb Y))
     ·
      refine Zf<|K2 1 2 Y<|Tr<|Rm Y<|Rm Y<|R2 QN Y<|Ra Y<|Za<|?_
      obtain rfl:=rt h
      exact Zi (Zu Y (.one<|rb Y))
theorem ZdX{tape:List Int}{size:Int}{n:Int}{r:(List Int)}(h:JD tape size n=some r):
 CSpec Tryz.prog gl0 130 [.sl 3 (List.map R3 tape),.int .i64 size,.int .i64 n] (.sl 3 (List.map R3 r)):=by
 unfold JD at h
 replace h:=ZM h
 refine So Tryz.func130 Y fun w0 A=>Tr<|Ra Y<|Za<|K3 0 1 2 Y<|Tr<|Rm Y<|bE h fun y h_y h=>Rx Y (ZS [] (Zee h_y) (.cons (ov Y) (.dat Y) .nil) .nil Y (.lent 0 (.inr ⟨Nat.le_of_ble_eq_true Y,Y⟩) Y (roM D3) .nil) Y Y<|.own _<|.inr ⟨Nat.le_of_ble_eq_true Y,Y⟩)<|Rm Y<|R_q (.sl 3<|List.map R3 ([n]:List Int)) Y (Zds XM (.cons (cvs (ov Y)<|Qp Y) Y (.cons (.b Y) .nil) .nil) Y Y)<|bE h fun l h_l h=>Rx Y (ZbM (ov Y) (JF (ov Y) tZ_3) XM Y Y Y (fun _=>Zd Y) Y h_l)<|Ra Y<|Za<|Zl<|K2 1 7 Y<|Tr<|Rm Y<|Rq Y (Zcl (ov Y) Y Y XM)<|Rm Y<|R2 Zbl Y<|Za<|K2 7 18 Y<|If h Y (fun h=>?_) fun h=>?_
 ·
  refine K1 7 Y<|Tr<|Rm Y<|Ra Y<|Za<|?_
  obtain rfl:=rt h
  exact Zi (Zu Y (.one<|.tmp Y<|View.ownM Y Y D3))
 ·
  refine Zf<|I1 (fun out=>⟨[(7,.own 0 out.length)],[some ⟨3,List.map R3 out⟩]⟩) h (fun h=>?_) fun out h=>?_
  ·
   refine K1 7 Y<|Tr<|Ra Y<|Za<|Zk<|?_
   obtain⟨r1,hl1,ho1⟩:=XB h
   refine L2 (fun out2 i=>⟨[(7,.own 0 out2.length),(8,.int .i64 i)],[some ⟨3,List.map R3 out2⟩]⟩) hl1 (ES [some 0]) fun n1 out2 i h=>?_
   unfold QX at h
   refine Zl<|Tr<|Rm Y<|R2 Q4 Y<|Rm Y<|Rq Y (Zcl (ov Y) Y Y XM)<|R2 Zbl Y<|Za<|K3 7 8 24 Y<|If h Y (fun h=>?_) fun h=>?_
   ·
    exact Zf<|Zl<|Zk<|K2 7 8 Y<|Tr<|Rm Y<|Rm Y<|Rm Y<|R2 Q4 Y<|bE h fun u h_u h=>Rq Y (Zlf (ov Y) Y Y XM (oi<|ov Y) (oi<|ov Y) h_u)<|bE h fun u2 h_u2 h=>Rq Y (Zkt (ov Y) Zjo Y (List.length_map ..) tZ_3 Y h_u2)<|Ra Y<|Za<|K3 7 8 9 Y<|Zbh (cw:=md0) (by kernel_rfl)<|D1 0 Ze Y<|D1 1 Ze Y<|Dq 2 Y (Zh (ov Y) Y<|List.length_map ..)<|bE h fun u3 h_u3 h=>bE h fun x h_x h=>Dq 3 Y (Zj1 (ov Y) (ov Y) Zjo Y Y tZ_3 (Zfc h_u).1 h_u3 h_x)<|Dq 4 Y (Zcs (ov Y) Y Y h_x tS3 Y)<|Dq 5 Y (Zh (ov Y) Y<|List.length_map ..)<|bE h fun u4 h_u4 h=>bE h fun x2 h_x2 h=>Dq 6 Y (Zj1 (ov Y) (ov Y) Zjo Y Y tZ_3 (Zfc h_u).1 h_u4 h_x2)<|Do 7 Y (ZbP (u':=x) (ov Y) (ov Y) (Zn tS3) Y Y h_x2 Y (Zd Y) Y)<|Dd<|K2 7 8 Y<|ZE<|Rm Y<|R2 Q4 Y<|Ra Y<|Za<|⟨_,h,ES [some 0]<|sr 7 Y (Zi8 (Eq.symm<|(List.length_set ..).trans Y) Y)<|sd 8 Y Y sn⟩
   ·
    refine ZL<|?_
    replace h:=lx h▸ho1
    exact⟨_,h,ES [some 0]⟩
  ·
   refine Tr<|Rm Y<|Rm Y<|Rq Y (Zcl (ov Y) Y Y XM)<|R2 Zbk Y<|bE h fun l2 h_l2 h=>Zi7 (Ent.sel [none] (sr 7 Y (Ze4 Y Y Y D3)<|sr 40 Y (Ze4 Y Y Y D3)<|sr 41 Y (Ze4 Y Y Y D3)<|sd 42 Y Y<|sd 43 Y Y sn) (.row 3 .nil) Y Y)<|Rq Y (Zfd (ov Y) XM on (oi<|ov Y) h_l2)<|Ra Y<|Za<|?_
   obtain rfl:=rt h
   exact Zi (Zu Y (.one<|rb Y))
theorem Zce{i:api_Instrument}{m:api_Memo}{n:Int}{known:Bool}{r:api_Memo}(h:Q5 i m n known=some r):
 CSpec Tryz.prog gl0 92 [.agg [.int .i64 i.Kind,.str i.Name,.str i.Track,.int .i64 i.Places,.int .i64 i.Low,.int .i64 i.High,.int .i64 i.Steps,.sl 136 (List.map R136 i.Zones),.int .i64 i.Op,.int .i64 i.N,.bool i.Latch,.int .i64 i.Size],.agg [.bool m.Lit,.bool m.Some,.int .i64 m.N,.int .i64 m.Count,.sl 3 (List.map R3 m.Tape)],.int .i64 n,.bool known] (.agg [.bool r.Lit,.bool r.Some,.int .i64 r.N,.int .i64 r.Count,.sl 3 (List.map R3 r.Tape)]):=by
 unfold Q5 at h
 replace h:=ZM h
 refine So Tryz.func92 Y fun w0 A=>Tr<|Rq Y (Z0 (cva<|ov Y) Y tZ_49 Y)<|Rx Y (ZhM 0 Y (ov Y) Zeq Y)<|Rx Y (ZO (row:= [_,_,_,_,_]) 1 Y Zh6 Y tZ_99)<|Za<|K5 2 3 4 5 8 Y<|Tr<|Rm Y<|Rm Y<|Rq Y (.guarded (known==true) Y Y Y Y fun h=>Zg (ov Y) ZbB)<|Rq Y (.guarded (known==true) Y Y Y Y fun h=>Zb (ow Y h) tS3 Y)<|Rq Y (.guarded (known==true) Y Y Y Y fun h=>Qq (ow Y h)<|ov Y)<|Rq Y (.guarded (known==true) Y Y Y Y fun h=>Ze<|ow Y h)<|Rq Y (.guarded2 ((known==true)&&((decide (i.Kind=3))==false)) Y Y Y Y fun h=>Zg (ov Y) ZbB)<|Rq Y (.guarded2 ((known==true)&&((decide (i.Kind=3))==false)) Y Y Y Y fun h=>Zb (ow Y h) tS3 Y)<|Rq Y (.guarded2 ((known==true)&&((decide (i.Kind=3))==false)) Y Y Y Y fun h=>Qq (ow Y h)<|ov Y)<|Rq Y (.guarded (known==true) Y Y Y Y fun h=>Xa (ow Y h) fun hp=>ow Y<|gA h<|gF hp)<|Rq Y (Qh (ov Y) fun hp=>ow Y<|gT hp)<|Rm Y<|Rq Y (.guarded ((known&&((decide (i.Kind=3)) || (decide (i.Kind=5))))==true) Y Y Y Y fun h=>Zg (ov Y) Zhg)<|Rq Y (.guarded ((known&&((decide (i.Kind=3)) || (decide (i.Kind=5))))==true) Y Y Y Y fun h=>Zb (ow Y h) tS3 Y)<|Rq Y (.guarded ((known&&((decide (i.Kind=3)) || (decide (i.Kind=5))))==true) Y Y Y Y fun h=>Ze<|ov Y)<|Rq Y (.guarded ((known&&((decide (i.Kind=3)) || (decide (i.Kind=5))))==true) Y Y Y Y fun h=>Zg (ov Y) Zhi)<|Rq Y (.guarded ((known&&((decide (i.Kind=3)) || (decide (i.Kind=5))))==true) Y Y Y Y fun h=>Zb (ow Y h) tS3 Y)<|bE h fun y h_y h=>Rq Y (.guarded ((known&&((decide (i.Kind=3)) || (decide (i.Kind=5))))==true) Y Y Y Y fun h=>Zo (Zfa<|gdT h_y h)<|.cons (ow Y h) (.b Y)<|.cons (ow Y h) (.b Y)<|.cons (ow Y h) (.b Y) .nil)<|Rq Y (Qh (ov Y) fun hp=>ow Y<|gT hp)<|Ra Y<|Za<|I1 (fun m2=>⟨[(5,.ptr 0 1 0 0),(8,.ptr 1 1 0 0)],[some ⟨99,[[.bool m2.Lit,.bool m2.Some,.int .i64 m2.N,.int .i64 m2.Count,.sl 3 (List.map R3 m2.Tape)]]⟩,some ⟨99,[[.bool false,.bool false,.int .i64 0,.int .i64 0,.nils]]⟩]⟩) h (fun h=>?_) fun m2 h=>?_
 ·
  refine Zk<|K6 2 3 4 5 8 9 Y<|Tr<|Rq Y (Zg (ov Y) ZbB)<|Rq Y (Zb (ov Y) tS3 Y)<|R2 Qq Y<|Ra Y<|Za<|K7 2 3 4 5 8 9 29 Y<|If h Y (fun h=>?_) fun h=>?_
  ·
   exact K4 4 5 8 9 Y<|ZE<|Rm Y<|Rm Y<|Rq Y (.guarded (((known&&((decide (i.Kind=3)) || (decide (i.Kind=5))))&&y)==false) Y Y Y Y fun h=>Zg (ov Y) ZhL)<|Rq Y (.guarded (((known&&((decide (i.Kind=3)) || (decide (i.Kind=5))))&&y)==false) Y Y Y Y fun h=>Zb (ow Y h) tS4 Y)<|Rq Y (.guarded (((known&&((decide (i.Kind=3)) || (decide (i.Kind=5))))&&y)==false) Y Y Y Y fun h=>Ze<|ow Y h)<|Rq Y (.guarded2 ((((known&&((decide (i.Kind=3)) || (decide (i.Kind=5))))&&y)==false)&&(i.Latch==true)) Y Y Y Y fun h=>Zc (ov Y) Y Y Zb6)<|Rq Y (.guarded2 ((((known&&((decide (i.Kind=3)) || (decide (i.Kind=5))))&&y)==false)&&(i.Latch==true)) Y Y Y Y fun h=>Zm (ow Y h) Y Y Y tS4 Y)<|Rq Y (.guarded (((known&&((decide (i.Kind=3)) || (decide (i.Kind=5))))&&y)==false) Y Y Y Y fun h=>Qh (ow Y h) fun hp=>ow Y<|gA h<|gT hp)<|Rq Y (Xa (ov Y) fun hp=>ow Y<|gF hp)<|Rq Y (Zc (ov Y) Y Y Zb6)<|Rx Y (Zj (ov Y) (ov Y) (Zn tS4) Y Y Y (Nat.le_of_ble_eq_true Y) (Zd Y) Y)<|Za<|⟨_,h,ES [some 0,some 1]⟩
  ·
   refine K6 2 3 4 5 8 9 Y<|Tr<|Rq Y (Zg (ov Y) ZbB)<|Rq Y (Zb (ov Y) tS3 Y)<|R2 Qq Y<|Ra Y<|Za<|K7 2 3 4 5 8 9 43 Y<|If h Y (fun h=>?_) fun h=>?_
   ·
    refine Zl<|K3 5 8 9 Y<|Tr<|Rm Y<|Rm Y<|Rq Y (.guarded (((known&&((decide (i.Kind=3)) || (decide (i.Kind=5))))&&y)==true) Y Y Y Y fun h=>Zc (ov Y) Y Y Zb6)<|Rq Y (.guarded (((known&&((decide (i.Kind=3)) || (decide (i.Kind=5))))&&y)==true) Y Y Y Y fun h=>Zm (ow Y h) Y Y Y tS4 Y)<|Rq Y (.guarded (((known&&((decide (i.Kind=3)) || (decide (i.Kind=5))))&&y)==true) Y Y Y Y fun h=>Qz<|ow Y h)<|Rq Y (Qh (ov Y) fun hp=>ow Y<|gT hp)<|Za<|K4 5 8 9 52 Y<|If h Y (fun h=>?_) fun h=>?_
    ·
     exact K3 5 8 9 Y<|ZE<|Rq Y (Zc (ov Y) Y Y Zfj)<|Rq Y (Zm (ov Y) Y Y Y tS3 Y)<|R2 Q4 Y<|Rq Y (Zc (ov Y) Y Y Zfj)<|Rx Y (Zj (ov Y) (ov Y) (Zn tS3) Y Y Y (Nat.le_of_ble_eq_true Y) (Zd Y) Y)<|Za<|K3 5 8 9 Y<|ZE<|Rm Y<|Rq Y (Zc (ov Y) Y Y Zb6)<|Rx Y (Zj (ov Y) (ov Y) (Zn tS4) Y Y Y (Nat.le_of_ble_eq_true Y) (Zd Y) Y)<|Za<|⟨_,h,ES [some 0,some 1]⟩
    ·
     exact Zf<|K3 5 8 9 Y<|ZE<|Rm Y<|Rq Y (Zc (ov Y) Y Y Zb6)<|Rx Y (Zj (ov Y) (ov Y) (Zn tS4) Y Y Y (Nat.le_of_ble_eq_true Y) (Zd Y) Y)<|Za<|⟨_,h,ES [some 0,some 1]⟩
   ·
    refine K5 2 3 4 5 8 Y<|Tr<|Rq Y (Zg (ov Y) ZbB)<|Rq Y (Zb (ov Y) tS3 Y)<|R2 Qq Y<|Rm Y<|Rq Y (.guarded ((decide (i.Kind=4))==true) Y Y Y Y fun h=>Ze<|ov Y)<|Rq Y (Qh (ov Y) fun hp=>ow Y<|gT hp)<|Ra Y<|Za<|K6 2 3 4 5 8 59 Y<|If h Y (fun h=>?_) fun h=>?_
    ·
     refine I1 (fun n2=>⟨[(2,.int .i64 n2),(5,.ptr 0 1 0 0),(8,.ptr 1 1 0 0)],[some ⟨99,[[.bool m.Lit,.bool m.Some,.int .i64 m.N,.int .i64 m.Count,.sl 3 (List.map R3 m.Tape)]]⟩,some ⟨99,[[.bool false,.bool false,.int .i64 0,.int .i64 0,.nils]]⟩]⟩) h (fun h=>?_) fun n2 h=>?_
     ·
      refine K3 2 5 8 Y<|Tr<|Rq Y (Zc (ov Y) Y Y ZeP)<|Rq Y (Zm (ov Y) Y Y Y tS4 Y)<|Za<|K4 2 5 8 67 Y<|If h Y (fun h=>?_) fun h=>?_
      ·
       exact K3 2 5 8 Y<|ZE<|Rm Y<|Rq Y (Zc (ov Y) Y Y ZeQ)<|Rq Y (Zm (ov Y) Y Y Y tS3 Y)<|Rq Y (ZiD (ov Y) (ov Y) Y)<|Ra Y<|Za<|⟨_,h,ES [some 0,some 1]⟩
      ·
       exact Zf<|⟨_,h,ES [some 0,some 1]⟩
     ·
      exact ZE<|Rm Y<|Rq Y (Zc (ov Y) Y Y ZeQ)<|Rx Y (Zj (ov Y) (ov Y) (Zn tS3) Y Y Y (Nat.le_of_ble_eq_true Y) (Zd Y) Y)<|Rq Y (Zc (ov Y) Y Y ZeP)<|Rx Y (Zj (ov Y) (ov Y) (Zn tS4) Y Y Y (Nat.le_of_ble_eq_true Y) (Zd Y) Y)<|Za<|⟨_,h,ES [some 0,some 1]⟩
    ·
     refine K5 2 3 4 5 8 Y<|Tr<|Rq Y (Zg (ov Y) ZbB)<|Rq Y (Zb (ov Y) tS3 Y)<|R2 Qq Y<|Rm Y<|Rq Y (.guarded ((decide (i.Kind=6))==true) Y Y Y Y fun h=>Ze<|ov Y)<|Rq Y (Qh (ov Y) fun hp=>ow Y<|gT hp)<|Ra Y<|Za<|K5 2 4 5 8 75 Y<|If h Y (fun h=>?_) fun h=>?_
     ·
      exact K4 2 4 5 8 Y<|ZE<|Rq Y (Zc (ov Y) Y Y Zbf)<|Rq Y (Zm (ov Y) Y Y Y Zfg Y)<|Rq Y (Zg (ov Y) Zgx)<|Rq Y (Zb (ov Y) tS3 Y)<|Rm Y<|bE h fun y2 h_y2 h=>Rq Y (Zo (ZdX h_y2)<|.cons (ov Y) (.b Y)<|.cons (ov Y) (.b Y)<|.cons (ov Y) (.b Y) .nil)<|Rq Y (Zc (ov Y) Y Y Zbf)<|Rx Y (Zj (ov Y) (ov Y) (Zn Zfg) Y Y Y (Nat.le_of_ble_eq_true Y) (Zd Y) Y)<|Za<|⟨_,h,ES [some 0,some 1]⟩
     ·
      exact Zf<|⟨_,h,ES [some 0,some 1]⟩
 ·
  refine Tr<|Rq Y (ZY (ov Y) Y Y Y Zeq Y Y)<|Rx Y (Zj (ov Y) (ov Y) (Zv Zeq Y) Y Y Y (Nat.le_of_ble_eq_true Y) (Zd Y) Y)<|Za<|?_
  obtain rfl:=rt h
  exact Zi (Zu Y (.one<|.agg Y Y Y Y Zeq Y Y<|pwB Y))
theorem Zba{p:api_Panel}{l:List api_Track}{s:api_PanelState}{r:api_PanelState}(h:Xs p l s=some r):
 GSpec Tryz.prog gl0 50 [.agg [.sl 49 (List.map R49 p.Instruments)],.sl 54 (List.map R54 l),.agg [.int .i64 s.Frame,.sl 99 (List.map R99 s.Memos)]] [] (.agg [.int .i64 r.Frame,.own 0 r.Memos.length]) [some ⟨99,List.map R99 r.Memos⟩]:=by
 unfold Xs at h
 replace h:=ZM h
 refine Qs (by kernel_rfl) Tryz.func50 Y Y<|?_
 intro w0 A W φ0
 refine Tr<|Rq Y (Z0 (cva<|ov Y) Y tZ_24 Y)<|Rq Y (Z0 (cva<|ov Y) Y tZ_44 Y)<|Rx Y (ZO (row:= [_,_]) 0 Y ZeS Y tZ_44)<|Za<|K4 1 3 5 6 Y<|Tr<|Rq Y (Zg (ov Y) X6)<|Rq Y (Zb (ov Y) tS3 Y)<|R2 Q4 Y<|Rq Y (Zb0 (ys:= [_,_]) Zio Zix ZeS (.cons (cvs (ov Y)<|Qp Y) .nil) Y)<|Rx Y (ZO (row:= [_,_]) 1 Y ZeS Y tZ_44)<|Rx Y (Zj (ov Y) (ov Y) (Zv X8 Y) Y Y Y (Nat.le_of_ble_eq_true Y) (Zd Y) Y)<|Za<|I1 (fun Memos=>⟨[(6,.ptr 0 1 0 0),(7,.ptr 1 1 0 0)],[some ⟨44,[[.int .i64 0,.nils]]⟩,some ⟨44,[[.int .i64 (i64 (s.Frame+1)),.own 2 Memos.length]]⟩,some ⟨99,List.map R99 Memos⟩]⟩) h (fun h=>?_) fun Memos h=>?_
 ·
  refine K5 1 3 5 6 7 Y<|Tr<|Rq Y (Zg (ov Y) ZaN)<|Rq Y (Zb (ov Y) Zem Y)<|Rl tZ_49 Zcq Y<|Rm Y<|Za<|Zk<|?_
  obtain⟨r1,hl1,ho1⟩:=XB h
  refine L2 (fun Memos2 i=>⟨[(1,.sl 54 (List.map R54 l)),(5,.rp [.int .i64 s.Frame,.sl 99 (List.map R99 s.Memos)] 0),(6,.ptr 0 1 0 0),(7,.ptr 1 1 0 0),(18,.sl 49 (List.map R49 p.Instruments)),(19,.int .i64 (p.Instruments.length:Int)),(20,.int .i64 i)],[some ⟨44,[[.int .i64 0,.nils]]⟩,some ⟨44,[[.int .i64 (i64 (s.Frame+1)),.own 2 Memos2.length]]⟩,some ⟨99,List.map R99 Memos2⟩]⟩) hl1 (ES [some 0,some 1,none]) fun n1 Memos2 i h=>?_
  unfold QW at h
  refine Tr<|R2 ZU Y<|Za<|Zl<|If h Y (fun h=>?_) fun h=>?_
  ·
   exact Zf<|Zl<|Zk<|K7 1 5 6 7 18 19 20 Y<|Tr<|Rm Y<|bE h fun x h_x h=>Rq Y (Qa (ov Y) (ov Y) Zcq h_x)<|Rq Y (Zy (ov Y) Zcu Y Y)<|Rx Y (ZO (row:= [_,_,_,_,_,_,_,_,_,_,_,_]) 3 Y ZkE Y tZ_49)<|Ra Y<|Rx Y (Zj (ov Y) (ov Y) (Zv Zcu Y) Y Y Y (Nat.le_of_ble_eq_true Y) (Zd Y) Y)<|Za<|K9 1 5 6 7 8 9 18 19 20 Y<|Td md0<|JZ 0 _ Y (by kernel_rfl) Y Y (fun hp'=>Ze<|ov Y)<|JZ 1 _ Y (by kernel_rfl) Y Y (fun hp'=>Ze<|ov Y)<|Zdj 2 _ Y (by kernel_rfl) Y Y Y ExtW.refl (fun hp' hx=>ZY (ov Y) (hx.get Y Y) Y Y Zcu Y Y)<|bE h fun y h_y h=>Zdj 3 _ Y (by kernel_rfl) Y Y Y ExtW.refl (fun hp' hx=>Zo (Zao h_y)<|.cons (ov Y) (.b Y)<|.cons (ov Y) (.aggB Y) .nil)<|bE h fun x2 h_x2 h=>Zdj 4 _ Y (by kernel_rfl) Y Y Y ExtW.refl (fun hp' hx=>Qa (ov Y) (ov Y) ZdN h_x2)<|Zdj 5 _ Y (by kernel_rfl) Y Y Y ExtW.refl (fun hp' hx=>Zy (ov Y) Zhj Y Y)<|Zdj 6 _ Y (by kernel_rfl) Y Y Y ExtW.refl (fun hp' hx=>Zc (ov Y) (hx.get Y Y) Y X6)<|Zdj 7 _ Y (by kernel_rfl) Y Y Y ExtW.refl (fun hp' hx=>Zm (ov Y) (hx.get Y Y) Y Y tS3 Y)<|bE h fun y2 h_y2 h=>Zdj 8 _ Y (by kernel_rfl) Y Y Y ExtW.refl (fun hp' hx=>Zo (Zcr h_y2)<|.cons (ov Y) (.aggB Y)<|.cons (ov Y) (.b Y) .nil)<|JZ 9 _ Y (by kernel_rfl) Y Y (fun hp'=>Ze<|ov Y)<|JZ 10 _ Y (by kernel_rfl) Y Y (fun hp'=>Zr (ov Y) Y)<|JZ 11 _ Y (by kernel_rfl) Y Y (fun hp'=>Zr (ov Y) Y)<|Zi0 12 _ _ Y (by kernel_rfl) Y Y (fun _=>Ext.app) (fun h=>by cases h) (ZO (row:= [_,_,_]) 4 Y Zhk Y tZ_56)<|Do 13 Y (Zj (ov Y) (ov Y) (Zv Zcx Y) Y Y Y (Nat.le_of_ble_eq_true Y) (Zd Y) Y)<|D1 14 Ji Y<|Dd<|K11 1 5 6 7 8 9 10 11 18 19 20 Y<|Tr<|Rq Y (Zg (ov Y) X0)<|Rq Y (Zb (ov Y) Zcf Y)<|Rm Y<|bE h fun x3 h_x3 h=>Rq Y (Qa (ov Y) (ov Y) ZbX h_x3)<|Rq Y (Zy (ov Y) Zeq Y Y)<|Rx Y (ZO (row:= [_,_,_,_,_]) 5 Y Zh6 Y tZ_99)<|Rx Y (Zj (ov Y) (ov Y) (Zv Zeq Y) Y Y Y (Nat.le_of_ble_eq_true Y) (Zd Y) Y)<|Za<|K11 1 5 6 7 9 10 11 12 18 19 20 Y<|Tr<|Rq Y (Zc (ov Y) Y Y Zbf)<|Rq Y (Zm (ov Y) Y Y Y Zfg Y)<|bE h fun y3 h_y3 h=>Rx Y (ZS [] (Zee h_y3) (.cons (ov Y) (.dat Y) .nil) .nil Y (.keep Y Y<|.keep Y Y<|.keep Y Y<|.keep Y Y<|.keep Y Y<|.keep Y Y<|.lent 0 (.inr ⟨Nat.le_of_ble_eq_true Y,Y⟩) Y (roM D3) .nil) Y Y<|.own _<|.inr ⟨Nat.le_of_ble_eq_true Y,Y⟩)<|Rq Y (Zc (ov Y) Y Y Zbf)<|Rx Y (Zj (ov Y) (ov Y) (Zn Zfg) Y Y Y (Nat.le_of_ble_eq_true Y) (Zd Y) Y)<|Za<|K11 1 5 6 7 9 10 11 12 18 19 20 Y<|Za5 (Ent.sel [some 0,some 1,some 2,some 3,some 4,some 5,none] (sd 1 Y Y<|sd 5 Y Y<|sr 6 Y (.ptr (r':=0) _ _ _ Y)<|sr 7 Y (.ptr (r':=1) _ _ _ Y)<|sr 9 Y (.ptr (r':=3) _ _ _ Y)<|sr 10 Y (.ptr (r':=4) _ _ _ Y)<|sd 11 Y Y<|sr 12 Y (.ptr (r':=5) _ _ _ Y)<|sd 18 Y Y<|sd 19 Y Y<|sd 20 Y Y sn) (.cons Y (ro1 (by exact tZ_44.symm)<|rlc (.dat Y)<|rlc (.dat Y) rln)<|.cons Y (ro1 (by exact tZ_44.symm)<|rlc (.dat Y)<|rlc (.own (r':=2) _ Y) rln)<|.cons Y (roM D99)<|.cons Y (ro1 (by exact tZ_49.symm)<|rld Y)<|.cons Y (ro1 (by exact tZ_56.symm)<|rld Y)<|.cons Y (ro1 (by exact tZ_99.symm)<|rlc (.dat Y)<|rlc (.dat Y)<|rlc (.dat Y)<|rlc (.dat Y)<|rlc (Ze4 Y Y Y D3) rln)<|.row 3 .nil) Y Y)<|Zbh (cw:=md0) (by kernel_rfl)<|Dq 0 Y (Zc (ov Y) Y Y X0)<|Dq 1 Y (Zm (ov Y) Y Y Y Zcf Y)<|Dq 2 Y (ZY (ov Y) Y Y Y Zcu Y Y)<|Dq 3 Y (ZY (ov Y) Y Y Y Zeq Y Y)<|Dq 4 Y (Zc (ov Y) Y Y ZdW)<|Dq 5 Y (Zm (ov Y) Y Y Y tS3 Y)<|D1 6 Ze Y<|bE h fun y4 h_y4 h=>Dq 7 Y (Zo (Zce h_y4)<|.cons (ov Y) (.aggB Y)<|.cons (ov Y) (.aggB Y)<|.cons (ov Y) (.b Y)<|.cons (ov Y) (.b Y) .nil)<|Zir 8 (.sl 99<|List.map R99 ([y4]:List api_Memo)) Y (by kernel_rfl) Y Y (Zds ZbX (.cons (cva<|ov Y) Y (pwD Y) .nil) Y Y)<|bE h fun l2 h_l2 h=>Do 9 Y (ZbM (ov Y) (JF (ov Y) tZ_99) ZbX Y Y Y (fun _=>Zd Y) Y h_l2)<|Dq 10 Y (Zc (ov Y) Y Y X0)<|Do 11 Y (Zj (ov Y) (ov Y) (Zn Zcf) Y Y Y (Nat.le_of_ble_eq_true Y) (Zd Y) Y)<|Dd<|K7 1 5 6 7 18 19 20 Y<|ZE<|R2 Q4 Y<|Rm Y<|Za<|⟨_,h,ES [some 0,some 1,some 2]⟩
  ·
   refine ZL<|?_
   replace h:=lx h▸ho1
   exact⟨_,h,ES [some 0,some 1,some 2]⟩
 ·
  refine Tr<|Rq Y (ZY (ov Y) Y Y Y X8 Y Y)<|Rx Y (Zj (ov Y) (ov Y) (Zv X8 Y) Y Y Y (Nat.le_of_ble_eq_true Y) (Zd Y) Y)<|Za<|?_
  obtain rfl:=rt h
  exact Zi<|Zbe [some 2] Y (.cons (.agg Y Y Y Y X8 Y Y) .nil) (.cons Y (roM D99) .nil) Y Y<|ZaH<|rlc (.dat Y)<|rlc (.own _ Y) rln
theorem XH{r_:panel_Replay}{frame:Int}{r:Int×Bool}(h:ZQ r_ frame=some r):
 GSpec Tryz.prog gl0 43 [.ptr 0 1 0 0,.int .i64 frame] [some ⟨91,[[.sl 49 (List.map R49 r_.p.Instruments),.sl 54 (List.map R54 r_.l),.int .i64 r_.keep,.int .i64 r_.state.Frame,.own 1 r_.state.Memos.length,.own 2 r_.kept.length,.own 3 r_.marks.length]]⟩,some ⟨99,List.map R99 r_.state.Memos⟩,some ⟨44,List.map R44 r_.kept⟩,some ⟨120,List.map R120 r_.marks⟩] (.tuple [.int .i64 r.1,.bool r.2]) [some ⟨91,[[.sl 49 (List.map R49 r_.p.Instruments),.sl 54 (List.map R54 r_.l),.int .i64 r_.keep,.int .i64 r_.state.Frame,.own 4 r_.state.Memos.length,.own 5 r_.kept.length,.own 6 r_.marks.length]]⟩,none,none,none,some ⟨99,List.map R99 r_.state.Memos⟩,some ⟨44,List.map R44 r_.kept⟩,some ⟨120,List.map R120 r_.marks⟩]:=by
 unfold ZQ at h
 replace h:=ZM h
 refine Qs (by kernel_rfl) Tryz.func43 Y Y<|?_
 intro w0 A W φ0
 refine Za5 (Ent.sel [some 0,some 1,some 2,some 3,some 1,some 2,some 3] (sr 0 Y (.ptr (r':=0) _ _ _ Y)<|sd 1 Y Y sn) (.cons Y (ro1 (by exact tZ_91.symm)<|rlc (.dat Y)<|rlc (.dat Y)<|rlc (.dat Y)<|rlc (.dat Y)<|rlc (.own (r':=4) _ Y)<|rlc (.own (r':=5) _ Y)<|rlc (.own (r':=6) _ Y) rln)<|.dead<|.dead<|.dead<|.cons Y (roM D99)<|.cons Y (roM D44)<|.cons Y (roM D120) .nil) Y Y)<|Tr<|Ra Y<|Ra Y<|Za<|Tr<|Rm Y<|Rq Y (Zh (ov Y) Y Y)<|Rq Y (Zc (ov Y) Y Y Z9)<|Rq Y (Zm (ov Y) Y Y Y Xt Y)<|Rm Y<|bE h fun y h_y h=>Rq Y (ZaZ (ZP Y (fun z0 z1 _ hz=>Jy hz) h_y) (.tuple<|by simp only [List.mem_cons,List.not_mem_nil,or_false,forall_eq_or_imp,forall_eq];exact⟨.int,.bool⟩)<|.cons (ov Y) (View.ownM Y Y D44)<|.cons (ov Y) (Dat.view<|.b Y)<|.cons (ov Y) (Dat.view .fn) .nil)<|Rq Y (Zr (ov Y) Y)<|Rq Y (Zr (ov Y) Y)<|Ra Y<|Ra Y<|Za<|?_
 obtain rfl:=rt h
 exact Zi<|Zbe [some 0,some 1,some 2,some 3,some 4,some 5,some 6] Y (.cons (.tmp Y)<|.cons (.tmp Y) .nil) (.cons Y (ro1 (by exact tZ_91.symm)<|rlc (.dat Y)<|rlc (.dat Y)<|rlc (.dat Y)<|rlc (.dat Y)<|rlc (.own _ Y)<|rlc (.own _ Y)<|rlc (.own _ Y) rln)<|.dead<|.dead<|.dead<|.cons Y (roM D99)<|.cons Y (roM D44)<|.cons Y (roM D120) .nil) Y Y<|Jw<|rlc (.dat Y)<|rlc (.dat Y) rln
theorem ZZ{s:api_PanelState}{r:api_PanelState}(h:Z2 s=some r):
 CSpec Tryz.prog gl0 42 [.agg [.int .i64 s.Frame,.sl 99 (List.map R99 s.Memos)]] (.agg [.int .i64 r.Frame,.sl 99 (List.map R99 r.Memos)]):=by
 unfold Z2 at h
 replace h:=ZM h
 refine So Tryz.func42 Y fun w0 A=>Tr<|Rx Y (ZhM 0 Y (ov Y) X8 Y)<|Rx Y (ZO (row:= [_,_]) 1 Y ZeS Y tZ_44)<|Za<|K2 1 2 Y<|Tr<|Rq Y (Zc (ov Y) Y Y X0)<|Rq Y (Zm (ov Y) Y Y Y Zcf Y)<|bE h fun y h_y h=>Rx Y (ZS [] (Zdq h_y) (.cons (ov Y) (.dat Y) .nil) .nil Y (.keep Y Y<|.keep Y Y<|.lent 0 (.inr ⟨Nat.le_of_ble_eq_true Y,Y⟩) Y (roM D99) .nil) Y Y<|.own _<|.inr ⟨Nat.le_of_ble_eq_true Y,Y⟩)<|Rq Y (Zc (ov Y) Y Y X0)<|Rx Y (Zj (ov Y) (ov Y) (Zn Zcf) Y Y Y (Nat.le_of_ble_eq_true Y) (Zd Y) Y)<|Za<|I1 (fun Memos=>⟨[(1,.ptr 0 1 0 0),(2,.ptr 2 1 0 0)],[some ⟨44,[[.int .i64 s.Frame,.own 1 Memos.length]]⟩,some ⟨99,List.map R99 Memos⟩,some ⟨44,[[.int .i64 0,.nils]]⟩]⟩) h (fun h=>?_) fun Memos h=>?_
 ·
  refine K2 1 2 Y<|Tr<|Rq Y (Zc (ov Y) Y Y X0)<|Rq Y (Zm (ov Y) Y Y Y Zcf Y)<|Rq Y (Zcl (ov Y) Y Y ZbX)<|Rm Y<|Za<|Zk<|?_
  obtain⟨r1,hl1,ho1⟩:=XB h
  refine L2 (fun Memos2 i=>⟨[(1,.ptr 0 1 0 0),(2,.ptr 2 1 0 0),(10,.int .i64 (y.length:Int)),(11,.int .i64 i)],[some ⟨44,[[.int .i64 s.Frame,.own 1 Memos2.length]]⟩,some ⟨99,List.map R99 Memos2⟩,some ⟨44,[[.int .i64 0,.nils]]⟩]⟩) hl1 (ES [some 0,some 2,some 1]) fun n1 Memos2 i h=>?_
  unfold Qi at h
  refine Tr<|R2 ZU Y<|Za<|Zl<|If h Y (fun h=>?_) fun h=>?_
  ·
   exact Zf<|Zl<|Zk<|K4 1 2 10 11 Y<|Tr<|Rm Y<|Ra Y<|Za<|K5 1 2 3 10 11 Y<|Zbh (cw:=md0) (by kernel_rfl)<|Dq 0 Y (Zc (ov Y) Y Y X0)<|Dq 1 Y (Zm (ov Y) Y Y Y Zcf Y)<|D1 2 Ze Y<|Dq 3 Y (Zc (ov Y) Y Y X0)<|Dq 4 Y (Zm (ov Y) Y Y Y Zcf Y)<|D1 5 Ze Y<|bE h fun x h_x h=>Dq 6 Y (Zbu (ov Y) (ov Y) ZbX Y Y h_x)<|Dq 7 Y (XX (ov Y) Y Y Zbf)<|Dq 8 Y (Zcs (ov Y) Y Y h_x Zfg Y)<|bE h fun y2 h_y2 h=>Dq 9 Y (Zo (ZfO h_y2)<|.cons (ov Y) (.b Y) .nil)<|bE h fun x2 h_x2 h=>Dq 10 Y (Zbu (ov Y) (ov Y) ZbX Y Y h_x2)<|Dq 11 Y (XX (ov Y) Y Y Zbf)<|Do 12 Y (ZbP (u':=(api_Memo.mk x2.Lit x2.Some x2.N x2.Count y2)) (ov Y) (ov Y) (Zn Zfg) Y Y h_x2 Y (Zd Y) Y)<|Dd<|K4 1 2 10 11 Y<|ZE<|R2 Q4 Y<|Rm Y<|Za<|⟨_,h,ES [some 0,some 1,some 2] (hhp:= .cons Y (ro1 (by exact tZ_44.symm)<|rlc (.dat Y)<|rlc (Zi8 (Eq.symm<|(List.length_set ..).trans Y) Y) rln)<|.cons Y (roM D99)<|.cons Y (ro1 (by exact tZ_44.symm)<|rld Y) .nil)⟩
  ·
   refine ZL<|?_
   replace h:=lx h▸ho1
   exact⟨_,h,ES [some 0,some 1,some 2]⟩
 ·
  refine Tr<|Rq Y (ZY (ov Y) Y Y Y X8 Y Y)<|Rx Y (Zj (ov Y) (ov Y) (Zv X8 Y) Y Y Y (Nat.le_of_ble_eq_true Y) (Zd Y) Y)<|Za<|?_
  obtain rfl:=rt h
  exact Zi (Zu Y (.one<|.agg Y Y Y Y X8 Y Y<|.cons (Dat.view<|.b Y)<|.cons (View.ownM Y Y D99) .nil))
set_option maxHeartbeats 4000000 in
set_option maxRecDepth 100000 in
open Go.Shelf Go.RowKit Go.Lib Go.Proofs in
theorem Zfx(vb voff vc:Nat)(v':Value)(w w':World)
 (hrun:(Builtin.append_ #[88,88] 88 #[.slice none 0 0,.slice (some ⟨vb,voff,none⟩) 1 vc]).run Tryz.prog w= .ok v' w'):
 Calls Tryz.prog 87 #[.slice none 0 0,.int .i64 (0:Nat),.slice (some ⟨vb,voff,none⟩) 1 vc] w fun e W=>e= .returned v'∧W=w':=by
 go_enter Tryz.func87,Tryz.ntmps87
 go_wp2_with (at_builtin;refine Lib.wpList_append_run _ rfl _ _ _ _ rfl _ _ rfl rfl _ _ hrun ?_)
 go_ret
 exact⟨Y,Y⟩
set_option maxHeartbeats 4000000 in
set_option maxRecDepth 100000 in
open Go.Shelf Go.RowKit Go.Lib Go.Proofs in
theorem Zgu(b n c vb voff vc:Nat)(v':Value)(w w':World)(hn:n≤c)(hc63:c≤9223372036854775807)
 (hrun:(Builtin.append_ #[88,88] 88 #[.slice (some ⟨b,0,none⟩) n c,.slice (some ⟨vb,voff,none⟩) 1 vc]).run Tryz.prog w= .ok v' w'):
 Calls Tryz.prog 87 #[.slice (some ⟨b,0,none⟩) n c,.int .i64 n,.slice (some ⟨vb,voff,none⟩) 1 vc] w fun e W=>e= .returned v'∧W=w':=by
 go_enter Tryz.func87,Tryz.ntmps87
 go_wp2_with (at_builtin;refine Lib.wpList_append_run _ rfl _ _ _ _ rfl _ _ rfl rfl _ _ hrun ?_)
 all_goals (go_ret;exact⟨rfl,rfl⟩)
set_option maxHeartbeats 4000000 in
set_option maxRecDepth 100000 in
open Go.Shelf Go.RowKit Go.Lib Go.Proofs in
theorem ZfE(b n c i vb voff vc:Nat)(w w1 w2:World)(hi:i<n)(hroom:n+1≤c)(hc63:c≤9223372036854775807)
 (hov: ∀ lb cb,(callFunc 118 #[.slice (some ⟨vb,voff,none⟩) 1 vc,.slice (some ⟨b,(i+1)*2,none⟩) lb cb]).run Tryz.prog w= .ok (.value (.bool false)) w)
 (hcp1: ∀ ty dc sc,(Builtin.copy_ #[88,88] ty #[.slice (some ⟨b,(i+1)*2,none⟩) (n-i) dc,.slice (some ⟨b,i*2,none⟩) (n+1-i) sc]).run Tryz.prog w.drew= .ok (goInt (n-i:Nat)) w1)
 (hcp2: ∀ ty dc,(Builtin.copy_ #[88,88] ty #[.slice (some ⟨b,i*2,none⟩) (n+1-i) dc,.slice (some ⟨vb,voff,none⟩) 1 vc]).run Tryz.prog w1= .ok (goInt 1) w2):
 Calls Tryz.prog 87 #[.slice (some ⟨b,0,none⟩) n c,.int .i64 i,.slice (some ⟨vb,voff,none⟩) 1 vc] w fun e w'=>
   e= .returned (.slice (some ⟨b,0,none⟩) (n+1) c)∧w'=w2:=by
 have mixed:Tryz.prog.follows .mixedOrders=true:=by kernel_rfl
 have hz2: ¬((i:Int)=(n:Int)):=by omega
 have hw1:IntKind.i64.wrap ((i:Int)+(1:Int))=(i:Int)+(1:Int):=by rw [IntKind.wrap_i64];omega
 have hb1:(0:Int)≤(i:Int)+(1:Int):=by omega
 have hin:i≤n:=by omega
 have htn:((i:Int)+(1:Int)).toNat=i+1:=by omega
 have hb2: ¬(c=i+1):=by omega
 have hb3:(i:Int)≤(n:Int)+(1:Int):=by omega
 have hb4: ¬(c=i):=by omega
 have hr: ¬((n:Int)+1>(c:Int)):=by omega
 go_enter Tryz.func87,Tryz.ntmps87
 go_wp2_with (simp only [hov])
 go_region_law_o (refine step_copy_runI rfl _ _ 88 88 rfl _ _ (by simp [Act.eval,Act.put]) (by simp [Act.eval,Act.put]) (hcp1 _ _ _) ?_)
 go_wp2_with (at_builtin;refine wpList_copy_runI _ rfl _ _ 88 88 rfl _ _ rfl rfl (hcp2 _ _) ?_)
 go_ret
 exact⟨Y,Y⟩
set_option maxHeartbeats 4000000 in
set_option maxRecDepth 100000 in
open Go.Shelf Go.RowKit Go.Lib Go.Proofs in
theorem ZfD(b n c i vb voff vc g c':Nat)(w w1 w2 w3:World)(hi:i<n)(hn:n≤c)(hroom:c<n+1)(hc63:c≤9223372036854775806)(hc1:n+1≤c')(hc2:c'≤9223372036854775807)
 (hap: ∀ ty,(Builtin.append_ #[88,3] ty #[.slice (some ⟨b,0,none⟩) i c,.int .i64 ((n+1-i:Nat):Int)]).run Tryz.prog w= .ok (.slice (some ⟨g,0,none⟩) (n+1) c') w1)
 (hcp1: ∀ ty dc,(Builtin.copy_ #[88,88] ty #[.slice (some ⟨g,i*2,none⟩) (n+1-i) dc,.slice (some ⟨vb,voff,none⟩) 1 vc]).run Tryz.prog w1= .ok (goInt 1) w2)
 (hcp2: ∀ ty dc sc,(Builtin.copy_ #[88,88] ty #[.slice (some ⟨g,(i+1)*2,none⟩) (n-i) dc,.slice (some ⟨b,i*2,none⟩) (n-i) sc]).run Tryz.prog w2.drew= .ok (goInt (n-i:Nat)) w3):
 Calls Tryz.prog 87 #[.slice (some ⟨b,0,none⟩) n c,.int .i64 i,.slice (some ⟨vb,voff,none⟩) 1 vc] w fun e W=>e= .returned (.slice (some ⟨g,0,none⟩) (n+1) c')∧W=w3:=by
 have mixed:Tryz.prog.follows .mixedOrders=true:=by kernel_rfl
 obtain rfl:c=n:=by omega
 have hz2: ¬((i:Int)=(c:Int)):=by omega
 have hsub:IntKind.i64.wrap ((c:Int)+1-(i:Int))=((c+1-i:Nat):Int):=by rw [IntKind.wrap_i64];omega
 have hw1:IntKind.i64.wrap ((i:Int)+(1:Int))=(i:Int)+(1:Int):=by rw [IntKind.wrap_i64];omega
 have hb1:(0:Int)≤(i:Int)+(1:Int):=by omega
 have hin:i≤c:=by omega
 have htn:((i:Int)+(1:Int)).toNat=i+1:=by omega
 have hb2: ¬(c'=i+1):=by omega
 have hb3:(i:Int)≤(c:Int)+(1:Int):=by omega
 have hb4: ¬(c=i):=by omega
 have hb5: ¬(c'=i):=by omega
 go_enter Tryz.func87,Tryz.ntmps87
 go_wp2_with (at_builtin;refine Lib.wpList_append_run _ rfl _ _ _ _ rfl _ _ rfl rfl _ _ (hap _) ?_)
 go_wp2_with (at_builtin;refine wpList_copy_runI _ rfl _ _ 88 88 rfl _ _ rfl rfl (hcp1 _ _) ?_)
 go_region_law_o (refine step_copy_runI rfl _ _ 88 88 rfl _ _ (by simp [Act.eval,Act.put]) (by simp [Act.eval,Act.put]) (hcp2 _ _ _) ?_)
 go_wp2
 go_ret
 exact⟨Y,Y⟩
theorem Qj:InsK Tryz.prog 87 118 88 3 2:=⟨Zfx,Zgu,ZfE,ZfD⟩
open Go.Shelf Go.RowKit Go.Lib Go.Proofs in
theorem Ql:OvK Tryz.prog 118:=fun w a b la ca lb cb hne tA tB kA kB h1 h2 h3 h4 h5=>by
  rw [run_callFunc_extern Tryz.func118 (by kernel_rfl) (by kernel_rfl) (by kernel_rfl) (e:=Extern.SlicesOverlaps.overlaps #[88,88] #[4]) (by kernel_rfl),Lib.run_overlaps_apart w 88 4 44 (by kernel_rfl) 2 (fun w=>by kernel_rfl) a b la ca lb cb hne tA tB kA kB h1 h2 h3 h4 h5]
  rfl
theorem Zam{r_:panel_Replay}{n:Int}{r:panel_Replay}(h:panel_Replay_advance r_ n=some r):
 GSpec Tryz.prog gl0 44 [.ptr 0 1 0 0,.int .i64 n] [some ⟨91,[[.sl 49 (List.map R49 r_.p.Instruments),.sl 54 (List.map R54 r_.l),.int .i64 r_.keep,.int .i64 r_.state.Frame,.own 1 r_.state.Memos.length,.own 2 r_.kept.length,.own 3 r_.marks.length]]⟩,some ⟨99,List.map R99 r_.state.Memos⟩,some ⟨44,List.map R44 r_.kept⟩,some ⟨120,List.map R120 r_.marks⟩] (.tuple []) [some ⟨91,[[.sl 49 (List.map R49 r.p.Instruments),.sl 54 (List.map R54 r.l),.int .i64 r.keep,.int .i64 r.state.Frame,.sl 99 (List.map R99 r.state.Memos),.own 4 r.kept.length,.own 5 r.marks.length]]⟩,none,none,none,some ⟨44,List.map R44 r.kept⟩,some ⟨120,List.map R120 r.marks⟩]:=by
 unfold panel_Replay_advance at h
 replace h:=ZM h
 refine Qs (by kernel_rfl) Tryz.func44 Y Y<|?_
 intro w0 A W φ0
 refine Za5 (Ent.sel [some 0,some 1,some 2,some 3,some 1,some 2,some 3] (sr 0 Y (.ptr (r':=0) _ _ _ Y)<|sd 1 Y Y sn) (.cons Y (ro1 (by exact tZ_91.symm)<|rlc (.dat Y)<|rlc (.dat Y)<|rlc (.dat Y)<|rlc (.dat Y)<|rlc (.own (r':=4) _ Y)<|rlc (.own (r':=5) _ Y)<|rlc (.own (r':=6) _ Y) rln)<|.dead<|.dead<|.dead<|.cons Y (roM D99)<|.cons Y (roM D44)<|.cons Y (roM D120) .nil) Y Y)<|Tr<|Rm Y<|Rm Y<|Za<|Zk<|?_
 obtain⟨r1,hl1,ho1⟩:=XB h
 refine L3 (fun state kept i=>⟨[(0,.ptr 0 1 0 0),(6,.int .i64 n),(7,.int .i64 i)],[some ⟨91,[[.sl 49 (List.map R49 r_.p.Instruments),.sl 54 (List.map R54 r_.l),.int .i64 r_.keep,.int .i64 state.Frame,.sl 99 (List.map R99 state.Memos),.own 4 kept.length,.own 5 r_.marks.length]]⟩,none,none,none,some ⟨44,List.map R44 kept⟩,some ⟨120,List.map R120 r_.marks⟩]⟩) hl1 (ES [some 0,some 1,some 2,some 3,some 5,some 6] (hhp:= .cons Y (ro1 (by exact tZ_91.symm)<|rlc (.dat Y)<|rlc (.dat Y)<|rlc (.dat Y)<|rlc (.dat Y)<|rlc (Ze4 Y Y Y D99)<|rlc (.own _ Y)<|rlc (.own _ Y) rln)<|.dead<|.dead<|.dead<|.cons Y (roM D44)<|.cons Y (roM D120) .nil)) fun n1 state kept i h=>?_
 unfold Z7 at h
 refine Tr<|R2 ZU Y<|Za<|Zl<|If h Y (fun h=>?_) fun h=>?_
 ·
  refine Zf<|I3 (fun Frame2 Memos2 kept2=>⟨[(0,.ptr 0 1 0 0),(6,.int .i64 n),(7,.int .i64 i)],[some ⟨91,[[.sl 49 (List.map R49 r_.p.Instruments),.sl 54 (List.map R54 r_.l),.int .i64 r_.keep,.int .i64 Frame2,.sl 99 (List.map R99 Memos2),.own 4 kept2.length,.own 5 r_.marks.length]]⟩,none,none,none,some ⟨44,List.map R44 kept2⟩,some ⟨120,List.map R120 r_.marks⟩]⟩) h (fun h=>?_) fun Frame2 Memos2 kept2 h=>?_
  ·
   refine Zk<|K3 0 6 7 Y<|Td ⟨true,false,[],[],[]⟩<|D1 1 Ze Y<|Dq 2 Y (Zh (ov Y) Y Y)<|Dq 3 Y (Zc (ov Y) Y Y Zgv)<|Dq 4 Y (ZY (ov Y) Y Y Y Zdg Y Y)<|D1 5 Ze Y<|Dq 6 Y (Zh (ov Y) Y Y)<|Dq 7 Y (Zc (ov Y) Y Y Zhr)<|Dq 8 Y (Zm (ov Y) Y Y Y Zi5 Y)<|D1 9 Ze Y<|Dq 10 Y (Zh (ov Y) Y Y)<|Dq 11 Y (Zc (ov Y) Y Y Jt)<|Dq 12 Y (ZY (ov Y) Y Y Y X8 Y Y)<|JZ 0 _ Y (by kernel_rfl) Y Y (fun hp'=>Ze<|ov Y)<|bE h fun y h_y h=>Do 13 Y (ZS [] (Zba h_y) (.cons (ov Y) (ZaH<|rld Y)<|.cons (ov Y) (.dat Y)<|.cons (ov Y) (ZaH<|rld Y) .nil) .nil Y (.keep Y Y<|.none<|.none<|.none<|.keep Y Y<|.keep Y Y<|.lent 0 (.inr ⟨Nat.le_of_ble_eq_true Y,Y⟩) Y (roM D99) .nil) Y Y<|ZaH<|rlc (.dat Y)<|rlc (.own _<|.inr ⟨Nat.le_of_ble_eq_true Y,Y⟩) rln)<|Dq 14 Y (Zh (ov Y) Y Y)<|Dq 15 Y (Zc (ov Y) Y Y Jt)<|Do 16 Y (Zj (ov Y) (ov Y) (Zv X8 Y) Y Y Y (Nat.le_of_ble_eq_true Y) (Zd Y) Y)<|Dd<|Zl<|K3 0 6 7 Y<|Td md0<|D1 0 Ze Y<|Dq 1 Y (Zh (ov Y) Y Y)<|Dq 2 Y (Zc (ov Y) Y Y Jt)<|Dq 3 Y (Zc (ov Y) Y Y X6)<|Dq 4 Y (Zm (ov Y) Y Y Y tS3 Y)<|D1 5 Ze Y<|Dq 6 Y (Zh (ov Y) Y Y)<|Dq 7 Y (Zc (ov Y) Y Y Zgo)<|Dq 8 Y (Zm (ov Y) Y Y Y tS3 Y)<|bE h fun q h_q h=>Dq 9 Y (ZeK (ov Y) (ov Y) h_q)<|D1 10 Ze Y<|Dq 11 Y (Zh (ov Y) Y Y)<|Dq 12 Y (Zc (ov Y) Y Y Zgo)<|Dq 13 Y (Zm (ov Y) Y Y Y tS3 Y)<|D2 14 Zbk Y<|D2 15 Qw Y<|Dd<|K4 0 6 7 40 Y<|If h Y (fun h=>?_) fun h=>?_
   ·
    exact ZL<|⟨_,h,ES [some 0,some 1,some 2,some 3,some 4,some 5] (hhp:= .cons Y (ro1 (by exact tZ_91.symm)<|rlc (.dat Y)<|rlc (.dat Y)<|rlc (.dat Y)<|rlc (.dat Y)<|rlc (Ze4 Y Y Y D99)<|rlc (.own _ Y)<|rlc (.own _ Y) rln)<|.dead<|.dead<|.dead<|.cons Y (roM D44)<|.cons Y (roM D120) .nil)⟩
   ·
    refine Zf<|K3 0 6 7 Y<|Tr<|Rm Y<|Rm Y<|Rq Y (Zh (ov Y) Y Y)<|Rq Y (Zc (ov Y) Y Y Jt)<|Rq Y (Zc (ov Y) Y Y X6)<|Rq Y (Zm (ov Y) Y Y Y tS3 Y)<|bE h fun y2 h_y2 h=>Rx Y (ZS [0,6,4,5] (XH h_y2) (.cons (ov Y) (.ptr _ _ _ Y)<|.cons (ov Y) (.dat Y) .nil) (.cons Y (ro1 (by exact tZ_91.symm)<|rlc (.dat Y)<|rlc (.dat Y)<|rlc (.dat Y)<|rlc (.dat Y)<|rlc (.own _ Y)<|rlc (.own _ Y)<|rlc (.own _ Y) rln)<|.cons Y (roM D99)<|.cons Y (roM D44)<|.cons Y (roM D120) .nil) Y (.lent 0 (.inl Y) Y (ro1 (by exact tZ_91.symm)<|rlc (.dat Y)<|rlc (.dat Y)<|rlc (.dat Y)<|rlc (.dat Y)<|rlc (.own _<|.inr ⟨Nat.le_of_ble_eq_true Y,Y⟩)<|rlc (.own _<|.inr ⟨Nat.le_of_ble_eq_true Y,Y⟩)<|rlc (.own _<|.inr ⟨Nat.le_of_ble_eq_true Y,Y⟩) rln)<|.none<|.none<|.none<|.none<|.none<|.none<|.lent 4 (.inr ⟨Nat.le_of_ble_eq_true Y,Y⟩) Y (roM D99)<|.lent 5 (.inr ⟨Nat.le_of_ble_eq_true Y,Y⟩) Y (roM D44)<|.lent 6 (.inr ⟨Nat.le_of_ble_eq_true Y,Y⟩) Y (roM D120) .nil) Y Y<|Jw<|rld Y)<|Rm Y<|Rq Y (Zr (ov Y) Y)<|Rq Y (Zr (ov Y) Y)<|Ra Y<|Ra Y<|Za<|K5 0 4 5 6 7 Y<|Tr<|Rm Y<|R1 Qz Y<|Za<|K5 0 4 6 7 52 Y<|If h Y (fun h=>?_) fun h=>?_
    ·
     refine K4 0 4 6 7 Y<|Za5 (Ent.sel [some 0,some 1,some 2,some 3,some 4,some 5,some 6,none,some 8,some 9] (sr 0 Y (.ptr (r':=0) _ _ _ Y)<|sd 4 Y Y<|sd 6 Y Y<|sd 7 Y Y sn) (.cons Y (ro1 (by exact tZ_91.symm)<|rlc (.dat Y)<|rlc (.dat Y)<|rlc (.dat Y)<|rlc (.dat Y)<|rlc (Ze4 Y Y Y D99)<|rlc (.own (r':=8) _ Y)<|rlc (.own (r':=9) _ Y) rln)<|.dead<|.dead<|.dead<|.dead<|.dead<|.dead<|.row 99<|.cons Y (roM D44)<|.cons Y (roM D120) .nil) Y Y)<|Zbh (cw:=⟨true,false,[],[],[]⟩) (by kernel_rfl)<|D1 6 Ze Y<|Dq 7 Y (Zh (ov Y) Y Y)<|Dq 8 Y (Zc (ov Y) Y Y Jt)<|Dq 9 Y (ZY (ov Y) Y Y Y X8 Y Y)<|JZ 0 _ Y (by kernel_rfl) Y Y (fun hp'=>Ze<|ov Y)<|JZ 1 _ Y (by kernel_rfl) Y Y (fun hp'=>Ze<|ov Y)<|JZ 5 _ Y (by kernel_rfl) Y Y (fun hp'=>Ze<|ov Y)<|bE h fun y3 h_y3 h=>Dw 2 10 Y (Zh (ov Y) Y Y) (ZcG<|Zo (ZZ h_y3)<|.cons (ov Y) (.aggB Y) .nil) ?_ ?_
     ·
      refine Dw 3 10 Y (Zc (ov Y) Y Y Z9) (ZcG<|Zo (ZZ h_y3)<|.cons (ov Y) (.aggB Y) .nil) ?_ ?_
      ·
       refine Dw 4 10 Y (Zm (ov Y) Y Y Y Xt Y) (ZcG<|Zo (ZZ h_y3)<|.cons (ov Y) (.aggB Y) .nil) ?_ ?_
       ·
        exact Do 10 Y (ZcG<|Zo (ZZ h_y3)<|.cons (ov Y) (.aggB Y) .nil)<|Do 11 Y (QA (r:=10) (xs:=([y3]:List api_PanelState)) (f:=R44) Y Xo (.cons (cva<|ov Y) Y (pwD Y) .nil) Y Y Y)<|bE h fun l h_l h=>Do 12 Y (Xy (f:=R44) Qj Ql (by kernel_rfl) Y (ov Y) (ov Y) (ov Y) Xo Y Y Y Y Y D44 (fun _=>Y) Y h_l)<|Dq 13 Y (Zh (ov Y) Y Y)<|Dq 14 Y (Zc (ov Y) Y Y Z9)<|Do 15 Y (Zj (ov Y) (ov Y) (Zn Xt) Y Y Y (Nat.le_of_ble_eq_true Y) (Zd Y) Y)<|Dd<|⟨_,h,ES [some 0,some 1,some 2,some 3,some 8,some 9]⟩
       ·
        refine Dw 4 11 Y (Zm (ov Y) Y Y Y Xt Y) (QA (r:=10) (xs:=([y3]:List api_PanelState)) (f:=R44) Y Xo (.cons (cva<|ov Y) Y (pwD Y) .nil) Y Y Y) ?_ ?_
        ·
         exact Do 11 Y (QA (r:=10) (xs:=([y3]:List api_PanelState)) (f:=R44) Y Xo (.cons (cva<|ov Y) Y (pwD Y) .nil) Y Y Y)<|bE h fun l h_l h=>Do 12 Y (Xy (f:=R44) Qj Ql (by kernel_rfl) Y (ov Y) (ov Y) (ov Y) Xo Y Y Y Y Y D44 (fun _=>Y) Y h_l)<|Dq 13 Y (Zh (ov Y) Y Y)<|Dq 14 Y (Zc (ov Y) Y Y Z9)<|Do 15 Y (Zj (ov Y) (ov Y) (Zn Xt) Y Y Y (Nat.le_of_ble_eq_true Y) (Zd Y) Y)<|Dd<|⟨_,h,ES [some 0,some 1,some 2,some 3,some 8,some 9]⟩
        ·
         exact Dq 4 Y (Zm (ov Y) Y Y Y Xt Y)<|bE h fun l h_l h=>Do 12 Y (Xy (f:=R44) Qj Ql (by kernel_rfl) Y (ov Y) (ov Y) (ov Y) Xo Y Y Y Y Y D44 (fun _=>Y) Y h_l)<|Dq 13 Y (Zh (ov Y) Y Y)<|Dq 14 Y (Zc (ov Y) Y Y Z9)<|Do 15 Y (Zj (ov Y) (ov Y) (Zn Xt) Y Y Y (Nat.le_of_ble_eq_true Y) (Zd Y) Y)<|Dd<|⟨_,h,ES [some 0,some 1,some 2,some 3,some 8,some 9]⟩
      ·
       refine Dw 3 11 Y (Zc (ov Y) Y Y Z9) (QA (r:=10) (xs:=([y3]:List api_PanelState)) (f:=R44) Y Xo (.cons (cva<|ov Y) Y (pwD Y) .nil) Y Y Y) ?_ ?_
       ·
        refine Dw 4 11 Y (Zm (ov Y) Y Y Y Xt Y) (QA (r:=10) (xs:=([y3]:List api_PanelState)) (f:=R44) Y Xo (.cons (cva<|ov Y) Y (pwD Y) .nil) Y Y Y) ?_ ?_
        ·
         exact Do 11 Y (QA (r:=10) (xs:=([y3]:List api_PanelState)) (f:=R44) Y Xo (.cons (cva<|ov Y) Y (pwD Y) .nil) Y Y Y)<|bE h fun l h_l h=>Do 12 Y (Xy (f:=R44) Qj Ql (by kernel_rfl) Y (ov Y) (ov Y) (ov Y) Xo Y Y Y Y Y D44 (fun _=>Y) Y h_l)<|Dq 13 Y (Zh (ov Y) Y Y)<|Dq 14 Y (Zc (ov Y) Y Y Z9)<|Do 15 Y (Zj (ov Y) (ov Y) (Zn Xt) Y Y Y (Nat.le_of_ble_eq_true Y) (Zd Y) Y)<|Dd<|⟨_,h,ES [some 0,some 1,some 2,some 3,some 8,some 9]⟩
        ·
         exact Dq 4 Y (Zm (ov Y) Y Y Y Xt Y)<|bE h fun l h_l h=>Do 12 Y (Xy (f:=R44) Qj Ql (by kernel_rfl) Y (ov Y) (ov Y) (ov Y) Xo Y Y Y Y Y D44 (fun _=>Y) Y h_l)<|Dq 13 Y (Zh (ov Y) Y Y)<|Dq 14 Y (Zc (ov Y) Y Y Z9)<|Do 15 Y (Zj (ov Y) (ov Y) (Zn Xt) Y Y Y (Nat.le_of_ble_eq_true Y) (Zd Y) Y)<|Dd<|⟨_,h,ES [some 0,some 1,some 2,some 3,some 8,some 9]⟩
       ·
        exact Dq 3 Y (Zc (ov Y) Y Y Z9)<|Dq 4 Y (Zm (ov Y) Y Y Y Xt Y)<|bE h fun l h_l h=>Do 12 Y (Xy (f:=R44) Qj Ql (by kernel_rfl) Y (ov Y) (ov Y) (ov Y) Xo Y Y Y Y Y D44 (fun _=>Y) Y h_l)<|Dq 13 Y (Zh (ov Y) Y Y)<|Dq 14 Y (Zc (ov Y) Y Y Z9)<|Do 15 Y (Zj (ov Y) (ov Y) (Zn Xt) Y Y Y (Nat.le_of_ble_eq_true Y) (Zd Y) Y)<|Dd<|⟨_,h,ES [some 0,some 1,some 2,some 3,some 8,some 9]⟩
     ·
      refine Dw 2 11 Y (Zh (ov Y) Y Y) (QA (r:=10) (xs:=([y3]:List api_PanelState)) (f:=R44) Y Xo (.cons (cva<|ov Y) Y (pwD Y) .nil) Y Y Y) ?_ ?_
      ·
       refine Dw 3 11 Y (Zc (ov Y) Y Y Z9) (QA (r:=10) (xs:=([y3]:List api_PanelState)) (f:=R44) Y Xo (.cons (cva<|ov Y) Y (pwD Y) .nil) Y Y Y) ?_ ?_
       ·
        refine Dw 4 11 Y (Zm (ov Y) Y Y Y Xt Y) (QA (r:=10) (xs:=([y3]:List api_PanelState)) (f:=R44) Y Xo (.cons (cva<|ov Y) Y (pwD Y) .nil) Y Y Y) ?_ ?_
        ·
         exact Do 11 Y (QA (r:=10) (xs:=([y3]:List api_PanelState)) (f:=R44) Y Xo (.cons (cva<|ov Y) Y (pwD Y) .nil) Y Y Y)<|bE h fun l h_l h=>Do 12 Y (Xy (f:=R44) Qj Ql (by kernel_rfl) Y (ov Y) (ov Y) (ov Y) Xo Y Y Y Y Y D44 (fun _=>Y) Y h_l)<|Dq 13 Y (Zh (ov Y) Y Y)<|Dq 14 Y (Zc (ov Y) Y Y Z9)<|Do 15 Y (Zj (ov Y) (ov Y) (Zn Xt) Y Y Y (Nat.le_of_ble_eq_true Y) (Zd Y) Y)<|Dd<|⟨_,h,ES [some 0,some 1,some 2,some 3,some 8,some 9]⟩
        ·
         exact Dq 4 Y (Zm (ov Y) Y Y Y Xt Y)<|bE h fun l h_l h=>Do 12 Y (Xy (f:=R44) Qj Ql (by kernel_rfl) Y (ov Y) (ov Y) (ov Y) Xo Y Y Y Y Y D44 (fun _=>Y) Y h_l)<|Dq 13 Y (Zh (ov Y) Y Y)<|Dq 14 Y (Zc (ov Y) Y Y Z9)<|Do 15 Y (Zj (ov Y) (ov Y) (Zn Xt) Y Y Y (Nat.le_of_ble_eq_true Y) (Zd Y) Y)<|Dd<|⟨_,h,ES [some 0,some 1,some 2,some 3,some 8,some 9]⟩
       ·
        exact Dq 3 Y (Zc (ov Y) Y Y Z9)<|Dq 4 Y (Zm (ov Y) Y Y Y Xt Y)<|bE h fun l h_l h=>Do 12 Y (Xy (f:=R44) Qj Ql (by kernel_rfl) Y (ov Y) (ov Y) (ov Y) Xo Y Y Y Y Y D44 (fun _=>Y) Y h_l)<|Dq 13 Y (Zh (ov Y) Y Y)<|Dq 14 Y (Zc (ov Y) Y Y Z9)<|Do 15 Y (Zj (ov Y) (ov Y) (Zn Xt) Y Y Y (Nat.le_of_ble_eq_true Y) (Zd Y) Y)<|Dd<|⟨_,h,ES [some 0,some 1,some 2,some 3,some 8,some 9]⟩
      ·
       exact Dq 2 Y (Zh (ov Y) Y Y)<|Dq 3 Y (Zc (ov Y) Y Y Z9)<|Dq 4 Y (Zm (ov Y) Y Y Y Xt Y)<|bE h fun l h_l h=>Do 12 Y (Xy (f:=R44) Qj Ql (by kernel_rfl) Y (ov Y) (ov Y) (ov Y) Xo Y Y Y Y Y D44 (fun _=>Y) Y h_l)<|Dq 13 Y (Zh (ov Y) Y Y)<|Dq 14 Y (Zc (ov Y) Y Y Z9)<|Do 15 Y (Zj (ov Y) (ov Y) (Zn Xt) Y Y Y (Nat.le_of_ble_eq_true Y) (Zd Y) Y)<|Dd<|⟨_,h,ES [some 0,some 1,some 2,some 3,some 8,some 9]⟩
    ·
     exact Zf<|⟨_,h,ES [some 0,some 1,some 2,some 3,some 8,some 9] (hhp:= .cons Y (ro1 (by exact tZ_91.symm)<|rlc (.dat Y)<|rlc (.dat Y)<|rlc (.dat Y)<|rlc (.dat Y)<|rlc (Ze4 Y Y Y D99)<|rlc (.own _ Y)<|rlc (.own _ Y) rln)<|.dead<|.dead<|.dead<|.cons Y (roM D44)<|.cons Y (roM D120) .nil)⟩
  ·
   exact ZE<|R2 Q4 Y<|Rm Y<|Za<|⟨_,h,ES [some 0,some 1,some 2,some 3,some 4,some 5]⟩
 ·
  refine ZL<|?_
  replace h:=lx h▸ho1
  obtain rfl:=rt h
  exact ZfT [some 0,some 1,some 2,some 3,some 4,some 5] Y .nil (.cons Y (ro1 (by exact tZ_91.symm)<|rlc (.dat Y)<|rlc (.dat Y)<|rlc (.dat Y)<|rlc (.dat Y)<|rlc (.dat Y)<|rlc (.own _ Y)<|rlc (.own _ Y) rln)<|.dead<|.dead<|.dead<|.cons Y (roM D44)<|.cons Y (roM D120) .nil) Y Y<|Jw rln
theorem Qd{r_:panel_Replay}{frame:Int}{r:Int×Int×panel_Replay}(h:ZK r_ frame=some r):
 GSpec Tryz.prog gl0 9 [.ptr 0 1 0 0,.int .i64 frame] [some ⟨91,[[.sl 49 (List.map R49 r_.p.Instruments),.sl 54 (List.map R54 r_.l),.int .i64 r_.keep,.int .i64 r_.state.Frame,.sl 99 (List.map R99 r_.state.Memos),.own 1 r_.kept.length,.own 2 r_.marks.length]]⟩,some ⟨44,List.map R44 r_.kept⟩,some ⟨120,List.map R120 r_.marks⟩] (.tuple [.int .i64 r.1,.int .i64 r.2.1]) [some ⟨91,[[.sl 49 (List.map R49 r.2.2.p.Instruments),.sl 54 (List.map R54 r.2.2.l),.int .i64 r.2.2.keep,.int .i64 r.2.2.state.Frame,.sl 99 (List.map R99 r.2.2.state.Memos),.own 3 r.2.2.kept.length,.own 4 r.2.2.marks.length]]⟩,none,none,some ⟨44,List.map R44 r.2.2.kept⟩,some ⟨120,List.map R120 r.2.2.marks⟩]:=by
 unfold ZK at h
 replace h:=ZM h
 refine Qs (by kernel_rfl) Tryz.func9 Y Y<|?_
 intro w0 A W φ0
 refine Za5 (Ent.sel [some 0,some 1,some 2,some 1,some 2] (sr 0 Y (.ptr (r':=0) _ _ _ Y)<|sd 1 Y Y sn) (.cons Y (ro1 (by exact tZ_91.symm)<|rlc (.dat Y)<|rlc (.dat Y)<|rlc (.dat Y)<|rlc (.dat Y)<|rlc (.dat Y)<|rlc (.own (r':=3) _ Y)<|rlc (.own (r':=4) _ Y) rln)<|.dead<|.dead<|.cons Y (roM D44)<|.cons Y (roM D120) .nil) Y Y)<|Tr<|Rq Y (Z0 (cvs (ov Y)<|Qp Y) Y tZ_3 Y)<|Ra Y<|Ra Y<|Za<|Zl<|K2 0 3 Y<|Tr<|Rq Y (Zb (ov Y) tS3 Y)<|bE h fun y h_y h=>Rq Y (Zo (Z3 h_y)<|.cons (ov Y) (.b Y)<|.cons (ov Y) (.b Y)<|.cons (ov Y) (.b Y) .nil)<|R1 Qz Y<|Za<|K3 0 3 13 Y<|If h Y (fun h=>?_) fun h=>?_
 ·
  refine K0<|Tr<|Ra Y<|Ra Y<|Za<|?_
  obtain rfl:=rt h
  exact Zi<|Zbe [some 0,some 1,some 2,some 3,some 4] Y (.cons (.tmp Y)<|.cons (.tmp Y) .nil) (.cons Y (ro1 (by exact tZ_91.symm)<|rlc (.dat Y)<|rlc (.dat Y)<|rlc (.dat Y)<|rlc (.dat Y)<|rlc (.dat Y)<|rlc (.own _ Y)<|rlc (.own _ Y) rln)<|.dead<|.dead<|.cons Y (roM D44)<|.cons Y (roM D120) .nil) Y Y<|Jw<|rlc (.dat Y)<|rlc (.dat Y) rln
 ·
  refine Zf<|K2 0 3 Y<|Tr<|Rm Y<|Rq Y (Zh (ov Y) Y Y)<|Rq Y (Zc (ov Y) Y Y Zgv)<|Rq Y (ZY (ov Y) Y Y Y Zdg Y Y)<|bE h fun y2 h_y2 h=>Rx Y (ZS [] (ZdI h_y2) (.cons (ov Y) (ZaH<|rld Y) .nil) .nil Y (.keep Y Y<|.none<|.none<|.keep Y Y<|.keep Y Y<|.lent 0 (.inr ⟨Nat.le_of_ble_eq_true Y,Y⟩) Y (roM D99) .nil) Y Y<|ZaH<|rlc (.dat Y)<|rlc (.own _<|.inr ⟨Nat.le_of_ble_eq_true Y,Y⟩) rln)<|Rx Y (ZO (row:= [_,_]) 6 Y ZeS Y tZ_44)<|Rx Y (Zj (ov Y) (ov Y) (Zv X8 Y) Y Y Y (Nat.le_of_ble_eq_true Y) (Zd Y) Y)<|Za<|K3 0 3 6 Y<|Tr<|Rq Y (Zaq<|.cons (ov Y)<|.cons (ov Y) .nil)<|Ra Y<|Za<|K4 0 3 6 7 Y<|Tr<|Rm Y<|Rq Y (Zb (ov Y) tS3 Y)<|bE h fun y3 h_y3 h=>Rx Y (ZS [0,3,4] (Zax h_y3) (.cons (ov Y) (.ptr _ _ _ Y)<|.cons (ov Y) (.dat Y) .nil) (.cons Y (ro1 (by exact tZ_91.symm)<|rlc (.dat Y)<|rlc (.dat Y)<|rlc (.dat Y)<|rlc (.dat Y)<|rlc (.dat Y)<|rlc (.own _ Y)<|rlc (.own _ Y) rln)<|.cons Y (roM D44)<|.cons Y (roM D120) .nil) Y (.lent 0 (.inl Y) Y (ro1 (by exact tZ_91.symm)<|rlc (.dat Y)<|rlc (.dat Y)<|rlc (.dat Y)<|rlc (.dat Y)<|rlc (.dat Y)<|rlc (.own _<|.inr ⟨Nat.le_of_ble_eq_true Y,Y⟩)<|rlc (.own _<|.inr ⟨Nat.le_of_ble_eq_true Y,Y⟩) rln)<|.none<|.none<|.none<|.none<|.keep Y Y<|.keep Y Y<|.lent 3 (.inr ⟨Nat.le_of_ble_eq_true Y,Y⟩) Y (roM D44)<|.lent 4 (.inr ⟨Nat.le_of_ble_eq_true Y,Y⟩) Y (roM D120) .nil) Y Y<|Jw<|rld Y)<|Rm Y<|Rq Y (Zr (ov Y) Y)<|Rq Y (Zr (ov Y) Y)<|Ra Y<|Ra Y<|Za<|I1 (fun i=>⟨[(0,.ptr 0 1 0 0),(3,.rp [.int .i64 frame] 0),(6,.ptr 5 1 0 0),(7,.fn 41 [.rp [.int .i64 frame] 0,.ptr 5 1 0 0]),(8,.int .i64 i)],[some ⟨91,[[.sl 49 (List.map R49 r_.p.Instruments),.sl 54 (List.map R54 r_.l),.int .i64 r_.keep,.int .i64 r_.state.Frame,.sl 99 (List.map R99 r_.state.Memos),.own 3 r_.kept.length,.own 4 r_.marks.length]]⟩,none,none,some ⟨44,List.map R44 r_.kept⟩,some ⟨120,List.map R120 r_.marks⟩,some ⟨44,[[.int .i64 y2.Frame,.own 6 y2.Memos.length]]⟩,some ⟨99,List.map R99 y2.Memos⟩]⟩) h (fun h=>?_) fun i h=>?_
  ·
   refine K6 0 3 6 7 8 9 Y<|Tr<|Rm Y<|Za<|K6 0 3 6 7 8 26 Y<|If h Y (fun h=>?_) fun h=>?_
   ·
    exact K5 0 3 6 7 8 Y<|ZE<|Rm Y<|R2 Q4 Y<|Ra Y<|Za<|⟨_,h,ES [some 0,some 1,some 2,some 7,some 8,some 6,some 5]⟩
   ·
    exact Zf<|⟨_,h,ES [some 0,some 1,some 2,some 7,some 8,some 6,some 5]⟩
  ·
   refine I2 (fun Frame Memos=>⟨[(0,.ptr 0 1 0 0),(3,.rp [.int .i64 frame] 0),(6,.ptr 5 1 0 0),(7,.fn 41 [.rp [.int .i64 frame] 0,.ptr 5 1 0 0])],[some ⟨91,[[.sl 49 (List.map R49 r_.p.Instruments),.sl 54 (List.map R54 r_.l),.int .i64 r_.keep,.int .i64 r_.state.Frame,.sl 99 (List.map R99 r_.state.Memos),.own 3 r_.kept.length,.own 4 r_.marks.length]]⟩,none,none,some ⟨44,List.map R44 r_.kept⟩,some ⟨120,List.map R120 r_.marks⟩,some ⟨44,[[.int .i64 Frame,.own 6 Memos.length]]⟩,some ⟨99,List.map R99 Memos⟩]⟩) h (fun h=>?_) fun Frame Memos h=>?_
   ·
    refine Tr<|Rm Y<|R2 QN Y<|Za<|K6 0 3 6 7 8 30 Y<|If h Y (fun h=>?_) fun h=>?_
    ·
     exact K5 0 3 6 7 8 Y<|ZE<|Rm Y<|Rm Y<|Rq Y (Zh (ov Y) Y Y)<|Rq Y (Zc (ov Y) Y Y Z9)<|Rq Y (Zm (ov Y) Y Y Y Xt Y)<|Rm Y<|R2 Zbk Y<|bE h fun x h_x h=>Rq Y (Zbu (ov Y) (ov Y) Xo Y Y h_x)<|Rq Y (Zi2 (ov Y) Y Y h_x X8 Y Y)<|bE h fun y4 h_y4 h=>Rx Y (Zg4 [5,6] (ov Y) (rlc (.dat Y)<|rlc (.ptr (r':=0) _ _ _ Y) rln) (.cons (ov Y) (ZaH<|rld Y) .nil) (Zab h_y4) (.cons Y (ro1 (by exact tZ_44.symm)<|rlc (.dat Y)<|rlc (.own _ Y) rln)<|.cons Y (roM D99) .nil) Y (.keep Y Y<|.none<|.none<|.keep Y Y<|.keep Y Y<|.lent 0 (.inl Y) Y (ro1 (by exact tZ_44.symm)<|rlc (.dat Y)<|rlc (.own _<|.inr ⟨Nat.le_of_ble_eq_true Y,Y⟩) rln)<|.none<|.lent 2 (.inr ⟨Nat.le_of_ble_eq_true Y,Y⟩) Y (roM D99) .nil) Y Y<|Jw<|rld Y)<|Za<|⟨_,h,ES [some 0,some 1,some 2,some 3,some 4,some 5,some 7]⟩
    ·
     exact Zf<|⟨_,h,ES [some 0,some 1,some 2,some 3,some 4,some 5,some 6]⟩
   ·
    refine Tr<|Rm Y<|Rm Y<|Rq Y (Zh (ov Y) Y Y)<|Rq Y (Zc (ov Y) Y Y Jt)<|Rq Y (ZY (ov Y) Y Y Y X8 Y Y)<|bE h fun y5 h_y5 h=>Rx Y (Zg4 [5,6] (ov Y) (rlc (.dat Y)<|rlc (.ptr (r':=0) _ _ _ Y) rln) (.cons (ov Y) (ZaH<|rld Y) .nil) (Zab h_y5) (.cons Y (ro1 (by exact tZ_44.symm)<|rlc (.dat Y)<|rlc (.own _ Y) rln)<|.cons Y (roM D99) .nil) Y (.keep Y Y<|.none<|.none<|.keep Y Y<|.keep Y Y<|.lent 0 (.inl Y) Y (ro1 (by exact tZ_44.symm)<|rlc (.dat Y)<|rlc (.own _<|.inr ⟨Nat.le_of_ble_eq_true Y,Y⟩) rln)<|.none<|.lent 2 (.inr ⟨Nat.le_of_ble_eq_true Y,Y⟩) Y (roM D99) .nil) Y Y<|Jw<|rld Y)<|Za<|K3 0 3 6 Y<|Tr<|Rm Y<|Rq Y (ZY (ov Y) Y Y Y X8 Y Y)<|Rq Y (Zh (ov Y) Y Y)<|Rq Y (Zc (ov Y) Y Y Jt)<|Rx Y (Zj (ov Y) (ov Y) (Zv X8 Y) Y Y Y (Nat.le_of_ble_eq_true Y) (Zd Y) Y)<|Za<|K3 0 3 6 Y<|Tr<|Rq Y (Zb (ov Y) tS3 Y)<|Rq Y (Zc (ov Y) Y Y X6)<|Rq Y (Zm (ov Y) Y Y Y tS3 Y)<|R2 Zbk Y<|Ra Y<|Za<|K2 0 10 Y<|Tr<|Rm Y<|Rm Y<|bE h fun y6 h_y6 h=>Rx Y (ZS [0,7,3,4] (Zam h_y6) (.cons (ov Y) (.ptr _ _ _ Y)<|.cons (ov Y) (.dat Y) .nil) (.cons Y (ro1 (by exact tZ_91.symm)<|rlc (.dat Y)<|rlc (.dat Y)<|rlc (.dat Y)<|rlc (.dat Y)<|rlc (.own _ Y)<|rlc (.own _ Y)<|rlc (.own _ Y) rln)<|.cons Y (roM D99)<|.cons Y (roM D44)<|.cons Y (roM D120) .nil) Y (.lent 0 (.inl Y) Y (ro1 (by exact tZ_91.symm)<|rlc (.dat Y)<|rlc (.dat Y)<|rlc (.dat Y)<|rlc (.dat Y)<|rlc (.dat Y)<|rlc (.own _<|.inr ⟨Nat.le_of_ble_eq_true Y,Y⟩)<|rlc (.own _<|.inr ⟨Nat.le_of_ble_eq_true Y,Y⟩) rln)<|.none<|.none<|.none<|.none<|.keep Y Y<|.none<|.none<|.lent 4 (.inr ⟨Nat.le_of_ble_eq_true Y,Y⟩) Y (roM D44)<|.lent 5 (.inr ⟨Nat.le_of_ble_eq_true Y,Y⟩) Y (roM D120) .nil) Y Y<|Jw<|rld Y)<|Za<|K1 10 Y<|Tr<|Rm Y<|Ra Y<|Ra Y<|Za<|?_
    obtain rfl:=rt h
    exact Zi<|Zbe [some 0,some 1,some 2,some 8,some 9] Y (.cons (.tmp Y)<|.cons (.tmp Y) .nil) (.cons Y (ro1 (by exact tZ_91.symm)<|rlc (.dat Y)<|rlc (.dat Y)<|rlc (.dat Y)<|rlc (.dat Y)<|rlc (.dat Y)<|rlc (.own _ Y)<|rlc (.own _ Y) rln)<|.dead<|.dead<|.cons Y (roM D44)<|.cons Y (roM D120) .nil) Y Y<|Jw<|rlc (.dat Y)<|rlc (.dat Y) rln
theorem JT{r_:panel_Replay}{n:Int}{r:panel_Replay}(h:QK r_ n=some r):
 GSpec Tryz.prog gl0 44 [.ptr 0 1 0 0,.int .i64 n] [some ⟨91,[[.sl 49 (List.map R49 r_.p.Instruments),.sl 54 (List.map R54 r_.l),.int .i64 r_.keep,.int .i64 r_.state.Frame,.sl 99 (List.map R99 r_.state.Memos),.own 1 r_.kept.length,.own 2 r_.marks.length]]⟩,some ⟨44,List.map R44 r_.kept⟩,some ⟨120,List.map R120 r_.marks⟩] (.tuple []) [some ⟨91,[[.sl 49 (List.map R49 r.p.Instruments),.sl 54 (List.map R54 r.l),.int .i64 r.keep,.int .i64 r.state.Frame,.sl 99 (List.map R99 r.state.Memos),.own 3 r.kept.length,.own 4 r.marks.length]]⟩,none,none,some ⟨44,List.map R44 r.kept⟩,some ⟨120,List.map R120 r.marks⟩]:=by
 unfold QK at h
 replace h:=ZM h
 refine Qs (by kernel_rfl) Tryz.func44 Y Y<|?_
 intro w0 A W φ0
 refine Za5 (Ent.sel [some 0,some 1,some 2,some 1,some 2] (sr 0 Y (.ptr (r':=0) _ _ _ Y)<|sd 1 Y Y sn) (.cons Y (ro1 (by exact tZ_91.symm)<|rlc (.dat Y)<|rlc (.dat Y)<|rlc (.dat Y)<|rlc (.dat Y)<|rlc (.dat Y)<|rlc (.own (r':=3) _ Y)<|rlc (.own (r':=4) _ Y) rln)<|.dead<|.dead<|.cons Y (roM D44)<|.cons Y (roM D120) .nil) Y Y)<|Tr<|Rm Y<|Rm Y<|Za<|Zk<|?_
 obtain⟨r1,hl1,ho1⟩:=XB h
 refine L3 (fun state kept i=>⟨[(0,.ptr 0 1 0 0),(6,.int .i64 n),(7,.int .i64 i)],[some ⟨91,[[.sl 49 (List.map R49 r_.p.Instruments),.sl 54 (List.map R54 r_.l),.int .i64 r_.keep,.int .i64 state.Frame,.sl 99 (List.map R99 state.Memos),.own 3 kept.length,.own 4 r_.marks.length]]⟩,none,none,some ⟨44,List.map R44 kept⟩,some ⟨120,List.map R120 r_.marks⟩]⟩) hl1 (ES [some 0,some 1,some 2,some 3,some 4]) fun n1 state kept i h=>?_
 unfold X9 at h
 refine Tr<|R2 ZU Y<|Za<|Zl<|If h Y (fun h=>?_) fun h=>?_
 ·
  refine Zf<|I3 (fun Frame Memos kept2=>⟨[(0,.ptr 0 1 0 0),(6,.int .i64 n),(7,.int .i64 i)],[some ⟨91,[[.sl 49 (List.map R49 r_.p.Instruments),.sl 54 (List.map R54 r_.l),.int .i64 r_.keep,.int .i64 Frame,.sl 99 (List.map R99 Memos),.own 3 kept2.length,.own 4 r_.marks.length]]⟩,none,none,some ⟨44,List.map R44 kept2⟩,some ⟨120,List.map R120 r_.marks⟩]⟩) h (fun h=>?_) fun Frame Memos kept2 h=>?_
  ·
   refine Zk<|K3 0 6 7 Y<|Td ⟨true,false,[],[],[]⟩<|D1 1 Ze Y<|Dq 2 Y (Zh (ov Y) Y Y)<|Dq 3 Y (Zc (ov Y) Y Y Zgv)<|Dq 4 Y (ZY (ov Y) Y Y Y Zdg Y Y)<|D1 5 Ze Y<|Dq 6 Y (Zh (ov Y) Y Y)<|Dq 7 Y (Zc (ov Y) Y Y Zhr)<|Dq 8 Y (Zm (ov Y) Y Y Y Zi5 Y)<|D1 9 Ze Y<|Dq 10 Y (Zh (ov Y) Y Y)<|Dq 11 Y (Zc (ov Y) Y Y Jt)<|Dq 12 Y (ZY (ov Y) Y Y Y X8 Y Y)<|JZ 0 _ Y (by kernel_rfl) Y Y (fun hp'=>Ze<|ov Y)<|bE h fun y h_y h=>Do 13 Y (ZS [] (Zba h_y) (.cons (ov Y) (ZaH<|rld Y)<|.cons (ov Y) (.dat Y)<|.cons (ov Y) (ZaH<|rld Y) .nil) .nil Y (.keep Y Y<|.none<|.none<|.keep Y Y<|.keep Y Y<|.lent 0 (.inr ⟨Nat.le_of_ble_eq_true Y,Y⟩) Y (roM D99) .nil) Y Y<|ZaH<|rlc (.dat Y)<|rlc (.own _<|.inr ⟨Nat.le_of_ble_eq_true Y,Y⟩) rln)<|Dq 14 Y (Zh (ov Y) Y Y)<|Dq 15 Y (Zc (ov Y) Y Y Jt)<|Do 16 Y (Zj (ov Y) (ov Y) (Zv X8 Y) Y Y Y (Nat.le_of_ble_eq_true Y) (Zd Y) Y)<|Dd<|Zl<|K3 0 6 7 Y<|Td md0<|D1 0 Ze Y<|Dq 1 Y (Zh (ov Y) Y Y)<|Dq 2 Y (Zc (ov Y) Y Y Jt)<|Dq 3 Y (Zc (ov Y) Y Y X6)<|Dq 4 Y (Zm (ov Y) Y Y Y tS3 Y)<|D1 5 Ze Y<|Dq 6 Y (Zh (ov Y) Y Y)<|Dq 7 Y (Zc (ov Y) Y Y Zgo)<|Dq 8 Y (Zm (ov Y) Y Y Y tS3 Y)<|bE h fun q h_q h=>Dq 9 Y (ZeK (ov Y) (ov Y) h_q)<|D1 10 Ze Y<|Dq 11 Y (Zh (ov Y) Y Y)<|Dq 12 Y (Zc (ov Y) Y Y Zgo)<|Dq 13 Y (Zm (ov Y) Y Y Y tS3 Y)<|D2 14 Zbk Y<|D2 15 Qw Y<|Dd<|K4 0 6 7 40 Y<|If h Y (fun h=>?_) fun h=>?_
   ·
    exact ZL<|⟨_,h,ES [some 0,some 1,some 2,some 3,some 4] (hhp:= .cons Y (ro1 (by exact tZ_91.symm)<|rlc (.dat Y)<|rlc (.dat Y)<|rlc (.dat Y)<|rlc (.dat Y)<|rlc (Ze4 Y Y Y D99)<|rlc (.own _ Y)<|rlc (.own _ Y) rln)<|.dead<|.dead<|.cons Y (roM D44)<|.cons Y (roM D120) .nil)⟩
   ·
    refine Zf<|K3 0 6 7 Y<|Tr<|Rm Y<|Rm Y<|Rq Y (Zh (ov Y) Y Y)<|Rq Y (Zc (ov Y) Y Y Jt)<|Rq Y (Zc (ov Y) Y Y X6)<|Rq Y (Zm (ov Y) Y Y Y tS3 Y)<|bE h fun y2 h_y2 h=>Rx Y (ZS [0,5,3,4] (XH h_y2) (.cons (ov Y) (.ptr _ _ _ Y)<|.cons (ov Y) (.dat Y) .nil) (.cons Y (ro1 (by exact tZ_91.symm)<|rlc (.dat Y)<|rlc (.dat Y)<|rlc (.dat Y)<|rlc (.dat Y)<|rlc (.own _ Y)<|rlc (.own _ Y)<|rlc (.own _ Y) rln)<|.cons Y (roM D99)<|.cons Y (roM D44)<|.cons Y (roM D120) .nil) Y (.lent 0 (.inl Y) Y (ro1 (by exact tZ_91.symm)<|rlc (.dat Y)<|rlc (.dat Y)<|rlc (.dat Y)<|rlc (.dat Y)<|rlc (.own _<|.inr ⟨Nat.le_of_ble_eq_true Y,Y⟩)<|rlc (.own _<|.inr ⟨Nat.le_of_ble_eq_true Y,Y⟩)<|rlc (.own _<|.inr ⟨Nat.le_of_ble_eq_true Y,Y⟩) rln)<|.none<|.none<|.none<|.none<|.none<|.lent 4 (.inr ⟨Nat.le_of_ble_eq_true Y,Y⟩) Y (roM D99)<|.lent 5 (.inr ⟨Nat.le_of_ble_eq_true Y,Y⟩) Y (roM D44)<|.lent 6 (.inr ⟨Nat.le_of_ble_eq_true Y,Y⟩) Y (roM D120) .nil) Y Y<|Jw<|rld Y)<|Rm Y<|Rq Y (Zr (ov Y) Y)<|Rq Y (Zr (ov Y) Y)<|Ra Y<|Ra Y<|Za<|K5 0 4 5 6 7 Y<|Tr<|Rm Y<|R1 Qz Y<|Za<|K5 0 4 6 7 52 Y<|If h Y (fun h=>?_) fun h=>?_
    ·
     refine K4 0 4 6 7 Y<|Za5 (Ent.sel [some 0,some 1,some 2,some 3,some 4,some 5,none,some 7,some 8] (sr 0 Y (.ptr (r':=0) _ _ _ Y)<|sd 4 Y Y<|sd 6 Y Y<|sd 7 Y Y sn) (.cons Y (ro1 (by exact tZ_91.symm)<|rlc (.dat Y)<|rlc (.dat Y)<|rlc (.dat Y)<|rlc (.dat Y)<|rlc (Ze4 Y Y Y D99)<|rlc (.own (r':=7) _ Y)<|rlc (.own (r':=8) _ Y) rln)<|.dead<|.dead<|.dead<|.dead<|.dead<|.row 99<|.cons Y (roM D44)<|.cons Y (roM D120) .nil) Y Y)<|Zbh (cw:=⟨true,false,[],[],[]⟩) (by kernel_rfl)<|D1 6 Ze Y<|Dq 7 Y (Zh (ov Y) Y Y)<|Dq 8 Y (Zc (ov Y) Y Y Jt)<|Dq 9 Y (ZY (ov Y) Y Y Y X8 Y Y)<|JZ 0 _ Y (by kernel_rfl) Y Y (fun hp'=>Ze<|ov Y)<|JZ 1 _ Y (by kernel_rfl) Y Y (fun hp'=>Ze<|ov Y)<|JZ 5 _ Y (by kernel_rfl) Y Y (fun hp'=>Ze<|ov Y)<|bE h fun y3 h_y3 h=>Dw 2 10 Y (Zh (ov Y) Y Y) (ZcG<|Zo (ZZ h_y3)<|.cons (ov Y) (.aggB Y) .nil) ?_ ?_
     ·
      refine Dw 3 10 Y (Zc (ov Y) Y Y Z9) (ZcG<|Zo (ZZ h_y3)<|.cons (ov Y) (.aggB Y) .nil) ?_ ?_
      ·
       refine Dw 4 10 Y (Zm (ov Y) Y Y Y Xt Y) (ZcG<|Zo (ZZ h_y3)<|.cons (ov Y) (.aggB Y) .nil) ?_ ?_
       ·
        exact Do 10 Y (ZcG<|Zo (ZZ h_y3)<|.cons (ov Y) (.aggB Y) .nil)<|Do 11 Y (QA (r:=9) (xs:=([y3]:List api_PanelState)) (f:=R44) Y Xo (.cons (cva<|ov Y) Y (pwD Y) .nil) Y Y Y)<|bE h fun l h_l h=>Do 12 Y (Xy (f:=R44) Qj Ql (by kernel_rfl) Y (ov Y) (ov Y) (ov Y) Xo Y Y Y Y Y D44 (fun _=>Y) Y h_l)<|Dq 13 Y (Zh (ov Y) Y Y)<|Dq 14 Y (Zc (ov Y) Y Y Z9)<|Do 15 Y (Zj (ov Y) (ov Y) (Zn Xt) Y Y Y (Nat.le_of_ble_eq_true Y) (Zd Y) Y)<|Dd<|⟨_,h,ES [some 0,some 1,some 2,some 7,some 8]⟩
       ·
        refine Dw 4 11 Y (Zm (ov Y) Y Y Y Xt Y) (QA (r:=9) (xs:=([y3]:List api_PanelState)) (f:=R44) Y Xo (.cons (cva<|ov Y) Y (pwD Y) .nil) Y Y Y) ?_ ?_
        ·
         exact Do 11 Y (QA (r:=9) (xs:=([y3]:List api_PanelState)) (f:=R44) Y Xo (.cons (cva<|ov Y) Y (pwD Y) .nil) Y Y Y)<|bE h fun l h_l h=>Do 12 Y (Xy (f:=R44) Qj Ql (by kernel_rfl) Y (ov Y) (ov Y) (ov Y) Xo Y Y Y Y Y D44 (fun _=>Y) Y h_l)<|Dq 13 Y (Zh (ov Y) Y Y)<|Dq 14 Y (Zc (ov Y) Y Y Z9)<|Do 15 Y (Zj (ov Y) (ov Y) (Zn Xt) Y Y Y (Nat.le_of_ble_eq_true Y) (Zd Y) Y)<|Dd<|⟨_,h,ES [some 0,some 1,some 2,some 7,some 8]⟩
        ·
         exact Dq 4 Y (Zm (ov Y) Y Y Y Xt Y)<|bE h fun l h_l h=>Do 12 Y (Xy (f:=R44) Qj Ql (by kernel_rfl) Y (ov Y) (ov Y) (ov Y) Xo Y Y Y Y Y D44 (fun _=>Y) Y h_l)<|Dq 13 Y (Zh (ov Y) Y Y)<|Dq 14 Y (Zc (ov Y) Y Y Z9)<|Do 15 Y (Zj (ov Y) (ov Y) (Zn Xt) Y Y Y (Nat.le_of_ble_eq_true Y) (Zd Y) Y)<|Dd<|⟨_,h,ES [some 0,some 1,some 2,some 7,some 8]⟩
      ·
       refine Dw 3 11 Y (Zc (ov Y) Y Y Z9) (QA (r:=9) (xs:=([y3]:List api_PanelState)) (f:=R44) Y Xo (.cons (cva<|ov Y) Y (pwD Y) .nil) Y Y Y) ?_ ?_
       ·
        refine Dw 4 11 Y (Zm (ov Y) Y Y Y Xt Y) (QA (r:=9) (xs:=([y3]:List api_PanelState)) (f:=R44) Y Xo (.cons (cva<|ov Y) Y (pwD Y) .nil) Y Y Y) ?_ ?_
        ·
         exact Do 11 Y (QA (r:=9) (xs:=([y3]:List api_PanelState)) (f:=R44) Y Xo (.cons (cva<|ov Y) Y (pwD Y) .nil) Y Y Y)<|bE h fun l h_l h=>Do 12 Y (Xy (f:=R44) Qj Ql (by kernel_rfl) Y (ov Y) (ov Y) (ov Y) Xo Y Y Y Y Y D44 (fun _=>Y) Y h_l)<|Dq 13 Y (Zh (ov Y) Y Y)<|Dq 14 Y (Zc (ov Y) Y Y Z9)<|Do 15 Y (Zj (ov Y) (ov Y) (Zn Xt) Y Y Y (Nat.le_of_ble_eq_true Y) (Zd Y) Y)<|Dd<|⟨_,h,ES [some 0,some 1,some 2,some 7,some 8]⟩
        ·
         exact Dq 4 Y (Zm (ov Y) Y Y Y Xt Y)<|bE h fun l h_l h=>Do 12 Y (Xy (f:=R44) Qj Ql (by kernel_rfl) Y (ov Y) (ov Y) (ov Y) Xo Y Y Y Y Y D44 (fun _=>Y) Y h_l)<|Dq 13 Y (Zh (ov Y) Y Y)<|Dq 14 Y (Zc (ov Y) Y Y Z9)<|Do 15 Y (Zj (ov Y) (ov Y) (Zn Xt) Y Y Y (Nat.le_of_ble_eq_true Y) (Zd Y) Y)<|Dd<|⟨_,h,ES [some 0,some 1,some 2,some 7,some 8]⟩
       ·
        exact Dq 3 Y (Zc (ov Y) Y Y Z9)<|Dq 4 Y (Zm (ov Y) Y Y Y Xt Y)<|bE h fun l h_l h=>Do 12 Y (Xy (f:=R44) Qj Ql (by kernel_rfl) Y (ov Y) (ov Y) (ov Y) Xo Y Y Y Y Y D44 (fun _=>Y) Y h_l)<|Dq 13 Y (Zh (ov Y) Y Y)<|Dq 14 Y (Zc (ov Y) Y Y Z9)<|Do 15 Y (Zj (ov Y) (ov Y) (Zn Xt) Y Y Y (Nat.le_of_ble_eq_true Y) (Zd Y) Y)<|Dd<|⟨_,h,ES [some 0,some 1,some 2,some 7,some 8]⟩
     ·
      refine Dw 2 11 Y (Zh (ov Y) Y Y) (QA (r:=9) (xs:=([y3]:List api_PanelState)) (f:=R44) Y Xo (.cons (cva<|ov Y) Y (pwD Y) .nil) Y Y Y) ?_ ?_
      ·
       refine Dw 3 11 Y (Zc (ov Y) Y Y Z9) (QA (r:=9) (xs:=([y3]:List api_PanelState)) (f:=R44) Y Xo (.cons (cva<|ov Y) Y (pwD Y) .nil) Y Y Y) ?_ ?_
       ·
        refine Dw 4 11 Y (Zm (ov Y) Y Y Y Xt Y) (QA (r:=9) (xs:=([y3]:List api_PanelState)) (f:=R44) Y Xo (.cons (cva<|ov Y) Y (pwD Y) .nil) Y Y Y) ?_ ?_
        ·
         exact Do 11 Y (QA (r:=9) (xs:=([y3]:List api_PanelState)) (f:=R44) Y Xo (.cons (cva<|ov Y) Y (pwD Y) .nil) Y Y Y)<|bE h fun l h_l h=>Do 12 Y (Xy (f:=R44) Qj Ql (by kernel_rfl) Y (ov Y) (ov Y) (ov Y) Xo Y Y Y Y Y D44 (fun _=>Y) Y h_l)<|Dq 13 Y (Zh (ov Y) Y Y)<|Dq 14 Y (Zc (ov Y) Y Y Z9)<|Do 15 Y (Zj (ov Y) (ov Y) (Zn Xt) Y Y Y (Nat.le_of_ble_eq_true Y) (Zd Y) Y)<|Dd<|⟨_,h,ES [some 0,some 1,some 2,some 7,some 8]⟩
        ·
         exact Dq 4 Y (Zm (ov Y) Y Y Y Xt Y)<|bE h fun l h_l h=>Do 12 Y (Xy (f:=R44) Qj Ql (by kernel_rfl) Y (ov Y) (ov Y) (ov Y) Xo Y Y Y Y Y D44 (fun _=>Y) Y h_l)<|Dq 13 Y (Zh (ov Y) Y Y)<|Dq 14 Y (Zc (ov Y) Y Y Z9)<|Do 15 Y (Zj (ov Y) (ov Y) (Zn Xt) Y Y Y (Nat.le_of_ble_eq_true Y) (Zd Y) Y)<|Dd<|⟨_,h,ES [some 0,some 1,some 2,some 7,some 8]⟩
       ·
        exact Dq 3 Y (Zc (ov Y) Y Y Z9)<|Dq 4 Y (Zm (ov Y) Y Y Y Xt Y)<|bE h fun l h_l h=>Do 12 Y (Xy (f:=R44) Qj Ql (by kernel_rfl) Y (ov Y) (ov Y) (ov Y) Xo Y Y Y Y Y D44 (fun _=>Y) Y h_l)<|Dq 13 Y (Zh (ov Y) Y Y)<|Dq 14 Y (Zc (ov Y) Y Y Z9)<|Do 15 Y (Zj (ov Y) (ov Y) (Zn Xt) Y Y Y (Nat.le_of_ble_eq_true Y) (Zd Y) Y)<|Dd<|⟨_,h,ES [some 0,some 1,some 2,some 7,some 8]⟩
      ·
       exact Dq 2 Y (Zh (ov Y) Y Y)<|Dq 3 Y (Zc (ov Y) Y Y Z9)<|Dq 4 Y (Zm (ov Y) Y Y Y Xt Y)<|bE h fun l h_l h=>Do 12 Y (Xy (f:=R44) Qj Ql (by kernel_rfl) Y (ov Y) (ov Y) (ov Y) Xo Y Y Y Y Y D44 (fun _=>Y) Y h_l)<|Dq 13 Y (Zh (ov Y) Y Y)<|Dq 14 Y (Zc (ov Y) Y Y Z9)<|Do 15 Y (Zj (ov Y) (ov Y) (Zn Xt) Y Y Y (Nat.le_of_ble_eq_true Y) (Zd Y) Y)<|Dd<|⟨_,h,ES [some 0,some 1,some 2,some 7,some 8]⟩
    ·
     exact Zf<|⟨_,h,ES [some 0,some 1,some 2,some 7,some 8] (hhp:= .cons Y (ro1 (by exact tZ_91.symm)<|rlc (.dat Y)<|rlc (.dat Y)<|rlc (.dat Y)<|rlc (.dat Y)<|rlc (Ze4 Y Y Y D99)<|rlc (.own _ Y)<|rlc (.own _ Y) rln)<|.dead<|.dead<|.cons Y (roM D44)<|.cons Y (roM D120) .nil)⟩
  ·
   exact ZE<|R2 Q4 Y<|Rm Y<|Za<|⟨_,h,ES [some 0,some 1,some 2,some 3,some 4]⟩
 ·
  refine ZL<|?_
  replace h:=lx h▸ho1
  obtain rfl:=rt h
  exact ZfT [some 0,some 1,some 2,some 3,some 4] Y .nil (.cons Y (ro1 (by exact tZ_91.symm)<|rlc (.dat Y)<|rlc (.dat Y)<|rlc (.dat Y)<|rlc (.dat Y)<|rlc (.dat Y)<|rlc (.own _ Y)<|rlc (.own _ Y) rln)<|.dead<|.dead<|.cons Y (roM D44)<|.cons Y (roM D120) .nil) Y Y<|Jw rln
end Go.Proofs.YtailpehcgelmdaaGreatDoor
