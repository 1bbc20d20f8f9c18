/- A text of the proof: a verified executor of the program form, or the contracts of the functions that the law reaches. -/
import Derived.Test.YtailpehcgelmdaaGreatDoorOkTc
set_option linter.all false
namespace Go.Proofs.YtailpehcgelmdaaGreatDoor
open Go Go.Vx
set_option maxRecDepth 10000
set_option maxHeartbeats 1000000
set_option linter.unusedVariables false
theorem Zal{r_:panel_Replay}{n:Int}{r:Int×panel_Replay}(h:QG r_ n=some r):
 GSpec Tryz.prog gl0 10 [.ptr 0 1 0 0,.int .i64 n] [some ⟨91,[[.sl 49 (List.map R49 r_.p.Instruments),.sl 54 (List.map R54 r_.l),.int .i64 r_.keep,.int .i64 r_.state.Frame,.sl 99 (List.map R99 r_.state.Memos),.own 1 r_.kept.length,.own 2 r_.marks.length]]⟩,some ⟨44,List.map R44 r_.kept⟩,some ⟨120,List.map R120 r_.marks⟩] (.int .i64 r.1) [some ⟨91,[[.sl 49 (List.map R49 r.2.p.Instruments),.sl 54 (List.map R54 r.2.l),.int .i64 r.2.keep,.int .i64 r.2.state.Frame,.sl 99 (List.map R99 r.2.state.Memos),.own 3 r.2.kept.length,.own 4 r.2.marks.length]]⟩,none,none,some ⟨44,List.map R44 r.2.kept⟩,some ⟨120,List.map R120 r.2.marks⟩]:=by
 unfold QG at h
 replace h:=ZM h
 refine Qs (by kernel_rfl) Tryz.func10 Y Y<|?_
 intro w0 A W φ0
 refine Za5 (Ent.sel [some 0,some 1,some 2,some 1,some 2] (sr 0 Y (.ptr (r':=0) _ _ _ Y)<|sd 1 Y Y sn) (.cons Y (ro1 (by exact tZ_91.symm)<|rlc (.dat Y)<|rlc (.dat Y)<|rlc (.dat Y)<|rlc (.dat Y)<|rlc (.dat Y)<|rlc (.own (r':=3) _ Y)<|rlc (.own (r':=4) _ Y) rln)<|.dead<|.dead<|.cons Y (roM D44)<|.cons Y (roM D120) .nil) Y Y)<|Tr<|Ra Y<|Za<|Zl<|K2 0 1 Y<|Tr<|Rm Y<|R2 ZU Y<|Rm Y<|Rq Y (.guarded ((decide (n<0))==false) Y Y Y Y fun h=>Ze<|ov Y)<|Rq Y (.guarded ((decide (n<0))==false) Y Y Y Y fun h=>Ze<|ov Y)<|Rq Y (.guarded ((decide (n<0))==false) Y Y Y Y fun h=>Zh (ow Y h) Y Y)<|Rq Y (.guarded ((decide (n<0))==false) Y Y Y Y fun h=>Zc (ow Y h) Y Y Jt)<|Rq Y (.guarded ((decide (n<0))==false) Y Y Y Y fun h=>Zc (ow Y h) Y Y X6)<|Rq Y (.guarded ((decide (n<0))==false) Y Y Y Y fun h=>Zm (ow Y h) Y Y Y tS3 Y)<|Rq Y (.guarded ((decide (n<0))==false) Y Y Y Y fun h=>ZfN (ov Y) (ow Y h) Y)<|Rq Y (.guarded ((decide (n<0))==false) Y Y Y Y fun h=>QN (ow Y h)<|ow Y h)<|Rq Y (Xa (ov Y) fun hp=>ow Y<|gF hp)<|Za<|K3 0 1 16 Y<|If h Y (fun h=>?_) fun h=>?_
 ·
  refine K0<|Tr<|Ra Y<|Za<|?_
  obtain rfl:=rt h
  exact Zi<|Zbe [some 0,some 1,some 2,some 3,some 4] Y (.cons (.tmp Y) .nil) (.cons Y (ro1 (by exact tZ_91.symm)<|rlc (.dat Y)<|rlc (.dat Y)<|rlc (.dat Y)<|rlc (.dat Y)<|rlc (.dat Y)<|rlc (.own _ Y)<|rlc (.own _ Y) rln)<|.dead<|.dead<|.cons Y (roM D44)<|.cons Y (roM D120) .nil) Y Y<|.dat Y
 ·
  refine Zf<|K2 0 1 Y<|Tr<|Rm Y<|Rm Y<|bE h fun y h_y h=>Rx Y (ZS [0,3,4] (JT h_y) (.cons (ov Y) (.ptr _ _ _ Y)<|.cons (ov Y) (.dat Y) .nil) (.cons Y (ro1 (by exact tZ_91.symm)<|rlc (.dat Y)<|rlc (.dat Y)<|rlc (.dat Y)<|rlc (.dat Y)<|rlc (.dat Y)<|rlc (.own _ Y)<|rlc (.own _ Y) rln)<|.cons Y (roM D44)<|.cons Y (roM D120) .nil) Y (.lent 0 (.inl Y) Y (ro1 (by exact tZ_91.symm)<|rlc (.dat Y)<|rlc (.dat Y)<|rlc (.dat Y)<|rlc (.dat Y)<|rlc (.dat Y)<|rlc (.own _<|.inr ⟨Nat.le_of_ble_eq_true Y,Y⟩)<|rlc (.own _<|.inr ⟨Nat.le_of_ble_eq_true Y,Y⟩) rln)<|.none<|.none<|.none<|.none<|.lent 3 (.inr ⟨Nat.le_of_ble_eq_true Y,Y⟩) Y (roM D44)<|.lent 4 (.inr ⟨Nat.le_of_ble_eq_true Y,Y⟩) Y (roM D120) .nil) Y Y<|Jw<|rld Y)<|Za<|K0<|Tr<|Ra Y<|Za<|?_
  obtain rfl:=rt h
  exact Zi<|Zbe [some 0,some 1,some 2,some 5,some 6] Y (.cons (.tmp Y) .nil) (.cons Y (ro1 (by exact tZ_91.symm)<|rlc (.dat Y)<|rlc (.dat Y)<|rlc (.dat Y)<|rlc (.dat Y)<|rlc (.dat Y)<|rlc (.own _ Y)<|rlc (.own _ Y) rln)<|.dead<|.dead<|.cons Y (roM D44)<|.cons Y (roM D120) .nil) Y Y<|.dat Y
theorem XV{r_:panel_Replay}{r:Int}(h:Q1 r_=some r):
 GSpec Tryz.prog gl0 11 [.ptr 0 1 0 0] [some ⟨91,[[.sl 49 (List.map R49 r_.p.Instruments),.sl 54 (List.map R54 r_.l),.int .i64 r_.keep,.int .i64 r_.state.Frame,.sl 99 (List.map R99 r_.state.Memos),.own 1 r_.kept.length,.own 2 r_.marks.length]]⟩,some ⟨44,List.map R44 r_.kept⟩,some ⟨120,List.map R120 r_.marks⟩] (.int .i64 r) [some ⟨91,[[.sl 49 (List.map R49 r_.p.Instruments),.sl 54 (List.map R54 r_.l),.int .i64 r_.keep,.int .i64 r_.state.Frame,.sl 99 (List.map R99 r_.state.Memos),.own 3 r_.kept.length,.own 4 r_.marks.length]]⟩,none,none,some ⟨44,List.map R44 r_.kept⟩,some ⟨120,List.map R120 r_.marks⟩]:=by
 unfold Q1 at h
 replace h:=ZM h
 refine Qs (by kernel_rfl) Tryz.func11 Y Y<|?_
 intro w0 A W φ0
 refine Za5 (Ent.sel [some 0,some 1,some 2,some 1,some 2] (sr 0 Y (.ptr (r':=0) _ _ _ Y) sn) (.cons Y (ro1 (by exact tZ_91.symm)<|rlc (.dat Y)<|rlc (.dat Y)<|rlc (.dat Y)<|rlc (.dat Y)<|rlc (.dat Y)<|rlc (.own (r':=3) _ Y)<|rlc (.own (r':=4) _ Y) rln)<|.dead<|.dead<|.cons Y (roM D44)<|.cons Y (roM D120) .nil) Y Y)<|Tr<|Ra Y<|Za<|Tr<|Rm Y<|Rq Y (Zh (ov Y) Y Y)<|Rq Y (Zc (ov Y) Y Y Jt)<|Rq Y (Zc (ov Y) Y Y X6)<|Rq Y (Zm (ov Y) Y Y Y tS3 Y)<|Ra Y<|Za<|?_
 obtain rfl:=rt h
 exact Zi<|Zbe [some 0,some 1,some 2,some 3,some 4] Y (.cons (.tmp Y) .nil) (.cons Y (ro1 (by exact tZ_91.symm)<|rlc (.dat Y)<|rlc (.dat Y)<|rlc (.dat Y)<|rlc (.dat Y)<|rlc (.dat Y)<|rlc (.own _ Y)<|rlc (.own _ Y) rln)<|.dead<|.dead<|.cons Y (roM D44)<|.cons Y (roM D120) .nil) Y Y<|.dat Y
theorem ZeJ{z:Int}{r:Str}(h:itoa z=some r):CSpec Tryz.prog gl0 90 [.int .i64 z] (.str r):=
  ZiM (g:=1) (by kernel_rfl) (by kernel_rfl) (by simp [gl0]) (fun _ h1 h2 _ ht=>Any.strconv_Itoa Tryz.laysM171 _ h1 h2 _ ht) h
theorem ZaP{n:Int}{den:Int}{places:Int}{r:Str}(h:QR n den places=some r):
 CSpec Tryz.prog gl0 121 [.int .i64 n,.int .i64 den,.int .i64 places] (.str r):=by
 unfold QR at h
 replace h:=ZM h
 refine So Tryz.func121 Y fun w0 A=>Tr<|Ra Y<|Za<|K3 0 1 2 Y<|Tr<|Rm Y<|Rm Y<|Rq Y (Zk6 (ov Y) Y)<|Rq Y (ZiD (ov Y) (ov Y) Y)<|Ra Y<|Za<|K4 0 1 2 7 Y<|Tr<|Rm Y<|Rm Y<|bE h fun q h_q h=>Rq Y (Zhl (ov Y) (ov Y) h_q)<|Ra Y<|Ra Y<|Za<|I1 (fun scale=>⟨[(0,.int .i64 n),(1,.int .i64 den),(2,.int .i64 places),(7,.int .i64 (max n (i64 (-n)))),(8,.int .i64 q),(9,.int .i64 scale)],[]⟩) h (fun h=>?_) fun scale h=>?_
 ·
  refine K6 0 1 2 7 8 9 Y<|Tr<|Rm Y<|Rm Y<|Za<|Zk<|?_
  obtain⟨r1,hl1,ho1⟩:=XB h
  refine L2 (fun scale2 i=>⟨[(0,.int .i64 n),(1,.int .i64 den),(2,.int .i64 places),(7,.int .i64 (max n (i64 (-n)))),(8,.int .i64 q),(9,.int .i64 scale2),(19,.int .i64 places),(20,.int .i64 i)],[]⟩) hl1 (ES []) fun n1 scale2 i h=>?_
  unfold ZaS at h
  refine Tr<|R2 ZU Y<|Za<|Zl<|If h Y (fun h=>?_) fun h=>?_
  ·
   exact Zf<|Zl<|Zk<|K8 0 1 2 7 8 9 19 20 Y<|ZE<|Rm Y<|R2 Zh9 Y<|Ra Y<|Za<|K8 0 1 2 7 8 9 19 20 Y<|ZE<|R2 Q4 Y<|Rm Y<|Za<|⟨_,h,ES []⟩
  ·
   refine ZL<|?_
   replace h:=lx h▸ho1
   exact⟨_,h,ES []⟩
 ·
  refine Tr<|Rm Y<|Rm Y<|bE h fun q2 h_q2 h=>Rq Y (ZeK (ov Y) (ov Y) h_q2)<|Rm Y<|R2 Zh9 Y<|R2 Zh9 Y<|Rm Y<|R2 Q4 Y<|Rm Y<|R2 Zh9 Y<|bE h fun q3 h_q3 h=>Rq Y (Zhl (ov Y) (ov Y) h_q3)<|Ra Y<|Za<|I2 (fun whole part=>⟨[(0,.int .i64 n),(2,.int .i64 places),(8,.int .i64 whole),(9,.int .i64 scale),(10,.int .i64 part)],[]⟩) h (fun h=>?_) fun whole part h=>?_
  ·
   refine K5 0 2 8 9 10 Y<|Tr<|Rm Y<|Rm Y<|R2 Qq Y<|Za<|K6 0 2 8 9 10 38 Y<|If h Y (fun h=>?_) fun h=>?_
   ·
    exact K5 0 2 8 9 10 Y<|ZE<|Rm Y<|R2 Q4 Y<|Ra Y<|Ra Y<|Za<|⟨_,h,ES []⟩
   ·
    exact Zf<|⟨_,h,ES []⟩
  ·
   refine Tr<|Rm Y<|bE h fun y h_y h=>Rq Y (Zo (ZeJ h_y)<|.cons (ov Y) (.b Y) .nil)<|Ra Y<|Za<|I1 (fun out=>⟨[(0,.int .i64 n),(8,.int .i64 whole),(10,.int .i64 part),(11,.str out)],[]⟩) h (fun h=>?_) fun out h=>?_
   ·
    refine K6 0 2 8 9 10 11 Y<|Tr<|Rm Y<|R2 QN Y<|Za<|K6 0 8 9 10 11 44 Y<|If h Y (fun h=>?_) fun h=>?_
    ·
     exact K5 0 8 9 10 11 Y<|ZE<|Rm Y<|Rm Y<|Rm Y<|R2 Q4 Y<|bE h fun y2 h_y2 h=>Rq Y (Zo (ZeJ h_y2)<|.cons (ov Y) (.b Y) .nil)<|bE h fun s h_s h=>Rq Y (XJ (ov Y) Qb (oi<|ov Y) on h_s)<|bE h fun s2 h_s2 h=>Rq Y (Zhv (ov Y) (ov Y) h_s2)<|bE h fun s3 h_s3 h=>Rq Y (Zhv (ov Y) (ov Y) h_s3)<|Ra Y<|Za<|⟨_,h,ES []⟩
    ·
     exact Zf<|⟨_,h,ES []⟩
   ·
    refine Zl<|Tr<|Rm Y<|R2 ZU Y<|Rm Y<|Rq Y (.guarded ((decide (n<0))==true) Y Y Y Y fun h=>Ze<|ov Y)<|Rq Y (.guarded ((decide (n<0))==true) Y Y Y Y fun h=>QN (ow Y h)<|ov Y)<|Rq Y (.guarded ((decide (n<0))==true) Y Y Y Y fun h=>Ze<|ow Y h)<|Rq Y (.guarded2 (((decide (n<0))==true)&&((decide (0<whole))==false)) Y Y Y Y fun h=>Ze<|ov Y)<|Rq Y (.guarded2 (((decide (n<0))==true)&&((decide (0<whole))==false)) Y Y Y Y fun h=>QN (ow Y h)<|ov Y)<|Rq Y (.guarded ((decide (n<0))==true) Y Y Y Y fun h=>Xa (ow Y h) fun hp=>ow Y<|gA h<|gF hp)<|Rq Y (Qh (ov Y) fun hp=>ow Y<|gT hp)<|Za<|K2 11 62 Y<|If h Y (fun h=>?_) fun h=>?_
    ·
     refine K1 11 Y<|Tr<|Rm Y<|bE h fun s4 h_s4 h=>Rq Y (Zhv (ov Y) (ov Y) h_s4)<|Ra Y<|Za<|?_
     obtain rfl:=rt h
     exact Zi (Zu Y (.one<|rb Y))
    ·
     refine Zf<|K1 11 Y<|Tr<|Rm Y<|Ra Y<|Za<|?_
     obtain rfl:=rt h
     exact Zi (Zu Y (.one<|rb Y))
theorem Zeo{i:api_Instrument}{n:Int}{r:Int}(h:JY i n=some r):
 CSpec Tryz.prog gl0 122 [.agg [.int .i64 i.Kind,.str i.Name,.str i.Track,.int .i64 i.Places,.int .i64 i.Low,.int .i64 i.High,.int .i64 i.Steps,.sl 136 (List.map R136 i.Zones),.int .i64 i.Op,.int .i64 i.N,.bool i.Latch,.int .i64 i.Size],.int .i64 n] (.int .i64 r):=by
 unfold JY at h
 replace h:=ZM h
 refine So Tryz.func122 Y fun w0 A=>Tr<|Rq Y (Z0 (cva<|ov Y) Y tZ_49 Y)<|Ra Y<|Za<|Zl<|Zk<|K2 1 2 Y<|Tr<|Rm Y<|Rq Y (Zg (ov Y) Zd8)<|Rq Y (Zb (ov Y) tS3 Y)<|R2 Zbl Y<|Ra Y<|Za<|K3 1 2 5 Y<|If h Y (fun h=>?_) fun h=>?_
 ·
  refine K0<|Tr<|Ra Y<|Za<|?_
  obtain rfl:=rt h
  exact Zi (Zu Y (.one<|rb Y))
 ·
  refine K2 1 2 Y<|Tr<|Rm Y<|Rq Y (Zg (ov Y) Ze7)<|Rq Y (Zb (ov Y) tS3 Y)<|R2 Zag Y<|Ra Y<|Za<|K3 1 2 10 Y<|If h Y (fun h=>?_) fun h=>?_
  ·
   refine K1 2 Y<|Tr<|Rq Y (Zg (ov Y) Zgm)<|Rq Y (Zb (ov Y) tS3 Y)<|Ra Y<|Za<|?_
   obtain rfl:=rt h
   exact Zi (Zu Y (.one<|rb Y))
  ·
   refine Zf<|K2 1 2 Y<|Tr<|Rm Y<|Rq Y (Zg (ov Y) Zd8)<|Rq Y (Zb (ov Y) tS3 Y)<|R2 Zbk Y<|Rq Y (Zg (ov Y) Zgm)<|Rq Y (Zb (ov Y) tS3 Y)<|R2 Zh9 Y<|Rq Y (Zg (ov Y) Ze7)<|Rq Y (Zb (ov Y) tS3 Y)<|Rq Y (Zg (ov Y) Zd8)<|Rq Y (Zb (ov Y) tS3 Y)<|R2 Zbk Y<|bE h fun q h_q h=>Rq Y (Zhl (ov Y) (ov Y) h_q)<|Ra Y<|Za<|?_
   obtain rfl:=rt h
   exact Zi (Zu Y (.one<|rb Y))
theorem Zel{i:api_Instrument}{n:Int}{r:Str}(h:Jk i n=some r):
 CSpec Tryz.prog gl0 123 [.agg [.int .i64 i.Kind,.str i.Name,.str i.Track,.int .i64 i.Places,.int .i64 i.Low,.int .i64 i.High,.int .i64 i.Steps,.sl 136 (List.map R136 i.Zones),.int .i64 i.Op,.int .i64 i.N,.bool i.Latch,.int .i64 i.Size],.int .i64 n] (.str r):=by
 unfold Jk at h
 replace h:=ZM h
 refine So Tryz.func123 Y fun w0 A=>Tr<|Rq Y (Z0 (cva<|ov Y) Y tZ_49 Y)<|Ra Y<|Za<|J0 (fun j=>(.inr j)) ⟨[],[]⟩ h (fun h=>?_) fun h=>?_
 ·
  refine K2 1 2 Y<|Tr<|Rq Y (Zg (ov Y) Zdk)<|Rq Y (Zb (ov Y) Zhe Y)<|Rl tZ_136 Zgd Y<|Rm Y<|Za<|Zk<|?_
  obtain⟨r1,hl1,ho1⟩:=XB h
  refine L1 (fun i2=>⟨[(1,.int .i64 n),(8,.sl 136 (List.map R136 i.Zones)),(9,.int .i64 (i.Zones.length:Int)),(10,.int .i64 i2)],[]⟩) hl1 (ES []) fun n1 i2 h=>?_
  unfold Xd at h
  refine Tr<|R2 ZU Y<|Za<|Zl<|If h Y (fun h=>?_) fun h=>?_
  ·
   refine Zf<|Zl<|Zk<|K4 1 8 9 10 Y<|Tr<|bE h fun x h_x h=>Rq Y (Qa (ov Y) (ov Y) Zgd h_x)<|Rq Y (Zy (ov Y) ZhQ Y Y)<|Rx Y (ZO (row:= [_,_,_]) 0 Y Zke Y tZ_136)<|Rx Y (Zj (ov Y) (ov Y) (Zv ZhQ Y) Y Y Y (Nat.le_of_ble_eq_true Y) (Zd Y) Y)<|Za<|K5 1 6 8 9 10 Y<|Tr<|Rm Y<|Rq Y (Zc (ov Y) Y Y ZgB)<|Rq Y (Zm (ov Y) Y Y Y tS3 Y)<|Rq Y (Zc (ov Y) Y Y Zgi)<|Rq Y (Zm (ov Y) Y Y Y tS3 Y)<|bE h fun y h_y h=>Rq Y (Zo (Z3 h_y)<|.cons (ov Y) (.b Y)<|.cons (ov Y) (.b Y)<|.cons (ov Y) (.b Y) .nil)<|Za<|K6 1 6 8 9 10 19 Y<|If h Y (fun h=>?_) fun h=>?_
   ·
    refine K1 6 Y<|Tr<|Rq Y (Zc (ov Y) Y Y ZhC)<|Rq Y (Zm (ov Y) Y Y Y tS9 Y)<|Ra Y<|Za<|?_
    replace h:=lx h▸ho1
    obtain rfl:=rt h
    exact Zi (Zu Y (.one<|rb Y))
   ·
    exact Zf<|K4 1 8 9 10 Y<|ZE<|R2 Q4 Y<|Rm Y<|Za<|⟨_,h,ES []⟩
  ·
   refine ZL<|?_
   replace h:=lx h▸ho1
   exact⟨(),h,ES []⟩
 ·
  replace h:=elr h
  replace h:=t0i h
  refine Tr<|Ra Y<|Za<|?_
  obtain rfl:=rt h
  exact Zi (Zu Y (.one<|rb Y))
theorem ZiK{l:List Str}{sep r:Str}(h:ZfJ l sep=some r):CSpec Tryz.prog gl0 124 [.sl 9 (l.map R9),.str sep] (.str r):=
  ZiW (by kernel_rfl) (by kernel_rfl) (fun a c sep w=>Any.strings_Join_none Tryz.lays156 Tryz.Builder_Extra_156 a c sep w) (fun bk o c xs sep w=>Any.strings_Join Tryz.lays156 Tryz.Builder_Extra_156 bk o c xs sep w) h
theorem ZfB{i:api_Instrument}{m:api_Memo}{den:Int}{x:api_Sample}{known:Bool}{r:api_Face}(h:JN i m den x known=some r):
 CSpec Tryz.prog gl0 89 [.agg [.int .i64 i.Kind,.str i.Name,.str i.Track,.int .i64 i.Places,.int .i64 i.Low,.int .i64 i.High,.int .i64 i.Steps,.sl 136 (List.map R136 i.Zones),.int .i64 i.Op,.int .i64 i.N,.bool i.Latch,.int .i64 i.Size],.agg [.bool m.Lit,.bool m.Some,.int .i64 m.N,.int .i64 m.Count,.sl 3 (List.map R3 m.Tape)],.int .i64 den,.agg [.int .i64 x.At,.int .i64 x.N,.int .i64 x.Mark],.bool known] (.agg [.str r.Text,.int .i64 r.Needle,.bool r.Lit,.int .i64 r.Mark]):=by
 unfold JN at h
 replace h:=ZM h
 refine So Tryz.func89 Y fun w0 A=>Tr<|Rq Y (Z0 (cva<|ov Y) Y tZ_49 Y)<|Rq Y (Z0 (cva<|ov Y) Y tZ_99 Y)<|Rq Y (Z0 (cva<|ov Y) Y tZ_56 Y)<|Rx Y (ZO (row:= [_,_,_,_]) 0 Y Zkp Y tZ_39)<|Za<|K6 2 4 5 6 8 10 Y<|Tr<|Rq Y (Zg (ov Y) Zgq)<|Rq Y (Zb (ov Y) tS3 Y)<|Rq Y (Zg (ov Y) Zb6)<|Rq Y (Zb (ov Y) tS4 Y)<|Rq Y (Zb0 (ys:= [_,_,_,_]) Zlh Zll Zkp (.cons (cvs (ov Y)<|Qp Y)<|.cons (cvs (ov Y)<|Qp Y)<|.cons (cvs (ov Y)<|Qp Y) .nil) Y)<|Rx Y (ZO (row:= [_,_,_,_]) 1 Y Zkp Y tZ_39)<|Rx Y (Zj (ov Y) (ov Y) (Zv Zh2 Y) Y Y Y (Nat.le_of_ble_eq_true Y) (Zd Y) Y)<|Za<|I1 (fun out=>⟨[(10,.ptr 0 1 0 0),(11,.ptr 1 1 0 0)],[some ⟨39,[[.str [],.int .i64 0,.bool false,.int .i64 0]]⟩,some ⟨39,[[.str out.Text,.int .i64 out.Needle,.bool out.Lit,.int .i64 out.Mark]]⟩]⟩) h (fun h=>?_) fun out h=>?_
 ·
  refine K7 2 4 5 6 8 10 11 Y<|Tr<|Rq Y (Zg (ov Y) ZbB)<|Rq Y (Zb (ov Y) tS3 Y)<|Za<|Zk<|K8 2 4 5 6 8 10 11 21 Y<|Tr<|R2 Qq Y<|Ra Y<|Za<|K9 2 4 5 6 8 10 11 21 22 Y<|If h Y (fun h=>?_) fun h=>?_
  ·
   refine K6 2 4 5 8 10 11 Y<|Tr<|Rm Y<|Za<|K6 2 5 8 10 11 24 Y<|If h Y (fun h=>?_) fun h=>?_
   ·
    exact K5 2 5 8 10 11 Y<|ZE<|Rq Y (Zg (ov Y) ZdW)<|Rq Y (Zb (ov Y) tS3 Y)<|Rm Y<|Rq Y (Zg (ov Y) ZeW)<|Rq Y (Zb (ov Y) tS3 Y)<|bE h fun y h_y h=>Rq Y (Zo (ZaP h_y)<|.cons (ov Y) (.b Y)<|.cons (ov Y) (.b Y)<|.cons (ov Y) (.b Y) .nil)<|Rq Y (Zc (ov Y) Y Y Zde)<|Rx Y (Zj (ov Y) (ov Y) (Zn tS9) Y Y Y (Nat.le_of_ble_eq_true Y) (Zd Y) Y)<|Za<|⟨_,h,ES [some 0,some 1]⟩
   ·
    exact Zf<|⟨_,h,ES [some 0,some 1]⟩
  ·
   refine K8 2 4 5 6 8 10 11 21 Y<|Tr<|R2 Qq Y<|Ra Y<|Za<|K9 2 4 5 6 8 10 11 21 32 Y<|If h Y (fun h=>?_) fun h=>?_
   ·
    refine K5 4 5 8 10 11 Y<|Tr<|Rm Y<|Za<|K5 5 8 10 11 34 Y<|If h Y (fun h=>?_) fun h=>?_
    ·
     exact K4 5 8 10 11 Y<|Zbh (cw:=md0) (by kernel_rfl)<|Dq 0 Y (Zy (ov Y) Zcu Y Y)<|Dq 1 Y (Zg (ov Y) ZdW)<|Dq 2 Y (Zb (ov Y) tS3 Y)<|bE h fun y2 h_y2 h=>Dq 3 Y (Zo (Zeo h_y2)<|.cons (ov Y) (.aggB Y)<|.cons (ov Y) (.b Y) .nil)<|Dq 4 Y (Zy (ov Y) Zcu Y Y)<|Dq 5 Y (Zg (ov Y) ZdW)<|Dq 6 Y (Zb (ov Y) tS3 Y)<|bE h fun y3 h_y3 h=>Dq 7 Y (Zo (Zel h_y3)<|.cons (ov Y) (.aggB Y)<|.cons (ov Y) (.b Y) .nil)<|Dq 8 Y (Zc (ov Y) Y Y ZkI)<|Do 9 Y (Zj (ov Y) (ov Y) (Zn tS3) Y Y Y (Nat.le_of_ble_eq_true Y) (Zd Y) Y)<|Dq 10 Y (Zc (ov Y) Y Y Zde)<|Do 11 Y (Zj (ov Y) (ov Y) (Zn tS9) Y Y Y (Nat.le_of_ble_eq_true Y) (Zd Y) Y)<|Dd<|⟨_,h,ES [some 0,some 1]⟩
    ·
     exact Zf<|⟨_,h,ES [some 0,some 1]⟩
   ·
    refine K7 2 4 5 6 10 11 21 Y<|Tr<|R2 Qq Y<|Ra Y<|Za<|K8 2 4 5 6 10 11 21 45 Y<|If h Y (fun h=>?_) fun h=>?_
    ·
     refine K4 4 6 10 11 Y<|Tr<|Rq Y (Zg (ov Y) Zb6)<|Rq Y (Zb (ov Y) tS4 Y)<|Za<|K4 4 10 11 48 Y<|If h Y (fun h=>?_) fun h=>?_
     ·
      exact K2 10 11 Y<|ZE<|Rq Y (Zc (ov Y) Y Y Zde)<|Rx Y (Zj (ov Y) (ov Y) (Zn tS9) Y Y Y (Nat.le_of_ble_eq_true Y) (Zd Y) Y)<|Za<|⟨_,h,ES [some 0,some 1]⟩
     ·
      refine K3 4 10 11 Y<|Tr<|Rm Y<|Za<|K3 10 11 50 Y<|If h Y (fun h=>?_) fun h=>?_
      ·
       exact K2 10 11 Y<|ZE<|Rq Y (Zc (ov Y) Y Y Zde)<|Rx Y (Zj (ov Y) (ov Y) (Zn tS9) Y Y Y (Nat.le_of_ble_eq_true Y) (Zd Y) Y)<|Za<|⟨_,h,ES [some 0,some 1]⟩
      ·
       exact Zf<|⟨_,h,ES [some 0,some 1]⟩
    ·
     refine K6 2 5 6 10 11 21 Y<|Tr<|R2 Qq Y<|Ra Y<|Za<|K7 2 5 6 10 11 21 52 Y<|If h Y (fun h=>?_) fun h=>?_
     ·
      refine K5 2 5 6 10 11 Y<|Tr<|Rq Y (Zg (ov Y) ZeP)<|Rq Y (Zb (ov Y) tS4 Y)<|Za<|K6 2 5 6 10 11 55 Y<|If h Y (fun h=>?_) fun h=>?_
      ·
       exact K5 2 5 6 10 11 Y<|ZE<|Rq Y (Zg (ov Y) ZeQ)<|Rq Y (Zb (ov Y) tS3 Y)<|Rm Y<|Rq Y (Zg (ov Y) ZeW)<|Rq Y (Zb (ov Y) tS3 Y)<|bE h fun y4 h_y4 h=>Rq Y (Zo (ZaP h_y4)<|.cons (ov Y) (.b Y)<|.cons (ov Y) (.b Y)<|.cons (ov Y) (.b Y) .nil)<|Rq Y (Zc (ov Y) Y Y Zde)<|Rx Y (Zj (ov Y) (ov Y) (Zn tS9) Y Y Y (Nat.le_of_ble_eq_true Y) (Zd Y) Y)<|Za<|⟨_,h,ES [some 0,some 1]⟩
      ·
       exact Zf<|⟨_,h,ES [some 0,some 1]⟩
     ·
      refine K6 2 5 6 10 11 21 Y<|Tr<|R2 Qq Y<|Ra Y<|Za<|K7 2 5 6 10 11 21 63 Y<|If h Y (fun h=>?_) fun h=>?_
      ·
       exact K3 6 10 11 Y<|ZE<|Rq Y (Zg (ov Y) Zfj)<|Rq Y (Zb (ov Y) tS3 Y)<|bE h fun y5 h_y5 h=>Rq Y (Zo (ZeJ h_y5)<|.cons (ov Y) (.b Y) .nil)<|Rq Y (Zc (ov Y) Y Y Zde)<|Rx Y (Zj (ov Y) (ov Y) (Zn tS9) Y Y Y (Nat.le_of_ble_eq_true Y) (Zd Y) Y)<|Za<|⟨_,h,ES [some 0,some 1]⟩
      ·
       refine K6 2 5 6 10 11 21 Y<|Tr<|R2 Qq Y<|Ra Y<|Za<|K6 2 5 6 10 11 69 Y<|If h Y (fun h=>?_) fun h=>?_
       ·
        refine K5 2 5 6 10 11 Y<|Tr<|Ra Y<|Za<|I1 (fun l=>⟨[(10,.ptr 0 1 0 0),(11,.ptr 1 1 0 0),(12,.own 2 l.length)],[some ⟨39,[[.str [],.int .i64 0,.bool false,.int .i64 0]]⟩,some ⟨39,[[.str [45,45,45],.int .i64 0,.bool m.Lit,.int .i64 x.Mark]]⟩,some ⟨9,List.map R9 l⟩]⟩) h (fun h=>?_) fun l h=>?_
        ·
         refine Tr<|Rq Y (Zg (ov Y) Zbf)<|Rq Y (Zb (ov Y) Zfg Y)<|Rl tZ_3 XM Y<|Rm Y<|Za<|Zk<|?_
         obtain⟨r1,hl1,ho1⟩:=XB h
         refine L2 (fun l2 i2=>⟨[(2,.int .i64 den),(5,.rp [.int .i64 i.Kind,.str i.Name,.str i.Track,.int .i64 i.Places,.int .i64 i.Low,.int .i64 i.High,.int .i64 i.Steps,.sl 136 (List.map R136 i.Zones),.int .i64 i.Op,.int .i64 i.N,.bool i.Latch,.int .i64 i.Size] 0),(10,.ptr 0 1 0 0),(11,.ptr 1 1 0 0),(12,.own 2 l2.length),(72,.sl 3 (List.map R3 m.Tape)),(73,.int .i64 (m.Tape.length:Int)),(74,.int .i64 i2)],[some ⟨39,[[.str [],.int .i64 0,.bool false,.int .i64 0]]⟩,some ⟨39,[[.str [45,45,45],.int .i64 0,.bool m.Lit,.int .i64 x.Mark]]⟩,some ⟨9,List.map R9 l2⟩]⟩) hl1 (ES [some 0,some 1,none]) fun n1 l2 i2 h=>?_
         unfold XY at h
         refine Tr<|R2 ZU Y<|Za<|Zl<|If h Y (fun h=>?_) fun h=>?_
         ·
          exact Zf<|Zl<|Zk<|K8 2 5 10 11 12 72 73 74 Y<|Tr<|bE h fun x2 h_x2 h=>Rq Y (Qa (ov Y) (ov Y) XM h_x2)<|Rq Y (Zb (ov Y) tS3 Y)<|Ra Y<|Za<|K9 2 5 10 11 12 14 72 73 74 Y<|ZE<|Rm Y<|Rm Y<|Rm Y<|Rq Y (Zg (ov Y) ZeW)<|Rq Y (Zb (ov Y) tS3 Y)<|bE h fun y6 h_y6 h=>Rq Y (Zo (ZaP h_y6)<|.cons (ov Y) (.b Y)<|.cons (ov Y) (.b Y)<|.cons (ov Y) (.b Y) .nil)<|R_q (.sl 9<|List.map R9 ([y6]:List Str)) Y (Zds ZiT (.cons (cvs (ov Y)<|Qp Y) Y (.cons (.b Y) .nil) .nil) Y Y)<|bE h fun l3 h_l3 h=>Rx Y (ZbM (ov Y) (JF (ov Y) tZ_9) ZiT Y Y Y (fun _=>Zd Y) Y h_l3)<|Ra Y<|Za<|K8 2 5 10 11 12 72 73 74 Y<|ZE<|R2 Q4 Y<|Rm Y<|Za<|⟨_,h,ES [some 0,some 1,some 2]⟩
         ·
          refine ZL<|?_
          replace h:=lx h▸ho1
          exact⟨_,h,ES [some 0,some 1,some 2]⟩
        ·
         refine Tr<|Rm Y<|Rq Y (Zcl (ov Y) Y Y ZiT)<|R2 QN Y<|Za<|K4 10 11 12 89 Y<|If h Y (fun h=>?_) fun h=>?_
         ·
          exact K3 10 11 12 Y<|ZE<|Rm Y<|bE h fun y7 h_y7 h=>Rq Y (ZaZ (ZiK h_y7) .str<|.cons (ov Y) (View.ownM Y Y D9)<|.cons (ov Y) (Dat.view<|.b Y) .nil)<|Rq Y (Zc (ov Y) Y Y Zde)<|Rx Y (Zj (ov Y) (ov Y) (Zn tS9) Y Y Y (Nat.le_of_ble_eq_true Y) (Zd Y) Y)<|Za<|⟨_,h,ES [some 0,some 1]⟩
         ·
          exact Zf<|⟨_,h,ES [some 0,some 1]⟩
       ·
        exact Zf<|⟨_,h,ES [some 0,some 1]⟩
 ·
  refine Tr<|Rq Y (ZY (ov Y) Y Y Y Zh2 Y Y)<|Rx Y (Zj (ov Y) (ov Y) (Zv Zh2 Y) Y Y Y (Nat.le_of_ble_eq_true Y) (Zd Y) Y)<|Za<|?_
  obtain rfl:=rt h
  exact Zi (Zu Y (.one<|.agg Y Y Y Y Zh2 Y Y<|pwB Y))
theorem ZeM{p:api_Panel}{l:List api_Track}{s:api_PanelState}{r:(List api_Face)}(h:ZaB p l s=some r):
 CSpec Tryz.prog gl0 45 [.agg [.sl 49 (List.map R49 p.Instruments)],.sl 54 (List.map R54 l),.agg [.int .i64 s.Frame,.sl 99 (List.map R99 s.Memos)]] (.sl 39 (List.map R39 r)):=by
 unfold ZaB at h
 replace h:=ZM h
 refine So Tryz.func45 Y fun w0 A=>Tr<|Rq Y (Z0 (cva<|ov Y) Y tZ_24 Y)<|Rq Y (Z0 (cva<|ov Y) Y tZ_44 Y)<|Ra Y<|Za<|K3 1 3 5 Y<|Tr<|Ra Y<|Za<|I1 (fun out=>⟨[(7,.own 0 out.length)],[some ⟨39,List.map R39 out⟩]⟩) h (fun h=>?_) fun out h=>?_
 ·
  refine Tr<|Rq Y (Zg (ov Y) ZaN)<|Rq Y (Zb (ov Y) Zem Y)<|Rl tZ_49 Zcq Y<|Rm Y<|Za<|Zk<|?_
  obtain⟨r1,hl1,ho1⟩:=XB h
  refine L2 (fun out2 i=>⟨[(1,.sl 54 (List.map R54 l)),(5,.rp [.int .i64 s.Frame,.sl 99 (List.map R99 s.Memos)] 0),(7,.own 0 out2.length),(14,.sl 49 (List.map R49 p.Instruments)),(15,.int .i64 (p.Instruments.length:Int)),(16,.int .i64 i)],[some ⟨39,List.map R39 out2⟩]⟩) hl1 (ES [none]) fun n1 out2 i h=>?_
  unfold XF at h
  refine Tr<|R2 ZU Y<|Za<|Zl<|If h Y (fun h=>?_) fun h=>?_
  ·
   refine Zf<|Zl<|Zk<|K6 1 5 7 14 15 16 Y<|Tr<|Rm Y<|bE h fun x h_x h=>Rq Y (Qa (ov Y) (ov Y) Zcq h_x)<|Rq Y (Zy (ov Y) Zcu Y Y)<|Rx Y (ZO (row:= [_,_,_,_,_,_,_,_,_,_,_,_]) 1 Y ZkE Y tZ_49)<|Ra Y<|Rx Y (Zj (ov Y) (ov Y) (Zv Zcu Y) Y Y Y (Nat.le_of_ble_eq_true Y) (Zd Y) Y)<|Za<|K8 1 5 7 8 9 14 15 16 Y<|Tr<|Rm Y<|Rm Y<|Rq Y (ZY (ov Y) Y Y Y Zcu Y Y)<|bE h fun y h_y h=>Rq Y (Zo (Zao h_y)<|.cons (ov Y) (.b Y)<|.cons (ov Y) (.aggB Y) .nil)<|bE h fun x2 h_x2 h=>Rq Y (Qa (ov Y) (ov Y) ZdN h_x2)<|Rq Y (Zy (ov Y) Zhj Y Y)<|Rx Y (ZO (row:= [_,_,_,_]) 2 Y Zlm Y tZ_54)<|Rx Y (Zj (ov Y) (ov Y) (Zv Zhj Y) Y Y Y (Nat.le_of_ble_eq_true Y) (Zd Y) Y)<|Za<|K9 1 5 7 8 9 10 14 15 16 Y<|Tr<|Rx Y (ZO (row:= [_,_,_]) 3 Y Zhk Y tZ_56)<|Za<|Tr<|Ra Y<|Za<|I2 (fun x3 known=>⟨[(1,.sl 54 (List.map R54 l)),(5,.rp [.int .i64 s.Frame,.sl 99 (List.map R99 s.Memos)] 0),(7,.own 0 out2.length),(8,.int .i64 i),(9,.ptr 1 1 0 0),(10,.ptr 2 1 0 0),(11,.ptr 3 1 0 0),(12,.bool known),(14,.sl 49 (List.map R49 p.Instruments)),(15,.int .i64 (p.Instruments.length:Int)),(16,.int .i64 i)],[some ⟨39,List.map R39 out2⟩,some ⟨49,[[.int .i64 x.Kind,.str x.Name,.str x.Track,.int .i64 x.Places,.int .i64 x.Low,.int .i64 x.High,.int .i64 x.Steps,.sl 136 (List.map R136 x.Zones),.int .i64 x.Op,.int .i64 x.N,.bool x.Latch,.int .i64 x.Size]]⟩,some ⟨54,[[.str x2.Name,.int .i64 x2.Series.Den,.sl 56 (List.map R56 x2.Series.Samples),.int .i64 x2.Long]]⟩,some ⟨56,[[.int .i64 x3.At,.int .i64 x3.N,.int .i64 x3.Mark]]⟩]⟩) h (fun h=>?_) fun x3 known h=>?_
   ·
    refine Tr<|Rq Y (Zg (ov Y) X6)<|Rq Y (Zb (ov Y) tS3 Y)<|R2 Zag Y<|Za<|K12 1 5 7 8 9 10 11 12 14 15 16 29 Y<|If h Y (fun h=>?_) fun h=>?_
    ·
     exact K11 1 5 7 8 9 10 11 12 14 15 16 Y<|ZE<|Rq Y (ZY (ov Y) Y Y Y Zhj Y Y)<|Rq Y (Zg (ov Y) X6)<|Rq Y (Zb (ov Y) tS3 Y)<|bE h fun y2 h_y2 h=>Rq Y (Zo (Zcr h_y2)<|.cons (ov Y) (.aggB Y)<|.cons (ov Y) (.b Y) .nil)<|Rm Y<|Rq Y (Zr (ov Y) Y)<|Rq Y (Zr (ov Y) Y)<|Rx Y (Zj (ov Y) (ov Y) (Zv Zcx Y) Y Y Y (Nat.le_of_ble_eq_true Y) (Zd Y) Y)<|Ra Y<|Za<|⟨_,h,ES [some 0,some 1,some 2,some 3]⟩
    ·
     exact Zf<|⟨_,h,ES [some 0,some 1,some 2,some 3]⟩
   ·
    exact Zbh (cw:=md0) (by kernel_rfl)<|D1 0 Ze Y<|Dq 1 Y (ZY (ov Y) Y Y Y Zcu Y Y)<|Dq 2 Y (Zg (ov Y) X0)<|Dq 3 Y (Zb (ov Y) Zcf Y)<|D1 4 Ze Y<|bE h fun x4 h_x4 h=>Dq 5 Y (Qa (ov Y) (ov Y) ZbX h_x4)<|Dq 6 Y (Zy (ov Y) Zeq Y Y)<|Dq 7 Y (Zc (ov Y) Y Y ZeV)<|Dq 8 Y (Zc (ov Y) Y Y Zjn)<|Dq 9 Y (Zm (ov Y) Y Y Y tS3 Y)<|Dq 10 Y (ZY (ov Y) Y Y Y Zcx Y Y)<|D1 11 Ze Y<|bE h fun y3 h_y3 h=>Dq 12 Y (Zo (ZfB h_y3)<|.cons (ov Y) (.aggB Y)<|.cons (ov Y) (.aggB Y)<|.cons (ov Y) (.b Y)<|.cons (ov Y) (.aggB Y)<|.cons (ov Y) (.b Y) .nil)<|Zir 13 (.sl 39<|List.map R39 ([y3]:List api_Face)) Y (by kernel_rfl) Y Y (Zds Zht (.cons (cva<|ov Y) Y (pwD Y) .nil) Y Y)<|bE h fun l2 h_l2 h=>Do 14 Y (ZbM (ov Y) (JF (ov Y) tZ_39) Zht Y Y Y (fun _=>Zd Y) Y h_l2)<|D1 15 Ji Y<|Dd<|K6 1 5 7 14 15 16 Y<|ZE<|R2 Q4 Y<|Rm Y<|Za<|⟨_,h,ES [some 0]⟩
  ·
   refine ZL<|?_
   replace h:=lx h▸ho1
   exact⟨_,h,ES [some 0]⟩
 ·
  refine Tr<|Rm Y<|Ra Y<|Za<|?_
  obtain rfl:=rt h
  exact Zi (Zu Y (.one<|.tmp Y<|View.ownM Y Y D39))
theorem XP{r_:panel_Replay}{r:(List api_Face)}(h:Q2 r_=some r):
 GSpec Tryz.prog gl0 13 [.ptr 0 1 0 0] [some ⟨91,[[.sl 49 (List.map R49 r_.p.Instruments),.sl 54 (List.map R54 r_.l),.int .i64 r_.keep,.int .i64 r_.state.Frame,.sl 99 (List.map R99 r_.state.Memos),.own 1 r_.kept.length,.own 2 r_.marks.length]]⟩,some ⟨44,List.map R44 r_.kept⟩,some ⟨120,List.map R120 r_.marks⟩] (.sl 39 (List.map R39 r)) [some ⟨91,[[.sl 49 (List.map R49 r_.p.Instruments),.sl 54 (List.map R54 r_.l),.int .i64 r_.keep,.int .i64 r_.state.Frame,.sl 99 (List.map R99 r_.state.Memos),.own 3 r_.kept.length,.own 4 r_.marks.length]]⟩,none,none,some ⟨44,List.map R44 r_.kept⟩,some ⟨120,List.map R120 r_.marks⟩]:=by
 unfold Q2 at h
 replace h:=ZM h
 refine Qs (by kernel_rfl) Tryz.func13 Y Y<|?_
 intro w0 A W φ0
 refine Za5 (Ent.sel [some 0,some 1,some 2,some 1,some 2] (sr 0 Y (.ptr (r':=0) _ _ _ Y) sn) (.cons Y (ro1 (by exact tZ_91.symm)<|rlc (.dat Y)<|rlc (.dat Y)<|rlc (.dat Y)<|rlc (.dat Y)<|rlc (.dat Y)<|rlc (.own (r':=3) _ Y)<|rlc (.own (r':=4) _ Y) rln)<|.dead<|.dead<|.cons Y (roM D44)<|.cons Y (roM D120) .nil) Y Y)<|Tr<|Ra Y<|Za<|Td md0<|D1 0 Ze Y<|Dq 1 Y (Zh (ov Y) Y Y)<|Dq 2 Y (Zc (ov Y) Y Y Zgv)<|Dq 3 Y (ZY (ov Y) Y Y Y Zdg Y Y)<|D1 4 Ze Y<|Dq 5 Y (Zh (ov Y) Y Y)<|Dq 6 Y (Zc (ov Y) Y Y Zhr)<|Dq 7 Y (Zm (ov Y) Y Y Y Zi5 Y)<|D1 8 Ze Y<|Dq 9 Y (Zh (ov Y) Y Y)<|Dq 10 Y (Zc (ov Y) Y Y Jt)<|Dq 11 Y (ZY (ov Y) Y Y Y X8 Y Y)<|bE h fun y h_y h=>Dq 12 Y (Zo (ZeM h_y)<|.cons (ov Y) (.aggB Y)<|.cons (ov Y) (.b Y)<|.cons (ov Y) (.aggB Y) .nil)<|D1 13 Ji Y<|Dd<|?_
 obtain rfl:=rt h
 exact Zi<|Zbe [some 0,some 1,some 2,some 3,some 4] Y (.cons (.tmp Y) .nil) (.cons Y (ro1 (by exact tZ_91.symm)<|rlc (.dat Y)<|rlc (.dat Y)<|rlc (.dat Y)<|rlc (.dat Y)<|rlc (.dat Y)<|rlc (.own _ Y)<|rlc (.own _ Y) rln)<|.dead<|.dead<|.cons Y (roM D44)<|.cons Y (roM D120) .nil) Y Y<|.dat Y
theorem JS{s1:List api_Face}{s2:List api_Face}{r:Bool}(h:ZT s1 s2=some r):
 CSpec Tryz.prog gl0 12 [.sl 39 (List.map R39 s1),.sl 39 (List.map R39 s2)] (.bool r):=by
 unfold ZT at h
 replace h:=ZM h
 refine So Tryz.func12 Y fun w0 A=>Tr<|Ra Y<|Za<|Zl<|K2 0 1 Y<|Tr<|Rm Y<|Rl tZ_39 Zht Y<|Rm Y<|Rl tZ_39 Zht Y<|R2 Qw Y<|Za<|K3 0 1 10 Y<|If h Y (fun h=>?_) fun h=>?_
 ·
  refine K0<|Tr<|Ra Y<|Za<|?_
  obtain rfl:=rt h
  exact Zi (Zu Y (.one<|rb Y))
 ·
  refine Zf<|J0 (fun j=>(.inr j)) ⟨[],[]⟩ h (fun h=>?_) fun h=>?_
  ·
   refine K2 0 1 Y<|Tr<|Rm Y<|Rl tZ_39 Zht Y<|Rm Y<|Za<|Zk<|?_
   obtain⟨r1,hl1,ho1⟩:=XB h
   refine L1 (fun i=>⟨[(0,.sl 39 (List.map R39 s1)),(1,.sl 39 (List.map R39 s2)),(12,.int .i64 (s1.length:Int)),(13,.int .i64 i)],[]⟩) hl1 (ES []) fun n1 i h=>?_
   unfold ZI at h
   refine Tr<|R2 ZU Y<|Za<|Zl<|If h Y (fun h=>?_) fun h=>?_
   ·
    refine Zf<|Zl<|Zk<|K4 0 1 12 13 Y<|Tr<|Rm Y<|Ra Y<|Za<|K5 0 1 5 12 13 Y<|Td md0<|D1 0 Ze Y<|D1 1 Ze Y<|bE h fun x h_x h=>Dq 2 Y (Qa (ov Y) (ov Y) Zht h_x)<|Dq 3 Y (Zy (ov Y) Zh2 Y Y)<|D1 4 Ze Y<|D1 5 Ze Y<|bE h fun x2 h_x2 h=>Dq 6 Y (Qa (ov Y) (ov Y) Zht h_x2)<|Dq 7 Y (Zy (ov Y) Zh2 Y Y)<|Dq 8 Y (Zki Zk7 (ov Y) (ov Y) (.aggB Y) (.aggB Y) Y Y)<|Dd<|K5 0 1 12 13 24 Y<|If h Y (fun h=>?_) fun h=>?_
    ·
     refine K0<|Tr<|Ra Y<|Za<|?_
     replace h:=lx h▸ho1
     obtain rfl:=rt h
     exact Zi (Zu Y (.one<|rb Y))
    ·
     exact Zf<|K4 0 1 12 13 Y<|ZE<|R2 Q4 Y<|Rm Y<|Za<|⟨_,h,ES []⟩
   ·
    refine ZL<|?_
    replace h:=lx h▸ho1
    exact⟨(),h,ES []⟩
  ·
   replace h:=elr h
   replace h:=t0i h
   refine Tr<|Ra Y<|Za<|?_
   obtain rfl:=rt h
   exact Zi (Zu Y (.one<|rb Y))
theorem XN{r_:panel_Replay}{r:api_PanelState}(h:Q0 r_=some r):
 GSpec Tryz.prog gl0 15 [.ptr 0 1 0 0] [some ⟨91,[[.sl 49 (List.map R49 r_.p.Instruments),.sl 54 (List.map R54 r_.l),.int .i64 r_.keep,.int .i64 r_.state.Frame,.sl 99 (List.map R99 r_.state.Memos),.own 1 r_.kept.length,.own 2 r_.marks.length]]⟩,some ⟨44,List.map R44 r_.kept⟩,some ⟨120,List.map R120 r_.marks⟩] (.agg [.int .i64 r.Frame,.sl 99 (List.map R99 r.Memos)]) [some ⟨91,[[.sl 49 (List.map R49 r_.p.Instruments),.sl 54 (List.map R54 r_.l),.int .i64 r_.keep,.int .i64 r_.state.Frame,.sl 99 (List.map R99 r_.state.Memos),.own 3 r_.kept.length,.own 4 r_.marks.length]]⟩,none,none,some ⟨44,List.map R44 r_.kept⟩,some ⟨120,List.map R120 r_.marks⟩]:=by
 unfold Q0 at h
 replace h:=ZM h
 refine Qs (by kernel_rfl) Tryz.func15 Y Y<|?_
 intro w0 A W φ0
 refine Za5 (Ent.sel [some 0,some 1,some 2,some 1,some 2] (sr 0 Y (.ptr (r':=0) _ _ _ Y) sn) (.cons Y (ro1 (by exact tZ_91.symm)<|rlc (.dat Y)<|rlc (.dat Y)<|rlc (.dat Y)<|rlc (.dat Y)<|rlc (.dat Y)<|rlc (.own (r':=3) _ Y)<|rlc (.own (r':=4) _ Y) rln)<|.dead<|.dead<|.cons Y (roM D44)<|.cons Y (roM D120) .nil) Y Y)<|Tr<|Rx Y (ZO (row:= [_,_]) 5 Y ZeS Y tZ_44)<|Za<|Tr<|Rm Y<|Rq Y (Zh (ov Y) Y Y)<|Rq Y (Zc (ov Y) Y Y Jt)<|Rq Y (ZY (ov Y) Y Y Y X8 Y Y)<|bE h fun y h_y h=>Rq Y (Zo (ZZ h_y)<|.cons (ov Y) (.aggB Y) .nil)<|Rx Y (Zj (ov Y) (ov Y) (Zv X8 Y) Y Y Y (Nat.le_of_ble_eq_true Y) (Zd Y) Y)<|Za<|?_
 obtain rfl:=rt h
 exact Zi<|Zbe [some 0,some 1,some 2,some 3,some 4] Y (.cons (.agg Y Y Y Y X8 Y Y) .nil) (.cons Y (ro1 (by exact tZ_91.symm)<|rlc (.dat Y)<|rlc (.dat Y)<|rlc (.dat Y)<|rlc (.dat Y)<|rlc (.dat Y)<|rlc (.own _ Y)<|rlc (.own _ Y) rln)<|.dead<|.dead<|.cons Y (roM D44)<|.cons Y (roM D120) .nil) Y Y<|ZaH<|rld Y
theorem ZbN{s1:List Int}{s2:List Int}{r:Bool}(h:QH s1 s2=some r):
 CSpec Tryz.prog gl0 46 [.sl 3 (List.map R3 s1),.sl 3 (List.map R3 s2)] (.bool r):=by
 unfold QH at h
 replace h:=ZM h
 refine So Tryz.func46 Y fun w0 A=>Tr<|Ra Y<|Za<|Zl<|K2 0 1 Y<|Tr<|Rm Y<|Rl tZ_3 XM Y<|Rm Y<|Rl tZ_3 XM Y<|R2 Qw Y<|Za<|K3 0 1 10 Y<|If h Y (fun h=>?_) fun h=>?_
 ·
  refine K0<|Tr<|Ra Y<|Za<|?_
  obtain rfl:=rt h
  exact Zi (Zu Y (.one<|rb Y))
 ·
  refine Zf<|J0 (fun j=>(.inr j)) ⟨[],[]⟩ h (fun h=>?_) fun h=>?_
  ·
   refine K2 0 1 Y<|Tr<|Rm Y<|Rl tZ_3 XM Y<|Rm Y<|Za<|Zk<|?_
   obtain⟨r1,hl1,ho1⟩:=XB h
   refine L1 (fun i=>⟨[(0,.sl 3 (List.map R3 s1)),(1,.sl 3 (List.map R3 s2)),(12,.int .i64 (s1.length:Int)),(13,.int .i64 i)],[]⟩) hl1 (ES []) fun n1 i h=>?_
   unfold Z6 at h
   refine Tr<|R2 ZU Y<|Za<|Zl<|If h Y (fun h=>?_) fun h=>?_
   ·
    refine Zf<|Zl<|Zk<|K4 0 1 12 13 Y<|Tr<|Rm Y<|Ra Y<|Za<|K5 0 1 5 12 13 Y<|Td md0<|D1 0 Ze Y<|D1 1 Ze Y<|bE h fun x h_x h=>Dq 2 Y (Qa (ov Y) (ov Y) XM h_x)<|Dq 3 Y (Zb (ov Y) tS3 Y)<|D1 4 Ze Y<|D1 5 Ze Y<|bE h fun x2 h_x2 h=>Dq 6 Y (Qa (ov Y) (ov Y) XM h_x2)<|Dq 7 Y (Zb (ov Y) tS3 Y)<|D2 8 Qw Y<|Dd<|K5 0 1 12 13 24 Y<|If h Y (fun h=>?_) fun h=>?_
    ·
     refine K0<|Tr<|Ra Y<|Za<|?_
     replace h:=lx h▸ho1
     obtain rfl:=rt h
     exact Zi (Zu Y (.one<|rb Y))
    ·
     exact Zf<|K4 0 1 12 13 Y<|ZE<|R2 Q4 Y<|Rm Y<|Za<|⟨_,h,ES []⟩
   ·
    refine ZL<|?_
    replace h:=lx h▸ho1
    exact⟨(),h,ES []⟩
  ·
   replace h:=elr h
   replace h:=t0i h
   refine Tr<|Ra Y<|Za<|?_
   obtain rfl:=rt h
   exact Zi (Zu Y (.one<|rb Y))
theorem Zdv{a:api_PanelState}{b:api_PanelState}{r:Bool}(h:Jd a b=some r):
 CSpec Tryz.prog gl0 14 [.agg [.int .i64 a.Frame,.sl 99 (List.map R99 a.Memos)],.agg [.int .i64 b.Frame,.sl 99 (List.map R99 b.Memos)]] (.bool r):=by
 unfold Jd at h
 replace h:=ZM h
 refine So Tryz.func14 Y fun w0 A=>Tr<|Rq Y (Z0 (cva<|ov Y) Y tZ_44 Y)<|Rq Y (Z0 (cva<|ov Y) Y tZ_44 Y)<|Ra Y<|Za<|Zl<|K2 2 3 Y<|Tr<|Rq Y (Zg (ov Y) X6)<|Rq Y (Zb (ov Y) tS3 Y)<|Rq Y (Zg (ov Y) X6)<|Rq Y (Zb (ov Y) tS3 Y)<|R2 Qw Y<|Rm Y<|Rq Y (.guarded ((!decide (a.Frame=b.Frame))==false) Y Y Y Y fun h=>Zg (ov Y) X0)<|Rq Y (.guarded ((!decide (a.Frame=b.Frame))==false) Y Y Y Y fun h=>Zb (ow Y h) Zcf Y)<|Rq Y (.guarded ((!decide (a.Frame=b.Frame))==false) Y Y Y Y fun h=>ZhR (JF (ow Y h) tZ_99) ZbX<|ZeE _ _)<|Rq Y (.guarded ((!decide (a.Frame=b.Frame))==false) Y Y Y Y fun h=>Zg (ov Y) X0)<|Rq Y (.guarded ((!decide (a.Frame=b.Frame))==false) Y Y Y Y fun h=>Zb (ow Y h) Zcf Y)<|Rq Y (.guarded ((!decide (a.Frame=b.Frame))==false) Y Y Y Y fun h=>ZhR (JF (ow Y h) tZ_99) ZbX<|ZeE _ _)<|Rq Y (.guarded ((!decide (a.Frame=b.Frame))==false) Y Y Y Y fun h=>Qw (ow Y h)<|ow Y h)<|Rq Y (Xa (ov Y) fun hp=>ow Y<|gF hp)<|Za<|K3 2 3 21 Y<|If h Y (fun h=>?_) fun h=>?_
 ·
  refine K0<|Tr<|Ra Y<|Za<|?_
  obtain rfl:=rt h
  exact Zi (Zu Y (.one<|rb Y))
 ·
  refine Zf<|J0 (fun j=>(.inr j)) ⟨[],[]⟩ h (fun h=>?_) fun h=>?_
  ·
   refine K2 2 3 Y<|Tr<|Rq Y (Zg (ov Y) X0)<|Rq Y (Zb (ov Y) Zcf Y)<|Rl tZ_99 ZbX Y<|Rm Y<|Za<|Zk<|?_
   obtain⟨r1,hl1,ho1⟩:=XB h
   refine L1 (fun i=>⟨[(3,.rp [.int .i64 b.Frame,.sl 99 (List.map R99 b.Memos)] 0),(23,.sl 99 (List.map R99 a.Memos)),(24,.int .i64 (a.Memos.length:Int)),(25,.int .i64 i)],[]⟩) hl1 (ES []) fun n1 i h=>?_
   unfold QJ at h
   refine Tr<|R2 ZU Y<|Za<|Zl<|If h Y (fun h=>?_) fun h=>?_
   ·
    refine Zf<|Zl<|Zk<|K4 3 23 24 25 Y<|Tr<|Rm Y<|bE h fun x h_x h=>Rq Y (Qa (ov Y) (ov Y) ZbX h_x)<|Rq Y (Zy (ov Y) Zeq Y Y)<|Rx Y (ZO (row:= [_,_,_,_,_]) 0 Y Zh6 Y tZ_99)<|Ra Y<|Rx Y (Zj (ov Y) (ov Y) (Zv Zeq Y) Y Y Y (Nat.le_of_ble_eq_true Y) (Zd Y) Y)<|Za<|K6 3 5 6 23 24 25 Y<|Tr<|Rq Y (Zg (ov Y) X0)<|Rq Y (Zb (ov Y) Zcf Y)<|Rm Y<|bE h fun x2 h_x2 h=>Rq Y (Qa (ov Y) (ov Y) ZbX h_x2)<|Rq Y (Zy (ov Y) Zeq Y Y)<|Rx Y (ZO (row:= [_,_,_,_,_]) 1 Y Zh6 Y tZ_99)<|Rx Y (Zj (ov Y) (ov Y) (Zv Zeq Y) Y Y Y (Nat.le_of_ble_eq_true Y) (Zd Y) Y)<|Za<|K6 3 6 7 23 24 25 Y<|Tr<|Rq Y (Zc (ov Y) Y Y Zb6)<|Rq Y (Zm (ov Y) Y Y Y tS4 Y)<|Rq Y (Zc (ov Y) Y Y Zb6)<|Rq Y (Zm (ov Y) Y Y Y tS4 Y)<|Rq Y (Ze8 .neq (by simp) (ov Y) (ov Y) tB4)<|Rm Y<|Rq Y (.guarded ((!(x.Lit==x2.Lit))==false) Y Y Y Y fun h=>Zc (ov Y) Y Y ZeP)<|Rq Y (.guarded ((!(x.Lit==x2.Lit))==false) Y Y Y Y fun h=>Zm (ow Y h) Y Y Y tS4 Y)<|Rq Y (.guarded ((!(x.Lit==x2.Lit))==false) Y Y Y Y fun h=>Zc (ov Y) Y Y ZeP)<|Rq Y (.guarded ((!(x.Lit==x2.Lit))==false) Y Y Y Y fun h=>Zm (ow Y h) Y Y Y tS4 Y)<|Rq Y (.guarded ((!(x.Lit==x2.Lit))==false) Y Y Y Y fun h=>Ze8 .neq (by simp) (ow Y h) (ow Y h) tB4)<|Rq Y (Xa (ov Y) fun hp=>ow Y<|gF hp)<|Rm Y<|Rq Y (.guarded (((!(x.Lit==x2.Lit)) || (!(x.Some==x2.Some)))==false) Y Y Y Y fun h=>Zc (ov Y) Y Y ZeQ)<|Rq Y (.guarded (((!(x.Lit==x2.Lit)) || (!(x.Some==x2.Some)))==false) Y Y Y Y fun h=>Zm (ow Y h) Y Y Y tS3 Y)<|Rq Y (.guarded (((!(x.Lit==x2.Lit)) || (!(x.Some==x2.Some)))==false) Y Y Y Y fun h=>Zc (ov Y) Y Y ZeQ)<|Rq Y (.guarded (((!(x.Lit==x2.Lit)) || (!(x.Some==x2.Some)))==false) Y Y Y Y fun h=>Zm (ow Y h) Y Y Y tS3 Y)<|Rq Y (.guarded (((!(x.Lit==x2.Lit)) || (!(x.Some==x2.Some)))==false) Y Y Y Y fun h=>Qw (ow Y h)<|ow Y h)<|Rq Y (Xa (ov Y) fun hp=>ow Y<|gF hp)<|Rm Y<|Rq Y (.guarded ((((!(x.Lit==x2.Lit)) || (!(x.Some==x2.Some))) || (!decide (x.N=x2.N)))==false) Y Y Y Y fun h=>Zc (ov Y) Y Y Zfj)<|Rq Y (.guarded ((((!(x.Lit==x2.Lit)) || (!(x.Some==x2.Some))) || (!decide (x.N=x2.N)))==false) Y Y Y Y fun h=>Zm (ow Y h) Y Y Y tS3 Y)<|Rq Y (.guarded ((((!(x.Lit==x2.Lit)) || (!(x.Some==x2.Some))) || (!decide (x.N=x2.N)))==false) Y Y Y Y fun h=>Zc (ov Y) Y Y Zfj)<|Rq Y (.guarded ((((!(x.Lit==x2.Lit)) || (!(x.Some==x2.Some))) || (!decide (x.N=x2.N)))==false) Y Y Y Y fun h=>Zm (ow Y h) Y Y Y tS3 Y)<|Rq Y (.guarded ((((!(x.Lit==x2.Lit)) || (!(x.Some==x2.Some))) || (!decide (x.N=x2.N)))==false) Y Y Y Y fun h=>Qw (ow Y h)<|ow Y h)<|Rq Y (Xa (ov Y) fun hp=>ow Y<|gF hp)<|Rm Y<|Rq Y (.guarded (((((!(x.Lit==x2.Lit)) || (!(x.Some==x2.Some))) || (!decide (x.N=x2.N))) || (!decide (x.Count=x2.Count)))==false) Y Y Y Y fun h=>Zc (ov Y) Y Y Zbf)<|Rq Y (.guarded (((((!(x.Lit==x2.Lit)) || (!(x.Some==x2.Some))) || (!decide (x.N=x2.N))) || (!decide (x.Count=x2.Count)))==false) Y Y Y Y fun h=>Zm (ow Y h) Y Y Y Zfg Y)<|Rq Y (.guarded (((((!(x.Lit==x2.Lit)) || (!(x.Some==x2.Some))) || (!decide (x.N=x2.N))) || (!decide (x.Count=x2.Count)))==false) Y Y Y Y fun h=>Zc (ov Y) Y Y Zbf)<|Rq Y (.guarded (((((!(x.Lit==x2.Lit)) || (!(x.Some==x2.Some))) || (!decide (x.N=x2.N))) || (!decide (x.Count=x2.Count)))==false) Y Y Y Y fun h=>Zm (ow Y h) Y Y Y Zfg Y)<|bE h fun y h_y h=>Rq Y (.guarded (((((!(x.Lit==x2.Lit)) || (!(x.Some==x2.Some))) || (!decide (x.N=x2.N))) || (!decide (x.Count=x2.Count)))==false) Y Y Y Y fun h=>Zo (ZbN<|gdT h_y h)<|.cons (ow Y h) (.b Y)<|.cons (ow Y h) (.b Y) .nil)<|Rq Y (.guarded (((((!(x.Lit==x2.Lit)) || (!(x.Some==x2.Some))) || (!decide (x.N=x2.N))) || (!decide (x.Count=x2.Count)))==false) Y Y Y Y fun h=>Qz<|ow Y h)<|Rq Y (Xa (ov Y) fun hp=>ow Y<|gF hp)<|Za<|K5 3 23 24 25 68 Y<|If h Y (fun h=>?_) fun h=>?_
    ·
     refine K0<|Tr<|Ra Y<|Za<|?_
     replace h:=lx h▸ho1
     obtain rfl:=rt h
     exact Zi (Zu Y (.one<|rb Y))
    ·
     exact Zf<|K4 3 23 24 25 Y<|ZE<|R2 Q4 Y<|Rm Y<|Za<|⟨_,h,ES []⟩
   ·
    refine ZL<|?_
    replace h:=lx h▸ho1
    exact⟨(),h,ES []⟩
  ·
   replace h:=elr h
   replace h:=t0i h
   refine Tr<|Ra Y<|Za<|?_
   obtain rfl:=rt h
   exact Zi (Zu Y (.one<|rb Y))
theorem Zcm{p:api_Panel}{l:List api_Track}{keep:Int}{way:List Int}{frame:Int}{r:Bool}(h:Xg p l keep way frame=some r):
 CSpec Tryz.prog gl0 3 [.agg [.sl 49 (List.map R49 p.Instruments)],.sl 54 (List.map R54 l),.int .i64 keep,.sl 3 (List.map R3 way),.int .i64 frame] (.bool r):=by
 unfold Xg at h
 replace h:=ZM h
 refine So Tryz.func3 Y fun w0 A=>Tr<|Rq Y (Z0 (cva<|ov Y) Y tZ_24 Y)<|Ra Y<|Za<|Zl<|K5 1 2 3 4 5 Y<|Tr<|bE h fun y h_y h=>Rq Y (Zo (Zgg h_y) .nil)<|R1 Qz Y<|Za<|K6 1 2 3 4 5 21 Y<|If h Y (fun h=>?_) fun h=>?_
 ·
  refine K0<|Tr<|Ra Y<|Za<|?_
  obtain rfl:=rt h
  exact Zi (Zu Y (.one<|rb Y))
 ·
  refine Zf<|K5 1 2 3 4 5 Y<|Tr<|Rq Y (Zy (ov Y) Zdg Y Y)<|Rm Y<|Rm Y<|bE h fun y2 h_y2 h=>?_
  rcases y2 with y2 |y2
  ·
   replace h:=ell h
   refine Rx Y (ZS [] (JI h_y2) (.cons (ov Y) (ZaH<|rld Y)<|.cons (ov Y) (.dat Y)<|.cons (ov Y) (.dat Y) .nil) .nil Y .nil Y Y<|Jw<|rlc (.dat Y)<|rlc (.dat Y) rln)<|Rm Y<|Rq Y (Zr (ov Y) Y)<|Rq Y (Zr (ov Y) Y)<|Ra Y<|Ra Y<|Za<|K6 1 3 4 5 11 12 Y<|Tr<|Rq Y (Zy (ov Y) Zdg Y Y)<|Rm Y<|bE h fun y3 h_y3 h=>?_
   rcases y3 with y3 |y3
   ·
    replace h:=ell h
    refine Rx Y (ZS [] (JI h_y3) (.cons (ov Y) (ZaH<|rld Y)<|.cons (ov Y) (.dat Y)<|.cons (ov Y) (.dat Y) .nil) .nil Y .nil Y Y<|Jw<|rlc (.dat Y)<|rlc (.dat Y) rln)<|Rm Y<|Rq Y (Zr (ov Y) Y)<|Rq Y (Zr (ov Y) Y)<|Ra Y<|Ra Y<|Za<|Zl<|K6 3 4 11 12 13 14 Y<|Tr<|Rm Y<|R2 Qw Y<|Rm Y<|Rq Y (.guarded ((!decide (y2=0))==false) Y Y Y Y fun h=>Ze<|ov Y)<|Rq Y (.guarded ((!decide (y2=0))==false) Y Y Y Y fun h=>Qw (ow Y h)<|ov Y)<|Rq Y (Xa (ov Y) fun hp=>ow Y<|gF hp)<|Rm Y<|Rq Y (.guarded (((!decide (y2=0)) || (!decide (y3=0)))==false) Y Y Y Y fun h=>Ze<|ov Y)<|Rq Y (.guarded (((!decide (y2=0)) || (!decide (y3=0)))==false) Y Y Y Y fun h=>ZU (ow Y h)<|ov Y)<|Rq Y (Xa (ov Y) fun hp=>ow Y<|gF hp)<|Rm Y<|Rq Y (.guarded ((((!decide (y2=0)) || (!decide (y3=0))) || (decide (frame<0)))==false) Y Y Y Y fun h=>Ze<|ov Y)<|Rq Y (.guarded ((((!decide (y2=0)) || (!decide (y3=0))) || (decide (frame<0)))==false) Y Y Y Y fun h=>QN (ow Y h)<|ov Y)<|Rq Y (Xa (ov Y) fun hp=>ow Y<|gF hp)<|Za<|K5 3 4 11 13 48 Y<|If h Y (fun h=>?_) fun h=>?_
    ·
     refine K0<|Tr<|Ra Y<|Za<|?_
     obtain rfl:=rt h
     exact Zi (Zu Y (.one<|rb Y))
    ·
     refine Zf<|J0 (fun j=>(.inr j)) ⟨[(4,.int .i64 frame),(11,.lit (.pointer none)),(13,.lit (.pointer none))],[]⟩ h (fun h=>?_) fun h=>?_
     ·
      refine K4 3 4 11 13 Y<|Tr<|Rm Y<|Rl tZ_3 XM Y<|Rm Y<|Za<|Zk<|?_
      obtain⟨r1,hl1,ho1⟩:=XB h
      refine L0 ⟨[(4,.int .i64 frame),(11,.lit (.pointer none)),(13,.lit (.pointer none)),(49,.sl 3 (List.map R3 way)),(50,.int .i64 (way.length:Int)),(51,.int .i64 0)],[]⟩ hl1 (ES []) fun n1 h=>?_
      unfold Zaw at h
      refine Tr<|R2 ZU Y<|Za<|Zl<|If h Y (fun h=>?_) fun h=>?_
      ·
       refine Zf<|Zl<|Zk<|K6 4 11 13 49 50 51 Y<|Tr<|bE h fun x h_x h=>Rq Y (Qa (ov Y) (ov Y) XM h_x)<|Rq Y (Zb (ov Y) tS3 Y)<|Ra Y<|Za<|Zl<|K7 4 11 13 16 49 50 51 Y<|Tr<|Rm Y<|R2 QN Y<|Za<|K8 4 11 13 16 49 50 51 56 Y<|If h Y (fun h=>?_) fun h=>?_
       ·
        refine K0<|Tr<|Ra Y<|Za<|?_
        replace h:=lx h▸ho1
        obtain rfl:=rt h
        exact Zi (Zu Y (.one<|rb Y))
       ·
        exact Zf<|(Zfv h).elim
      ·
       refine ZL<|?_
       replace h:=lx h▸ho1
       exact⟨(),h,ES []⟩
     ·
      replace h:=elr h
      replace h:=t0i h
      exact Zl<|(Zfv h).elim
   ·
    replace h:=elr h
    refine Rx Y (ZS [] (JG h_y3) (.cons (ov Y) (ZaH<|rld Y)<|.cons (ov Y) (.dat Y)<|.cons (ov Y) (.dat Y) .nil) .nil Y (.lent 0 (.inr ⟨Nat.le_of_ble_eq_true Y,Y⟩) Y (ro1 (by exact tZ_91.symm)<|rlc (.dat Y)<|rlc (.dat Y)<|rlc (.dat Y)<|rlc (.dat Y)<|rlc (.dat Y)<|rlc (.own _<|.inr ⟨Nat.le_of_ble_eq_true Y,Y⟩)<|rlc (.own _<|.inr ⟨Nat.le_of_ble_eq_true Y,Y⟩) rln)<|.lent 1 (.inr ⟨Nat.le_of_ble_eq_true Y,Y⟩) Y (roM D44)<|.lent 2 (.inr ⟨Nat.le_of_ble_eq_true Y,Y⟩) Y (roM D120) .nil) Y Y<|Jw<|rlc (.ptr _ _ _<|.inr ⟨Nat.le_of_ble_eq_true Y,Y⟩)<|rlc (.dat Y) rln)<|Rm Y<|Rq Y (Zr (ov Y) Y)<|Rq Y (Zr (ov Y) Y)<|Ra Y<|Ra Y<|Za<|Zl<|K6 3 4 11 12 13 14 Y<|Tr<|Rm Y<|R2 Qw Y<|Rm Y<|Rq Y (.guarded ((!decide (y2=0))==false) Y Y Y Y fun h=>Ze<|ov Y)<|Rq Y (.guarded ((!decide (y2=0))==false) Y Y Y Y fun h=>Qw (ow Y h)<|ov Y)<|Rq Y (Xa (ov Y) fun hp=>ow Y<|gF hp)<|Rm Y<|Rq Y (.guarded (((!decide (y2=0)) || (!decide (y3.2=0)))==false) Y Y Y Y fun h=>Ze<|ov Y)<|Rq Y (.guarded (((!decide (y2=0)) || (!decide (y3.2=0)))==false) Y Y Y Y fun h=>ZU (ow Y h)<|ov Y)<|Rq Y (Xa (ov Y) fun hp=>ow Y<|gF hp)<|Rm Y<|Rq Y (.guarded ((((!decide (y2=0)) || (!decide (y3.2=0))) || (decide (frame<0)))==false) Y Y Y Y fun h=>Ze<|ov Y)<|Rq Y (.guarded ((((!decide (y2=0)) || (!decide (y3.2=0))) || (decide (frame<0)))==false) Y Y Y Y fun h=>QN (ow Y h)<|ov Y)<|Rq Y (Xa (ov Y) fun hp=>ow Y<|gF hp)<|Za<|K5 3 4 11 13 48 Y<|If h Y (fun h=>?_) fun h=>?_
    ·
     refine K0<|Tr<|Ra Y<|Za<|?_
     obtain rfl:=rt h
     exact Zi (Zu Y (.one<|rb Y))
    ·
     refine Zf<|J0 (fun j=>(.inr j)) ⟨[(4,.int .i64 frame),(11,.lit (.pointer none)),(13,.ptr 0 1 0 0)],[some ⟨91,[[.sl 49 (List.map R49 y3.1.p.Instruments),.sl 54 (List.map R54 y3.1.l),.int .i64 y3.1.keep,.int .i64 y3.1.state.Frame,.sl 99 (List.map R99 y3.1.state.Memos),.own 1 y3.1.kept.length,.own 2 y3.1.marks.length]]⟩,some ⟨44,List.map R44 y3.1.kept⟩,some ⟨120,List.map R120 y3.1.marks⟩]⟩ h (fun h=>?_) fun h=>?_
     ·
      refine K4 3 4 11 13 Y<|Tr<|Rm Y<|Rl tZ_3 XM Y<|Rm Y<|Za<|Zk<|?_
      obtain⟨r2,hl2,ho2⟩:=XB h
      refine L0 ⟨[(4,.int .i64 frame),(11,.lit (.pointer none)),(13,.ptr 0 1 0 0),(49,.sl 3 (List.map R3 way)),(50,.int .i64 (way.length:Int)),(51,.int .i64 0)],[some ⟨91,[[.sl 49 (List.map R49 y3.1.p.Instruments),.sl 54 (List.map R54 y3.1.l),.int .i64 y3.1.keep,.int .i64 y3.1.state.Frame,.sl 99 (List.map R99 y3.1.state.Memos),.own 1 y3.1.kept.length,.own 2 y3.1.marks.length]]⟩,some ⟨44,List.map R44 y3.1.kept⟩,some ⟨120,List.map R120 y3.1.marks⟩]⟩ hl2 (ES [some 0,some 1,some 2]) fun n2 h=>?_
      unfold ZaA at h
      refine Tr<|R2 ZU Y<|Za<|Zl<|If h Y (fun h=>?_) fun h=>?_
      ·
       refine Zf<|Zl<|Zk<|K6 4 11 13 49 50 51 Y<|Tr<|bE h fun x2 h_x2 h=>Rq Y (Qa (ov Y) (ov Y) XM h_x2)<|Rq Y (Zb (ov Y) tS3 Y)<|Ra Y<|Za<|Zl<|K7 4 11 13 16 49 50 51 Y<|Tr<|Rm Y<|R2 QN Y<|Za<|K8 4 11 13 16 49 50 51 56 Y<|If h Y (fun h=>?_) fun h=>?_
       ·
        refine K0<|Tr<|Ra Y<|Za<|?_
        replace h:=lx h▸ho2
        obtain rfl:=rt h
        exact Zi (Zu Y (.one<|rb Y))
       ·
        exact Zf<|(Zfv h).elim
      ·
       refine ZL<|?_
       replace h:=lx h▸ho2
       exact⟨(),h,ES [some 0,some 1,some 2]⟩
     ·
      replace h:=elr h
      replace h:=t0i h
      exact Zl<|(Zfv h).elim
  ·
   replace h:=elr h
   refine Rx Y (ZS [] (JG h_y2) (.cons (ov Y) (ZaH<|rld Y)<|.cons (ov Y) (.dat Y)<|.cons (ov Y) (.dat Y) .nil) .nil Y (.lent 0 (.inr ⟨Nat.le_of_ble_eq_true Y,Y⟩) Y (ro1 (by exact tZ_91.symm)<|rlc (.dat Y)<|rlc (.dat Y)<|rlc (.dat Y)<|rlc (.dat Y)<|rlc (.dat Y)<|rlc (.own _<|.inr ⟨Nat.le_of_ble_eq_true Y,Y⟩)<|rlc (.own _<|.inr ⟨Nat.le_of_ble_eq_true Y,Y⟩) rln)<|.lent 1 (.inr ⟨Nat.le_of_ble_eq_true Y,Y⟩) Y (roM D44)<|.lent 2 (.inr ⟨Nat.le_of_ble_eq_true Y,Y⟩) Y (roM D120) .nil) Y Y<|Jw<|rlc (.ptr _ _ _<|.inr ⟨Nat.le_of_ble_eq_true Y,Y⟩)<|rlc (.dat Y) rln)<|Rm Y<|Rq Y (Zr (ov Y) Y)<|Rq Y (Zr (ov Y) Y)<|Ra Y<|Ra Y<|Za<|K6 1 3 4 5 11 12 Y<|Tr<|Rq Y (Zy (ov Y) Zdg Y Y)<|Rm Y<|bE h fun y4 h_y4 h=>?_
   rcases y4 with y4 |y4
   ·
    replace h:=ell h
    refine Rx Y (ZS [] (JI h_y4) (.cons (ov Y) (ZaH<|rld Y)<|.cons (ov Y) (.dat Y)<|.cons (ov Y) (.dat Y) .nil) .nil Y (.keep Y Y<|.keep Y Y<|.keep Y Y .nil) Y Y<|Jw<|rlc (.dat Y)<|rlc (.dat Y) rln)<|Rm Y<|Rq Y (Zr (ov Y) Y)<|Rq Y (Zr (ov Y) Y)<|Ra Y<|Ra Y<|Za<|Zl<|K6 3 4 11 12 13 14 Y<|Tr<|Rm Y<|R2 Qw Y<|Rm Y<|Rq Y (.guarded ((!decide (y2.2=0))==false) Y Y Y Y fun h=>Ze<|ov Y)<|Rq Y (.guarded ((!decide (y2.2=0))==false) Y Y Y Y fun h=>Qw (ow Y h)<|ov Y)<|Rq Y (Xa (ov Y) fun hp=>ow Y<|gF hp)<|Rm Y<|Rq Y (.guarded (((!decide (y2.2=0)) || (!decide (y4=0)))==false) Y Y Y Y fun h=>Ze<|ov Y)<|Rq Y (.guarded (((!decide (y2.2=0)) || (!decide (y4=0)))==false) Y Y Y Y fun h=>ZU (ow Y h)<|ov Y)<|Rq Y (Xa (ov Y) fun hp=>ow Y<|gF hp)<|Rm Y<|Rq Y (.guarded ((((!decide (y2.2=0)) || (!decide (y4=0))) || (decide (frame<0)))==false) Y Y Y Y fun h=>Ze<|ov Y)<|Rq Y (.guarded ((((!decide (y2.2=0)) || (!decide (y4=0))) || (decide (frame<0)))==false) Y Y Y Y fun h=>QN (ow Y h)<|ov Y)<|Rq Y (Xa (ov Y) fun hp=>ow Y<|gF hp)<|Za<|K5 3 4 11 13 48 Y<|If h Y (fun h=>?_) fun h=>?_
    ·
     refine K0<|Tr<|Ra Y<|Za<|?_
     obtain rfl:=rt h
     exact Zi (Zu Y (.one<|rb Y))
    ·
     refine Zf<|J6 (fun j=>(.inr j)) (fun p2 l2 keep2 state kept marks=>⟨[(4,.int .i64 frame),(11,.ptr 0 1 0 0),(13,.lit (.pointer none))],[some ⟨91,[[.sl 49 (List.map R49 p2.Instruments),.sl 54 (List.map R54 l2),.int .i64 keep2,.int .i64 state.Frame,.sl 99 (List.map R99 state.Memos),.own 1 kept.length,.own 2 marks.length]]⟩,some ⟨44,List.map R44 kept⟩,some ⟨120,List.map R120 marks⟩]⟩) h (fun h=>?_) fun p2 l2 keep2 state kept marks h=>?_
     ·
      refine K4 3 4 11 13 Y<|Tr<|Rm Y<|Rl tZ_3 XM Y<|Rm Y<|Za<|Zk<|?_
      obtain⟨r3,hl3,ho3⟩:=XB h
      refine L7 (fun p3 l3 keep3 state2 kept2 marks2 i=>⟨[(4,.int .i64 frame),(11,.ptr 0 1 0 0),(13,.lit (.pointer none)),(49,.sl 3 (List.map R3 way)),(50,.int .i64 (way.length:Int)),(51,.int .i64 i)],[some ⟨91,[[.sl 49 (List.map R49 p3.Instruments),.sl 54 (List.map R54 l3),.int .i64 keep3,.int .i64 state2.Frame,.sl 99 (List.map R99 state2.Memos),.own 1 kept2.length,.own 2 marks2.length]]⟩,some ⟨44,List.map R44 kept2⟩,some ⟨120,List.map R120 marks2⟩]⟩) hl3 (ES [some 0,some 1,some 2]) fun n3 p3 l3 keep3 state2 kept2 marks2 i h=>?_
      unfold ZaK at h
      refine Tr<|R2 ZU Y<|Za<|Zl<|If h Y (fun h=>?_) fun h=>?_
      ·
       refine Zf<|Zl<|Zk<|K6 4 11 13 49 50 51 Y<|Tr<|bE h fun x3 h_x3 h=>Rq Y (Qa (ov Y) (ov Y) XM h_x3)<|Rq Y (Zb (ov Y) tS3 Y)<|Ra Y<|Za<|Zl<|K7 4 11 13 16 49 50 51 Y<|Tr<|Rm Y<|R2 QN Y<|Za<|K8 4 11 13 16 49 50 51 56 Y<|If h Y (fun h=>?_) fun h=>?_
       ·
        refine K0<|Tr<|Ra Y<|Za<|?_
        replace h:=lx h▸ho3
        obtain rfl:=rt h
        exact Zi (Zu Y (.one<|rb Y))
       ·
        exact Zf<|K7 4 11 13 16 49 50 51 Y<|ZE<|Rm Y<|Rm Y<|bE h fun y5 h_y5 h=>Rx Y (ZS [0,1,2] (Qd h_y5) (.cons (ov Y) (.ptr _ _ _ Y)<|.cons (ov Y) (.dat Y) .nil) (.cons Y (ro1 (by exact tZ_91.symm)<|rlc (.dat Y)<|rlc (.dat Y)<|rlc (.dat Y)<|rlc (.dat Y)<|rlc (.dat Y)<|rlc (.own _ Y)<|rlc (.own _ Y) rln)<|.cons Y (roM D44)<|.cons Y (roM D120) .nil) Y (.lent 0 (.inl Y) Y (ro1 (by exact tZ_91.symm)<|rlc (.dat Y)<|rlc (.dat Y)<|rlc (.dat Y)<|rlc (.dat Y)<|rlc (.dat Y)<|rlc (.own _<|.inr ⟨Nat.le_of_ble_eq_true Y,Y⟩)<|rlc (.own _<|.inr ⟨Nat.le_of_ble_eq_true Y,Y⟩) rln)<|.none<|.none<|.lent 3 (.inr ⟨Nat.le_of_ble_eq_true Y,Y⟩) Y (roM D44)<|.lent 4 (.inr ⟨Nat.le_of_ble_eq_true Y,Y⟩) Y (roM D120) .nil) Y Y<|Jw<|rld Y)<|Rm Y<|Rq Y (Zr (ov Y) Y)<|Rq Y (Zr (ov Y) Y)<|Za<|K6 4 11 13 49 50 51 Y<|ZE<|R2 Q4 Y<|Rm Y<|Za<|⟨_,h,ES [some 0,some 3,some 4]⟩
      ·
       refine ZL<|?_
       replace h:=lx h▸ho3
       exact⟨_,h,ES [some 0,some 1,some 2]⟩
     ·
      replace h:=elr h
      replace h:=t6i h
      refine Zl<|Tr<|Rm Y<|Rm Y<|bE h fun y6 h_y6 h=>Rx Y (ZS [0,1,2] (Qd h_y6) (.cons (ov Y) (.ptr _ _ _ Y)<|.cons (ov Y) (.dat Y) .nil) (.cons Y (ro1 (by exact tZ_91.symm)<|rlc (.dat Y)<|rlc (.dat Y)<|rlc (.dat Y)<|rlc (.dat Y)<|rlc (.dat Y)<|rlc (.own _ Y)<|rlc (.own _ Y) rln)<|.cons Y (roM D44)<|.cons Y (roM D120) .nil) Y (.lent 0 (.inl Y) Y (ro1 (by exact tZ_91.symm)<|rlc (.dat Y)<|rlc (.dat Y)<|rlc (.dat Y)<|rlc (.dat Y)<|rlc (.dat Y)<|rlc (.own _<|.inr ⟨Nat.le_of_ble_eq_true Y,Y⟩)<|rlc (.own _<|.inr ⟨Nat.le_of_ble_eq_true Y,Y⟩) rln)<|.none<|.none<|.lent 3 (.inr ⟨Nat.le_of_ble_eq_true Y,Y⟩) Y (roM D44)<|.lent 4 (.inr ⟨Nat.le_of_ble_eq_true Y,Y⟩) Y (roM D120) .nil) Y Y<|Jw<|rld Y)<|Rm Y<|Rq Y (Zr (ov Y) Y)<|Rq Y (Zr (ov Y) Y)<|Ra Y<|Ra Y<|Za<|K4 4 11 13 18 Y<|Tr<|Rm Y<|R2 Qw Y<|Za<|K4 4 11 13 71 Y<|If h Y (fun h=>?_) fun h=>?_
      ·
       refine K0<|Tr<|Ra Y<|Za<|?_
       obtain rfl:=rt h
       exact Zi (Zu Y (.one<|rb Y))
      ·
       exact Zf<|Zl<|(Zfv h).elim
   ·
    replace h:=elr h
    refine Rx Y (ZS [] (JG h_y4) (.cons (ov Y) (ZaH<|rld Y)<|.cons (ov Y) (.dat Y)<|.cons (ov Y) (.dat Y) .nil) .nil Y (.keep Y Y<|.keep Y Y<|.keep Y Y<|.lent 0 (.inr ⟨Nat.le_of_ble_eq_true Y,Y⟩) Y (ro1 (by exact tZ_91.symm)<|rlc (.dat Y)<|rlc (.dat Y)<|rlc (.dat Y)<|rlc (.dat Y)<|rlc (.dat Y)<|rlc (.own _<|.inr ⟨Nat.le_of_ble_eq_true Y,Y⟩)<|rlc (.own _<|.inr ⟨Nat.le_of_ble_eq_true Y,Y⟩) rln)<|.lent 1 (.inr ⟨Nat.le_of_ble_eq_true Y,Y⟩) Y (roM D44)<|.lent 2 (.inr ⟨Nat.le_of_ble_eq_true Y,Y⟩) Y (roM D120) .nil) Y Y<|Jw<|rlc (.ptr _ _ _<|.inr ⟨Nat.le_of_ble_eq_true Y,Y⟩)<|rlc (.dat Y) rln)<|Rm Y<|Rq Y (Zr (ov Y) Y)<|Rq Y (Zr (ov Y) Y)<|Ra Y<|Ra Y<|Za<|Zl<|K6 3 4 11 12 13 14 Y<|Tr<|Rm Y<|R2 Qw Y<|Rm Y<|Rq Y (.guarded ((!decide (y2.2=0))==false) Y Y Y Y fun h=>Ze<|ov Y)<|Rq Y (.guarded ((!decide (y2.2=0))==false) Y Y Y Y fun h=>Qw (ow Y h)<|ov Y)<|Rq Y (Xa (ov Y) fun hp=>ow Y<|gF hp)<|Rm Y<|Rq Y (.guarded (((!decide (y2.2=0)) || (!decide (y4.2=0)))==false) Y Y Y Y fun h=>Ze<|ov Y)<|Rq Y (.guarded (((!decide (y2.2=0)) || (!decide (y4.2=0)))==false) Y Y Y Y fun h=>ZU (ow Y h)<|ov Y)<|Rq Y (Xa (ov Y) fun hp=>ow Y<|gF hp)<|Rm Y<|Rq Y (.guarded ((((!decide (y2.2=0)) || (!decide (y4.2=0))) || (decide (frame<0)))==false) Y Y Y Y fun h=>Ze<|ov Y)<|Rq Y (.guarded ((((!decide (y2.2=0)) || (!decide (y4.2=0))) || (decide (frame<0)))==false) Y Y Y Y fun h=>QN (ow Y h)<|ov Y)<|Rq Y (Xa (ov Y) fun hp=>ow Y<|gF hp)<|Za<|K5 3 4 11 13 48 Y<|If h Y (fun h=>?_) fun h=>?_
    ·
     refine K0<|Tr<|Ra Y<|Za<|?_
     obtain rfl:=rt h
     exact Zi (Zu Y (.one<|rb Y))
    ·
     refine Zf<|J6 (fun j=>(.inr j)) (fun p4 l4 keep4 state3 kept3 marks3=>⟨[(4,.int .i64 frame),(11,.ptr 0 1 0 0),(13,.ptr 3 1 0 0)],[some ⟨91,[[.sl 49 (List.map R49 p4.Instruments),.sl 54 (List.map R54 l4),.int .i64 keep4,.int .i64 state3.Frame,.sl 99 (List.map R99 state3.Memos),.own 1 kept3.length,.own 2 marks3.length]]⟩,some ⟨44,List.map R44 kept3⟩,some ⟨120,List.map R120 marks3⟩,some ⟨91,[[.sl 49 (List.map R49 y4.1.p.Instruments),.sl 54 (List.map R54 y4.1.l),.int .i64 y4.1.keep,.int .i64 y4.1.state.Frame,.sl 99 (List.map R99 y4.1.state.Memos),.own 4 y4.1.kept.length,.own 5 y4.1.marks.length]]⟩,some ⟨44,List.map R44 y4.1.kept⟩,some ⟨120,List.map R120 y4.1.marks⟩]⟩) h (fun h=>?_) fun p4 l4 keep4 state3 kept3 marks3 h=>?_
     ·
      refine K4 3 4 11 13 Y<|Tr<|Rm Y<|Rl tZ_3 XM Y<|Rm Y<|Za<|Zk<|?_
      obtain⟨r4,hl4,ho4⟩:=XB h
      refine L7 (fun p5 l5 keep5 state4 kept4 marks4 i2=>⟨[(4,.int .i64 frame),(11,.ptr 0 1 0 0),(13,.ptr 3 1 0 0),(49,.sl 3 (List.map R3 way)),(50,.int .i64 (way.length:Int)),(51,.int .i64 i2)],[some ⟨91,[[.sl 49 (List.map R49 p5.Instruments),.sl 54 (List.map R54 l5),.int .i64 keep5,.int .i64 state4.Frame,.sl 99 (List.map R99 state4.Memos),.own 1 kept4.length,.own 2 marks4.length]]⟩,some ⟨44,List.map R44 kept4⟩,some ⟨120,List.map R120 marks4⟩,some ⟨91,[[.sl 49 (List.map R49 y4.1.p.Instruments),.sl 54 (List.map R54 y4.1.l),.int .i64 y4.1.keep,.int .i64 y4.1.state.Frame,.sl 99 (List.map R99 y4.1.state.Memos),.own 4 y4.1.kept.length,.own 5 y4.1.marks.length]]⟩,some ⟨44,List.map R44 y4.1.kept⟩,some ⟨120,List.map R120 y4.1.marks⟩]⟩) hl4 (ES [some 0,some 1,some 2,some 3,some 4,some 5]) fun n4 p5 l5 keep5 state4 kept4 marks4 i2 h=>?_
      unfold ZV at h
      refine Tr<|R2 ZU Y<|Za<|Zl<|If h Y (fun h=>?_) fun h=>?_
      ·
       refine Zf<|Zl<|Zk<|K6 4 11 13 49 50 51 Y<|Tr<|bE h fun x4 h_x4 h=>Rq Y (Qa (ov Y) (ov Y) XM h_x4)<|Rq Y (Zb (ov Y) tS3 Y)<|Ra Y<|Za<|Zl<|K7 4 11 13 16 49 50 51 Y<|Tr<|Rm Y<|R2 QN Y<|Za<|K8 4 11 13 16 49 50 51 56 Y<|If h Y (fun h=>?_) fun h=>?_
       ·
        refine K0<|Tr<|Ra Y<|Za<|?_
        replace h:=lx h▸ho4
        obtain rfl:=rt h
        exact Zi (Zu Y (.one<|rb Y))
       ·
        exact Zf<|K7 4 11 13 16 49 50 51 Y<|ZE<|Rm Y<|Rm Y<|bE h fun y7 h_y7 h=>Rx Y (ZS [0,1,2] (Qd h_y7) (.cons (ov Y) (.ptr _ _ _ Y)<|.cons (ov Y) (.dat Y) .nil) (.cons Y (ro1 (by exact tZ_91.symm)<|rlc (.dat Y)<|rlc (.dat Y)<|rlc (.dat Y)<|rlc (.dat Y)<|rlc (.dat Y)<|rlc (.own _ Y)<|rlc (.own _ Y) rln)<|.cons Y (roM D44)<|.cons Y (roM D120) .nil) Y (.lent 0 (.inl Y) Y (ro1 (by exact tZ_91.symm)<|rlc (.dat Y)<|rlc (.dat Y)<|rlc (.dat Y)<|rlc (.dat Y)<|rlc (.dat Y)<|rlc (.own _<|.inr ⟨Nat.le_of_ble_eq_true Y,Y⟩)<|rlc (.own _<|.inr ⟨Nat.le_of_ble_eq_true Y,Y⟩) rln)<|.none<|.none<|.keep Y Y<|.keep Y Y<|.keep Y Y<|.lent 3 (.inr ⟨Nat.le_of_ble_eq_true Y,Y⟩) Y (roM D44)<|.lent 4 (.inr ⟨Nat.le_of_ble_eq_true Y,Y⟩) Y (roM D120) .nil) Y Y<|Jw<|rld Y)<|Rm Y<|Rq Y (Zr (ov Y) Y)<|Rq Y (Zr (ov Y) Y)<|Za<|K6 4 11 13 49 50 51 Y<|ZE<|R2 Q4 Y<|Rm Y<|Za<|⟨_,h,ES [some 0,some 6,some 7,some 3,some 4,some 5]⟩
      ·
       refine ZL<|?_
       replace h:=lx h▸ho4
       exact⟨_,h,ES [some 0,some 1,some 2,some 3,some 4,some 5]⟩
     ·
      replace h:=elr h
      replace h:=t6i h
      refine Zl<|Tr<|Rm Y<|Rm Y<|bE h fun y8 h_y8 h=>Rx Y (ZS [0,1,2] (Qd h_y8) (.cons (ov Y) (.ptr _ _ _ Y)<|.cons (ov Y) (.dat Y) .nil) (.cons Y (ro1 (by exact tZ_91.symm)<|rlc (.dat Y)<|rlc (.dat Y)<|rlc (.dat Y)<|rlc (.dat Y)<|rlc (.dat Y)<|rlc (.own _ Y)<|rlc (.own _ Y) rln)<|.cons Y (roM D44)<|.cons Y (roM D120) .nil) Y (.lent 0 (.inl Y) Y (ro1 (by exact tZ_91.symm)<|rlc (.dat Y)<|rlc (.dat Y)<|rlc (.dat Y)<|rlc (.dat Y)<|rlc (.dat Y)<|rlc (.own _<|.inr ⟨Nat.le_of_ble_eq_true Y,Y⟩)<|rlc (.own _<|.inr ⟨Nat.le_of_ble_eq_true Y,Y⟩) rln)<|.none<|.none<|.keep Y Y<|.keep Y Y<|.keep Y Y<|.lent 3 (.inr ⟨Nat.le_of_ble_eq_true Y,Y⟩) Y (roM D44)<|.lent 4 (.inr ⟨Nat.le_of_ble_eq_true Y,Y⟩) Y (roM D120) .nil) Y Y<|Jw<|rld Y)<|Rm Y<|Rq Y (Zr (ov Y) Y)<|Rq Y (Zr (ov Y) Y)<|Ra Y<|Ra Y<|Za<|K4 4 11 13 18 Y<|Tr<|Rm Y<|R2 Qw Y<|Za<|K4 4 11 13 71 Y<|If h Y (fun h=>?_) fun h=>?_
      ·
       refine K0<|Tr<|Ra Y<|Za<|?_
       obtain rfl:=rt h
       exact Zi (Zu Y (.one<|rb Y))
      ·
       refine Zf<|Zl<|K3 4 11 13 Y<|Tr<|Rm Y<|Rm Y<|R2 Q4 Y<|bE h fun y9 h_y9 h=>Rx Y (ZS [3,4,5] (Zal h_y9) (.cons (ov Y) (.ptr _ _ _ Y)<|.cons (ov Y) (.dat Y) .nil) (.cons Y (ro1 (by exact tZ_91.symm)<|rlc (.dat Y)<|rlc (.dat Y)<|rlc (.dat Y)<|rlc (.dat Y)<|rlc (.dat Y)<|rlc (.own _ Y)<|rlc (.own _ Y) rln)<|.cons Y (roM D44)<|.cons Y (roM D120) .nil) Y (.keep Y Y<|.none<|.none<|.lent 0 (.inl Y) Y (ro1 (by exact tZ_91.symm)<|rlc (.dat Y)<|rlc (.dat Y)<|rlc (.dat Y)<|rlc (.dat Y)<|rlc (.dat Y)<|rlc (.own _<|.inr ⟨Nat.le_of_ble_eq_true Y,Y⟩)<|rlc (.own _<|.inr ⟨Nat.le_of_ble_eq_true Y,Y⟩) rln)<|.none<|.none<|.keep Y Y<|.keep Y Y<|.lent 3 (.inr ⟨Nat.le_of_ble_eq_true Y,Y⟩) Y (roM D44)<|.lent 4 (.inr ⟨Nat.le_of_ble_eq_true Y,Y⟩) Y (roM D120) .nil) Y Y<|.dat Y)<|Ra Y<|Za<|K4 4 11 13 19 Y<|Tr<|Rm Y<|R2 Qw Y<|Za<|K4 4 11 13 77 Y<|If h Y (fun h=>?_) fun h=>?_
       ·
        refine K0<|Tr<|Ra Y<|Za<|?_
        obtain rfl:=rt h
        exact Zi (Zu Y (.one<|rb Y))
       ·
        refine Zf<|K3 4 11 13 Y<|Tr<|Rm Y<|bE h fun y10 h_y10 h=>Rx Y (ZS [0,6,7] (XV h_y10) (.cons (ov Y) (.ptr _ _ _ Y) .nil) (.cons Y (ro1 (by exact tZ_91.symm)<|rlc (.dat Y)<|rlc (.dat Y)<|rlc (.dat Y)<|rlc (.dat Y)<|rlc (.dat Y)<|rlc (.own _ Y)<|rlc (.own _ Y) rln)<|.cons Y (roM D44)<|.cons Y (roM D120) .nil) Y (.lent 0 (.inl Y) Y (ro1 (by exact tZ_91.symm)<|rlc (.dat Y)<|rlc (.dat Y)<|rlc (.dat Y)<|rlc (.dat Y)<|rlc (.dat Y)<|rlc (.own _<|.inr ⟨Nat.le_of_ble_eq_true Y,Y⟩)<|rlc (.own _<|.inr ⟨Nat.le_of_ble_eq_true Y,Y⟩) rln)<|.none<|.none<|.keep Y Y<|.none<|.none<|.none<|.none<|.keep Y Y<|.keep Y Y<|.lent 3 (.inr ⟨Nat.le_of_ble_eq_true Y,Y⟩) Y (roM D44)<|.lent 4 (.inr ⟨Nat.le_of_ble_eq_true Y,Y⟩) Y (roM D120) .nil) Y Y<|.dat Y)<|Rm Y<|R2 Qq Y<|Rm Y<|Rq Y (.guarded ((decide (y10=frame))==true) Y Y Y Y fun h=>Ze<|ov Y)<|?_
        rcases ifR h with ⟨hg,h⟩ | ⟨hg,h⟩
        ·
         refine ZfQ (d:=82) (b':=true) Y (ZkB hg)<|bE h fun y11 h_y11 h=>Zi9 _ _ Y Y Y Y (ZS [3,8,9] (XV h_y11) (.cons (ow Y<|by first |rfl |exact hg |simp_all) (.ptr _ _ _ Y) .nil) (.cons Y (ro1 (by exact tZ_91.symm)<|rlc (.dat Y)<|rlc (.dat Y)<|rlc (.dat Y)<|rlc (.dat Y)<|rlc (.dat Y)<|rlc (.own _ Y)<|rlc (.own _ Y) rln)<|.cons Y (roM D44)<|.cons Y (roM D120) .nil) Y (.keep Y Y<|.none<|.none<|.lent 0 (.inl Y) Y (ro1 (by exact tZ_91.symm)<|rlc (.dat Y)<|rlc (.dat Y)<|rlc (.dat Y)<|rlc (.dat Y)<|rlc (.dat Y)<|rlc (.own _<|.inr ⟨Nat.le_of_ble_eq_true Y,Y⟩)<|rlc (.own _<|.inr ⟨Nat.le_of_ble_eq_true Y,Y⟩) rln)<|.none<|.none<|.none<|.none<|.none<|.none<|.keep Y Y<|.keep Y Y<|.lent 3 (.inr ⟨Nat.le_of_ble_eq_true Y,Y⟩) Y (roM D44)<|.lent 4 (.inr ⟨Nat.le_of_ble_eq_true Y,Y⟩) Y (roM D120) .nil) Y Y<|.dat Y)<|Rq Y (.guarded (true==true) Y Y Y Y fun h=>Ze<|ov Y)<|Rq Y (.guarded (true==true) Y Y Y Y fun h=>Qq (ov Y)<|ow Y h)<|Rq Y (Qh (ov Y) fun hp=>ow Y<|gT hp)<|Rm Y<|Rq Y (.guarded ((true&&(decide (y11=frame)))==true) Y Y Y Y fun h=>Ze<|ov Y)<|?_
         rcases ifR h with ⟨hg,h⟩ | ⟨hg,h⟩
         ·
          refine ZfQ (d:=88) (b':=true) Y (ZkB hg)<|bE h fun y12 h_y12 h=>Zi9 _ _ Y Y Y Y (ZS [0,10,11] (XP h_y12) (.cons (ow Y<|by first |rfl |exact hg |simp_all) (.ptr _ _ _ Y) .nil) (.cons Y (ro1 (by exact tZ_91.symm)<|rlc (.dat Y)<|rlc (.dat Y)<|rlc (.dat Y)<|rlc (.dat Y)<|rlc (.dat Y)<|rlc (.own _ Y)<|rlc (.own _ Y) rln)<|.cons Y (roM D44)<|.cons Y (roM D120) .nil) Y (.lent 0 (.inl Y) Y (ro1 (by exact tZ_91.symm)<|rlc (.dat Y)<|rlc (.dat Y)<|rlc (.dat Y)<|rlc (.dat Y)<|rlc (.dat Y)<|rlc (.own _<|.inr ⟨Nat.le_of_ble_eq_true Y,Y⟩)<|rlc (.own _<|.inr ⟨Nat.le_of_ble_eq_true Y,Y⟩) rln)<|.none<|.none<|.keep Y Y<|.none<|.none<|.none<|.none<|.none<|.none<|.none<|.none<|.keep Y Y<|.keep Y Y<|.lent 3 (.inr ⟨Nat.le_of_ble_eq_true Y,Y⟩) Y (roM D44)<|.lent 4 (.inr ⟨Nat.le_of_ble_eq_true Y,Y⟩) Y (roM D120) .nil) Y Y<|.dat Y)<|Rq Y (.guarded (true==true) Y Y Y Y fun h=>Ze<|ov Y)<|bE h fun y13 h_y13 h=>Zi9 _ _ Y Y Y Y (ZS [3,12,13] (XP h_y13) (.cons (ow Y<|by first |rfl |exact hg |simp_all) (.ptr _ _ _ Y) .nil) (.cons Y (ro1 (by exact tZ_91.symm)<|rlc (.dat Y)<|rlc (.dat Y)<|rlc (.dat Y)<|rlc (.dat Y)<|rlc (.dat Y)<|rlc (.own _ Y)<|rlc (.own _ Y) rln)<|.cons Y (roM D44)<|.cons Y (roM D120) .nil) Y (.keep Y Y<|.none<|.none<|.lent 0 (.inl Y) Y (ro1 (by exact tZ_91.symm)<|rlc (.dat Y)<|rlc (.dat Y)<|rlc (.dat Y)<|rlc (.dat Y)<|rlc (.dat Y)<|rlc (.own _<|.inr ⟨Nat.le_of_ble_eq_true Y,Y⟩)<|rlc (.own _<|.inr ⟨Nat.le_of_ble_eq_true Y,Y⟩) rln)<|.none<|.none<|.none<|.none<|.none<|.none<|.none<|.none<|.none<|.none<|.keep Y Y<|.keep Y Y<|.lent 3 (.inr ⟨Nat.le_of_ble_eq_true Y,Y⟩) Y (roM D44)<|.lent 4 (.inr ⟨Nat.le_of_ble_eq_true Y,Y⟩) Y (roM D120) .nil) Y Y<|.dat Y)<|bE h fun y14 h_y14 h=>Rq Y (.guarded (true==true) Y Y Y Y fun h=>Zo (JS<|gdT h_y14 h)<|.cons (ov Y) (.b Y)<|.cons (ov Y) (.b Y) .nil)<|Rq Y (Qh (ov Y) fun hp=>ow Y<|gT hp)<|Rm Y<|Rq Y (.guarded ((true&&y14)==true) Y Y Y Y fun h=>Ze<|ov Y)<|?_
          rcases ifR h with ⟨hg,h⟩ | ⟨hg,h⟩
          ·
           refine ZfQ (d:=95) (b':=true) Y (ZkB hg)<|bE h fun y15 h_y15 h=>Zi9 _ _ Y Y Y Y (ZS [0,14,15] (XN h_y15) (.cons (ow Y<|by first |rfl |exact hg |simp_all) (.ptr _ _ _ Y) .nil) (.cons Y (ro1 (by exact tZ_91.symm)<|rlc (.dat Y)<|rlc (.dat Y)<|rlc (.dat Y)<|rlc (.dat Y)<|rlc (.dat Y)<|rlc (.own _ Y)<|rlc (.own _ Y) rln)<|.cons Y (roM D44)<|.cons Y (roM D120) .nil) Y (.lent 0 (.inl Y) Y (ro1 (by exact tZ_91.symm)<|rlc (.dat Y)<|rlc (.dat Y)<|rlc (.dat Y)<|rlc (.dat Y)<|rlc (.dat Y)<|rlc (.own _<|.inr ⟨Nat.le_of_ble_eq_true Y,Y⟩)<|rlc (.own _<|.inr ⟨Nat.le_of_ble_eq_true Y,Y⟩) rln)<|.none<|.none<|.keep Y Y<|.none<|.none<|.none<|.none<|.none<|.none<|.none<|.none<|.none<|.none<|.none<|.none<|.keep Y Y<|.keep Y Y<|.lent 3 (.inr ⟨Nat.le_of_ble_eq_true Y,Y⟩) Y (roM D44)<|.lent 4 (.inr ⟨Nat.le_of_ble_eq_true Y,Y⟩) Y (roM D120) .nil) Y Y<|ZaH<|rld Y)<|Rq Y (.guarded (true==true) Y Y Y Y fun h=>Ze<|ov Y)<|bE h fun y16 h_y16 h=>Zi9 _ _ Y Y Y Y (ZS [3,16,17] (XN h_y16) (.cons (ow Y<|by first |rfl |exact hg |simp_all) (.ptr _ _ _ Y) .nil) (.cons Y (ro1 (by exact tZ_91.symm)<|rlc (.dat Y)<|rlc (.dat Y)<|rlc (.dat Y)<|rlc (.dat Y)<|rlc (.dat Y)<|rlc (.own _ Y)<|rlc (.own _ Y) rln)<|.cons Y (roM D44)<|.cons Y (roM D120) .nil) Y (.keep Y Y<|.none<|.none<|.lent 0 (.inl Y) Y (ro1 (by exact tZ_91.symm)<|rlc (.dat Y)<|rlc (.dat Y)<|rlc (.dat Y)<|rlc (.dat Y)<|rlc (.dat Y)<|rlc (.own _<|.inr ⟨Nat.le_of_ble_eq_true Y,Y⟩)<|rlc (.own _<|.inr ⟨Nat.le_of_ble_eq_true Y,Y⟩) rln)<|.none<|.none<|.none<|.none<|.none<|.none<|.none<|.none<|.none<|.none<|.none<|.none<|.none<|.none<|.keep Y Y<|.keep Y Y<|.lent 3 (.inr ⟨Nat.le_of_ble_eq_true Y,Y⟩) Y (roM D44)<|.lent 4 (.inr ⟨Nat.le_of_ble_eq_true Y,Y⟩) Y (roM D120) .nil) Y Y<|ZaH<|rld Y)<|bE h fun y17 h_y17 h=>Rq Y (.guarded (true==true) Y Y Y Y fun h=>Zo (Zdv<|gdT h_y17 h)<|.cons (ov Y) (.aggB Y)<|.cons (ov Y) (.aggB Y) .nil)<|Rq Y (Qh (ov Y) fun hp=>ow Y<|gT hp)<|Ra Y<|Za<|?_
           obtain rfl:=rt h
           exact Zi (Zu Y (.one<|rb Y))
          ·
           refine ZfQ (d:=95) (b':=false) Y (Zkr hg)<|J5 Y Y Y Y Y<|Rq Y (.guarded (false==true) Y Y Y Y fun h=>Ze<|ov Y)<|J5 Y Y Y Y Y<|bE h fun u h_u h=>R_q (.when (false==true)<|.bool false) Y (.guarded (false==true) Y Y Y Y fun h=>ZfV<|gdT h_u h)<|Rq Y (Qh (ov Y) fun hp=>ow Y<|gT hp)<|Ra Y<|Za<|?_
           obtain rfl:=rt h
           exact Zi (Zu Y (.one<|rb Y))
         ·
          refine ZfQ (d:=88) (b':=false) Y (Zkr hg)<|J5 Y Y Y Y Y<|Rq Y (.guarded (false==true) Y Y Y Y fun h=>Ze<|ov Y)<|J5 Y Y Y Y Y<|bE h fun u2 h_u2 h=>R_q (.when (false==true)<|.bool false) Y (.guarded (false==true) Y Y Y Y fun h=>ZfV<|gdT h_u2 h)<|Rq Y (Qh (ov Y) fun hp=>ow Y<|gT hp)<|Rm Y<|Rq Y (.guarded ((false&&false)==true) Y Y Y Y fun h=>Ze<|ov Y)<|J5 Y Y Y Y Y<|Rq Y (.guarded ((false&&false)==true) Y Y Y Y fun h=>Ze<|ov Y)<|J5 Y Y Y Y Y<|bE h fun u3 h_u3 h=>R_q (.when ((false&&false)==true)<|.bool false) Y (.guarded ((false&&false)==true) Y Y Y Y fun h=>ZfV<|gdT h_u3 h)<|Rq Y (Qh (ov Y) fun hp=>ow Y<|gT hp)<|Ra Y<|Za<|?_
          obtain rfl:=rt h
          exact Zi (Zu Y (.one<|rb Y))
        ·
         refine ZfQ (d:=82) (b':=false) Y (Zkr hg)<|J5 Y Y Y Y Y<|Rq Y (.guarded (false==true) Y Y Y Y fun h=>Ze<|ov Y)<|bE h fun u4 h_u4 h=>R_q (.when (false==true)<|.bool false) Y (.guarded (false==true) Y Y Y Y fun h=>ZfV<|gdT h_u4 h)<|Rq Y (Qh (ov Y) fun hp=>ow Y<|gT hp)<|Rm Y<|Rq Y (.guarded ((false&&false)==true) Y Y Y Y fun h=>Ze<|ov Y)<|J5 Y Y Y Y Y<|Rq Y (.guarded ((false&&false)==true) Y Y Y Y fun h=>Ze<|ov Y)<|J5 Y Y Y Y Y<|bE h fun u5 h_u5 h=>R_q (.when ((false&&false)==true)<|.bool false) Y (.guarded ((false&&false)==true) Y Y Y Y fun h=>ZfV<|gdT h_u5 h)<|Rq Y (Qh (ov Y) fun hp=>ow Y<|gT hp)<|Rm Y<|Rq Y (.guarded (((false&&false)&&false)==true) Y Y Y Y fun h=>Ze<|ov Y)<|J5 Y Y Y Y Y<|Rq Y (.guarded (((false&&false)&&false)==true) Y Y Y Y fun h=>Ze<|ov Y)<|J5 Y Y Y Y Y<|bE h fun u6 h_u6 h=>R_q (.when (((false&&false)&&false)==true)<|.bool false) Y (.guarded (((false&&false)&&false)==true) Y Y Y Y fun h=>ZfV<|gdT h_u6 h)<|Rq Y (Qh (ov Y) fun hp=>ow Y<|gT hp)<|Ra Y<|Za<|?_
         obtain rfl:=rt h
         exact Zi (Zu Y (.one<|rb Y))
end Go.Proofs.YtailpehcgelmdaaGreatDoor
