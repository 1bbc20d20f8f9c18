/- A text of the proof: a verified executor of the program form, or the contracts of the functions that the law reaches. -/
import Derived.Test.YtjjknklgafdeiaaGreatDoorOkWa
set_option linter.all false
namespace Go.Proofs.YtjjknklgafdeiaaGreatDoor
open Go Go.Vx
set_option maxRecDepth 10000
set_option maxHeartbeats 1000000
set_option linter.unusedVariables false
theorem Zae{n_:Nat}{data:List Int}{a:Int}{m:Int}{b:Int}{cmp:Int→Int→Option Int}{r:(List Int)}{cmp_f:FuncId}{cmp_c:List AV}(cmp_d:cmp_c.all datB=true)(cmp_h: ∀ (z0:Int) (z1:Int) z,cmp z0 z1=some z→CSpec Tryz.prog gl0 cmp_f ([.int .i64 z0,.int .i64 z1]++cmp_c) (.int .i64 z))(h:Z6 n_ data a m b cmp=some r):
 GSpec Tryz.prog gl0 88 [.own 0 data.length,.int .i64 a,.int .i64 m,.int .i64 b,.fn cmp_f cmp_c] [some ⟨3,List.map R3 data⟩] (.tuple []) [some ⟨3,List.map R3 r⟩]:=by
 induction n_ generalizing data a m b cmp r cmp_f cmp_c with
 |zero=>cases h
 |succ n ih=>exact ZcG cmp_d cmp_h QP (fun cmp_d cmp_h h=>ih cmp_d cmp_h h) h
theorem Zdv{data:List Int}{n:Int}{cmp:Int→Int→Option Int}{r:(List Int)}{cmp_f:FuncId}{cmp_c:List AV}(cmp_d:cmp_c.all datB=true)(cmp_h: ∀ (z0:Int) (z1:Int) z,cmp z0 z1=some z→CSpec Tryz.prog gl0 cmp_f ([.int .i64 z0,.int .i64 z1]++cmp_c) (.int .i64 z))(h:QU data n cmp=some r):
 GSpec Tryz.prog gl0 61 [.own 0 data.length,.int .i64 n,.fn cmp_f cmp_c] [some ⟨3,List.map R3 data⟩] (.tuple []) [some ⟨3,List.map R3 r⟩]:=by
 unfold QU at h
 replace h:=Qk h
 refine ZaU (by kernel_rfl) Tryz.func61 Y Y<|?_
 intro w0 A W φ0
 refine Tr<|Ra Y<|Za<|Tr<|Rm Y<|Ra Y<|Ra Y<|Za<|I2 (fun o a=>⟨[(0,.own 0 o.length),(1,.int .i64 n),(2,.fn cmp_f cmp_c),(6,.int .i64 20),(7,.int .i64 a)],[some ⟨3,List.map R3 o⟩]⟩) h (fun h=>?_) fun o a h=>?_
 ·
  refine Zi<|?_
  obtain⟨r1,hl1,ho1⟩:=QZ h
  refine L3 (fun o2 a2 b=>⟨[(0,.own 0 o2.length),(1,.int .i64 n),(2,.fn cmp_f cmp_c),(6,.int .i64 20),(7,.int .i64 a2),(8,.int .i64 b)],[some ⟨3,List.map R3 o2⟩]⟩) hl1 (ES [some 0]<|sr 0 Y (.own _ Y)<|sd 1 Y Y<|sr 2 Y (rFn<|rld cmp_d)<|sd 6 Y Y<|sd 7 Y Y<|sd 8 Y Y sn) fun n1 o2 a2 b h=>?_
  unfold Qg at h
  refine Zl<|Tr<|Rm Y<|Rm Y<|R2 Zfc Y<|Za<|K7 0 1 2 6 7 8 13 Y<|If h Y (fun h=>?_) fun h=>?_
  ·
   exact Zj<|Zi<|K6 0 1 2 6 7 8 Y<|Tr<|Rm Y<|Rm Y<|Rm Y<|Rm Y<|bE h fun y h_y h=>Rx Y (JH [0] (Jw cmp_d cmp_h h_y) (.cons (ov Y) (.own _ Y)<|.cons (ov Y) (.dat Y)<|.cons (ov Y) (.dat Y)<|.cons (ov Y) (rFn<|rld cmp_d) .nil) (.cons Y (roM D3) .nil) Y (.lent 0 (.inl Y) Y (roM D3) .nil) Y Y<|ZbA<|rld Y)<|Za<|K6 0 1 2 6 7 8 Y<|Tr<|Rm Y<|Ra Y<|Za<|K6 0 1 2 6 7 8 Y<|Zt<|Rm Y<|Rm Y<|R2 ZX Y<|Ra Y<|Za<|⟨_,h,ES [some 0]<|sr 0 Y (ZfM (Eq.symm<|QR h_y) Y)<|sd 1 Y Y<|sr 2 Y (rFn<|rld cmp_d)<|sd 6 Y Y<|sd 7 Y Y<|sd 8 Y Y sn⟩
  ·
   refine ZI<|?_
   replace h:=lx h▸ho1
   exact⟨_,h,ES [some 0]<|sr 0 Y (.own _ Y)<|sd 1 Y Y<|sr 2 Y (rFn<|rld cmp_d)<|sd 6 Y Y<|sd 7 Y Y sn⟩
 ·
  refine Tr<|Rm Y<|Rm Y<|Rm Y<|Rm Y<|bE h fun y2 h_y2 h=>Rx Y (JH [0] (Jw cmp_d cmp_h h_y2) (.cons (ov Y) (.own _ Y)<|.cons (ov Y) (.dat Y)<|.cons (ov Y) (.dat Y)<|.cons (ov Y) (rFn<|rld cmp_d) .nil) (.cons Y (roM D3) .nil) Y (.lent 0 (.inl Y) Y (roM D3) .nil) Y Y<|ZbA<|rld Y)<|Za<|Zi<|?_
  obtain⟨r2,hl2,ho2⟩:=QZ h
  refine L2 (fun o3 blockSize=>⟨[(0,.own 0 o3.length),(1,.int .i64 n),(2,.fn cmp_f cmp_c),(6,.int .i64 blockSize)],[some ⟨3,List.map R3 o3⟩]⟩) hl2 (ES [some 0]<|sr 0 Y (ZfM (Eq.symm<|QR h_y2) Y)<|sd 1 Y Y<|sr 2 Y (rFn<|rld cmp_d)<|sd 6 Y Y sn) fun n2 o3 blockSize h=>?_
  unfold Qa at h
  refine Zl<|Tr<|Rm Y<|Rm Y<|R2 ZV Y<|Za<|K5 0 1 2 6 30 Y<|If h Y (fun h=>?_) fun h=>?_
  ·
   refine Zj<|Zi<|K4 0 1 2 6 Y<|Tr<|Rm Y<|R2 Zd7 Y<|Ra Y<|Ra Y<|Za<|I2 (fun o4 a3=>⟨[(0,.own 0 o4.length),(1,.int .i64 n),(2,.fn cmp_f cmp_c),(6,.int .i64 blockSize),(7,.int .i64 a3)],[some ⟨3,List.map R3 o4⟩]⟩) h (fun h=>?_) fun o4 a3 h=>?_
   ·
    refine Zi<|?_
    obtain⟨r3,hl3,ho3⟩:=QZ h
    refine L3 (fun o5 a4 b2=>⟨[(0,.own 0 o5.length),(1,.int .i64 n),(2,.fn cmp_f cmp_c),(6,.int .i64 blockSize),(7,.int .i64 a4),(8,.int .i64 b2)],[some ⟨3,List.map R3 o5⟩]⟩) hl3 (ES [some 0]<|sr 0 Y (.own _ Y)<|sd 1 Y Y<|sr 2 Y (rFn<|rld cmp_d)<|sd 6 Y Y<|sd 7 Y Y<|sd 8 Y Y sn) fun n3 o5 a4 b2 h=>?_
    unfold Z9 at h
    refine Zl<|Tr<|Rm Y<|Rm Y<|R2 Zfc Y<|Za<|K7 0 1 2 6 7 8 35 Y<|If h Y (fun h=>?_) fun h=>?_
    ·
     exact Zj<|Zi<|K6 0 1 2 6 7 8 Y<|Tr<|Rm Y<|Rm Y<|Rm Y<|Rm Y<|R2 ZX Y<|Rm Y<|Rm Y<|bE h fun y3 h_y3 h=>Rx Y (JH [0] (Zae cmp_d cmp_h h_y3) (.cons (ov Y) (.own _ Y)<|.cons (ov Y) (.dat Y)<|.cons (ov Y) (.dat Y)<|.cons (ov Y) (.dat Y)<|.cons (ov Y) (rFn<|rld cmp_d) .nil) (.cons Y (roM D3) .nil) Y (.lent 0 (.inl Y) Y (roM D3) .nil) Y Y<|ZbA<|rld Y)<|Za<|K6 0 1 2 6 7 8 Y<|Tr<|Rm Y<|Ra Y<|Za<|K6 0 1 2 6 7 8 Y<|Zt<|Rm Y<|Rm Y<|R2 Zd7 Y<|R2 ZX Y<|Ra Y<|Za<|⟨_,h,ES [some 0]<|sr 0 Y (ZfM (Eq.symm<|QP h_y3) Y)<|sd 1 Y Y<|sr 2 Y (rFn<|rld cmp_d)<|sd 6 Y Y<|sd 7 Y Y<|sd 8 Y Y sn⟩
    ·
     refine ZI<|?_
     replace h:=lx h▸ho3
     exact⟨_,h,ES [some 0]<|sr 0 Y (.own _ Y)<|sd 1 Y Y<|sr 2 Y (rFn<|rld cmp_d)<|sd 6 Y Y<|sd 7 Y Y sn⟩
   ·
    refine Zl<|Tr<|Rm Y<|Rm Y<|R2 ZX Y<|Ra Y<|Za<|K6 0 1 2 6 7 9 Y<|Tr<|Rm Y<|Rm Y<|R2 ZV Y<|Za<|K7 0 1 2 6 7 9 54 Y<|If h Y (fun h=>?_) fun h=>?_
    ·
     exact K6 0 1 2 6 7 9 Y<|Zt<|Rm Y<|Rm Y<|Rm Y<|Rm Y<|Rm Y<|bE h fun y4 h_y4 h=>Rx Y (JH [0] (Zae cmp_d cmp_h h_y4) (.cons (ov Y) (.own _ Y)<|.cons (ov Y) (.dat Y)<|.cons (ov Y) (.dat Y)<|.cons (ov Y) (.dat Y)<|.cons (ov Y) (rFn<|rld cmp_d) .nil) (.cons Y (roM D3) .nil) Y (.lent 0 (.inl Y) Y (roM D3) .nil) Y Y<|ZbA<|rld Y)<|Za<|K4 0 1 2 6 Y<|Zt<|Rm Y<|R2 Zd7 Y<|Ra Y<|Za<|⟨_,h,ES [some 0]<|sr 0 Y (ZfM (Eq.symm<|QP h_y4) Y)<|sd 1 Y Y<|sr 2 Y (rFn<|rld cmp_d)<|sd 6 Y Y sn⟩
    ·
     exact Zj<|K4 0 1 2 6 Y<|Zt<|Rm Y<|R2 Zd7 Y<|Ra Y<|Za<|⟨_,h,ES [some 0]<|sr 0 Y (.own _ Y)<|sd 1 Y Y<|sr 2 Y (rFn<|rld cmp_d)<|sd 6 Y Y sn⟩
  ·
   refine ZI<|?_
   replace h:=lx h▸ho2
   obtain rfl:=rt h
   exact Zfz [some 0] Y .nil (.cons Y (roM D3) .nil) Y Y<|ZbA rln
theorem ZcA{x:List Int}{cmp:Int→Int→Option Int}{r:(List Int)}{cmp_f:FuncId}{cmp_c:List AV}(cmp_d:cmp_c.all datB=true)(cmp_h: ∀ (z0:Int) (z1:Int) z,cmp z0 z1=some z→CSpec Tryz.prog gl0 cmp_f ([.int .i64 z0,.int .i64 z1]++cmp_c) (.int .i64 z))(h:Qj x cmp=some r):
 GSpec Tryz.prog gl0 33 [.own 0 x.length,.fn cmp_f cmp_c] [some ⟨3,List.map R3 x⟩] (.tuple []) [some ⟨3,List.map R3 r⟩]:=by
 unfold Qj at h
 replace h:=Qk h
 refine ZaU (by kernel_rfl) Tryz.func33 Y Y<|?_
 intro w0 A W φ0
 refine Zt<|Rm Y<|Rm Y<|Rq Y (Zd3 (ov Y) Y Y Qp)<|Rm Y<|bE h fun y h_y h=>Rx Y (JH [0] (Zdv cmp_d cmp_h h_y) (.cons (ov Y) (.own _ Y)<|.cons (ov Y) (.dat Y)<|.cons (ov Y) (rFn<|rld cmp_d) .nil) (.cons Y (roM D3) .nil) Y (.lent 0 (.inl Y) Y (roM D3) .nil) Y Y<|ZbA<|rld Y)<|Za<|?_
 obtain rfl:=rt h
 exact Zfz [some 0] Y .nil (.cons Y (roM D3) .nil) Y Y<|ZbA rln
theorem Zee{i:Int}{c0:api_Memory}{r:Int}(h:J7 i c0=some r):
 CSpec Tryz.prog gl0 32 [.int .i64 i,.rp [.int .i64 c0.Slots,.int .i64 c0.Limit,.sl 40 (List.map R40 c0.Sectors),.sl 3 (List.map R3 c0.Wear),.sl 4 (List.map R4 c0.Bad)] 0] (.int .i64 r):=by
 unfold J7 at h
 replace h:=Qk h
 refine So Tryz.func32 Y fun w0 A=>Tr<|Ra Y<|Za<|K2 0 1 Y<|Tr<|Rq Y (ZE (ov Y) ZgC)<|Rq Y (Zd (ov Y) Zmx Y)<|Rm Y<|bE h fun x h_x h=>Rq Y (ZW (ov Y) (ov Y) ZjN h_x)<|Rq Y (Zd (ov Y) Zdz Y)<|bE h fun y h_y h=>Rq Y (Zq (ZeT h_y)<|.cons (ov Y) (.b Y) .nil)<|Rm Y<|Rq Y (Zk (ov Y) Y)<|Rq Y (Zk (ov Y) Y)<|Rq Y (Zk (ov Y) Y)<|Ra Y<|Ra Y<|Ra Y<|Za<|K1 4 Y<|Tr<|Rm Y<|Ra Y<|Za<|?_
 obtain rfl:=rt h
 exact Zs (ZK Y (.one<|rb Y))
theorem ZgV{a:Int}{b:Int}{k:api_Memory}{r:Int}(h:Zad a b k=some r):
 CSpec Tryz.prog gl0 34 [.int .i64 a,.int .i64 b,.rp [.fn 32 [.rp [.int .i64 k.Slots,.int .i64 k.Limit,.sl 40 (List.map R40 k.Sectors),.sl 3 (List.map R3 k.Wear),.sl 4 (List.map R4 k.Bad)] 0]] 0] (.int .i64 r):=by
 unfold Zad at h
 replace h:=Qk h
 refine So Tryz.func34 Y fun w0 A=>Tr<|Ra Y<|Za<|Zl<|Qe (cw:=md0) (by kernel_rfl)<|Dq 0 Y (Zd (ov Y) Zsg Y)<|D1 1 Zc Y<|bE h fun y h_y h=>Dq 2 Y (Zch (ov Y) Y (Zee h_y)<|.cons (ov Y) (.b Y) .nil)<|Dq 3 Y (Zd (ov Y) Zsg Y)<|D1 4 Zc Y<|bE h fun y2 h_y2 h=>Dq 5 Y (Zch (ov Y) Y (Zee h_y2)<|.cons (ov Y) (.b Y) .nil)<|D2 6 ZaO Y<|D1 7 QK Y<|Dd<|?_
 obtain rfl:=rt h
 exact Zs (ZK Y (.one<|rb Y))
theorem Zil{m:api_Memory}{r:(List Int)}(h:JT m=some r):
 CSpec Tryz.prog gl0 12 [.agg [.int .i64 m.Slots,.int .i64 m.Limit,.sl 40 (List.map R40 m.Sectors),.sl 3 (List.map R3 m.Wear),.sl 4 (List.map R4 m.Bad)]] (.sl 3 (List.map R3 r)):=by
 unfold JT at h
 replace h:=Qk h
 refine So Tryz.func12 Y fun w0 A=>Tr<|Rq Y (Xh (cva<|ov Y) Y tZ_60 Y)<|Ra Y<|Za<|K1 1 Y<|Tr<|Ra Y<|Za<|Tr<|Rq Y (Zd4<|.cons (ov Y) .nil)<|Rx Y (ZP (row:= [_]) 0 Y Zt3 Y tZ_83)<|Rx Y (Zf (ov Y) (ov Y) (Zg Zsg) Y Y Y (Nat.le_of_ble_eq_true Y) (Zb Y) Y)<|Za<|I1 (fun out=>⟨[(3,.own 0 out.length),(4,.ptr 1 1 0 0)],[some ⟨3,List.map R3 out⟩,some ⟨83,[[.fn 32 [.rp [.int .i64 m.Slots,.int .i64 m.Limit,.sl 40 (List.map R40 m.Sectors),.sl 3 (List.map R3 m.Wear),.sl 4 (List.map R4 m.Bad)] 0]]]⟩]⟩) h (fun h=>?_) fun out h=>?_
 ·
  refine K3 1 3 4 Y<|Tr<|Rq Y (ZE (ov Y) ZgC)<|Rq Y (Zd (ov Y) Zmx Y)<|Rl tZ_40 ZjN Y<|Rm Y<|Za<|Zi<|?_
  obtain⟨r1,hl1,ho1⟩:=QZ h
  refine L2 (fun out2 i=>⟨[(1,.rp [.int .i64 m.Slots,.int .i64 m.Limit,.sl 40 (List.map R40 m.Sectors),.sl 3 (List.map R3 m.Wear),.sl 4 (List.map R4 m.Bad)] 0),(3,.own 0 out2.length),(4,.ptr 1 1 0 0),(12,.sl 40 (List.map R40 m.Sectors)),(13,.int .i64 (m.Sectors.length:Int)),(14,.int .i64 i)],[some ⟨3,List.map R3 out2⟩,some ⟨83,[[.fn 32 [.rp [.int .i64 m.Slots,.int .i64 m.Limit,.sl 40 (List.map R40 m.Sectors),.sl 3 (List.map R3 m.Wear),.sl 4 (List.map R4 m.Bad)] 0]]]⟩]⟩) hl1 (ES [none,some 0] (hhp:= .row 3<|.cons Y (ro1 (by exact tZ_83.symm)<|rlc (rFn<|rlc (.dat Y) rln) rln) .nil)) fun n1 out2 i h=>?_
  unfold Zau at h
  refine Tr<|R2 ZV Y<|Za<|Zl<|If h Y (fun h=>?_) fun h=>?_
  ·
   refine Zj<|Zl<|Zi<|K6 1 3 4 12 13 14 Y<|Tr<|Rm Y<|bE h fun x h_x h=>Rq Y (ZW (ov Y) (ov Y) ZjN h_x)<|Rq Y (Zd (ov Y) Zdz Y)<|Ra Y<|Ra Y<|Za<|K8 1 3 4 5 6 12 13 14 Y<|Tr<|Rm Y<|bE h fun y h_y h=>Rq Y (Zq (ZeT h_y)<|.cons (ov Y) (.b Y) .nil)<|Rm Y<|Rq Y (Zk (ov Y) Y)<|Rq Y (Zk (ov Y) Y)<|Rq Y (Zk (ov Y) Y)<|Ra Y<|Ra Y<|Ra Y<|Za<|K8 1 3 4 5 9 12 13 14 Y<|Tr<|Rm Y<|Rm Y<|Rq Y (.guarded (y.2.2==true) Y Y Y Y fun h=>ZE (ov Y) ZoK)<|Rq Y (.guarded (y.2.2==true) Y Y Y Y fun h=>Zd (ow Y h) Zts Y)<|Rq Y (.guarded (y.2.2==true) Y Y Y Y fun h=>Zc<|ov Y)<|bE h fun x2 h_x2 h=>Rq Y (.guarded (y.2.2==true) Y Y Y Y fun h=>ZW (ow Y h) (ow Y h) Ztb<|gdT h_x2 h)<|Rq Y (.guarded (y.2.2==true) Y Y Y Y fun h=>Zd (ow Y h) tS4 Y)<|Rq Y (.guarded (y.2.2==true) Y Y Y Y fun h=>XV<|ow Y h)<|Rq Y (XJ (ov Y) fun hp=>ow Y<|gT hp)<|Za<|K8 1 3 4 5 12 13 14 33 Y<|If h Y (fun h=>?_) fun h=>?_
   ·
    exact K7 1 3 4 5 12 13 14 Y<|Zt<|Rm Y<|Rm Y<|R_q (.sl 3<|List.map R3 ([i]:List Int)) Y (Jm Qp (.cons (cvs (ov Y)<|Z5 Y) Y (.cons (.b Y) .nil) .nil) Y Y)<|bE h fun l h_l h=>Rx Y (Zv (ov Y) (ZH (ov Y) tZ_3) Qp Y Y Y (fun _=>Zb Y) Y h_l)<|Ra Y<|Za<|K6 1 3 4 12 13 14 Y<|Zt<|R2 ZX Y<|Rm Y<|Za<|⟨_,h,ES [some 0,some 1] (hhp:= .cons Y (roM D3)<|.cons Y (ro1 (by exact tZ_83.symm)<|rlc (rFn<|rlc (.dat Y) rln) rln) .nil)⟩
   ·
    exact Zj<|K6 1 3 4 12 13 14 Y<|Zt<|R2 ZX Y<|Rm Y<|Za<|⟨_,h,ES [some 0,some 1] (hhp:= .cons Y (roM D3)<|.cons Y (ro1 (by exact tZ_83.symm)<|rlc (rFn<|rlc (.dat Y) rln) rln) .nil)⟩
  ·
   refine ZI<|?_
   replace h:=lx h▸ho1
   exact⟨_,h,ES [some 0,some 1] (hhp:= .cons Y (roM D3)<|.cons Y (ro1 (by exact tZ_83.symm)<|rlc (rFn<|rlc (.dat Y) rln) rln) .nil)⟩
 ·
  refine Tr<|Rm Y<|Zgk (Ent.sel [some 0,none] (sr 3 Y (.own (r':=0) _ Y)<|sr 4 Y (.frp ⟨Y,⟨_,Y⟩,Y,Y⟩)<|sr 39 Y (.own (r':=0) _ Y) sn) (.cons Y (roM D3)<|.row 83 .nil) Y Y)<|Rq Y (Zd4<|.cons (ov Y) .nil)<|bE h fun y2 h_y2 h=>Rx Y (JH [0] (ZcA Y (fun z0 z1 _ hz=>ZgV hz) h_y2) (.cons (ov Y) (.own _ Y)<|.cons (ov Y) (.dat Y) .nil) (.cons Y (roM D3) .nil) Y (.lent 0 (.inl Y) Y (roM D3)<|.keep Y Y .nil) Y Y<|ZbA<|rld Y)<|Za<|K1 3 Y<|Tr<|Rm Y<|Ra Y<|Za<|?_
  obtain rfl:=rt h
  exact Zs (ZK Y (.one<|.tmp Y<|View.ownM Y (Zcm h_y2) D3))
theorem Zi3{s:List Int}{i:Int}{r:(Vector Int 97)}(h:Zdf s i=some r):
 CSpec Tryz.prog gl0 14 [.sl 5 (List.map R5 s),.int .i64 i] (.rp (List.map C5 r.toList) 0):=by
 unfold Zdf at h
 replace h:=Qk h
 refine So Tryz.func14 Y fun w0 A=>Tr<|Ra Y<|Za<|K2 0 1 Y<|Tr<|Rm Y<|R2 Zd7 Y<|R2 ZX Y<|Ra Y<|Za<|K2 0 5 Y<|Tr<|Rm Y<|Rm Y<|Rm Y<|R2 ZX Y<|bE h fun l h_l h=>Rq Y (Zd0 (ov Y) Q6 (oi<|ov Y) (oi<|ov Y) h_l)<|bE h fun v h_v h=>Rq Y (ZkY (f:=C5) (ov Y) ZmP tZ_5 Y h_v)<|Ra Y<|Za<|?_
 obtain rfl:=rt h
 exact Zs (ZK Y (.one<|rb Y))
theorem Zc1{s:List Int}{f:Int→Option Bool}{r:Int}{f_f:FuncId}{f_c:List AV}(f_d:f_c.all datB=true)(f_h: ∀ (z0:Int) z,f z0=some z→CSpec Tryz.prog gl0 f_f ([.int .u8 z0]++f_c) (.bool z))(h:Xz s f=some r):
 CSpec Tryz.prog gl0 62 [.sl 5 (List.map R5 s),.fn f_f f_c] (.int .i64 r):=by
 unfold Xz at h
 replace h:=Qk h
 refine So Tryz.func62 Y fun w0 A=>Tr<|Ra Y<|Za<|J0 (fun j=>(.inr j)) ⟨[],[]⟩ h (fun h=>?_) fun h=>?_
 ·
  refine K2 0 1 Y<|Tr<|Rm Y<|Rl tZ_5 Q6 Y<|Rm Y<|Za<|Zi<|?_
  obtain⟨r1,hl1,ho1⟩:=QZ h
  refine L1 (fun i=>⟨[(0,.sl 5 (List.map R5 s)),(1,.fn f_f f_c),(7,.int .i64 (s.length:Int)),(8,.int .i64 i)],[]⟩) hl1 (ES []<|sd 0 Y Y<|sr 1 Y (rFn<|rld f_d)<|sd 7 Y Y<|sd 8 Y Y sn) fun n1 i h=>?_
  unfold QL at h
  refine Tr<|R2 ZV Y<|Za<|Zl<|If h Y (fun h=>?_) fun h=>?_
  ·
   refine Zj<|Zl<|Zi<|K4 0 1 7 8 Y<|Tr<|Rm Y<|Ra Y<|Za<|K5 0 1 5 7 8 Y<|Tr<|Rm Y<|Rm Y<|Rm Y<|bE h fun x h_x h=>Rq Y (ZW (ov Y) (ov Y) Q6 h_x)<|Rq Y (Zd (ov Y) tS5 Y)<|bE h fun y h_y h=>Rq Y (Zch (ov Y) f_d (f_h _ _ h_y)<|.cons (ov Y) (.b Y) .nil)<|Za<|K6 0 1 5 7 8 16 Y<|If h Y (fun h=>?_) fun h=>?_
   ·
    refine K1 5 Y<|Tr<|Rm Y<|Ra Y<|Za<|?_
    replace h:=lx h▸ho1
    obtain rfl:=rt h
    exact Zs (ZK Y (.one<|rb Y))
   ·
    exact Zj<|K4 0 1 7 8 Y<|Zt<|R2 ZX Y<|Rm Y<|Za<|⟨_,h,ES []<|sd 0 Y Y<|sr 1 Y (rFn<|rld f_d)<|sd 7 Y Y<|sd 8 Y Y sn⟩
  ·
   refine ZI<|?_
   replace h:=lx h▸ho1
   exact⟨(),h,ES []⟩
 ·
  replace h:=elr h
  replace h:=t0i h
  refine Tr<|Ra Y<|Za<|?_
  obtain rfl:=rt h
  exact Zs (ZK Y (.one<|rb Y))
theorem Zcu{s:List Int}{f:Int→Option Bool}{r:Bool}{f_f:FuncId}{f_c:List AV}(f_d:f_c.all datB=true)(f_h: ∀ (z0:Int) z,f z0=some z→CSpec Tryz.prog gl0 f_f ([.int .u8 z0]++f_c) (.bool z))(h:QO s f=some r):
 CSpec Tryz.prog gl0 37 [.sl 5 (List.map R5 s),.fn f_f f_c] (.bool r):=by
 unfold QO at h
 replace h:=Qk h
 refine So Tryz.func37 Y fun w0 A=>Tr<|Ra Y<|Za<|Tr<|Rm Y<|Rm Y<|bE h fun y h_y h=>Rq Y (Zq (Zc1 f_d f_h h_y)<|.cons (ov Y) (.b Y)<|.cons (ov Y) (Dat.fnC<|.refl fun x hx=> .b<|List.all_eq_true.1 f_d x hx) .nil)<|R2 Zc5 Y<|Ra Y<|Za<|?_
 obtain rfl:=rt h
 exact Zs (ZK Y (.one<|rb Y))
theorem Zhb{b:Int}{r:Bool}(h:Zab b=some r):
 CSpec Tryz.prog gl0 38 [.int .u8 b] (.bool r):=by
 unfold Zab at h
 replace h:=Qk h
 refine So Tryz.func38 Y fun w0 A=>Tr<|Ra Y<|Za<|Tr<|Rm Y<|R2 XW Y<|Ra Y<|Za<|?_
 obtain rfl:=rt h
 exact Zs (ZK Y (.one<|rb Y))
theorem Zie{p:Vector Int 97}{r:Int}(h:Zcz p=some r):
 CSpec Tryz.prog gl0 15 [.rp (List.map C5 p.toList) 0] (.int .i64 r):=by
 unfold Zcz at h
 replace h:=Qk h
 refine So Tryz.func15 Y fun w0 A=>Tr<|Ra Y<|Za<|Zl<|Zi<|K1 0 Y<|Tr<|Rm Y<|R1 ZD Y<|bE h fun x h_x h=>Rq Y (QI (ov Y) (ov Y) ZmP h_x)<|Rq Y (Zd (ov Y) tS5<|Zn<|Qn (o:=0) (o':=((Int.toNat 96)*1)) (Zh arL)<|Qd h_x)<|R2 Q3 Y<|Ra Y<|Za<|K2 0 3 Y<|If h Y (fun h=>?_) fun h=>?_
 ·
  refine K0<|Tr<|Ra Y<|Za<|?_
  obtain rfl:=rt h
  exact Zs (ZK Y (.one<|rb Y))
 ·
  refine K1 0 Y<|Tr<|Rm Y<|R1 ZD Y<|bE h fun l h_l h=>Rq Y (ZjV (f:=C5) (ov Y) ZmP tZ_5 (Zh arL) Y on on h_l)<|bE h fun y h_y h=>Rq Y (Zq (Zcu Y (fun z0 _ hz=>Zhb hz) h_y)<|.cons (ov Y) (.b Y)<|.cons (ov Y) .fn .nil)<|Ra Y<|Za<|K1 9 Y<|If h Y (fun h=>?_) fun h=>?_
  ·
   refine K0<|Tr<|Ra Y<|Za<|?_
   obtain rfl:=rt h
   exact Zs (ZK Y (.one<|rb Y))
  ·
   refine Zj<|K0<|Tr<|Ra Y<|Za<|?_
   obtain rfl:=rt h
   exact Zs (ZK Y (.one<|rb Y))
theorem Zif{p:Vector Int 96}{i:Int}{r:Int}(h:Zcw p i=some r):
 CSpec Tryz.prog gl0 63 [.rp (List.map C5 p.toList) 0,.int .i64 i] (.int .u16 r):=by
 unfold Zcw at h
 replace h:=Qk h
 refine So Tryz.func63 Y fun w0 A=>Tr<|Ra Y<|Za<|K2 0 1 Y<|Tr<|Rm Y<|bE h fun q h_q h=>Rq Y (Zd6 (ov Y) (ov Y) h_q)<|R2 Zd7 Y<|Ra Y<|Za<|Zl<|K3 0 1 5 Y<|Tr<|Rm Y<|bE h fun q2 h_q2 h=>Rq Y (JI (ov Y) (ov Y) h_q2)<|R2 Q3 Y<|Za<|K3 0 5 11 Y<|If h Y (fun h=>?_) fun h=>?_
 ·
  refine Zl<|K2 0 5 Y<|Qe (cw:=md0) (by kernel_rfl)<|D1 0 Zc Y<|D1 1 Zc Y<|D1 2 ZD Y<|bE h fun x h_x h=>Dq 3 Y (QI (ov Y) (ov Y) Zoz h_x)<|Dq 4 Y (Zd (ov Y) tS5<|Zn<|Qn (o:=0) (o':=((i64 (q*3)).toNat*1)) (Zh arL)<|Qd h_x)<|Dq 5 Y (Qy (ov Y) tI5 ZcN Y)<|bE h fun q3 h_q3 h=>Dq 6 Y (Zel (ov Y) (ov Y) h_q3)<|D1 7 Zc Y<|D1 8 Zc Y<|D2 9 ZX Y<|D1 10 ZD Y<|bE h fun x2 h_x2 h=>Dq 11 Y (QI (ov Y) (ov Y) Zoz h_x2)<|Dq 12 Y (Zd (ov Y) tS5<|Zn<|Qn (o:=0) (o':=((i64 ((i64 (q*3))+1)).toNat*1)) (Zh arL)<|Qd h_x2)<|Dq 13 Y (Qy (ov Y) tI5 ZcN Y)<|bE h fun q4 h_q4 h=>Dq 14 Y (Zbo (ov Y) (ov Y) h_q4)<|D2 15 Zgl Y<|D1 16 QK Y<|Dd<|?_
  obtain rfl:=rt h
  exact Zs (ZK Y (.one<|rb Y))
 ·
  refine Zj<|Zl<|K2 0 5 Y<|Qe (cw:=md0) (by kernel_rfl)<|D1 0 Zc Y<|D1 1 Zc Y<|D2 2 ZX Y<|D1 3 ZD Y<|bE h fun x3 h_x3 h=>Dq 4 Y (QI (ov Y) (ov Y) Zoz h_x3)<|Dq 5 Y (Zd (ov Y) tS5<|Zn<|Qn (o:=0) (o':=((i64 ((i64 (q*3))+1)).toNat*1)) (Zh arL)<|Qd h_x3)<|Dq 6 Y (Qy (ov Y) tI5 ZcN Y)<|D2 7 ZbX Y<|bE h fun q5 h_q5 h=>Dq 8 Y (Zel (ov Y) (ov Y) h_q5)<|D1 9 Zc Y<|D1 10 Zc Y<|D2 11 ZX Y<|D1 12 ZD Y<|bE h fun x4 h_x4 h=>Dq 13 Y (QI (ov Y) (ov Y) Zoz h_x4)<|Dq 14 Y (Zd (ov Y) tS5<|Zn<|Qn (o:=0) (o':=((i64 ((i64 (q*3))+2)).toNat*1)) (Zh arL)<|Qd h_x4)<|Dq 15 Y (Qy (ov Y) tI5 ZcN Y)<|D2 16 Zgl Y<|D1 17 QK Y<|Dd<|?_
  obtain rfl:=rt h
  exact Zs (ZK Y (.one<|rb Y))
theorem ZjL{p:Vector Int 96}{r:(Vector Int 64)}(h:ZdM p=some r):
 CSpec Tryz.prog gl0 39 [.rp (List.map C5 p.toList) 0] (.agg (List.map C35 r.toList)):=by
 unfold ZdM at h
 replace h:=Qk h
 refine So Tryz.func39 Y fun w0 A=>Tr<|Rx Y (ZP (row:=(List.map C35 (Vector.replicate 64 0).toList)) 0 Y ZcI Y tZ_37)<|Za<|Tr<|Rx Y (ZP (row:=(List.map C35 (Vector.replicate 64 0).toList)) 1 Y ZcI Y tZ_37)<|Za<|I1 (fun f=>⟨[(2,.ptr 0 1 0 0),(3,.ptr 1 1 0 0)],[some ⟨37,[(List.map C35 (Vector.replicate 64 0).toList)]⟩,some ⟨37,[(List.map C35 f.toList)]⟩]⟩) h (fun h=>?_) fun f h=>?_
 ·
  refine Tr<|Rm Y<|Za<|Zi<|?_
  obtain⟨r1,hl1,ho1⟩:=QZ h
  refine L2 (fun f2 i=>⟨[(0,.rp (List.map C5 p.toList) 0),(2,.ptr 0 1 0 0),(3,.ptr 1 1 0 0),(5,.int .i64 i)],[some ⟨37,[(List.map C35 (Vector.replicate 64 0).toList)]⟩,some ⟨37,[(List.map C35 f2.toList)]⟩]⟩) hl1 (ES [some 0,some 1]) fun n1 f2 i h=>?_
  unfold Zbs at h
  refine Tr<|R2 ZV Y<|Za<|Zl<|If h Y (fun h=>?_) fun h=>?_
  ·
   exact Zj<|Zl<|Zi<|K4 0 2 3 5 Y<|Tr<|Rm Y<|Ra Y<|Za<|K5 0 2 3 4 5 Y<|Zt<|Rm Y<|Rm Y<|Rm Y<|bE h fun y h_y h=>Rq Y (Zq (Zif h_y)<|.cons (ov Y) (.b Y)<|.cons (ov Y) (.b Y) .nil)<|bE h fun x h_x h=>Rq Y (QB (ov Y) (ov Y) Xc Y Y h_x)<|Rx Y (Zf (ov Y) (ov Y) (Zg Xn) Y Y Y (arB h_x) (Zb Y)<|arS h_x)<|Za<|K4 0 2 3 5 Y<|Zt<|R2 ZX Y<|Rm Y<|Za<|⟨_,h,ES [some 0,some 1]⟩
  ·
   refine ZI<|?_
   replace h:=lx h▸ho1
   exact⟨_,h,ES [some 0,some 1]⟩
 ·
  refine Tr<|Rq Y (ZJ (ov Y) Y Y Y Qz (Zu<|Zh arL) arL (hns:=(nsM fun _=>Y)))<|Rx Y (Zf (ov Y) (ov Y) (Zp Qz arL) Y Y Y (ZG (Zh arL) arL) (Zb<|arC fun _=>Y)<|ZO<|Eq.trans arL<|Eq.symm arL)<|Za<|?_
  obtain rfl:=rt h
  exact Zs (ZK Y (.one<|.agg Y Y Y Y Qz (Zu<|Zh arL) arL (pwB<|arD fun _=>Y) (hns:=(nsM fun _=>Y))))
theorem Zgv{b:List Int}{r:(Vector Int 64)×Int}(h:Zay b=some r):
 CSpec Tryz.prog gl0 16 [.sl 5 (List.map R5 b)] (.tuple [.agg (List.map C35 r.1.toList),.int .i64 r.2]):=by
 unfold Zay at h
 replace h:=Qk h
 refine So Tryz.func16 Y fun w0 A=>Tr<|Rx Y (ZP (row:=(List.map C35 (Vector.replicate 64 0).toList)) 0 Y ZcI Y tZ_37)<|Ra Y<|Za<|Zl<|K2 0 2 Y<|Tr<|Rm Y<|Rl tZ_5 Q6 Y<|R2 ZV Y<|Za<|K3 0 2 7 Y<|If h Y (fun h=>?_) fun h=>?_
 ·
  refine K1 2 Y<|Tr<|R_q (.agg<|List.map C35 (#v[0,0,0,0,0,0,0,0,0,0,0,0,0,0,0,0,0,0,0,0,0,0,0,0,0,0,0,0,0,0,0,0,0,0,0,0,0,0,0,0,0,0,0,0,0,0,0,0,0,0,0,0,0,0,0,0,0,0,0,0,0,0,0,0]:Vector Int 64).toList) Y (Zbq (ys:= [_,_,_,_,_,_,_,_,_,_,_,_,_,_,_,_,_,_,_,_,_,_,_,_,_,_,_,_,_,_,_,_,_,_,_,_,_,_,_,_,_,_,_,_,_,_,_,_,_,_,_,_,_,_,_,_,_,_,_,_,_,_,_,_]) Xc ZcI .nil Y)<|Rx Y (Zf (ov Y) (ov Y) (Zp Qz arL) Y Y Y (ZG (Zh arL) arL) (Zb<|arC fun _=>Y)<|ZO<|Eq.trans arL<|Eq.symm arL)<|Ra Y<|Za<|?_
  obtain rfl:=rt h
  exact Zs (ZK Y (.two (.agg Y Y Y Y Qz (Zu<|Zh arL) arL (pwB<|arD fun _=>Y) (hns:=(nsM fun _=>Y)))<|rb Y))
 ·
  refine Zj<|K2 0 2 Y<|Tr<|Rm Y<|bE h fun l h_l h=>Rq Y (Zd0 (ov Y) Q6 on (oi<|ov Y) h_l)<|bE h fun v h_v h=>Rq Y (ZkY (f:=C5) (ov Y) Zoz tZ_5 Y h_v)<|Rq Y (ZU (ov Y) Zty (Zu<|Zh arL) arL)<|Rx Y (ZP (row:=(List.map C5 (Vector.replicate 96 0).toList)) 1 Y Zt0 Y tZ_91)<|Rx Y (Zf (ov Y) (ov Y) (Zp Zty arL) Y Y Y (ZG (Zh arL) arL) (Zb<|arC fun _=>Y)<|ZO<|Eq.trans arL<|Eq.symm arL)<|Za<|K2 2 4 Y<|Tr<|bE h fun y h_y h=>Rq Y (ZaN (ZjL h_y) (Zly fun _=>.int)<|.cons (ov Y) (View.ptr Y Y Y (pwB<|arD fun _=>Y) (hns:=(nsM fun _=>Y))) .nil)<|Rx Y (Zf (ov Y) (ov Y) (Zp Qz arL) Y Y Y (ZG (Zh arL) arL) (Zb<|arC fun _=>Y)<|ZO<|Eq.trans arL<|Eq.symm arL)<|Ra Y<|Za<|?_
  obtain rfl:=rt h
  exact Zs (ZK Y (.two (.agg Y Y Y Y Qz (Zu<|Zh arL) arL (pwB<|arD fun _=>Y) (hns:=(nsM fun _=>Y)))<|rb Y))
theorem Zip{l:List api_Memory}{r:(List api_Kept)×Int}(h:Zca l=some r):
 CSpec Tryz.prog gl0 5 [.sl 60 (List.map R60 l)] (.tuple [.sl 39 (List.map R39 r.1),.int .i64 r.2]):=by
 unfold Zca at h
 replace h:=Qk h
 refine So Tryz.func5 Y fun w0 A=>Tr<|Ra Y<|Ra Y<|Za<|Zl<|K1 0 Y<|Tr<|Rm Y<|bE h fun y h_y h=>Rq Y (Zq (ZeM h_y)<|.cons (ov Y) (.b Y) .nil)<|Ra Y<|Za<|K2 0 4 Y<|Tr<|Rm Y<|R2 XW Y<|Za<|K3 0 4 20 Y<|If h Y (fun h=>?_) fun h=>?_
 ·
  refine K1 4 Y<|Tr<|Rm Y<|Ra Y<|Ra Y<|Za<|?_
  obtain rfl:=rt h
  exact Zs (ZK Y (.two (.tmp Y<|View.nils 39)<|rb Y))
 ·
  refine Zj<|K1 0 Y<|Tr<|Ra Y<|Za<|I1 (fun out=>⟨[(5,.own 0 out.length)],[some ⟨39,List.map R39 out⟩]⟩) h (fun h=>?_) fun out h=>?_
  ·
   refine Tr<|Rm Y<|Rl tZ_60 ZmI Y<|Rm Y<|Za<|Zi<|?_
   obtain⟨r1,hl1,ho1⟩:=QZ h
   refine L2 (fun out2 i=>⟨[(5,.own 0 out2.length),(22,.sl 60 (List.map R60 l)),(23,.int .i64 (l.length:Int)),(24,.int .i64 i)],[some ⟨39,List.map R39 out2⟩]⟩) hl1 (ES [none]) fun n1 out2 i h=>?_
   unfold Zat at h
   refine Tr<|R2 ZV Y<|Za<|Zl<|If h Y (fun h=>?_) fun h=>?_
   ·
    refine Zj<|I1 (fun out3=>⟨[(5,.own 0 out3.length),(22,.sl 60 (List.map R60 l)),(23,.int .i64 (l.length:Int)),(24,.int .i64 i)],[some ⟨39,List.map R39 out3⟩]⟩) h (fun h=>?_) fun out3 h=>?_
    ·
     refine Zi<|K4 5 22 23 24 Y<|Tr<|Rm Y<|bE h fun x h_x h=>Rq Y (ZW (ov Y) (ov Y) ZmI h_x)<|Rq Y (ZU (ov Y) ZlT Y Y)<|Rx Y (ZP (row:= [_,_,_,_,_]) 1 Y Zr1 Y tZ_60)<|Ra Y<|Rx Y (Zf (ov Y) (ov Y) (Zp ZlT Y) Y Y Y (Nat.le_of_ble_eq_true Y) (Zb Y) Y)<|Za<|K6 5 6 7 22 23 24 Y<|Tr<|Rq Y (ZJ (ov Y) Y Y Y ZlT Y Y)<|bE h fun y2 h_y2 h=>Rq Y (Zq (Zil h_y2)<|.cons (ov Y) (.aggB Y) .nil)<|Rl tZ_3 Qp Y<|Rm Y<|Za<|Zi<|?_
     obtain⟨r2,hl2,ho2⟩:=QZ h
     refine L2 (fun out4 i2=>⟨[(5,.own 0 out4.length),(6,.int .i64 i),(7,.ptr 1 1 0 0),(22,.sl 60 (List.map R60 l)),(23,.int .i64 (l.length:Int)),(24,.int .i64 i),(30,.sl 3 (List.map R3 y2)),(31,.int .i64 (y2.length:Int)),(32,.int .i64 i2)],[some ⟨39,List.map R39 out4⟩,some ⟨60,[[.int .i64 x.Slots,.int .i64 x.Limit,.sl 40 (List.map R40 x.Sectors),.sl 3 (List.map R3 x.Wear),.sl 4 (List.map R4 x.Bad)]]⟩]⟩) hl2 (ES [some 0,some 1]) fun n2 out4 i2 h=>?_
     unfold Zaz at h
     refine Tr<|R2 ZV Y<|Za<|Zl<|If h Y (fun h=>?_) fun h=>?_
     ·
      refine Zj<|I1 (fun out5=>⟨[(5,.own 0 out5.length),(6,.int .i64 i),(7,.ptr 1 1 0 0),(22,.sl 60 (List.map R60 l)),(23,.int .i64 (l.length:Int)),(24,.int .i64 i),(30,.sl 3 (List.map R3 y2)),(31,.int .i64 (y2.length:Int)),(32,.int .i64 i2)],[some ⟨39,List.map R39 out5⟩,some ⟨60,[[.int .i64 x.Slots,.int .i64 x.Limit,.sl 40 (List.map R40 x.Sectors),.sl 3 (List.map R3 x.Wear),.sl 4 (List.map R4 x.Bad)]]⟩]⟩) h (fun h=>?_) fun out5 h=>?_
      ·
       refine Zi<|K9 5 6 7 22 23 24 30 31 32 Y<|Tr<|bE h fun x2 h_x2 h=>Rq Y (ZW (ov Y) (ov Y) Qp h_x2)<|Rq Y (Zd (ov Y) tS3 Y)<|Ra Y<|Za<|K10 5 6 7 9 22 23 24 30 31 32 Y<|Tr<|Rq Y (Ze (ov Y) Y Y ZgC)<|Rq Y (Zm (ov Y) Y Y Y Zmx Y)<|Rm Y<|bE h fun x3 h_x3 h=>Rq Y (ZW (ov Y) (ov Y) ZjN h_x3)<|Rq Y (Zd (ov Y) Zdz Y)<|bE h fun y3 h_y3 h=>Rq Y (Zq (ZeT h_y3)<|.cons (ov Y) (.b Y) .nil)<|Rm Y<|Rq Y (Zk (ov Y) Y)<|Rq Y (Zk (ov Y) Y)<|Rq Y (Zk (ov Y) Y)<|Ra Y<|Ra Y<|Ra Y<|Za<|K11 5 6 7 9 10 22 23 24 30 31 32 Y<|Tr<|Rq Y (Ze (ov Y) Y Y Zmv)<|Rq Y (Zm (ov Y) Y Y Y tS3 Y)<|Rm Y<|Za<|Zi<|?_
       obtain⟨r3,hl3,ho3⟩:=QZ h
       refine L2 (fun out6 i3=>⟨[(5,.own 0 out6.length),(6,.int .i64 i),(7,.ptr 1 1 0 0),(9,.int .i64 x2),(10,.int .i64 y3.1),(22,.sl 60 (List.map R60 l)),(23,.int .i64 (l.length:Int)),(24,.int .i64 i),(30,.sl 3 (List.map R3 y2)),(31,.int .i64 (y2.length:Int)),(32,.int .i64 i2),(47,.int .i64 x.Slots),(48,.int .i64 i3)],[some ⟨39,List.map R39 out6⟩,some ⟨60,[[.int .i64 x.Slots,.int .i64 x.Limit,.sl 40 (List.map R40 x.Sectors),.sl 3 (List.map R3 x.Wear),.sl 4 (List.map R4 x.Bad)]]⟩]⟩) hl3 (ES [some 0,some 1]) fun n3 out6 i3 h=>?_
       unfold Zax at h
       refine Tr<|R2 ZV Y<|Za<|Zl<|If h Y (fun h=>?_) fun h=>?_
       ·
        refine Zj<|Zl<|Zi<|Jk (kc 5 Y<|kc 6 Y<|kc 7 Y<|kc 9 Y<|kc 10 Y<|kc 22 Y<|kc 23 Y<|kc 24 Y<|kc 30 Y<|kc 31 Y<|kc 32 Y<|kc 47 Y<|kc 48 Y kn) Y<|Tr<|Rm Y<|Ra Y<|Za<|Jk (kc 5 Y<|kc 6 Y<|kc 7 Y<|kc 9 Y<|kc 10 Y<|kc 13 Y<|kc 22 Y<|kc 23 Y<|kc 24 Y<|kc 30 Y<|kc 31 Y<|kc 32 Y<|kc 47 Y<|kc 48 Y kn) Y<|Tr<|Rq Y (Ze (ov Y) Y Y ZgC)<|Rq Y (Zm (ov Y) Y Y Y Zmx Y)<|Rm Y<|bE h fun x4 h_x4 h=>Rq Y (ZW (ov Y) (ov Y) ZjN h_x4)<|Rq Y (Zd (ov Y) Zdz Y)<|Rm Y<|bE h fun y4 h_y4 h=>Rq Y (Zq (Zi3 h_y4)<|.cons (ov Y) (.b Y)<|.cons (ov Y) (.b Y) .nil)<|Ra Y<|Za<|Jk (kc 5 Y<|kc 6 Y<|kc 7 Y<|kc 9 Y<|kc 10 Y<|kc 13 Y<|kc 14 Y<|kc 22 Y<|kc 23 Y<|kc 24 Y<|kc 30 Y<|kc 31 Y<|kc 32 Y<|kc 47 Y<|kc 48 Y kn) Y<|Tr<|Rm Y<|bE h fun y5 h_y5 h=>Rq Y (Zq (Zie h_y5)<|.cons (ov Y) (.b Y) .nil)<|R2 Q3 Y<|Za<|Jk (kc 5 Y<|kc 6 Y<|kc 7 Y<|kc 9 Y<|kc 10 Y<|kc 13 Y<|kc 14 Y<|kc 22 Y<|kc 23 Y<|kc 24 Y<|kc 30 Y<|kc 31 Y<|kc 32 Y<|kc 47 Y<|kc 48 Y<|kc 60 Y kn) Y<|If h Y (fun h=>?_) fun h=>?_
        ·
         exact Jk (kc 5 Y<|kc 6 Y<|kc 7 Y<|kc 9 Y<|kc 10 Y<|kc 13 Y<|kc 14 Y<|kc 22 Y<|kc 23 Y<|kc 24 Y<|kc 30 Y<|kc 31 Y<|kc 32 Y<|kc 47 Y<|kc 48 Y kn) Y<|Tr<|Rm Y<|R1 ZD Y<|bE h fun l2 h_l2 h=>Rq Y (ZjV (f:=C5) (ov Y) ZmP tZ_5 (Zh arL) Y on on h_l2)<|bE h fun y6 h_y6 h=>Rq Y (Zq (Zgv h_y6)<|.cons (ov Y) (.b Y) .nil)<|Rm Y<|Rq Y (Zk (ov Y) Y)<|Rq Y (Zk (ov Y) Y)<|Rx Y (ZP (row:=(List.map C35 (Vector.replicate 64 0).toList)) 2 Y ZcI Y tZ_37)<|Rx Y (Zf (ov Y) (ov Y) (Zp Qz arL) Y Y Y (ZG (Zh arL) arL) (Zb<|arC fun _=>Y)<|ZO<|Eq.trans arL<|Eq.symm arL)<|Ra Y<|Za<|Jk (kc 5 Y<|kc 6 Y<|kc 7 Y<|kc 9 Y<|kc 10 Y<|kc 13 Y<|kc 15 Y<|kc 22 Y<|kc 23 Y<|kc 24 Y<|kc 30 Y<|kc 31 Y<|kc 32 Y<|kc 47 Y<|kc 48 Y kn) Y<|Zt<|Rm Y<|Rm Y<|Rm Y<|Rm Y<|Rm Y<|Rq Y (ZJ (ov Y) Y Y Y Qz (Zu<|Zh arL) arL (hns:=(nsM fun _=>Y)))<|Rq Y (Zc9 (zr:=(.int .i64 0)::(.int .i64 0)::(.int .i64 0)::(.int .i64 0)::((List.map C35 (Vector.replicate 64 0).toList)++([]))) Ztt ZsP ZsB (by kernel_rfl) (.cons (cvs (ov Y)<|Z5 Y)<|.cons (cvs (ov Y)<|Z5 Y)<|.cons (cvs (ov Y)<|Z5 Y)<|.cons (cvs (ov Y)<|Z5 Y)<|.cons (cva<|ov Y) .nil)<|Jj Y Y at1 pt2<|Jj Y Y at3 pt4<|Jj Y Y at5 pt6<|Jj Y Y at7 pt8<|Jj Y arL at9 ZtE Zfy)<|R_q (.sl 39<|List.map R39 ([(api_Kept.mk i x2 y3.1 i3 y6.1)]:List api_Kept)) Y (Jm Zqw (.cons (cva<|ov Y) ZjE (pwD Ztn) .nil) Y Y)<|bE h fun l3 h_l3 h=>Rx Y (Zv (ov Y) (ZH (ov Y) tZ_39) Zqw Y Y Y (fun x=>Zb<|E39 x) Y h_l3)<|Ra Y<|Za<|Jk (kc 5 Y<|kc 6 Y<|kc 7 Y<|kc 9 Y<|kc 10 Y<|kc 22 Y<|kc 23 Y<|kc 24 Y<|kc 30 Y<|kc 31 Y<|kc 32 Y<|kc 47 Y<|kc 48 Y kn) Y<|Zt<|R2 ZX Y<|Rm Y<|Za<|⟨_,h,ES [some 0,some 1]⟩
        ·
         exact Zj<|Jk (kc 5 Y<|kc 6 Y<|kc 7 Y<|kc 9 Y<|kc 10 Y<|kc 22 Y<|kc 23 Y<|kc 24 Y<|kc 30 Y<|kc 31 Y<|kc 32 Y<|kc 47 Y<|kc 48 Y kn) Y<|Zt<|R2 ZX Y<|Rm Y<|Za<|⟨_,h,ES [some 0,some 1]⟩
       ·
        refine ZI<|?_
        replace h:=lx h▸ho3
        exact⟨_,h,ES [some 0,some 1]⟩
      ·
       exact Zt<|R2 ZX Y<|Rm Y<|Za<|⟨_,h,ES [some 0,some 1]⟩
     ·
      refine ZI<|?_
      replace h:=lx h▸ho2
      exact⟨_,h,ES [some 0]⟩
    ·
     exact Zt<|R2 ZX Y<|Rm Y<|Za<|⟨_,h,ES [some 0]⟩
   ·
    refine ZI<|?_
    replace h:=lx h▸ho1
    exact⟨_,h,ES [some 0]⟩
  ·
   refine Tr<|Rm Y<|Ra Y<|Ra Y<|Za<|?_
   obtain rfl:=rt h
   exact Zs (ZK Y (.two (.tmp Y<|View.ownM Y Y D39)<|rb Y))
theorem Zfh{l:List api_Memory}{r:Int}(h:Jy l=some r):
 CSpec Tryz.prog gl0 17 [.sl 60 (List.map R60 l)] (.int .i64 r):=by
 unfold Jy at h
 replace h:=Qk h
 refine So Tryz.func17 Y fun w0 A=>Tr<|Ra Y<|Za<|Tr<|Rm Y<|bE h fun y h_y h=>Rq Y (Zq (ZeM h_y)<|.cons (ov Y) (.b Y) .nil)<|Ra Y<|Za<|?_
 obtain rfl:=rt h
 exact Zs (ZK Y (.one<|rb Y))
theorem ZiR{b:List Int}{from_:Int}{to:Int}{r:api_Piece}(h:Zb3 b from_ to=some r):
 CSpec Tryz.prog gl0 18 [.sl 5 (List.map R5 b),.int .i64 from_,.int .i64 to] (.agg [.sl 5 (List.map R5 r.Bytes),.bool r.Half]):=by
 unfold Zb3 at h
 replace h:=Qk h
 refine So Tryz.func18 Y fun w0 A=>Tr<|Rx Y (ZP (row:= [_,_]) 0 Y Zli Y tZ_42)<|Za<|Zl<|Tr<|Rm Y<|Rm Y<|R2 Q3 Y<|Za<|K5 0 1 2 6 10 Y<|If h Y (fun h=>?_) fun h=>?_
 ·
  refine K1 6 Y<|Tr<|Rq Y (ZdC (ys:= [_,_]) Zq9 Zrl Zli .nil Y)<|Rx Y (Zf (ov Y) (ov Y) (Zp Zc2 Y) Y Y Y (Nat.le_of_ble_eq_true Y) (Zb Y) Y)<|Za<|?_
  obtain rfl:=rt h
  exact Zs (ZK Y (.one<|.agg Y Y Y Y Zc2 Y Y<|.cons (View.nils 5)<|.cons (Dat.view<|.b Y) .nil))
 ·
  refine Zj<|K4 0 1 2 6 Y<|Tr<|Rm Y<|Rm Y<|bE h fun q h_q h=>Rq Y (Zd6 (ov Y) (ov Y) h_q)<|Rm Y<|R2 ZX Y<|bE h fun q2 h_q2 h=>Rq Y (Zd6 (ov Y) (ov Y) h_q2)<|bE h fun l h_l h=>Rq Y (Zd0 (ov Y) Q6 (oi<|ov Y) (oi<|ov Y) h_l)<|bE h fun l2 h_l2 h=>Rx Y (ZbS (r:=1) Y (ov Y) (ZH (ov Y) tZ_5) Q6 Y h_l2)<|Rm Y<|bE h fun q3 h_q3 h=>Rq Y (JI (ov Y) (ov Y) h_q3)<|R2 Q3 Y<|Rq Y (ZdC (ys:= [_,_]) Zq9 Zrl Zli (.cons (cvs (ov Y)<|Z5 Y)<|.cons (cvs (ov Y)<|Z5 Y) .nil) Y)<|Rx Y (ZP (row:= [_,_]) 2 Y Zli Y tZ_42)<|Rx Y (Zf (ov Y) (ov Y) (Zp Zc2 Y) Y Y Y (Nat.le_of_ble_eq_true Y) (Zb Y) Y)<|Za<|I1 (fun Bytes=>⟨[(2,.int .i64 to),(6,.ptr 0 1 0 0),(7,.ptr 1 1 0 0)],[some ⟨42,[[.nils,.bool false]]⟩,some ⟨42,[[.own 2 Bytes.length,.bool (decide (q3=1))]]⟩,some ⟨5,List.map R5 Bytes⟩]⟩) h (fun h=>?_) fun Bytes h=>?_
  ·
   refine K3 2 6 7 Y<|Tr<|Rq Y (Ze (ov Y) Y Y ZiG)<|Rq Y (Zm (ov Y) Y Y Y tS4 Y)<|Za<|K4 2 6 7 25 Y<|If h Y (fun h=>?_) fun h=>?_
   ·
    exact K3 2 6 7 Y<|Zt<|Rq Y (Ze (ov Y) Y Y ZcR)<|Rq Y (Zm (ov Y) Y Y Y Zdz Y)<|bE h fun x h_x h=>Rq Y (QW (ov Y) (ov Y) Q6 Y Y h_x)<|Rq Y (Q0 (ov Y) Y Y h_x tS5 Y)<|R2 ZbX Y<|bE h fun x2 h_x2 h=>Rq Y (QW (ov Y) (ov Y) Q6 Y Y h_x2)<|Rx Y (J4 (u':=(XF .u8 x 15)) (ov Y) (ov Y) (Zg tS5) Y Y h_x2 Y (Zb Y) Y)<|Za<|⟨_,h,ES [some 0,some 2,some 1] (hhp:= .cons Y (ro1 (by exact tZ_42.symm)<|rld Y)<|.cons Y (ro1 (by exact tZ_42.symm)<|rlc (ZfM (Eq.symm<|(List.length_set ..).trans Y) Y)<|rlc (.dat Y) rln)<|.cons Y (roM D5) .nil)⟩
   ·
    exact Zj<|⟨_,h,ES [some 0,some 2,some 1]⟩
  ·
   refine Zl<|Tr<|Rm Y<|bE h fun q4 h_q4 h=>Rq Y (JI (ov Y) (ov Y) h_q4)<|R2 Q3 Y<|Za<|K3 6 7 34 Y<|If h Y (fun h=>?_) fun h=>?_
   ·
    refine K2 6 7 Y<|Zt<|Rq Y (Ze (ov Y) Y Y ZcR)<|Rq Y (Zm (ov Y) Y Y Y Zdz Y)<|Rq Y (Ze (ov Y) Y Y ZcR)<|Rq Y (Zm (ov Y) Y Y Y Zdz Y)<|Rq Y (Zd3 (ov Y) Y Y Q6)<|R2 ZaO Y<|bE h fun x3 h_x3 h=>Rq Y (QW (ov Y) (ov Y) Q6 Y Y h_x3)<|Rq Y (Q0 (ov Y) Y Y h_x3 tS5 Y)<|R2 ZbX Y<|bE h fun x4 h_x4 h=>Rq Y (QW (ov Y) (ov Y) Q6 Y Y h_x4)<|Rx Y (J4 (u':=(XF .u8 x3 240)) (ov Y) (ov Y) (Zg tS5) Y Y h_x4 Y (Zb Y) Y)<|Za<|K2 6 7 Y<|Tr<|Rq Y (ZJ (ov Y) Y Y Y Zc2 Y Y)<|Rx Y (Zf (ov Y) (ov Y) (Zp Zc2 Y) Y Y Y (Nat.le_of_ble_eq_true Y) (Zb Y) Y)<|Za<|?_
    obtain rfl:=rt h
    exact Zs (ZK Y (.one<|.agg Y Y Y Y Zc2 Y Y<|.cons (View.ownM Y ((List.length_set ..).trans Y) D5)<|.cons (Dat.view<|.b Y) .nil))
   ·
    refine Zj<|K2 6 7 Y<|Tr<|Rq Y (ZJ (ov Y) Y Y Y Zc2 Y Y)<|Rx Y (Zf (ov Y) (ov Y) (Zp Zc2 Y) Y Y Y (Nat.le_of_ble_eq_true Y) (Zb Y) Y)<|Za<|?_
    obtain rfl:=rt h
    exact Zs (ZK Y (.one<|.agg Y Y Y Y Zc2 Y Y<|.cons (View.ownM Y Y D5)<|.cons (Dat.view<|.b Y) .nil))
theorem Zhm{l:List api_Memory}{cuts:List Int}{r:(List api_Piece)×Int}(h:ZaT l cuts=some r):
 CSpec Tryz.prog gl0 6 [.sl 60 (List.map R60 l),.sl 3 (List.map R3 cuts)] (.tuple [.sl 42 (List.map R42 r.1),.int .i64 r.2]):=by
 unfold ZaT at h
 replace h:=Qk h
 refine So Tryz.func6 Y fun w0 A=>Tr<|Ra Y<|Ra Y<|Za<|Zl<|K2 0 1 Y<|Tr<|Rm Y<|bE h fun y h_y h=>Rq Y (Zq (Zfh h_y)<|.cons (ov Y) (.b Y) .nil)<|Ra Y<|Za<|K3 0 1 6 Y<|Tr<|Rm Y<|R2 XW Y<|Za<|K4 0 1 6 22 Y<|If h Y (fun h=>?_) fun h=>?_
 ·
  refine K1 6 Y<|Tr<|Rm Y<|Ra Y<|Ra Y<|Za<|?_
  obtain rfl:=rt h
  exact Zs (ZK Y (.two (.tmp Y<|View.nils 42)<|rb Y))
 ·
  refine Zj<|Zl<|K2 0 1 Y<|Tr<|Rm Y<|Rl tZ_3 Qp Y<|R2 ZaL Y<|Za<|K3 0 1 26 Y<|If h Y (fun h=>?_) fun h=>?_
  ·
   refine K0<|Tr<|Ra Y<|Ra Y<|Za<|?_
   obtain rfl:=rt h
   exact Zs (ZK Y (.two (.tmp Y<|View.nils 42)<|rb Y))
  ·
   refine Zj<|K2 0 1 Y<|Tr<|Ra Y<|Za<|I1 (fun all=>⟨[(1,.sl 3 (List.map R3 cuts)),(7,.own 0 all.length)],[some ⟨5,List.map R5 all⟩]⟩) h (fun h=>?_) fun all h=>?_
   ·
    refine Tr<|Rm Y<|Rl tZ_60 ZmI Y<|Rm Y<|Za<|Zi<|?_
    obtain⟨r1,hl1,ho1⟩:=QZ h
    refine L2 (fun all2 i=>⟨[(1,.sl 3 (List.map R3 cuts)),(7,.own 0 all2.length),(27,.sl 60 (List.map R60 l)),(28,.int .i64 (l.length:Int)),(29,.int .i64 i)],[some ⟨5,List.map R5 all2⟩]⟩) hl1 (ES [none]) fun n1 all2 i h=>?_
    unfold Jd at h
    refine Tr<|R2 ZV Y<|Za<|Zl<|If h Y (fun h=>?_) fun h=>?_
    ·
     refine Zj<|I1 (fun all3=>⟨[(1,.sl 3 (List.map R3 cuts)),(7,.own 0 all3.length),(27,.sl 60 (List.map R60 l)),(28,.int .i64 (l.length:Int)),(29,.int .i64 i)],[some ⟨5,List.map R5 all3⟩]⟩) h (fun h=>?_) fun all3 h=>?_
     ·
      refine Zi<|K5 1 7 27 28 29 Y<|Tr<|bE h fun x h_x h=>Rq Y (ZW (ov Y) (ov Y) ZmI h_x)<|Rq Y (ZU (ov Y) ZlT Y Y)<|Rx Y (ZP (row:= [_,_,_,_,_]) 1 Y Zr1 Y tZ_60)<|Rx Y (Zf (ov Y) (ov Y) (Zp ZlT Y) Y Y Y (Nat.le_of_ble_eq_true Y) (Zb Y) Y)<|Za<|K6 1 7 9 27 28 29 Y<|Tr<|Rq Y (Ze (ov Y) Y Y ZgC)<|Rq Y (Zm (ov Y) Y Y Y Zmx Y)<|Rl tZ_40 ZjN Y<|Rm Y<|Za<|Zi<|?_
      obtain⟨r2,hl2,ho2⟩:=QZ h
      refine L2 (fun all4 i2=>⟨[(1,.sl 3 (List.map R3 cuts)),(7,.own 0 all4.length),(27,.sl 60 (List.map R60 l)),(28,.int .i64 (l.length:Int)),(29,.int .i64 i),(34,.sl 40 (List.map R40 x.Sectors)),(35,.int .i64 (x.Sectors.length:Int)),(36,.int .i64 i2)],[some ⟨5,List.map R5 all4⟩]⟩) hl2 (ES [some 0]) fun n2 all4 i2 h=>?_
      unfold Jb at h
      refine Tr<|R2 ZV Y<|Za<|Zl<|If h Y (fun h=>?_) fun h=>?_
      ·
       exact Zj<|Zl<|Zi<|K8 1 7 27 28 29 34 35 36 Y<|Tr<|bE h fun x2 h_x2 h=>Rq Y (ZW (ov Y) (ov Y) ZjN h_x2)<|Rq Y (Zd (ov Y) Zdz Y)<|Ra Y<|Za<|K9 1 7 11 27 28 29 34 35 36 Y<|Zt<|Rm Y<|Rm Y<|bE h fun l2 h_l2 h=>Rx Y (Zj1 (ov Y) (ZH (ov Y) tZ_5) Q6 Y Y (fun _=>Zb Y) Y h_l2)<|Ra Y<|Za<|K8 1 7 27 28 29 34 35 36 Y<|Zt<|R2 ZX Y<|Rm Y<|Za<|⟨_,h,ES [some 0]⟩
      ·
       refine ZI<|?_
       replace h:=lx h▸ho2
       exact⟨_,h,ES [some 0]⟩
     ·
      exact Zt<|R2 ZX Y<|Rm Y<|Za<|⟨_,h,ES [some 0]⟩
    ·
     refine ZI<|?_
     replace h:=lx h▸ho1
     exact⟨_,h,ES [some 0]⟩
   ·
    refine J0 (fun j=>(.inr j)) ⟨[(1,.sl 3 (List.map R3 cuts)),(7,.own 0 all.length)],[some ⟨5,List.map R5 all⟩]⟩ h (fun h=>?_) fun h=>?_
    ·
     refine Tr<|Rm Y<|Rl tZ_3 Qp Y<|Rm Y<|Za<|Zi<|?_
     obtain⟨r3,hl3,ho3⟩:=QZ h
     refine L1 (fun i3=>⟨[(1,.sl 3 (List.map R3 cuts)),(7,.own 0 all.length),(45,.sl 3 (List.map R3 cuts)),(46,.int .i64 (cuts.length:Int)),(47,.int .i64 i3)],[some ⟨5,List.map R5 all⟩]⟩) hl3 (ES [some 0]) fun n3 i3 h=>?_
     unfold XD at h
     refine Tr<|R2 ZV Y<|Za<|Zl<|If h Y (fun h=>?_) fun h=>?_
     ·
      refine Zj<|Zl<|Zi<|K5 1 7 45 46 47 Y<|Tr<|Rm Y<|bE h fun x3 h_x3 h=>Rq Y (ZW (ov Y) (ov Y) Qp h_x3)<|Rq Y (Zd (ov Y) tS3 Y)<|Ra Y<|Ra Y<|Za<|Zi<|K7 1 7 12 13 45 46 47 Y<|Tr<|Rm Y<|R2 ZV Y<|Rm Y<|Rq Y (.guarded ((decide (x3<0))==false) Y Y Y Y fun h=>Zc<|ov Y)<|Rq Y (.guarded ((decide (x3<0))==false) Y Y Y Y fun h=>Zc<|ov Y)<|Rq Y (.guarded ((decide (x3<0))==false) Y Y Y Y fun h=>Zd3 (ow Y h) Y Y Q6)<|Rq Y (.guarded ((decide (x3<0))==false) Y Y Y Y fun h=>Zrh (ov Y) (ow Y h) Y)<|Rq Y (.guarded ((decide (x3<0))==false) Y Y Y Y fun h=>ZaL (ow Y h)<|ow Y h)<|Rq Y (Za2 (ov Y) fun hp=>ow Y<|gF hp)<|Ra Y<|Za<|K8 1 7 12 13 45 46 47 52 Y<|If h Y (fun h=>?_) fun h=>?_
      ·
       refine K0<|Tr<|Ra Y<|Ra Y<|Za<|?_
       replace h:=lx h▸ho3
       obtain rfl:=rt h
       exact Zs (ZK Y (.two (.tmp Y<|View.nils 42)<|rb Y))
      ·
       refine K7 1 7 12 13 45 46 47 Y<|Tr<|Rm Y<|R2 ZaL Y<|Rm Y<|Rq Y (.guarded ((decide (0<i3))==true) Y Y Y Y fun h=>Zc<|ov Y)<|Rq Y (.guarded ((decide (0<i3))==true) Y Y Y Y fun h=>Zc<|ov Y)<|Rq Y (.guarded ((decide (0<i3))==true) Y Y Y Y fun h=>Zc<|ov Y)<|Rq Y (.guarded ((decide (0<i3))==true) Y Y Y Y fun h=>Zdo (ow Y h) (ov Y) Y)<|bE h fun x4 h_x4 h=>Rq Y (.guarded ((decide (0<i3))==true) Y Y Y Y fun h=>ZW (ow Y h) (ow Y h) Qp<|gdT h_x4 h)<|Rq Y (.guarded ((decide (0<i3))==true) Y Y Y Y fun h=>Zd (ow Y h) tS3 Y)<|Rq Y (.guarded ((decide (0<i3))==true) Y Y Y Y fun h=>ZV (ow Y h)<|ow Y h)<|Rq Y (XJ (ov Y) fun hp=>ow Y<|gT hp)<|Ra Y<|Za<|K6 1 7 45 46 47 62 Y<|If h Y (fun h=>?_) fun h=>?_
       ·
        refine K0<|Tr<|Ra Y<|Ra Y<|Za<|?_
        replace h:=lx h▸ho3
        obtain rfl:=rt h
        exact Zs (ZK Y (.two (.tmp Y<|View.nils 42)<|rb Y))
       ·
        exact Zj<|K5 1 7 45 46 47 Y<|Zt<|R2 ZX Y<|Rm Y<|Za<|⟨_,h,ES [some 0]⟩
     ·
      refine ZI<|?_
      replace h:=lx h▸ho3
      exact⟨(),h,ES [some 0]⟩
    ·
     replace h:=elr h
     replace h:=t0i h
     refine Tr<|Ra Y<|Za<|Tr<|Ra Y<|Za<|J1 (fun j=>(.inr j)) (fun out=>⟨[(14,.own 0 out.length)],[some ⟨42,List.map R42 out⟩]⟩) h (fun h=>?_) fun out h=>?_
     ·
      refine Tr<|Rm Y<|Rl tZ_3 Qp Y<|R2 ZX Y<|Rm Y<|Za<|Zi<|?_
      obtain⟨r4,hl4,ho4⟩:=QZ h
      refine L4 (fun all5 out2 from_ i4=>⟨[(1,.sl 3 (List.map R3 cuts)),(7,.sl 5 (List.map R5 all5)),(14,.own 0 out2.length),(15,.int .i64 from_),(77,.int .i64 (i64 ((cuts.length:Int)+1))),(78,.int .i64 i4)],[some ⟨42,List.map R42 out2⟩]⟩) hl4 (ES [none]<|sd 1 Y Y<|sr 7 Y (ZpE Y Y Y D5)<|sr 14 Y (.row Y)<|sd 15 Y Y<|sd 77 Y Y<|sd 78 Y Y sn) fun n4 all5 out2 from_ i4 h=>?_
      unfold QA at h
      refine Tr<|R2 ZV Y<|Za<|Zl<|If h Y (fun h=>?_) fun h=>?_
      ·
       refine Zj<|Zl<|Zi<|K6 1 7 14 15 77 78 Y<|Tr<|Rm Y<|Ra Y<|Za<|K7 1 7 14 15 16 77 78 Y<|Tr<|Rm Y<|Rl tZ_5 Q6 Y<|R2 Zd7 Y<|Ra Y<|Za<|I1 (fun to=>⟨[(1,.sl 3 (List.map R3 cuts)),(7,.sl 5 (List.map R5 all5)),(14,.own 0 out2.length),(15,.int .i64 from_),(17,.int .i64 to),(77,.int .i64 (i64 ((cuts.length:Int)+1))),(78,.int .i64 i4)],[some ⟨42,List.map R42 out2⟩]⟩) h (fun h=>?_) fun to h=>?_
       ·
        refine K8 1 7 14 15 16 17 77 78 Y<|Tr<|Rm Y<|Rm Y<|Rl tZ_3 Qp Y<|R2 ZV Y<|Za<|K9 1 7 14 15 16 17 77 78 87 Y<|If h Y (fun h=>?_) fun h=>?_
        ·
         exact K8 1 7 14 15 16 17 77 78 Y<|Zt<|Rm Y<|Rm Y<|bE h fun x5 h_x5 h=>Rq Y (ZW (ov Y) (ov Y) Qp h_x5)<|Rq Y (Zd (ov Y) tS3 Y)<|Ra Y<|Za<|⟨_,h,ES [some 0]⟩
        ·
         exact Zj<|⟨_,h,ES [some 0]⟩
       ·
        refine Zl<|Tr<|Rm Y<|Rm Y<|R2 ZaL Y<|Za<|K8 1 7 14 15 17 77 78 94 Y<|If h Y (fun h=>?_) fun h=>?_
        ·
         refine K7 1 7 14 15 17 77 78 Y<|Tr<|Rm Y<|Rm Y<|Rm Y<|bE h fun y2 h_y2 h=>Rq Y (Zq (ZiR h_y2)<|.cons (ov Y) (.b Y)<|.cons (ov Y) (.b Y)<|.cons (ov Y) (.b Y) .nil)<|Rx Y (ZP (row:= [_,_]) 1 Y Zli Y tZ_42)<|Rx Y (Zf (ov Y) (ov Y) (Zp Zc2 Y) Y Y Y (Nat.le_of_ble_eq_true Y) (Zb Y) Y)<|Za<|Zl<|K7 1 7 14 17 18 77 78 Y<|Tr<|Rq Y (Ze (ov Y) Y Y ZcR)<|Rq Y (Zm (ov Y) Y Y Y Zdz Y)<|Rl tZ_5 Q6 Y<|R2 ZaL Y<|Za<|K8 1 7 14 17 18 77 78 102 Y<|If h Y (fun h=>?_) fun h=>?_
         ·
          refine K0<|Tr<|Ra Y<|Ra Y<|Za<|?_
          replace h:=lx h▸ho4
          obtain rfl:=rt h
          exact Zs (ZK Y (.two (.tmp Y<|View.nils 42)<|rb Y))
         ·
          exact Zj<|K7 1 7 14 17 18 77 78 Y<|Zt<|Rm Y<|Rq Y (ZJ (ov Y) Y Y Y Zc2 Y Y)<|R_q (.sl 42<|List.map R42 ([y2]:List api_Piece)) Y (Jm Zk2 (.cons (cva<|ov Y) Y (pwD Y) .nil) Y Y)<|bE h fun l3 h_l3 h=>Rx Y (Zv (ov Y) (ZH (ov Y) tZ_42) Zk2 Y Y Y (fun _=>Zb Y) Y h_l3)<|Ra Y<|Za<|K6 1 7 14 17 77 78 Y<|Zt<|Rm Y<|Ra Y<|Za<|K6 1 7 14 15 77 78 Y<|Zt<|R2 ZX Y<|Rm Y<|Za<|⟨_,h,ES [some 0]⟩
        ·
         exact Zj<|K7 1 7 14 15 17 77 78 Y<|Zt<|Rm Y<|Ra Y<|Za<|K6 1 7 14 15 77 78 Y<|Zt<|R2 ZX Y<|Rm Y<|Za<|⟨_,h,ES [some 0]⟩
      ·
       refine ZI<|?_
       replace h:=lx h▸ho4
       exact⟨_,h,ES [some 0]⟩
     ·
      replace h:=elr h
      replace h:=t1i h
      refine Tr<|Rm Y<|Ra Y<|Ra Y<|Za<|?_
      obtain rfl:=rt h
      exact Zs (ZK Y (.two (.tmp Y<|View.ownM Y Y D42)<|rb Y))
theorem Zfg{p:api_Piece}{r:Int}(h:Ju p=some r):
 CSpec Tryz.prog gl0 19 [.agg [.sl 5 (List.map R5 p.Bytes),.bool p.Half]] (.int .i64 r):=by
 unfold Ju at h
 replace h:=Qk h
 refine So Tryz.func19 Y fun w0 A=>Tr<|Rq Y (Xh (cva<|ov Y) Y tZ_42 Y)<|Ra Y<|Za<|Zl<|Zi<|K1 1 Y<|Tr<|Rq Y (ZE (ov Y) ZcR)<|Rq Y (Zd (ov Y) Zdz Y)<|Rl tZ_5 Q6 Y<|R2 ZaL Y<|Ra Y<|Za<|K2 1 3 Y<|If h Y (fun h=>?_) fun h=>?_
 ·
  refine K0<|Tr<|Ra Y<|Za<|?_
  obtain rfl:=rt h
  exact Zs (ZK Y (.one<|rb Y))
 ·
  refine K1 1 Y<|Tr<|Rq Y (ZE (ov Y) ZiG)<|Rq Y (Zd (ov Y) tS4 Y)<|Rm Y<|Rq Y (.guarded (p.Half==true) Y Y Y Y fun h=>ZE (ov Y) ZcR)<|Rq Y (.guarded (p.Half==true) Y Y Y Y fun h=>Zd (ow Y h) Zdz Y)<|Rq Y (.guarded (p.Half==true) Y Y Y Y fun h=>ZfO (ZH (ow Y h) tZ_5) Q6<|Zcs _ _)<|Rq Y (.guarded (p.Half==true) Y Y Y Y fun h=>Q3 (ow Y h)<|ov Y)<|Rq Y (.guarded (p.Half==true) Y Y Y Y fun h=>Zc<|ow Y h)<|Rq Y (.guarded2 ((p.Half==true)&&((decide ((p.Bytes.length:Int)=0))==false)) Y Y Y Y fun h=>ZE (ov Y) ZcR)<|Rq Y (.guarded2 ((p.Half==true)&&((decide ((p.Bytes.length:Int)=0))==false)) Y Y Y Y fun h=>Zd (ow Y h) Zdz Y)<|bE h fun x h_x h=>Rq Y (.guarded2 ((p.Half==true)&&((decide ((p.Bytes.length:Int)=0))==false)) Y Y Y Y fun h=>ZW (ow Y h) (ov Y) Q6<|gdT h_x h)<|Rq Y (.guarded2 ((p.Half==true)&&((decide ((p.Bytes.length:Int)=0))==false)) Y Y Y Y fun h=>Zd (ow Y h) tS5 Y)<|bE h fun q h_q h=>Rq Y (.guarded2 ((p.Half==true)&&((decide ((p.Bytes.length:Int)=0))==false)) Y Y Y Y fun h=>Zbo (ow Y h) (ov Y)<|gdT h_q h)<|Rq Y (.guarded2 ((p.Half==true)&&((decide ((p.Bytes.length:Int)=0))==false)) Y Y Y Y fun h=>XW (ow Y h)<|ov Y)<|Rq Y (.guarded (p.Half==true) Y Y Y Y fun h=>Za2 (ow Y h) fun hp=>ow Y<|gA h<|gF hp)<|Rq Y (XJ (ov Y) fun hp=>ow Y<|gT hp)<|Ra Y<|Za<|K1 8 Y<|If h Y (fun h=>?_) fun h=>?_
  ·
   refine K0<|Tr<|Ra Y<|Za<|?_
   obtain rfl:=rt h
   exact Zs (ZK Y (.one<|rb Y))
  ·
   refine Zj<|K0<|Tr<|Ra Y<|Za<|?_
   obtain rfl:=rt h
   exact Zs (ZK Y (.one<|rb Y))
theorem ZeC{p:api_Piece}{r:Int}(h:ZaF p=some r):
 CSpec Tryz.prog gl0 46 [.agg [.sl 5 (List.map R5 p.Bytes),.bool p.Half]] (.int .i64 r):=by
 unfold ZaF at h
 replace h:=Qk h
 refine So Tryz.func46 Y fun w0 A=>Tr<|Rq Y (Xh (cva<|ov Y) Y tZ_42 Y)<|Ra Y<|Za<|Zl<|K1 1 Y<|Tr<|Rq Y (ZE (ov Y) ZiG)<|Rq Y (Zd (ov Y) tS4 Y)<|Za<|K1 4 Y<|If h Y (fun h=>?_) fun h=>?_
 ·
  refine K0<|Tr<|Ra Y<|Za<|?_
  obtain rfl:=rt h
  exact Zs (ZK Y (.one<|rb Y))
 ·
  refine Zj<|K0<|Tr<|Ra Y<|Za<|?_
  obtain rfl:=rt h
  exact Zs (ZK Y (.one<|rb Y))
theorem ZgS{p:api_Piece}{r:Int}(h:ZaS p=some r):
 CSpec Tryz.prog gl0 44 [.agg [.sl 5 (List.map R5 p.Bytes),.bool p.Half]] (.int .i64 r):=by
 unfold ZaS at h
 replace h:=Qk h
 refine So Tryz.func44 Y fun w0 A=>Tr<|Rq Y (Xh (cva<|ov Y) Y tZ_42 Y)<|Ra Y<|Za<|Zl<|K2 1 2 Y<|Qe (cw:=md0) (by kernel_rfl)<|Dq 0 Y (ZE (ov Y) ZcR)<|Dq 1 Y (Zd (ov Y) Zdz Y)<|Dq 2 Y (ZfO (ZH (ov Y) tZ_5) Q6<|Zcs _ _)<|D2 3 Zd7 Y<|Dq 4 Y (ZU (ov Y) Zc2 Y Y)<|bE h fun y h_y h=>Dq 5 Y (Zq (ZeC h_y)<|.cons (ov Y) (.aggB Y) .nil)<|D2 6 ZaO Y<|D1 7 QK Y<|Dd<|?_
 obtain rfl:=rt h
 exact Zs (ZK Y (.one<|rb Y))
theorem ZgJ{b:List Int}{i:Int}{r:Int}(h:Za1 b i=some r):
 CSpec Tryz.prog gl0 45 [.sl 5 (List.map R5 b),.int .i64 i] (.int .u8 r):=by
 unfold Za1 at h
 replace h:=Qk h
 refine So Tryz.func45 Y fun w0 A=>Tr<|Ra Y<|Za<|Tr<|Rm Y<|Rm Y<|bE h fun q h_q h=>Rq Y (Zd6 (ov Y) (ov Y) h_q)<|bE h fun x h_x h=>Rq Y (ZW (ov Y) (ov Y) Q6 h_x)<|Rq Y (Zd (ov Y) tS5 Y)<|Rm Y<|bE h fun q2 h_q2 h=>Rq Y (JI (ov Y) (ov Y) h_q2)<|R2 Zd7 Y<|R2 ZaO Y<|bE h fun q3 h_q3 h=>Rq Y (Zbo (ov Y) (ov Y) h_q3)<|R2 ZbX Y<|Ra Y<|Za<|?_
 obtain rfl:=rt h
 exact Zs (ZK Y (.one<|rb Y))
theorem Zha{p:api_Piece}{r:(List Int)}(h:Zac p=some r):
 CSpec Tryz.prog gl0 21 [.agg [.sl 5 (List.map R5 p.Bytes),.bool p.Half]] (.sl 5 (List.map R5 r)):=by
 unfold Zac at h
 replace h:=Qk h
 refine So Tryz.func21 Y fun w0 A=>Tr<|Rq Y (Xh (cva<|ov Y) Y tZ_42 Y)<|Ra Y<|Za<|K1 1 Y<|Tr<|Rq Y (ZU (ov Y) Zc2 Y Y)<|bE h fun y h_y h=>Rq Y (Zq (ZgS h_y)<|.cons (ov Y) (.aggB Y) .nil)<|bE h fun l h_l h=>Rx Y (Zne [none] (r:=0) (f:=R5) (z0:=0) Y (ov Y) (ov Y) Q6 Y tZ5 Y Y h_l)<|Ra Y<|Za<|I1 (fun out=>⟨[(3,.own 0 out.length)],[some ⟨5,List.map R5 out⟩]⟩) h (fun h=>?_) fun out h=>?_
 ·
  refine K2 1 3 Y<|Tr<|Rm Y<|Rq Y (Zd3 (ov Y) Y Y Q6)<|Rm Y<|Za<|Zi<|?_
  obtain⟨r1,hl1,ho1⟩:=QZ h
  refine L2 (fun out2 i=>⟨[(1,.rp [.sl 5 (List.map R5 p.Bytes),.bool p.Half] 0),(3,.own 0 out2.length),(9,.int .i64 (l.length:Int)),(10,.int .i64 i)],[some ⟨5,List.map R5 out2⟩]⟩) hl1 (ES [some 0]) fun n1 out2 i h=>?_
  unfold JR at h
  refine Tr<|R2 ZV Y<|Za<|Zl<|If h Y (fun h=>?_) fun h=>?_
  ·
   exact Zj<|Zl<|Zi<|K4 1 3 9 10 Y<|Tr<|Rm Y<|Ra Y<|Za<|K5 1 3 4 9 10 Y<|Qe (cw:=md0) (by kernel_rfl)<|D1 0 Zc Y<|D1 1 Zc Y<|Dq 2 Y (ZE (ov Y) ZcR)<|Dq 3 Y (Zd (ov Y) Zdz Y)<|D1 4 Zc Y<|Dq 5 Y (ZU (ov Y) Zc2 Y Y)<|bE h fun y2 h_y2 h=>Dq 6 Y (Zq (ZeC h_y2)<|.cons (ov Y) (.aggB Y) .nil)<|D2 7 ZX Y<|bE h fun y3 h_y3 h=>Dq 8 Y (Zq (ZgJ h_y3)<|.cons (ov Y) (.b Y)<|.cons (ov Y) (.b Y) .nil)<|bE h fun x h_x h=>Dq 9 Y (QW (ov Y) (ov Y) Q6 Y Y h_x)<|Do 10 Y (J4 (u':=y3) (ov Y) (ov Y) (Zg tS5) Y Y h_x Y (Zb Y) Y)<|Dd<|K4 1 3 9 10 Y<|Zt<|R2 ZX Y<|Rm Y<|Za<|⟨_,h,ES [some 0]<|sd 1 Y Y<|sr 3 Y (ZfM (Eq.symm<|(List.length_set ..).trans Y) Y)<|sd 9 Y Y<|sd 10 Y Y sn⟩
  ·
   refine ZI<|?_
   replace h:=lx h▸ho1
   exact⟨_,h,ES [some 0]⟩
 ·
  refine Tr<|Rm Y<|Ra Y<|Za<|?_
  obtain rfl:=rt h
  exact Zs (ZK Y (.one<|.tmp Y<|View.ownM Y Y D5))
theorem Zcq{h_:List Int}{r:Int}(h:X6 h_=some r):
 CSpec Tryz.prog gl0 92 [.sl 5 (List.map R5 h_)] (.int .u16 r):=by
 unfold X6 at h
 replace h:=Qk h
 refine So Tryz.func92 Y fun w0 A=>Tr<|Ra Y<|Za<|Zl<|Qe (cw:=md0) (by kernel_rfl)<|D1 0 Zc Y<|bE h fun x h_x h=>Dq 1 Y (ZW (ov Y) (ov Y) Q6 h_x)<|Dq 2 Y (Zd (ov Y) tS5 Y)<|Dq 3 Y (Qy (ov Y) tI5 ZcN Y)<|bE h fun q h_q h=>Dq 4 Y (Zel (ov Y) (ov Y) h_q)<|D1 5 Zc Y<|bE h fun x2 h_x2 h=>Dq 6 Y (ZW (ov Y) (ov Y) Q6 h_x2)<|Dq 7 Y (Zd (ov Y) tS5 Y)<|Dq 8 Y (Qy (ov Y) tI5 ZcN Y)<|bE h fun q2 h_q2 h=>Dq 9 Y (Zel (ov Y) (ov Y) h_q2)<|D2 10 Zgl Y<|D1 11 Zc Y<|bE h fun x3 h_x3 h=>Dq 12 Y (ZW (ov Y) (ov Y) Q6 h_x3)<|Dq 13 Y (Zd (ov Y) tS5 Y)<|Dq 14 Y (Qy (ov Y) tI5 ZcN Y)<|D2 15 Zgl Y<|D1 16 QK Y<|Dd<|?_
 obtain rfl:=rt h
 exact Zs (ZK Y (.one<|rb Y))
theorem Zek{number:Int}{r:Int×Int}(h:ZaR number=some r):
 CSpec Tryz.prog gl0 96 [.int .i64 number] (.tuple [.int .i64 r.1,.int .i64 r.2]):=by
 unfold ZaR at h
 replace h:=Qk h
 refine So Tryz.func96 Y fun w0 A=>Tr<|Ra Y<|Ra Y<|Za<|Zl<|K1 0 Y<|Tr<|Rm Y<|R2 ZV Y<|Rm Y<|Rq Y (.guarded ((decide (number<0))==false) Y Y Y Y fun h=>Zc<|ov Y)<|Rq Y (.guarded ((decide (number<0))==false) Y Y Y Y fun h=>Zc5 (ow Y h)<|ov Y)<|Rq Y (Za2 (ov Y) fun hp=>ow Y<|gF hp)<|Za<|K2 0 9 Y<|If h Y (fun h=>?_) fun h=>?_
 ·
  refine K0<|Tr<|Ra Y<|Ra Y<|Za<|?_
  obtain rfl:=rt h
  exact Zs (ZK Y (.two (rb Y)<|rb Y))
 ·
  refine Zj<|K1 0 Y<|Tr<|Rm Y<|bE h fun q h_q h=>Rq Y (JI (ov Y) (ov Y) h_q)<|bE h fun x h_x h=>Rq Y (QI (og (v:=gv_frame_syncs) (k:= .u16) (f:=C35) (by simp [gl0]) fun _=>Y) (ov Y) Znh h_x)<|Rq Y (Zd (ov Y) Xn<|Zn<|Qn (o:=0) (o':=(q.toNat*1)) (Zh arL)<|Qd h_x)<|Rq Y (Qy (ov Y) ZcN tI3 Y)<|Ra Y<|Ra Y<|Za<|?_
  obtain rfl:=rt h
  exact Zs (ZK Y (.two (rb Y)<|rb Y))
theorem Zg4{w:Int}{r:Bool}(h:ZaQ w=some r):
 CSpec Tryz.prog gl0 128 [.int .u16 w] (.bool r):=by
 unfold ZaQ at h
 replace h:=Qk h
 refine So Tryz.func128 Y fun w0 A=>Tr<|Ra Y<|Za<|J0 (fun j=>(.inr j)) ⟨[],[]⟩ h (fun h=>?_) fun h=>?_
 ·
  refine K1 0 Y<|Tr<|Rm Y<|Za<|Zi<|?_
  obtain⟨r1,hl1,ho1⟩:=QZ h
  refine L1 (fun i=>⟨[(0,.int .u16 w),(6,.int .i64 i)],[]⟩) hl1 (ES []) fun n1 i h=>?_
  unfold JN at h
  refine Tr<|R2 ZV Y<|Za<|Zl<|If h Y (fun h=>?_) fun h=>?_
  ·
   refine Zj<|Zl<|Zi<|K2 0 6 Y<|Tr<|Rm Y<|Ra Y<|Za<|K3 0 3 6 Y<|Tr<|Rm Y<|bE h fun y h_y h=>Rq Y (Zq (Zek h_y)<|.cons (ov Y) (.b Y) .nil)<|Rm Y<|Rq Y (Zk (ov Y) Y)<|Rq Y (Zk (ov Y) Y)<|Ra Y<|Ra Y<|Za<|K3 0 4 6 Y<|Tr<|Rm Y<|Rq Y (Qy (ov Y) tI3 ZcN Y)<|Rm Y<|R2 Q3 Y<|Za<|K3 0 6 17 Y<|If h Y (fun h=>?_) fun h=>?_
   ·
    refine K0<|Tr<|Ra Y<|Za<|?_
    replace h:=lx h▸ho1
    obtain rfl:=rt h
    exact Zs (ZK Y (.one<|rb Y))
   ·
    exact Zj<|K2 0 6 Y<|Zt<|R2 ZX Y<|Rm Y<|Za<|⟨_,h,ES []⟩
  ·
   refine ZI<|?_
   replace h:=lx h▸ho1
   exact⟨(),h,ES []⟩
 ·
  replace h:=elr h
  replace h:=t0i h
  refine Tr<|Ra Y<|Za<|?_
  obtain rfl:=rt h
  exact Zs (ZK Y (.one<|rb Y))
theorem Zgp{w:Vector Int 192}{r:(Vector Int 64)}(h:ZaC w=some r):
 CSpec Tryz.prog gl0 129 [.agg (List.map C5 w.toList)] (.agg (List.map C35 r.toList)):=by
 unfold ZaC at h
 replace h:=Qk h
 refine So Tryz.func129 Y fun w0 A=>Tr<|Rq Y (Xh (cva<|ov Y) arL tZ_174<|arD fun _=>Y)<|Rx Y (ZP (row:=(List.map C35 (Vector.replicate 64 0).toList)) 0 Y ZcI Y tZ_37)<|Za<|K2 1 2 Y<|Tr<|Rx Y (ZP (row:=(List.map C35 (Vector.replicate 64 0).toList)) 1 Y ZcI Y tZ_37)<|Za<|I1 (fun f=>⟨[(2,.ptr 0 1 0 0),(3,.ptr 1 1 0 0)],[some ⟨37,[(List.map C35 (Vector.replicate 64 0).toList)]⟩,some ⟨37,[(List.map C35 f.toList)]⟩]⟩) h (fun h=>?_) fun f h=>?_
 ·
  refine Tr<|Rm Y<|Za<|Zi<|?_
  obtain⟨r1,hl1,ho1⟩:=QZ h
  refine L2 (fun f2 i=>⟨[(1,.rp (List.map C5 w.toList) 0),(2,.ptr 0 1 0 0),(3,.ptr 1 1 0 0),(5,.int .i64 i)],[some ⟨37,[(List.map C35 (Vector.replicate 64 0).toList)]⟩,some ⟨37,[(List.map C35 f2.toList)]⟩]⟩) hl1 (ES [some 0,some 1]) fun n1 f2 i h=>?_
  unfold JG at h
  refine Tr<|R2 ZV Y<|Za<|Zl<|If h Y (fun h=>?_) fun h=>?_
  ·
   exact Zj<|Zl<|Zi<|K4 1 2 3 5 Y<|Tr<|Rm Y<|Ra Y<|Za<|K5 1 2 3 4 5 Y<|Zt<|Rm Y<|Rm Y<|R2 Zd7 Y<|Rm Y<|R2 Zd7 Y<|R2 ZX Y<|bE h fun l h_l h=>Rq Y (ZjV (f:=C5) (ov Y) Zq0 tZ_5 (Zh arL) Y (oi<|ov Y) (oi<|ov Y) h_l)<|bE h fun y h_y h=>Rq Y (Zq (Zcq h_y)<|.cons (ov Y) (.b Y) .nil)<|bE h fun x h_x h=>Rq Y (QB (ov Y) (ov Y) Xc Y Y h_x)<|Rx Y (Zf (ov Y) (ov Y) (Zg Xn) Y Y Y (arB h_x) (Zb Y)<|arS h_x)<|Za<|K4 1 2 3 5 Y<|Zt<|R2 ZX Y<|Rm Y<|Za<|⟨_,h,ES [some 0,some 1]⟩
  ·
   refine ZI<|?_
   replace h:=lx h▸ho1
   exact⟨_,h,ES [some 0,some 1]⟩
 ·
  refine Tr<|Rq Y (ZJ (ov Y) Y Y Y Qz (Zu<|Zh arL) arL (hns:=(nsM fun _=>Y)))<|Rx Y (Zf (ov Y) (ov Y) (Zp Qz arL) Y Y Y (ZG (Zh arL) arL) (Zb<|arC fun _=>Y)<|ZO<|Eq.trans arL<|Eq.symm arL)<|Za<|?_
  obtain rfl:=rt h
  exact Zs (ZK Y (.one<|.agg Y Y Y Y Qz (Zu<|Zh arL) arL (pwB<|arD fun _=>Y) (hns:=(nsM fun _=>Y))))
theorem Zgn{f:Vector Int 64}{r:Bool}(h:ZcM f=some r):
 CSpec Tryz.prog gl0 79 [.rp (List.map C35 f.toList) 0] (.bool r):=by
 unfold ZcM at h
 replace h:=Qk h
 refine So Tryz.func79 Y fun w0 A=>Tr<|Ra Y<|Za<|J0 (fun j=>(.inr j)) ⟨[],[]⟩ h (fun h=>?_) fun h=>?_
 ·
  refine K1 0 Y<|Tr<|Rm Y<|Za<|Zi<|?_
  obtain⟨r1,hl1,ho1⟩:=QZ h
  refine L1 (fun i=>⟨[(0,.rp (List.map C35 f.toList) 0),(4,.int .i64 i)],[]⟩) hl1 (ES []) fun n1 i h=>?_
  unfold Zbz at h
  refine Tr<|R2 ZV Y<|Za<|Zl<|If h Y (fun h=>?_) fun h=>?_
  ·
   refine Zj<|Zl<|Zi<|K2 0 4 Y<|Tr<|Rm Y<|Ra Y<|Za<|K3 0 3 4 Y<|Tr<|Rm Y<|Rm Y<|R1 ZD Y<|bE h fun x h_x h=>Rq Y (QI (ov Y) (ov Y) Xc h_x)<|Rq Y (Zd (ov Y) Xn<|Zn<|Qn (o:=0) (o':=(i.toNat*1)) (Zh arL)<|Qd h_x)<|R2 ZaL Y<|Za<|K3 0 4 12 Y<|If h Y (fun h=>?_) fun h=>?_
   ·
    refine K0<|Tr<|Ra Y<|Za<|?_
    replace h:=lx h▸ho1
    obtain rfl:=rt h
    exact Zs (ZK Y (.one<|rb Y))
   ·
    exact Zj<|K2 0 4 Y<|Zt<|R2 ZX Y<|Rm Y<|Za<|⟨_,h,ES []⟩
  ·
   refine ZI<|?_
   replace h:=lx h▸ho1
   exact⟨(),h,ES []⟩
 ·
  replace h:=elr h
  replace h:=t0i h
  refine Tr<|Ra Y<|Za<|?_
  obtain rfl:=rt h
  exact Zs (ZK Y (.one<|rb Y))
theorem Zfl{f:Vector Int 64}{r:Bool}(h:Zb2 f=some r):
 CSpec Tryz.prog gl0 81 [.rp (List.map C35 f.toList) 0] (.bool r):=by
 unfold Zb2 at h
 replace h:=Qk h
 refine So Tryz.func81 Y fun w0 A=>Tr<|Ra Y<|Za<|Zl<|Zl<|K1 0 Y<|Qe (cw:=md0) (by kernel_rfl)<|D1 0 Zc Y<|bE h fun y h_y h=>Dq 1 Y (Zq (Zgn h_y)<|.cons (ov Y) (.b Y) .nil)<|D1 2 Zc Y<|Dq 3 Y (.guarded (y==false) Y Y Y Y fun h=>Zc<|ov Y)<|Dq 4 Y (.guarded (y==false) Y Y Y Y fun h=>ZD<|ow Y h)<|bE h fun x h_x h=>Dq 5 Y (.guarded (y==false) Y Y Y Y fun h=>QI (ow Y h) (ov Y) Xc<|gdT h_x h)<|Dq 6 Y (.guarded (y==false) Y Y Y Y fun h=>Zd (ow Y h) Xn<|Zn<|Qn (o:=0) (o':=((Int.toNat 0)*1)) (Zh arL)<|Qd<|gdT h_x h)<|Dq 7 Y (.guarded (y==false) Y Y Y Y fun h=>Zc<|ov Y)<|bE h fun y2 h_y2 h=>Dq 8 Y (.guarded (y==false) Y Y Y Y fun h=>Zq (ZaK<|gdT h_y2 h)<|.cons (ow Y h) (.b Y) .nil)<|bE h fun q h_q h=>Dq 9 Y (.guarded (y==false) Y Y Y Y fun h=>JI (ow Y h) (ov Y)<|gdT h_q h)<|bE h fun x2 h_x2 h=>Dq 10 Y (.guarded (y==false) Y Y Y Y fun h=>QI (og (v:=gv_frame_syncs) (k:= .u16) (f:=C35) (by simp [gl0]) fun _=>Y) (ow Y h) Znh<|gdT h_x2 h)<|Dq 11 Y (.guarded (y==false) Y Y Y Y fun h=>Zd (ow Y h) Xn<|Zn<|Qn (o:=0) (o':=(q.toNat*1)) (Zh arL)<|Qd<|gdT h_x2 h)<|Dq 12 Y (.guarded (y==false) Y Y Y Y fun h=>XW (ow Y h)<|ow Y h)<|Dq 13 Y (Za2 (ov Y) fun hp=>ow Y<|gF hp)<|D1 14 Zc Y<|Dq 15 Y (.guarded ((y || (!decide (x=x2)))==false) Y Y Y Y fun h=>Zc<|ov Y)<|Dq 16 Y (.guarded ((y || (!decide (x=x2)))==false) Y Y Y Y fun h=>ZD<|ow Y h)<|bE h fun x3 h_x3 h=>Dq 17 Y (.guarded ((y || (!decide (x=x2)))==false) Y Y Y Y fun h=>QI (ow Y h) (ov Y) Xc<|gdT h_x3 h)<|Dq 18 Y (.guarded ((y || (!decide (x=x2)))==false) Y Y Y Y fun h=>Zd (ow Y h) Xn<|Zn<|Qn (o:=0) (o':=((Int.toNat 61)*1)) (Zh arL)<|Qd<|gdT h_x3 h)<|bE h fun y3 h_y3 h=>Dq 19 Y (.guarded ((y || (!decide (x=x2)))==false) Y Y Y Y fun h=>Zq (Jo<|gdT h_y3 h)<|.cons (ow Y h) (.b Y) .nil)<|Dq 20 Y (.guarded ((y || (!decide (x=x2)))==false) Y Y Y Y fun h=>Zc<|ov Y)<|bE h fun y4 h_y4 h=>Dq 21 Y (.guarded ((y || (!decide (x=x2)))==false) Y Y Y Y fun h=>Zq (Zct<|gdT h_y4 h)<|.cons (ow Y h) (.b Y) .nil)<|Dq 22 Y (.guarded ((y || (!decide (x=x2)))==false) Y Y Y Y fun h=>XW (ow Y h)<|ow Y h)<|Dq 23 Y (Za2 (ov Y) fun hp=>ow Y<|gF hp)<|Dd<|K2 0 27 Y<|If h Y (fun h=>?_) fun h=>?_
 ·
  refine K0<|Tr<|Ra Y<|Za<|?_
  obtain rfl:=rt h
  exact Zs (ZK Y (.one<|rb Y))
 ·
  refine Zj<|J0 (fun j=>(.inr j)) ⟨[(0,.rp (List.map C35 f.toList) 0)],[]⟩ h (fun h=>?_) fun h=>?_
  ·
   refine K1 0 Y<|Tr<|Ra Y<|Za<|Zi<|?_
   obtain⟨r1,hl1,ho1⟩:=QZ h
   refine L1 (fun i=>⟨[(0,.rp (List.map C35 f.toList) 0),(3,.int .i64 i)],[]⟩) hl1 (ES []) fun n1 i h=>?_
   unfold ZaX at h
   refine Zl<|Tr<|Rm Y<|R2 ZV Y<|Za<|K3 0 3 29 Y<|If h Y (fun h=>?_) fun h=>?_
   ·
    refine Zj<|Zl<|Zi<|K2 0 3 Y<|Tr<|Rm Y<|Rm Y<|R1 ZD Y<|bE h fun x4 h_x4 h=>Rq Y (QI (ov Y) (ov Y) Xc h_x4)<|Rq Y (Zd (ov Y) Xn<|Zn<|Qn (o:=0) (o':=(i.toNat*1)) (Zh arL)<|Qd h_x4)<|bE h fun y5 h_y5 h=>Rq Y (Zq (Zcf h_y5)<|.cons (ov Y) (.b Y) .nil)<|R1 XV Y<|Za<|K3 0 3 38 Y<|If h Y (fun h=>?_) fun h=>?_
    ·
     refine K0<|Tr<|Ra Y<|Za<|?_
     replace h:=lx h▸ho1
     obtain rfl:=rt h
     exact Zs (ZK Y (.one<|rb Y))
    ·
     exact Zj<|K2 0 3 Y<|Zt<|Rm Y<|R2 ZX Y<|Ra Y<|Za<|⟨_,h,ES []⟩
   ·
    refine ZI<|?_
    replace h:=lx h▸ho1
    exact⟨(),h,ES []⟩
  ·
   replace h:=elr h
   replace h:=t0i h
   refine Zl<|Qe (cw:=md0) (by kernel_rfl)<|D1 0 Zc Y<|D1 1 ZD Y<|bE h fun x5 h_x5 h=>Dq 2 Y (QI (ov Y) (ov Y) Xc h_x5)<|Dq 3 Y (Zd (ov Y) Xn<|Zn<|Qn (o:=0) (o':=((Int.toNat 62)*1)) (Zh arL)<|Qd h_x5)<|bE h fun y6 h_y6 h=>Dq 4 Y (Zq (Jo h_y6)<|.cons (ov Y) (.b Y) .nil)<|bE h fun q2 h_q2 h=>Dq 5 Y (Zel (ov Y) (ov Y) h_q2)<|D1 6 Zc Y<|D1 7 ZD Y<|bE h fun x6 h_x6 h=>Dq 8 Y (QI (ov Y) (ov Y) Xc h_x6)<|Dq 9 Y (Zd (ov Y) Xn<|Zn<|Qn (o:=0) (o':=((Int.toNat 63)*1)) (Zh arL)<|Qd h_x6)<|bE h fun y7 h_y7 h=>Dq 10 Y (Zq (Jo h_y7)<|.cons (ov Y) (.b Y) .nil)<|D2 11 Zgl Y<|D1 12 Zc Y<|bE h fun y8 h_y8 h=>Dq 13 Y (Zq (Za9 h_y8)<|.cons (ov Y) (.b Y) .nil)<|D2 14 Q3 Y<|D1 15 QK Y<|Dd<|?_
   obtain rfl:=rt h
   exact Zs (ZK Y (.one<|rb Y))
theorem ZfJ{f:Vector Int 64}{r:Bool}(h:Zb7 f=some r):
 CSpec Tryz.prog gl0 82 [.agg (List.map C35 f.toList)] (.bool r):=by
 unfold Zb7 at h
 replace h:=Qk h
 refine So Tryz.func82 Y fun w0 A=>Tr<|Rq Y (Xh (cva<|ov Y) arL tZ_37<|arD fun _=>Y)<|Ra Y<|Za<|K2 1 2 Y<|Tr<|bE h fun y h_y h=>Rq Y (Zq (Zfl h_y)<|.cons (ov Y) (.b Y) .nil)<|Ra Y<|Za<|?_
 obtain rfl:=rt h
 exact Zs (ZK Y (.one<|rb Y))
theorem Zqf{h_:List Int}{out r:List api_Found}{l Bx:Nat}{rec:Loop}(hY: ∀ (x:api_Found) (xs ys:List api_Found),app xs [x]=some ys→ZpO Tryz.prog gl0 l rec Bx [.int .i64 x.At,.agg (List.map C35 x.Frame.toList)] [some ⟨43,[[.own 1 xs.length]]⟩,some ⟨47,List.map R47 xs⟩] [some ⟨43,[[.own 1 ys.length]]⟩,some ⟨47,List.map R47 ys⟩])(h:ZbI h_ out=some r):
 Zm9 Tryz.prog gl0 127 l rec Bx [.lit (.func (.yield l) #[] #[]),.rp [.sl 5 (List.map R5 h_)] 0] [some ⟨43,[[.own 1 out.length]]⟩,some ⟨47,List.map R47 out⟩] [some ⟨43,[[.own 1 r.length]]⟩,some ⟨47,List.map R47 r⟩]:=by
 unfold ZbI at h
 replace h:=Qk h
 refine ZtI Tryz.func127 Y Y Y Y<|?_
 intro w0 A W φ0 hrec hlW hB1 hB2 hB3
 refine Tr<|Ra Y<|Za<|Zi<|?_
 obtain⟨r1,hl1,ho1⟩:=QZ h
 refine L2 (fun o at_=>⟨[(0,.lit (.func (.yield l) #[] #[])),(1,.rp [.sl 5 (List.map R5 h_)] 0),(3,.int .i64 at_)],[some ⟨43,[[.own 1 o.length]]⟩,some ⟨47,List.map R47 o⟩]⟩) hl1 (ES [some 0,some 1]) fun n1 o at_ h=>?_
 unfold Jx at h
 refine Zl<|Tr<|Rm Y<|R2 ZX Y<|Rq Y (Zd (ov Y) Zdz Y)<|Rl tZ_5 Q6 Y<|R2 Zfc Y<|Za<|K4 0 1 3 9 Y<|If h Y (fun h=>?_) fun h=>?_
 ·
  refine Zj<|J1 (fun j=>(.inr j)) (fun o2=>⟨[(0,.lit (.func (.yield l) #[] #[])),(1,.rp [.sl 5 (List.map R5 h_)] 0),(3,.int .i64 at_)],[some ⟨43,[[.own 1 o2.length]]⟩,some ⟨47,List.map R47 o2⟩]⟩) h (fun h=>?_) fun o2 h=>?_
  ·
   refine Zi<|Zl<|K3 0 1 3 Y<|Tr<|Rq Y (Zd (ov Y) Zdz Y)<|Rm Y<|Rm Y<|R2 ZX Y<|bE h fun l h_l h=>Rq Y (Zd0 (ov Y) Q6 (oi<|ov Y) (oi<|ov Y) h_l)<|bE h fun y h_y h=>Rq Y (Zq (Zcq h_y)<|.cons (ov Y) (.b Y) .nil)<|bE h fun y2 h_y2 h=>Rq Y (Zq (Zg4 h_y2)<|.cons (ov Y) (.b Y) .nil)<|R1 XV Y<|Za<|K4 0 1 3 19 Y<|If h Y (fun h=>?_) fun h=>?_
   ·
    exact ZI<|⟨_,h,ES [some 0,some 1]⟩
   ·
    refine Zj<|K3 0 1 3 Y<|Tr<|Rq Y (Zd (ov Y) Zdz Y)<|Rm Y<|Rm Y<|R2 ZX Y<|bE h fun l2 h_l2 h=>Rq Y (Zd0 (ov Y) Q6 (oi<|ov Y) (oi<|ov Y) h_l2)<|bE h fun v h_v h=>Rq Y (ZkY (f:=C5) (ov Y) Zq0 tZ_5 Y h_v)<|Rq Y (ZU (ov Y) ZsY (Zu<|Zh arL) arL)<|bE h fun y3 h_y3 h=>Rq Y (Zq (Zgp h_y3)<|.cons (ov Y) (.aggB<|arD fun _=>Y) .nil)<|Rx Y (ZP (row:=(List.map C35 (Vector.replicate 64 0).toList)) 2 Y ZcI Y tZ_37)<|Rx Y (Zf (ov Y) (ov Y) (Zp Qz arL) Y Y Y (ZG (Zh arL) arL) (Zb<|arC fun _=>Y)<|ZO<|Eq.trans arL<|Eq.symm arL)<|Za<|K4 0 1 3 4 Y<|Zl<|ZtN<|ZgG<|Zg6 _ Y Y (ZJ (ov Y) Y Y Y Qz (Zu<|Zh arL) arL (hns:=(nsM fun _=>Y)))<|bE h fun y4 h_y4 h=>Zg6 _ Y Y (Zq (ZfJ h_y4)<|.cons (ov Y) (.aggB<|arD fun _=>Y) .nil)<|Zg6 _ Y Y (Zc<|ov Y)<|?_
    rcases ifR h with ⟨hg,h⟩ | ⟨hg,h⟩
    ·
     refine ZpI (d:=30) (b':=true) Y (ZtY hg)<|Zng _ Y Y Y Y Y (Zc<|ov Y)<|Zng _ Y Y Y Y Y (Zc<|ov Y)<|Zng _ Y Y Y Y Y (ZJ (ov Y) Y Y Y Qz (Zu<|Zh arL) arL (hns:=(nsM fun _=>Y)))<|bE h fun out2 h_out2 h=>ZoL Y [0,1] (.cons (ov Y) (.dat Y)<|.cons (ov Y) (ZsR<|rld<|arD fun _=>Y) .nil) (hY (api_Found.mk at_ y3) _ _ h_out2) Y hrec hlW (by exact Nat.zero_lt_succ _) hB1 hB2 hB3 Y Y (.cons Y (ro1 (by exact tZ_43.symm)<|rlc (.own _ Y) rln)<|.cons Y (roM D47) .nil) Y (.lent 0 (.inl Y) Y (ro1 (by exact tZ_43.symm)<|rlc (.own _<|.inl Y) rln)<|.lent 1 (.inl Y) Y (roM D47)<|.keep Y Y .nil) Y Y (fun _ _ _ hc=>ZmH Y Y Y hc) Y<|Zng _ Y Y Y Y Y (XV<|ov Y)<|Zg6 _ Y Y (Zqk (ov Y)<|ov Y)<|ZfK<|K4 0 1 3 36 Y<|If h Y (fun h=>?_) fun h=>?_
     ·
      replace h:=lx h▸ho1
      obtain rfl:=rt h
      exact Zs<|ZlW [some 0,some 1] Y .nil (.cons Y (ro1 (by exact tZ_43.symm)<|rlc (.own _ Y) rln)<|.cons Y (roM D47) .nil) Y Y<|ZbA<|rld Y
     ·
      exact Zj<|⟨_,h,ES [some 0,some 1]⟩
    ·
     refine ZpI (d:=30) (b':=false) Y (ZtX hg)<|Zfr Y Y Y Y Y<|Zfr Y Y Y Y Y<|Zfr Y Y Y Y Y<|Zfr Y Y Y Y Y<|Zfr Y Y Y Y Y<|Zg6 _ Y Y (ZqI (ov Y)<|ov Y)<|ZfK<|K4 0 1 3 36 Y<|Znq h Y (fun b36 h=>?_) fun b36 h=>?_
     ·
      exact Bool.noConfusion b36
     ·
      exact Zj<|⟨_,h,ES [some 0,some 1]⟩
  ·
   replace h:=elr h
   replace h:=t1i h
   exact Zt<|Rm Y<|R2 ZX Y<|Ra Y<|Za<|⟨_,h,ES [some 0,some 1]⟩
 ·
  refine ZI<|?_
  replace h:=lx h▸ho1
  obtain rfl:=rt h
  exact Zfz [some 0,some 1] Y .nil (.cons Y (ro1 (by exact tZ_43.symm)<|rlc (.own _ Y) rln)<|.cons Y (roM D47) .nil) Y Y<|ZbA<|rld Y
theorem ZnF(h_:List Int):CSpec Tryz.prog gl0 115 [.sl 5 (List.map R5 h_)] (.fn 127 [.rp [.sl 5 (List.map R5 h_)] 0]):=by
 refine So Tryz.func115 Y fun w0 A=>Tr<|Rq Y (Xh (cvs (ov Y)<|Z5 Y) Y tZ_40 Y)<|Ra Y<|Za<|Tr<|Rq Y (Zd4<|.cons (ov Y) .nil)<|Ra Y<|Za<|Zs<|ZK Y<|.one<|.tmp Y<|Dat.view<|.fnC<|.cons (.b Y) .nil
theorem Ziq{h_:List Int}{r:List api_Found}(h:ZcC h_=some r):
 CSpec Tryz.prog gl0 89 [.sl 5 (List.map R5 h_)] (.sl 47 (List.map R47 r)):=by
 unfold ZcC at h
 refine Zlk (by kernel_rfl) Tryz.func89 Y Y<|?_
 intro w0 A
 refine Zkr<|ZgG<|Zg6 _ Y Y (QK<|ov Y)<|ZfK<|Zkr<|ZgG<|Zn3 _ _ Y Y (ZP (row:= [_]) 0 Y ZtS Y tZ_43)<|ZfK<|Zr4<|Zkr<|ZgG<|Zg6 _ Y Y (Zc<|ov Y)<|Zg6 _ Y Y (Zq (ZnF h_)<|.cons (ov Y) (.b Y) .nil)<|ZpV (Ent.sel [some 0,none] (sd 0 Y Y<|sd 2 Y Y<|sr 3 Y (.ptr (r':=0) _ _ _ Y)<|sd 6 Y Y<|sr 7 Y (rFn<|rlc (.dat Y) rln) sn) (.cons Y (ro1 (by exact tZ_43.symm)<|rlc (.row (r':=1) Y) rln)<|.row 47 .nil) Y Y)<|ZfK<|ZoC (n:=3) (os:= [some ⟨43,[[.own 1 ([]:List api_Found).length]]⟩,some ⟨47,List.map R47 ([]:List api_Found)⟩]) (os':= [some ⟨43,[[.own 1 r.length]]⟩,some ⟨47,List.map R47 r⟩]) (hp':= [some ⟨43,[[.own 1 r.length]]⟩,some ⟨47,List.map R47 r⟩]) [0,1] Y Y Y (by kernel_rfl) Y Y (fun Bx l fn φ a w hc hBx hmp=>?_) (.cons Y (ro1 (by exact tZ_43.symm)<|rlc (.own _ Y) rln)<|.cons Y (roM D47) .nil) Y (.lent 0 (.inl Y) Y (ro1 (by exact tZ_43.symm)<|rlc (.own _<|.inl Y) rln)<|.lent 1 (.inl Y) Y (roM D47) .nil) Y Y (tp:=3) Y ?_
 ·
  refine Zqf (fun x xs l h_l=>?_) h
  refine ZtU (tm:= [(3,.ptr 0 1 0 0),(8,.int .i64 x.At),(9,.agg (List.map C35 x.Frame.toList))]) (st1:=⟨(5,.ptr 2 1 0 0)::(4,.int .i64 x.At):: [(3,.ptr 0 1 0 0),(8,.int .i64 x.At),(9,.agg (List.map C35 x.Frame.toList))],[some ⟨43,[[.own 1 xs.length]]⟩,some ⟨47,List.map R47 xs⟩,some ⟨37,[(List.map C35 x.Frame.toList)]⟩]⟩) Y Y Y hc.size (Zsm Y (by show Nat.blt _ a.tmps.size=true;rw [hc.size];rfl) (by show Nat.blt _ a.tmps.size=true;rw [hc.size];rfl) Y Y Y Y Y<|Zo2 hc Y Y Y hBx) (fun w0 A W φ0=>?_) fun w0 A W φ0=>?_
  ·
   exact Zr7<|ZgG<|Zg6 _ Y Y (QK<|ov Y)<|ZfK<|ZgG<|Zn3 _ _ Y Y (ZP (row:=(List.map C35 (Vector.replicate 64 0).toList)) 2 Y ZcI Y tZ_37)<|Zn3 _ _ Y Y (Zf (ov Y) (ov Y) (Zp Qz arL) Y Y Y (ZG (Zh arL) arL) (Zb<|arC fun _=>Y)<|ZO<|Eq.trans arL<|Eq.symm arL)<|ZfK ⟨Y,Y⟩
  ·
   exact ZoV<|ZgG<|Zg6 _ Y Y (Zm (ov Y) Y Y Y Zge Y)<|Zg6 _ Y Y (Zc<|ov Y)<|Zg6 _ Y Y (ZJ (ov Y) Y Y Y Qz (Zu<|Zh arL) arL (hns:=(nsM fun _=>Y)))<|Zg6 _ Y Y (Zc9 (zr:=(.int .i64 0)::((List.map C35 (Vector.replicate 64 0).toList)++([]))) ZqX Zrg ZlH (by kernel_rfl) (.cons (cvs (ov Y)<|Z5 Y)<|.cons (cva<|ov Y) .nil)<|Jj Y Y Xo ZtA<|Jj Y arL ZpS Zs6 Zfy)<|Zg6 _ Y Y (Jm Zaw (.cons (cva<|ov Y) Xq (pwD Zlm) .nil) Y Y)<|Zn3 _ _ Y Y (Zv (ov Y) (ZH (ov Y) tZ_47) Zaw Y Y Y (fun x=>Zb<|E47 x) Y h_l)<|Zn3 _ _ Y Y (Zf (ov Y) (ov Y) (Zg Zge) Y Y Y (Nat.le_of_ble_eq_true Y) (Zb Y) Y)<|ZpV (Ent.sel [some 0,some 1] sn (.cons Y (ro1 (by exact tZ_43.symm)<|rlc (.own (r':=1) _ Y) rln)<|.cons Y (roM D47) .nil) Y Y)<|ZfK ⟨Y,Y⟩
 ·
  exact ZrF<|Ztl _ Y Y Y (Zm (ov Y) Y Y Y Zge Y)<|Ztl _ Y Y Y (QK<|ov Y)<|ZrQ<|Zrq (.one<|.tmp Y<|View.ownM Y Y D47) Y Y
theorem ZfB{h_:List Int}{r:(List api_Found)}(h:Zav h_=some r):
 GSpec Tryz.prog gl0 64 [.sl 5 (List.map R5 h_)] [] (.own 0 r.length) [some ⟨47,List.map R47 r⟩]:=by
 unfold Zav at h
 replace h:=Qk h
 refine ZaU (by kernel_rfl) Tryz.func64 Y Y<|?_
 intro w0 A W φ0
 refine Tr<|Ra Y<|Za<|K1 0 Y<|Tr<|Rm Y<|bE h fun y h_y h=>Rq Y (Zq (Ziq h_y)<|.cons (ov Y) (.b Y) .nil)<|Ra Y<|Za<|K1 3 Y<|Tr<|Ra Y<|Za<|I1 (fun out=>⟨[(4,.own 0 out.length)],[some ⟨47,List.map R47 out⟩]⟩) h (fun h=>?_) fun out h=>?_
 ·
  refine Tr<|Rm Y<|Rl tZ_47 Zaw Y<|Rm Y<|Za<|Zi<|?_
  obtain⟨r1,hl1,ho1⟩:=QZ h
  refine L2 (fun out2 i=>⟨[(3,.sl 47 (List.map R47 y)),(4,.own 0 out2.length),(9,.sl 47 (List.map R47 y)),(10,.int .i64 (y.length:Int)),(11,.int .i64 i)],[some ⟨47,List.map R47 out2⟩]⟩) hl1 (ES [none]) fun n1 out2 i h=>?_
  unfold XP at h
  refine Tr<|R2 ZV Y<|Za<|Zl<|If h Y (fun h=>?_) fun h=>?_
  ·
   refine Zj<|Zl<|Zi<|K5 3 4 9 10 11 Y<|Tr<|Rm Y<|bE h fun x h_x h=>Rq Y (ZW (ov Y) (ov Y) Zaw h_x)<|Rq Y (ZU (ov Y) Zf9 (Zu<|Zh Xq) Xq)<|Rx Y (ZP (row:=(.int .i64 0)::((List.map C35 (Vector.replicate 64 0).toList)++([]))) 1 Y ZlH (by kernel_rfl)<|by exact Eq.symm (Eq.trans (b:=65) Xq tZ_47.symm))<|Ra Y<|Rx Y (Zf (ov Y) (ov Y) (Zp Zf9 Xq) Y Y Y (ZG (Zh Xq) Xq) (Zb Zmh)<|ZO<|Eq.trans Xq<|Eq.symm Xq)<|Za<|Zl<|K7 3 4 5 6 9 10 11 Y<|Qe (cw:=md0) (by kernel_rfl)<|D1 0 Zc Y<|D2 1 Q3 Y<|D1 2 Zc Y<|Dq 3 Y (.guarded ((decide (i=0))==false) Y Y Y Y fun h=>Ze (ov Y) Y Y Xm)<|Dq 4 Y (.guarded ((decide (i=0))==false) Y Y Y Y fun h=>Zm (ow Y h) Y Y Y tS3<|Zn Xo)<|Dq 5 Y (.guarded ((decide (i=0))==false) Y Y Y Y fun h=>Zc<|ov Y)<|Dq 6 Y (.guarded ((decide (i=0))==false) Y Y Y Y fun h=>Zc<|ov Y)<|Dq 7 Y (.guarded ((decide (i=0))==false) Y Y Y Y fun h=>Zdo (ow Y h) (ov Y) Y)<|bE h fun x2 h_x2 h=>Dq 8 Y (.guarded ((decide (i=0))==false) Y Y Y Y fun h=>ZW (ow Y h) (ow Y h) Zaw<|gdT h_x2 h)<|Dq 9 Y (.guarded ((decide (i=0))==false) Y Y Y Y fun h=>ZE (ow Y h) Xm)<|Dq 10 Y (.guarded ((decide (i=0))==false) Y Y Y Y fun h=>Zd (ow Y h) tS3<|Zn Xo)<|Dq 11 Y (.guarded ((decide (i=0))==false) Y Y Y Y fun h=>Zdo (ow Y h) (ow Y h) Y)<|Dq 12 Y (.guarded ((decide (i=0))==false) Y Y Y Y fun h=>Zc5 (ow Y h)<|ov Y)<|Dq 13 Y (Za2 (ov Y) fun hp=>ow Y<|gF hp)<|D1 14 Zc Y<|Dq 15 Y (.guarded (((decide (i=0)) || (decide (192≤(i64 (x.At-x2.At)))))==true) Y Y Y Y fun h=>Zc<|ov Y)<|Dq 16 Y (.guarded (((decide (i=0)) || (decide (192≤(i64 (x.At-x2.At)))))==true) Y Y Y Y fun h=>Zc<|ov Y)<|Dq 17 Y (.guarded (((decide (i=0)) || (decide (192≤(i64 (x.At-x2.At)))))==true) Y Y Y Y fun h=>ZfO (ZH (ow Y h) tZ_47) Zaw<|Zcs _ _)<|Dq 18 Y (.guarded (((decide (i=0)) || (decide (192≤(i64 (x.At-x2.At)))))==true) Y Y Y Y fun h=>Zdo (ow Y h) (ov Y) Y)<|Dq 19 Y (.guarded (((decide (i=0)) || (decide (192≤(i64 (x.At-x2.At)))))==true) Y Y Y Y fun h=>Q3 (ow Y h)<|ow Y h)<|Dq 20 Y (.guarded (((decide (i=0)) || (decide (192≤(i64 (x.At-x2.At)))))==true) Y Y Y Y fun h=>Zc<|ow Y h)<|Dq 21 Y (.guarded2 ((((decide (i=0)) || (decide (192≤(i64 (x.At-x2.At)))))==true)&&((decide (i=(i64 ((y.length:Int)-1))))==false)) Y Y Y Y fun h=>Zc<|ov Y)<|Dq 22 Y (.guarded2 ((((decide (i=0)) || (decide (192≤(i64 (x.At-x2.At)))))==true)&&((decide (i=(i64 ((y.length:Int)-1))))==false)) Y Y Y Y fun h=>Zc<|ov Y)<|Dq 23 Y (.guarded2 ((((decide (i=0)) || (decide (192≤(i64 (x.At-x2.At)))))==true)&&((decide (i=(i64 ((y.length:Int)-1))))==false)) Y Y Y Y fun h=>Zh4 (ow Y h) (ov Y) Y)<|bE h fun x3 h_x3 h=>Dq 24 Y (.guarded2 ((((decide (i=0)) || (decide (192≤(i64 (x.At-x2.At)))))==true)&&((decide (i=(i64 ((y.length:Int)-1))))==false)) Y Y Y Y fun h=>ZW (ow Y h) (ow Y h) Zaw<|gdT h_x3 h)<|Dq 25 Y (.guarded2 ((((decide (i=0)) || (decide (192≤(i64 (x.At-x2.At)))))==true)&&((decide (i=(i64 ((y.length:Int)-1))))==false)) Y Y Y Y fun h=>ZE (ow Y h) Xm)<|Dq 26 Y (.guarded2 ((((decide (i=0)) || (decide (192≤(i64 (x.At-x2.At)))))==true)&&((decide (i=(i64 ((y.length:Int)-1))))==false)) Y Y Y Y fun h=>Zd (ow Y h) tS3<|Zn Xo)<|Dq 27 Y (.guarded2 ((((decide (i=0)) || (decide (192≤(i64 (x.At-x2.At)))))==true)&&((decide (i=(i64 ((y.length:Int)-1))))==false)) Y Y Y Y fun h=>Ze (ov Y) Y Y Xm)<|Dq 28 Y (.guarded2 ((((decide (i=0)) || (decide (192≤(i64 (x.At-x2.At)))))==true)&&((decide (i=(i64 ((y.length:Int)-1))))==false)) Y Y Y Y fun h=>Zm (ow Y h) Y Y Y tS3<|Zn Xo)<|Dq 29 Y (.guarded2 ((((decide (i=0)) || (decide (192≤(i64 (x.At-x2.At)))))==true)&&((decide (i=(i64 ((y.length:Int)-1))))==false)) Y Y Y Y fun h=>Zdo (ow Y h) (ow Y h) Y)<|Dq 30 Y (.guarded2 ((((decide (i=0)) || (decide (192≤(i64 (x.At-x2.At)))))==true)&&((decide (i=(i64 ((y.length:Int)-1))))==false)) Y Y Y Y fun h=>Zc5 (ow Y h)<|ov Y)<|Dq 31 Y (.guarded (((decide (i=0)) || (decide (192≤(i64 (x.At-x2.At)))))==true) Y Y Y Y fun h=>Za2 (ow Y h) fun hp=>ow Y<|gA h<|gF hp)<|Dq 32 Y (XJ (ov Y) fun hp=>ow Y<|gT hp)<|Dd<|K7 3 4 6 9 10 11 48 Y<|If h Y (fun h=>?_) fun h=>?_
   ·
    exact K6 3 4 6 9 10 11 Y<|Zt<|Rm Y<|Rq Y (ZJ (ov Y) Y Y Y Zf9 (Zu<|Zh Xq) Xq (hns:=Zr3))<|R_q (.sl 47<|List.map R47 ([x]:List api_Found)) Y (Jm Zaw (.cons (cva<|ov Y) Xq (pwD Zlm) .nil) Y Y)<|bE h fun l h_l h=>Rx Y (Zv (ov Y) (ZH (ov Y) tZ_47) Zaw Y Y Y (fun x=>Zb<|E47 x) Y h_l)<|Ra Y<|Za<|K5 3 4 9 10 11 Y<|Zt<|R2 ZX Y<|Rm Y<|Za<|⟨_,h,ES [some 0]⟩
   ·
    exact Zj<|K5 3 4 9 10 11 Y<|Zt<|R2 ZX Y<|Rm Y<|Za<|⟨_,h,ES [some 0]⟩
  ·
   refine ZI<|?_
   replace h:=lx h▸ho1
   exact⟨_,h,ES [some 0]⟩
 ·
  refine Tr<|Rm Y<|Ra Y<|Za<|?_
  obtain rfl:=rt h
  exact Zs<|ZlW [some 0] Y (.cons (.tmp Y) .nil) (.cons Y (roM D47) .nil) Y Y<|.own _ Y
theorem Zdk{f:Vector Int 64}{r:Int×Bool}(h:Zan f=some r):
 CSpec Tryz.prog gl0 65 [.agg (List.map C35 f.toList)] (.tuple [.int .i64 r.1,.bool r.2]):=by
 unfold Zan at h
 replace h:=Qk h
 refine So Tryz.func65 Y fun w0 A=>Tr<|Rq Y (Xh (cva<|ov Y) arL tZ_37<|arD fun _=>Y)<|Ra Y<|Ra Y<|Za<|Zl<|K1 1 Y<|Tr<|bE h fun x h_x h=>Rq Y (QI (ov Y) (ov Y) Xc h_x)<|Rq Y (Zd (ov Y) Xn<|Zn<|Qn (o:=0) (o':=((Int.toNat 1)*1)) (Zh arL)<|Qd h_x)<|bE h fun y h_y h=>Rq Y (Zq (Zcf h_y)<|.cons (ov Y) (.b Y) .nil)<|R1 XV Y<|Rm Y<|bE h fun x2 h_x2 h=>Rq Y (.guarded ((!y)==false) Y Y Y Y fun h=>QI (ov Y) (ov Y) Xc<|gdT h_x2 h)<|Rq Y (.guarded ((!y)==false) Y Y Y Y fun h=>Zd (ow Y h) Xn<|Zn<|Qn (o:=0) (o':=((Int.toNat 2)*1)) (Zh arL)<|Qd<|gdT h_x2 h)<|bE h fun y2 h_y2 h=>Rq Y (.guarded ((!y)==false) Y Y Y Y fun h=>Zq (Zcf<|gdT h_y2 h)<|.cons (ow Y h) (.b Y) .nil)<|Rq Y (.guarded ((!y)==false) Y Y Y Y fun h=>XV<|ow Y h)<|Rq Y (Za2 (ov Y) fun hp=>ow Y<|gF hp)<|Za<|K2 1 13 Y<|If h Y (fun h=>?_) fun h=>?_
 ·
  refine K0<|Tr<|Ra Y<|Ra Y<|Za<|?_
  obtain rfl:=rt h
  exact Zs (ZK Y (.two (rb Y)<|rb Y))
 ·
  refine Zj<|K1 1 Y<|Tr<|bE h fun y3 h_y3 h=>Rq Y (Zq (ZaK h_y3)<|.cons (ov Y) (.b Y) .nil)<|Ra Y<|Ra Y<|Za<|?_
  obtain rfl:=rt h
  exact Zs (ZK Y (.two (rb Y)<|rb Y))
theorem ZfG{h_:List Int}{r:salvage_finder}(h:JL h_=some r):
 CSpec Tryz.prog gl0 40 [.sl 5 (List.map R5 h_)] (.rp [.sl 5 (List.map R5 r.h_),.sl 47 (List.map R47 r.certain),.sl 3 (List.map R3 r.numbers),.any] 0):=by
 unfold JL at h
 replace h:=Qk h
 refine So Tryz.func40 Y fun w0 A=>Tr<|Ra Y<|Za<|K1 0 Y<|Tr<|Rm Y<|Rm Y<|bE h fun y h_y h=>Rx Y (JH [] (ZfB h_y) (.cons (ov Y) (.dat Y) .nil) .nil Y (.lent 0 (.inr ⟨Nat.le_of_ble_eq_true Y,Y⟩) Y (roM D47) .nil) Y Y<|.own _<|.inr ⟨Nat.le_of_ble_eq_true Y,Y⟩)<|Rx Y (ZhL 1 Y ZN)<|Rq Y (ZdC (ys:= [_,_,_,_]) Ztk Zth ZtJ (.cons (cvs (ov Y)<|Z5 Y)<|.cons (cvs (ov Y)<|Z5 Y)<|.cons (cvs (ov Y)<|Z5 Y) .nil) Y)<|Rx Y (Zm8 2 Y (ov Y) ZtM Y)<|Ra Y<|Za<|I2 (fun numbers at__=>⟨[(3,.ptr 0 1 0 0)],[some ⟨98,[[.sl 5 (List.map R5 h_),.own 1 y.length,.own 2 numbers.length,.mref 3 1]]⟩,some ⟨47,List.map R47 y⟩,some ⟨3,List.map R3 numbers⟩,some ⟨96,[[.mcon (List.map (Q8 FK3 FV3) at__)]]⟩]⟩) h (fun h=>?_) fun numbers at__ h=>?_
 ·
  refine K1 3 Y<|Tr<|Rm Y<|Rq Y (Zo (ov Y) Y Y)<|Rq Y (Ze (ov Y) Y Y ZcT)<|Rq Y (Zm (ov Y) Y Y Y Zge Y)<|Rq Y (Zd3 (ov Y) Y Y Zaw)<|Rm Y<|Za<|Zi<|?_
  obtain⟨r1,hl1,ho1⟩:=QZ h
  refine L3 (fun numbers2 at__2 i=>⟨[(3,.ptr 0 1 0 0),(17,.own 1 y.length),(18,.int .i64 (y.length:Int)),(19,.int .i64 i)],[some ⟨98,[[.sl 5 (List.map R5 h_),.own 1 y.length,.own 2 numbers2.length,.mref 3 1]]⟩,some ⟨47,List.map R47 y⟩,some ⟨3,List.map R3 numbers2⟩,some ⟨96,[[.mcon (List.map (Q8 FK3 FV3) at__2)]]⟩]⟩) hl1 (ES [some 2,some 0,none,some 1] (hhp:= .cons Y (ro1 (by exact tZ_98.symm)<|rlc (.dat Y)<|rlc (.own _ Y)<|rlc (.row Y)<|rlc (.mref _ Y) rln)<|.cons Y (roM D47)<|.row 3<|.cons Y (Z7 (fk:=FK3) (fv:=FV3) (m:=([]:List (Int×Int))) tZ_96 (fun _=>.dat Y) fun _=>.ren<|.dat Y) .nil)) fun n1 numbers2 at__2 i h=>?_
  unfold X5 at h
  refine Tr<|R2 ZV Y<|Za<|Zl<|If h Y (fun h=>?_) fun h=>?_
  ·
   refine Zj<|I2 (fun numbers3 at__3=>⟨[(3,.ptr 0 1 0 0),(17,.own 1 y.length),(18,.int .i64 (y.length:Int)),(19,.int .i64 i)],[some ⟨98,[[.sl 5 (List.map R5 h_),.own 1 y.length,.own 2 numbers3.length,.mref 3 1]]⟩,some ⟨47,List.map R47 y⟩,some ⟨3,List.map R3 numbers3⟩,some ⟨96,[[.mcon (List.map (Q8 FK3 FV3) at__3)]]⟩]⟩) h (fun h=>?_) fun numbers3 at__3 h=>?_
   ·
    refine Zi<|K4 3 17 18 19 Y<|Tr<|Rm Y<|bE h fun x h_x h=>Rq Y (QW (ov Y) (ov Y) Zaw Y Y h_x)<|Rq Y (Zle (ov Y) Y Y h_x Zf9 (Zu<|Zh Xq) Xq (hns:=Zr3))<|Rx Y (ZP (row:=(.int .i64 0)::((List.map C35 (Vector.replicate 64 0).toList)++([]))) 4 Y ZlH (by kernel_rfl)<|by exact Eq.symm (Eq.trans (b:=65) Xq tZ_47.symm))<|Ra Y<|Rx Y (Zf (ov Y) (ov Y) (Zp Zf9 Xq) Y Y Y (ZG (Zh Xq) Xq) (Zb Zmh)<|ZO<|Eq.trans Xq<|Eq.symm Xq)<|Za<|K6 3 4 5 17 18 19 Y<|Tr<|Rq Y (Ze (ov Y) Y Y ZmJ)<|Rq Y (ZJ (ov Y) Y Y Y Qz (Zu ZpS) arL (hns:=(nsM fun _=>Y)))<|bE h fun y2 h_y2 h=>Rq Y (Zq (Zdk h_y2)<|.cons (ov Y) (.aggB<|arD fun _=>Y) .nil)<|Rm Y<|Rq Y (Zk (ov Y) Y)<|Rq Y (Zk (ov Y) Y)<|Ra Y<|Ra Y<|Za<|K7 3 4 5 6 17 18 19 Y<|Qe (cw:=md0) (by kernel_rfl)<|D1 7 Zc Y<|Dq 8 Y (Zo (ov Y) Y Y)<|Dq 9 Y (Ze (ov Y) Y Y QQ)<|Dq 10 Y (Zm (ov Y) Y Y Y XA Y)<|D1 11 Zc Y<|Zkz 12 (.sl 3<|List.map R3 ([y2.1]:List Int)) Y (by kernel_rfl) Y Y (Jm Qp (.cons (cvs (ov Y)<|Z5 Y) Y (.cons (.b Y) .nil) .nil) Y Y)<|XG 0 _ Y (by kernel_rfl) Y Y (fun hp'=>Zc<|ov Y)<|XG 1 _ Y (by kernel_rfl) Y Y (fun hp'=>Zc<|ov Y)<|XG 14 _ Y (by kernel_rfl) Y Y (fun hp'=>Zc<|ov Y)<|bE h fun l h_l h=>Ze0 [2,5,13] (by kernel_rfl)<|.q Y Y Y (Zo (ov Y) Y Y) ?_<|.q Y Y Y (Ze (ov Y) Y Y Xm) ?_<|.w Y Y Y (fun h=>by cases h) (fun h=>by cases h) (Zv (ov Y) (ZH (ov Y) tZ_3) Qp Y Y Y (fun _=>Zb Y) Y h_l) ?_ .nil
    ·
     refine Ze0 [3,5,13] (by kernel_rfl)<|.q Y Y Y (Ze (ov Y) Y Y ZbU) ?_<|.q Y Y Y (Ze (ov Y) Y Y Xm) ?_<|.w Y Y Y (fun h=>by cases h) (fun h=>by cases h) (Zv (ov Y) (ZH (ov Y) tZ_3) Qp Y Y Y (fun _=>Zb Y) Y h_l) ?_ .nil
     ·
      refine Ze0 [4,5,13] (by kernel_rfl)<|.q Y Y Y (Zm (ov Y) Y Y Y Zcd Y) ?_<|.q Y Y Y (Ze (ov Y) Y Y Xm) ?_<|.w Y Y Y (fun h=>by cases h) (fun h=>by cases h) (Zv (ov Y) (ZH (ov Y) tZ_3) Qp Y Y Y (fun _=>Zb Y) Y h_l) ?_ .nil
      ·
       refine Dw 5 13 Y (Ze (ov Y) Y Y Xm) (Zv (ov Y) (ZH (ov Y) tZ_3) Qp Y Y Y (fun _=>Zb Y) Y h_l) ?_ ?_
       ·
        refine Dw 6 13 Y (Zm (ov Y) Y Y Y tS3<|Zn Xo) (Zv (ov Y) (ZH (ov Y) tZ_3) Qp Y Y Y (fun _=>Zb Y) Y h_l) ?_ ?_
        ·
         exact Do 13 Y (Zv (ov Y) (ZH (ov Y) tZ_3) Qp Y Y Y (fun _=>Zb Y) Y h_l)<|Dq 15 Y (Zo (ov Y) Y Y)<|Dq 16 Y (Ze (ov Y) Y Y QQ)<|Do 17 Y (Zf (ov Y) (ov Y) (Zg XA) Y Y Y (Nat.le_of_ble_eq_true Y) (Zb Y) Y)<|Do 18 Y (Zy (m:=at__2) (fk:=FK3) (fv:=FV3) (k:=x.At) (z0:=0) (ov Y) (ov Y) ZN QV Y (fun _=>.b Y)<|Zx X9 Y)<|Dq 19 Y (Zk (ov Y) Y)<|Do 20 Y (Zr (m:=at__2) (fk:=FK3) (fv:=FV3) (k:=x.At) (v:=i) (ov Y) (ov Y) (ov Y) ZN Y)<|Dd<|⟨_,h,ES [some 0,some 1,some 2,some 3] (hhp:= .cons Y (ro1 (by exact tZ_98.symm)<|rlc (.dat Y)<|rlc (.own _ Y)<|rlc (.own _ Y)<|rlc (.mref _ Y) rln)<|.cons Y (roM D47)<|.cons Y (roM D3)<|.cons Y (Z7 (fk:=FK3) (fv:=FV3) (m:=(Qc kqI at__2 x.At i)) tZ_96 (fun _=>.dat Y) fun _=>.ren<|.dat Y) .nil)⟩
        ·
         refine Dq 15 Y (Zo (ov Y) Y Y)<|Dq 16 Y (Ze (ov Y) Y Y QQ)<|Dw 6 17 Y (Zm (ov Y) Y Y Y tS3<|Zn Xo) (Zf (ov Y) (ov Y) (Zg XA) Y Y Y (Nat.le_of_ble_eq_true Y) (Zb Y) Y) ?_ ?_
         ·
          exact Do 17 Y (Zf (ov Y) (ov Y) (Zg XA) Y Y Y (Nat.le_of_ble_eq_true Y) (Zb Y) Y)<|Do 18 Y (Zy (m:=at__2) (fk:=FK3) (fv:=FV3) (k:=x.At) (z0:=0) (ov Y) (ov Y) ZN QV Y (fun _=>.b Y)<|Zx X9 Y)<|Dq 19 Y (Zk (ov Y) Y)<|Do 20 Y (Zr (m:=at__2) (fk:=FK3) (fv:=FV3) (k:=x.At) (v:=i) (ov Y) (ov Y) (ov Y) ZN Y)<|Dd<|⟨_,h,ES [some 0,some 1,some 2,some 3] (hhp:= .cons Y (ro1 (by exact tZ_98.symm)<|rlc (.dat Y)<|rlc (.own _ Y)<|rlc (.own _ Y)<|rlc (.mref _ Y) rln)<|.cons Y (roM D47)<|.cons Y (roM D3)<|.cons Y (Z7 (fk:=FK3) (fv:=FV3) (m:=(Qc kqI at__2 x.At i)) tZ_96 (fun _=>.dat Y) fun _=>.ren<|.dat Y) .nil)⟩
         ·
          exact Dq 6 Y (Zm (ov Y) Y Y Y tS3<|Zn Xo)<|Do 18 Y (Zy (m:=at__2) (fk:=FK3) (fv:=FV3) (k:=x.At) (z0:=0) (ov Y) (ov Y) ZN QV Y (fun _=>.b Y)<|Zx X9 Y)<|Dq 19 Y (Zk (ov Y) Y)<|Do 20 Y (Zr (m:=at__2) (fk:=FK3) (fv:=FV3) (k:=x.At) (v:=i) (ov Y) (ov Y) (ov Y) ZN Y)<|Dd<|⟨_,h,ES [some 0,some 1,some 2,some 3] (hhp:= .cons Y (ro1 (by exact tZ_98.symm)<|rlc (.dat Y)<|rlc (.own _ Y)<|rlc (.own _ Y)<|rlc (.mref _ Y) rln)<|.cons Y (roM D47)<|.cons Y (roM D3)<|.cons Y (Z7 (fk:=FK3) (fv:=FV3) (m:=(Qc kqI at__2 x.At i)) tZ_96 (fun _=>.dat Y) fun _=>.ren<|.dat Y) .nil)⟩
       ·
        refine Dq 15 Y (Zo (ov Y) Y Y)<|Dq 16 Y (Ze (ov Y) Y Y QQ)<|Dw 5 17 Y (Ze (ov Y) Y Y Xm) (Zf (ov Y) (ov Y) (Zg XA) Y Y Y (Nat.le_of_ble_eq_true Y) (Zb Y) Y) ?_ ?_
        ·
         refine Dw 6 17 Y (Zm (ov Y) Y Y Y tS3<|Zn Xo) (Zf (ov Y) (ov Y) (Zg XA) Y Y Y (Nat.le_of_ble_eq_true Y) (Zb Y) Y) ?_ ?_
         ·
          exact Do 17 Y (Zf (ov Y) (ov Y) (Zg XA) Y Y Y (Nat.le_of_ble_eq_true Y) (Zb Y) Y)<|Do 18 Y (Zy (m:=at__2) (fk:=FK3) (fv:=FV3) (k:=x.At) (z0:=0) (ov Y) (ov Y) ZN QV Y (fun _=>.b Y)<|Zx X9 Y)<|Dq 19 Y (Zk (ov Y) Y)<|Do 20 Y (Zr (m:=at__2) (fk:=FK3) (fv:=FV3) (k:=x.At) (v:=i) (ov Y) (ov Y) (ov Y) ZN Y)<|Dd<|⟨_,h,ES [some 0,some 1,some 2,some 3] (hhp:= .cons Y (ro1 (by exact tZ_98.symm)<|rlc (.dat Y)<|rlc (.own _ Y)<|rlc (.own _ Y)<|rlc (.mref _ Y) rln)<|.cons Y (roM D47)<|.cons Y (roM D3)<|.cons Y (Z7 (fk:=FK3) (fv:=FV3) (m:=(Qc kqI at__2 x.At i)) tZ_96 (fun _=>.dat Y) fun _=>.ren<|.dat Y) .nil)⟩
         ·
          exact Dq 6 Y (Zm (ov Y) Y Y Y tS3<|Zn Xo)<|Do 18 Y (Zy (m:=at__2) (fk:=FK3) (fv:=FV3) (k:=x.At) (z0:=0) (ov Y) (ov Y) ZN QV Y (fun _=>.b Y)<|Zx X9 Y)<|Dq 19 Y (Zk (ov Y) Y)<|Do 20 Y (Zr (m:=at__2) (fk:=FK3) (fv:=FV3) (k:=x.At) (v:=i) (ov Y) (ov Y) (ov Y) ZN Y)<|Dd<|⟨_,h,ES [some 0,some 1,some 2,some 3] (hhp:= .cons Y (ro1 (by exact tZ_98.symm)<|rlc (.dat Y)<|rlc (.own _ Y)<|rlc (.own _ Y)<|rlc (.mref _ Y) rln)<|.cons Y (roM D47)<|.cons Y (roM D3)<|.cons Y (Z7 (fk:=FK3) (fv:=FV3) (m:=(Qc kqI at__2 x.At i)) tZ_96 (fun _=>.dat Y) fun _=>.ren<|.dat Y) .nil)⟩
        ·
         exact Dq 5 Y (Ze (ov Y) Y Y Xm)<|Dq 6 Y (Zm (ov Y) Y Y Y tS3<|Zn Xo)<|Do 18 Y (Zy (m:=at__2) (fk:=FK3) (fv:=FV3) (k:=x.At) (z0:=0) (ov Y) (ov Y) ZN QV Y (fun _=>.b Y)<|Zx X9 Y)<|Dq 19 Y (Zk (ov Y) Y)<|Do 20 Y (Zr (m:=at__2) (fk:=FK3) (fv:=FV3) (k:=x.At) (v:=i) (ov Y) (ov Y) (ov Y) ZN Y)<|Dd<|⟨_,h,ES [some 0,some 1,some 2,some 3] (hhp:= .cons Y (ro1 (by exact tZ_98.symm)<|rlc (.dat Y)<|rlc (.own _ Y)<|rlc (.own _ Y)<|rlc (.mref _ Y) rln)<|.cons Y (roM D47)<|.cons Y (roM D3)<|.cons Y (Z7 (fk:=FK3) (fv:=FV3) (m:=(Qc kqI at__2 x.At i)) tZ_96 (fun _=>.dat Y) fun _=>.ren<|.dat Y) .nil)⟩
      ·
       refine Ze0 [4,6,13] (by kernel_rfl)<|.q Y Y Y (Zm (ov Y) Y Y Y Zcd Y) ?_<|.q Y Y Y (Zm (ov Y) Y Y Y tS3<|Zn Xo) ?_<|.w Y Y Y (fun h=>by cases h) (fun h=>by cases h) (Zv (ov Y) (ZH (ov Y) tZ_3) Qp Y Y Y (fun _=>Zb Y) Y h_l) ?_ .nil
       ·
        refine Dw 6 13 Y (Zm (ov Y) Y Y Y tS3<|Zn Xo) (Zv (ov Y) (ZH (ov Y) tZ_3) Qp Y Y Y (fun _=>Zb Y) Y h_l) ?_ ?_
        ·
         exact Do 13 Y (Zv (ov Y) (ZH (ov Y) tZ_3) Qp Y Y Y (fun _=>Zb Y) Y h_l)<|Dq 15 Y (Zo (ov Y) Y Y)<|Dq 16 Y (Ze (ov Y) Y Y QQ)<|Do 17 Y (Zf (ov Y) (ov Y) (Zg XA) Y Y Y (Nat.le_of_ble_eq_true Y) (Zb Y) Y)<|Do 18 Y (Zy (m:=at__2) (fk:=FK3) (fv:=FV3) (k:=x.At) (z0:=0) (ov Y) (ov Y) ZN QV Y (fun _=>.b Y)<|Zx X9 Y)<|Dq 19 Y (Zk (ov Y) Y)<|Do 20 Y (Zr (m:=at__2) (fk:=FK3) (fv:=FV3) (k:=x.At) (v:=i) (ov Y) (ov Y) (ov Y) ZN Y)<|Dd<|⟨_,h,ES [some 0,some 1,some 2,some 3] (hhp:= .cons Y (ro1 (by exact tZ_98.symm)<|rlc (.dat Y)<|rlc (.own _ Y)<|rlc (.own _ Y)<|rlc (.mref _ Y) rln)<|.cons Y (roM D47)<|.cons Y (roM D3)<|.cons Y (Z7 (fk:=FK3) (fv:=FV3) (m:=(Qc kqI at__2 x.At i)) tZ_96 (fun _=>.dat Y) fun _=>.ren<|.dat Y) .nil)⟩
        ·
         refine Dq 15 Y (Zo (ov Y) Y Y)<|Dq 16 Y (Ze (ov Y) Y Y QQ)<|Dw 6 17 Y (Zm (ov Y) Y Y Y tS3<|Zn Xo) (Zf (ov Y) (ov Y) (Zg XA) Y Y Y (Nat.le_of_ble_eq_true Y) (Zb Y) Y) ?_ ?_
         ·
          exact Do 17 Y (Zf (ov Y) (ov Y) (Zg XA) Y Y Y (Nat.le_of_ble_eq_true Y) (Zb Y) Y)<|Do 18 Y (Zy (m:=at__2) (fk:=FK3) (fv:=FV3) (k:=x.At) (z0:=0) (ov Y) (ov Y) ZN QV Y (fun _=>.b Y)<|Zx X9 Y)<|Dq 19 Y (Zk (ov Y) Y)<|Do 20 Y (Zr (m:=at__2) (fk:=FK3) (fv:=FV3) (k:=x.At) (v:=i) (ov Y) (ov Y) (ov Y) ZN Y)<|Dd<|⟨_,h,ES [some 0,some 1,some 2,some 3] (hhp:= .cons Y (ro1 (by exact tZ_98.symm)<|rlc (.dat Y)<|rlc (.own _ Y)<|rlc (.own _ Y)<|rlc (.mref _ Y) rln)<|.cons Y (roM D47)<|.cons Y (roM D3)<|.cons Y (Z7 (fk:=FK3) (fv:=FV3) (m:=(Qc kqI at__2 x.At i)) tZ_96 (fun _=>.dat Y) fun _=>.ren<|.dat Y) .nil)⟩
         ·
          exact Dq 6 Y (Zm (ov Y) Y Y Y tS3<|Zn Xo)<|Do 18 Y (Zy (m:=at__2) (fk:=FK3) (fv:=FV3) (k:=x.At) (z0:=0) (ov Y) (ov Y) ZN QV Y (fun _=>.b Y)<|Zx X9 Y)<|Dq 19 Y (Zk (ov Y) Y)<|Do 20 Y (Zr (m:=at__2) (fk:=FK3) (fv:=FV3) (k:=x.At) (v:=i) (ov Y) (ov Y) (ov Y) ZN Y)<|Dd<|⟨_,h,ES [some 0,some 1,some 2,some 3] (hhp:= .cons Y (ro1 (by exact tZ_98.symm)<|rlc (.dat Y)<|rlc (.own _ Y)<|rlc (.own _ Y)<|rlc (.mref _ Y) rln)<|.cons Y (roM D47)<|.cons Y (roM D3)<|.cons Y (Z7 (fk:=FK3) (fv:=FV3) (m:=(Qc kqI at__2 x.At i)) tZ_96 (fun _=>.dat Y) fun _=>.ren<|.dat Y) .nil)⟩
       ·
        refine Dw 4 13 Y (Zm (ov Y) Y Y Y Zcd Y) (Zv (ov Y) (ZH (ov Y) tZ_3) Qp Y Y Y (fun _=>Zb Y) Y h_l) ?_ ?_
        ·
         exact Do 13 Y (Zv (ov Y) (ZH (ov Y) tZ_3) Qp Y Y Y (fun _=>Zb Y) Y h_l)<|Dq 15 Y (Zo (ov Y) Y Y)<|Dq 16 Y (Ze (ov Y) Y Y QQ)<|Do 17 Y (Zf (ov Y) (ov Y) (Zg XA) Y Y Y (Nat.le_of_ble_eq_true Y) (Zb Y) Y)<|Do 18 Y (Zy (m:=at__2) (fk:=FK3) (fv:=FV3) (k:=x.At) (z0:=0) (ov Y) (ov Y) ZN QV Y (fun _=>.b Y)<|Zx X9 Y)<|Dq 19 Y (Zk (ov Y) Y)<|Do 20 Y (Zr (m:=at__2) (fk:=FK3) (fv:=FV3) (k:=x.At) (v:=i) (ov Y) (ov Y) (ov Y) ZN Y)<|Dd<|⟨_,h,ES [some 0,some 1,some 2,some 3] (hhp:= .cons Y (ro1 (by exact tZ_98.symm)<|rlc (.dat Y)<|rlc (.own _ Y)<|rlc (.own _ Y)<|rlc (.mref _ Y) rln)<|.cons Y (roM D47)<|.cons Y (roM D3)<|.cons Y (Z7 (fk:=FK3) (fv:=FV3) (m:=(Qc kqI at__2 x.At i)) tZ_96 (fun _=>.dat Y) fun _=>.ren<|.dat Y) .nil)⟩
        ·
         exact Dq 4 Y (Zm (ov Y) Y Y Y Zcd Y)<|Dq 15 Y (Zo (ov Y) Y Y)<|Dq 16 Y (Ze (ov Y) Y Y QQ)<|Do 17 Y (Zf (ov Y) (ov Y) (Zg XA) Y Y Y (Nat.le_of_ble_eq_true Y) (Zb Y) Y)<|Do 18 Y (Zy (m:=at__2) (fk:=FK3) (fv:=FV3) (k:=x.At) (z0:=0) (ov Y) (ov Y) ZN QV Y (fun _=>.b Y)<|Zx X9 Y)<|Dq 19 Y (Zk (ov Y) Y)<|Do 20 Y (Zr (m:=at__2) (fk:=FK3) (fv:=FV3) (k:=x.At) (v:=i) (ov Y) (ov Y) (ov Y) ZN Y)<|Dd<|⟨_,h,ES [some 0,some 1,some 2,some 3] (hhp:= .cons Y (ro1 (by exact tZ_98.symm)<|rlc (.dat Y)<|rlc (.own _ Y)<|rlc (.own _ Y)<|rlc (.mref _ Y) rln)<|.cons Y (roM D47)<|.cons Y (roM D3)<|.cons Y (Z7 (fk:=FK3) (fv:=FV3) (m:=(Qc kqI at__2 x.At i)) tZ_96 (fun _=>.dat Y) fun _=>.ren<|.dat Y) .nil)⟩
       ·
        refine Dq 4 Y (Zm (ov Y) Y Y Y Zcd Y)<|Dq 15 Y (Zo (ov Y) Y Y)<|Dq 16 Y (Ze (ov Y) Y Y QQ)<|Dw 6 17 Y (Zm (ov Y) Y Y Y tS3<|Zn Xo) (Zf (ov Y) (ov Y) (Zg XA) Y Y Y (Nat.le_of_ble_eq_true Y) (Zb Y) Y) ?_ ?_
        ·
         exact Do 17 Y (Zf (ov Y) (ov Y) (Zg XA) Y Y Y (Nat.le_of_ble_eq_true Y) (Zb Y) Y)<|Do 18 Y (Zy (m:=at__2) (fk:=FK3) (fv:=FV3) (k:=x.At) (z0:=0) (ov Y) (ov Y) ZN QV Y (fun _=>.b Y)<|Zx X9 Y)<|Dq 19 Y (Zk (ov Y) Y)<|Do 20 Y (Zr (m:=at__2) (fk:=FK3) (fv:=FV3) (k:=x.At) (v:=i) (ov Y) (ov Y) (ov Y) ZN Y)<|Dd<|⟨_,h,ES [some 0,some 1,some 2,some 3] (hhp:= .cons Y (ro1 (by exact tZ_98.symm)<|rlc (.dat Y)<|rlc (.own _ Y)<|rlc (.own _ Y)<|rlc (.mref _ Y) rln)<|.cons Y (roM D47)<|.cons Y (roM D3)<|.cons Y (Z7 (fk:=FK3) (fv:=FV3) (m:=(Qc kqI at__2 x.At i)) tZ_96 (fun _=>.dat Y) fun _=>.ren<|.dat Y) .nil)⟩
        ·
         exact Dq 6 Y (Zm (ov Y) Y Y Y tS3<|Zn Xo)<|Do 18 Y (Zy (m:=at__2) (fk:=FK3) (fv:=FV3) (k:=x.At) (z0:=0) (ov Y) (ov Y) ZN QV Y (fun _=>.b Y)<|Zx X9 Y)<|Dq 19 Y (Zk (ov Y) Y)<|Do 20 Y (Zr (m:=at__2) (fk:=FK3) (fv:=FV3) (k:=x.At) (v:=i) (ov Y) (ov Y) (ov Y) ZN Y)<|Dd<|⟨_,h,ES [some 0,some 1,some 2,some 3] (hhp:= .cons Y (ro1 (by exact tZ_98.symm)<|rlc (.dat Y)<|rlc (.own _ Y)<|rlc (.own _ Y)<|rlc (.mref _ Y) rln)<|.cons Y (roM D47)<|.cons Y (roM D3)<|.cons Y (Z7 (fk:=FK3) (fv:=FV3) (m:=(Qc kqI at__2 x.At i)) tZ_96 (fun _=>.dat Y) fun _=>.ren<|.dat Y) .nil)⟩
      ·
       refine Dq 4 Y (Zm (ov Y) Y Y Y Zcd Y)<|Dq 15 Y (Zo (ov Y) Y Y)<|Dq 16 Y (Ze (ov Y) Y Y QQ)<|Dw 5 17 Y (Ze (ov Y) Y Y Xm) (Zf (ov Y) (ov Y) (Zg XA) Y Y Y (Nat.le_of_ble_eq_true Y) (Zb Y) Y) ?_ ?_
       ·
        refine Dw 6 17 Y (Zm (ov Y) Y Y Y tS3<|Zn Xo) (Zf (ov Y) (ov Y) (Zg XA) Y Y Y (Nat.le_of_ble_eq_true Y) (Zb Y) Y) ?_ ?_
        ·
         exact Do 17 Y (Zf (ov Y) (ov Y) (Zg XA) Y Y Y (Nat.le_of_ble_eq_true Y) (Zb Y) Y)<|Do 18 Y (Zy (m:=at__2) (fk:=FK3) (fv:=FV3) (k:=x.At) (z0:=0) (ov Y) (ov Y) ZN QV Y (fun _=>.b Y)<|Zx X9 Y)<|Dq 19 Y (Zk (ov Y) Y)<|Do 20 Y (Zr (m:=at__2) (fk:=FK3) (fv:=FV3) (k:=x.At) (v:=i) (ov Y) (ov Y) (ov Y) ZN Y)<|Dd<|⟨_,h,ES [some 0,some 1,some 2,some 3] (hhp:= .cons Y (ro1 (by exact tZ_98.symm)<|rlc (.dat Y)<|rlc (.own _ Y)<|rlc (.own _ Y)<|rlc (.mref _ Y) rln)<|.cons Y (roM D47)<|.cons Y (roM D3)<|.cons Y (Z7 (fk:=FK3) (fv:=FV3) (m:=(Qc kqI at__2 x.At i)) tZ_96 (fun _=>.dat Y) fun _=>.ren<|.dat Y) .nil)⟩
        ·
         exact Dq 6 Y (Zm (ov Y) Y Y Y tS3<|Zn Xo)<|Do 18 Y (Zy (m:=at__2) (fk:=FK3) (fv:=FV3) (k:=x.At) (z0:=0) (ov Y) (ov Y) ZN QV Y (fun _=>.b Y)<|Zx X9 Y)<|Dq 19 Y (Zk (ov Y) Y)<|Do 20 Y (Zr (m:=at__2) (fk:=FK3) (fv:=FV3) (k:=x.At) (v:=i) (ov Y) (ov Y) (ov Y) ZN Y)<|Dd<|⟨_,h,ES [some 0,some 1,some 2,some 3] (hhp:= .cons Y (ro1 (by exact tZ_98.symm)<|rlc (.dat Y)<|rlc (.own _ Y)<|rlc (.own _ Y)<|rlc (.mref _ Y) rln)<|.cons Y (roM D47)<|.cons Y (roM D3)<|.cons Y (Z7 (fk:=FK3) (fv:=FV3) (m:=(Qc kqI at__2 x.At i)) tZ_96 (fun _=>.dat Y) fun _=>.ren<|.dat Y) .nil)⟩
       ·
        exact Dq 5 Y (Ze (ov Y) Y Y Xm)<|Dq 6 Y (Zm (ov Y) Y Y Y tS3<|Zn Xo)<|Do 18 Y (Zy (m:=at__2) (fk:=FK3) (fv:=FV3) (k:=x.At) (z0:=0) (ov Y) (ov Y) ZN QV Y (fun _=>.b Y)<|Zx X9 Y)<|Dq 19 Y (Zk (ov Y) Y)<|Do 20 Y (Zr (m:=at__2) (fk:=FK3) (fv:=FV3) (k:=x.At) (v:=i) (ov Y) (ov Y) (ov Y) ZN Y)<|Dd<|⟨_,h,ES [some 0,some 1,some 2,some 3] (hhp:= .cons Y (ro1 (by exact tZ_98.symm)<|rlc (.dat Y)<|rlc (.own _ Y)<|rlc (.own _ Y)<|rlc (.mref _ Y) rln)<|.cons Y (roM D47)<|.cons Y (roM D3)<|.cons Y (Z7 (fk:=FK3) (fv:=FV3) (m:=(Qc kqI at__2 x.At i)) tZ_96 (fun _=>.dat Y) fun _=>.ren<|.dat Y) .nil)⟩
     ·
      refine Ze0 [3,6,13] (by kernel_rfl)<|.q Y Y Y (Ze (ov Y) Y Y ZbU) ?_<|.q Y Y Y (Zm (ov Y) Y Y Y tS3<|Zn Xo) ?_<|.w Y Y Y (fun h=>by cases h) (fun h=>by cases h) (Zv (ov Y) (ZH (ov Y) tZ_3) Qp Y Y Y (fun _=>Zb Y) Y h_l) ?_ .nil
      ·
       refine Ze0 [4,6,13] (by kernel_rfl)<|.q Y Y Y (Zm (ov Y) Y Y Y Zcd Y) ?_<|.q Y Y Y (Zm (ov Y) Y Y Y tS3<|Zn Xo) ?_<|.w Y Y Y (fun h=>by cases h) (fun h=>by cases h) (Zv (ov Y) (ZH (ov Y) tZ_3) Qp Y Y Y (fun _=>Zb Y) Y h_l) ?_ .nil
       ·
        refine Dw 6 13 Y (Zm (ov Y) Y Y Y tS3<|Zn Xo) (Zv (ov Y) (ZH (ov Y) tZ_3) Qp Y Y Y (fun _=>Zb Y) Y h_l) ?_ ?_
        ·
         exact Do 13 Y (Zv (ov Y) (ZH (ov Y) tZ_3) Qp Y Y Y (fun _=>Zb Y) Y h_l)<|Dq 15 Y (Zo (ov Y) Y Y)<|Dq 16 Y (Ze (ov Y) Y Y QQ)<|Do 17 Y (Zf (ov Y) (ov Y) (Zg XA) Y Y Y (Nat.le_of_ble_eq_true Y) (Zb Y) Y)<|Do 18 Y (Zy (m:=at__2) (fk:=FK3) (fv:=FV3) (k:=x.At) (z0:=0) (ov Y) (ov Y) ZN QV Y (fun _=>.b Y)<|Zx X9 Y)<|Dq 19 Y (Zk (ov Y) Y)<|Do 20 Y (Zr (m:=at__2) (fk:=FK3) (fv:=FV3) (k:=x.At) (v:=i) (ov Y) (ov Y) (ov Y) ZN Y)<|Dd<|⟨_,h,ES [some 0,some 1,some 2,some 3] (hhp:= .cons Y (ro1 (by exact tZ_98.symm)<|rlc (.dat Y)<|rlc (.own _ Y)<|rlc (.own _ Y)<|rlc (.mref _ Y) rln)<|.cons Y (roM D47)<|.cons Y (roM D3)<|.cons Y (Z7 (fk:=FK3) (fv:=FV3) (m:=(Qc kqI at__2 x.At i)) tZ_96 (fun _=>.dat Y) fun _=>.ren<|.dat Y) .nil)⟩
        ·
         refine Dq 15 Y (Zo (ov Y) Y Y)<|Dq 16 Y (Ze (ov Y) Y Y QQ)<|Dw 6 17 Y (Zm (ov Y) Y Y Y tS3<|Zn Xo) (Zf (ov Y) (ov Y) (Zg XA) Y Y Y (Nat.le_of_ble_eq_true Y) (Zb Y) Y) ?_ ?_
         ·
          exact Do 17 Y (Zf (ov Y) (ov Y) (Zg XA) Y Y Y (Nat.le_of_ble_eq_true Y) (Zb Y) Y)<|Do 18 Y (Zy (m:=at__2) (fk:=FK3) (fv:=FV3) (k:=x.At) (z0:=0) (ov Y) (ov Y) ZN QV Y (fun _=>.b Y)<|Zx X9 Y)<|Dq 19 Y (Zk (ov Y) Y)<|Do 20 Y (Zr (m:=at__2) (fk:=FK3) (fv:=FV3) (k:=x.At) (v:=i) (ov Y) (ov Y) (ov Y) ZN Y)<|Dd<|⟨_,h,ES [some 0,some 1,some 2,some 3] (hhp:= .cons Y (ro1 (by exact tZ_98.symm)<|rlc (.dat Y)<|rlc (.own _ Y)<|rlc (.own _ Y)<|rlc (.mref _ Y) rln)<|.cons Y (roM D47)<|.cons Y (roM D3)<|.cons Y (Z7 (fk:=FK3) (fv:=FV3) (m:=(Qc kqI at__2 x.At i)) tZ_96 (fun _=>.dat Y) fun _=>.ren<|.dat Y) .nil)⟩
         ·
          exact Dq 6 Y (Zm (ov Y) Y Y Y tS3<|Zn Xo)<|Do 18 Y (Zy (m:=at__2) (fk:=FK3) (fv:=FV3) (k:=x.At) (z0:=0) (ov Y) (ov Y) ZN QV Y (fun _=>.b Y)<|Zx X9 Y)<|Dq 19 Y (Zk (ov Y) Y)<|Do 20 Y (Zr (m:=at__2) (fk:=FK3) (fv:=FV3) (k:=x.At) (v:=i) (ov Y) (ov Y) (ov Y) ZN Y)<|Dd<|⟨_,h,ES [some 0,some 1,some 2,some 3] (hhp:= .cons Y (ro1 (by exact tZ_98.symm)<|rlc (.dat Y)<|rlc (.own _ Y)<|rlc (.own _ Y)<|rlc (.mref _ Y) rln)<|.cons Y (roM D47)<|.cons Y (roM D3)<|.cons Y (Z7 (fk:=FK3) (fv:=FV3) (m:=(Qc kqI at__2 x.At i)) tZ_96 (fun _=>.dat Y) fun _=>.ren<|.dat Y) .nil)⟩
       ·
        refine Dw 4 13 Y (Zm (ov Y) Y Y Y Zcd Y) (Zv (ov Y) (ZH (ov Y) tZ_3) Qp Y Y Y (fun _=>Zb Y) Y h_l) ?_ ?_
        ·
         exact Do 13 Y (Zv (ov Y) (ZH (ov Y) tZ_3) Qp Y Y Y (fun _=>Zb Y) Y h_l)<|Dq 15 Y (Zo (ov Y) Y Y)<|Dq 16 Y (Ze (ov Y) Y Y QQ)<|Do 17 Y (Zf (ov Y) (ov Y) (Zg XA) Y Y Y (Nat.le_of_ble_eq_true Y) (Zb Y) Y)<|Do 18 Y (Zy (m:=at__2) (fk:=FK3) (fv:=FV3) (k:=x.At) (z0:=0) (ov Y) (ov Y) ZN QV Y (fun _=>.b Y)<|Zx X9 Y)<|Dq 19 Y (Zk (ov Y) Y)<|Do 20 Y (Zr (m:=at__2) (fk:=FK3) (fv:=FV3) (k:=x.At) (v:=i) (ov Y) (ov Y) (ov Y) ZN Y)<|Dd<|⟨_,h,ES [some 0,some 1,some 2,some 3] (hhp:= .cons Y (ro1 (by exact tZ_98.symm)<|rlc (.dat Y)<|rlc (.own _ Y)<|rlc (.own _ Y)<|rlc (.mref _ Y) rln)<|.cons Y (roM D47)<|.cons Y (roM D3)<|.cons Y (Z7 (fk:=FK3) (fv:=FV3) (m:=(Qc kqI at__2 x.At i)) tZ_96 (fun _=>.dat Y) fun _=>.ren<|.dat Y) .nil)⟩
        ·
         exact Dq 4 Y (Zm (ov Y) Y Y Y Zcd Y)<|Dq 15 Y (Zo (ov Y) Y Y)<|Dq 16 Y (Ze (ov Y) Y Y QQ)<|Do 17 Y (Zf (ov Y) (ov Y) (Zg XA) Y Y Y (Nat.le_of_ble_eq_true Y) (Zb Y) Y)<|Do 18 Y (Zy (m:=at__2) (fk:=FK3) (fv:=FV3) (k:=x.At) (z0:=0) (ov Y) (ov Y) ZN QV Y (fun _=>.b Y)<|Zx X9 Y)<|Dq 19 Y (Zk (ov Y) Y)<|Do 20 Y (Zr (m:=at__2) (fk:=FK3) (fv:=FV3) (k:=x.At) (v:=i) (ov Y) (ov Y) (ov Y) ZN Y)<|Dd<|⟨_,h,ES [some 0,some 1,some 2,some 3] (hhp:= .cons Y (ro1 (by exact tZ_98.symm)<|rlc (.dat Y)<|rlc (.own _ Y)<|rlc (.own _ Y)<|rlc (.mref _ Y) rln)<|.cons Y (roM D47)<|.cons Y (roM D3)<|.cons Y (Z7 (fk:=FK3) (fv:=FV3) (m:=(Qc kqI at__2 x.At i)) tZ_96 (fun _=>.dat Y) fun _=>.ren<|.dat Y) .nil)⟩
       ·
        refine Dq 4 Y (Zm (ov Y) Y Y Y Zcd Y)<|Dq 15 Y (Zo (ov Y) Y Y)<|Dq 16 Y (Ze (ov Y) Y Y QQ)<|Dw 6 17 Y (Zm (ov Y) Y Y Y tS3<|Zn Xo) (Zf (ov Y) (ov Y) (Zg XA) Y Y Y (Nat.le_of_ble_eq_true Y) (Zb Y) Y) ?_ ?_
        ·
         exact Do 17 Y (Zf (ov Y) (ov Y) (Zg XA) Y Y Y (Nat.le_of_ble_eq_true Y) (Zb Y) Y)<|Do 18 Y (Zy (m:=at__2) (fk:=FK3) (fv:=FV3) (k:=x.At) (z0:=0) (ov Y) (ov Y) ZN QV Y (fun _=>.b Y)<|Zx X9 Y)<|Dq 19 Y (Zk (ov Y) Y)<|Do 20 Y (Zr (m:=at__2) (fk:=FK3) (fv:=FV3) (k:=x.At) (v:=i) (ov Y) (ov Y) (ov Y) ZN Y)<|Dd<|⟨_,h,ES [some 0,some 1,some 2,some 3] (hhp:= .cons Y (ro1 (by exact tZ_98.symm)<|rlc (.dat Y)<|rlc (.own _ Y)<|rlc (.own _ Y)<|rlc (.mref _ Y) rln)<|.cons Y (roM D47)<|.cons Y (roM D3)<|.cons Y (Z7 (fk:=FK3) (fv:=FV3) (m:=(Qc kqI at__2 x.At i)) tZ_96 (fun _=>.dat Y) fun _=>.ren<|.dat Y) .nil)⟩
        ·
         exact Dq 6 Y (Zm (ov Y) Y Y Y tS3<|Zn Xo)<|Do 18 Y (Zy (m:=at__2) (fk:=FK3) (fv:=FV3) (k:=x.At) (z0:=0) (ov Y) (ov Y) ZN QV Y (fun _=>.b Y)<|Zx X9 Y)<|Dq 19 Y (Zk (ov Y) Y)<|Do 20 Y (Zr (m:=at__2) (fk:=FK3) (fv:=FV3) (k:=x.At) (v:=i) (ov Y) (ov Y) (ov Y) ZN Y)<|Dd<|⟨_,h,ES [some 0,some 1,some 2,some 3] (hhp:= .cons Y (ro1 (by exact tZ_98.symm)<|rlc (.dat Y)<|rlc (.own _ Y)<|rlc (.own _ Y)<|rlc (.mref _ Y) rln)<|.cons Y (roM D47)<|.cons Y (roM D3)<|.cons Y (Z7 (fk:=FK3) (fv:=FV3) (m:=(Qc kqI at__2 x.At i)) tZ_96 (fun _=>.dat Y) fun _=>.ren<|.dat Y) .nil)⟩
      ·
       refine Dw 3 13 Y (Ze (ov Y) Y Y ZbU) (Zv (ov Y) (ZH (ov Y) tZ_3) Qp Y Y Y (fun _=>Zb Y) Y h_l) ?_ ?_
       ·
        refine Dw 4 13 Y (Zm (ov Y) Y Y Y Zcd Y) (Zv (ov Y) (ZH (ov Y) tZ_3) Qp Y Y Y (fun _=>Zb Y) Y h_l) ?_ ?_
        ·
         exact Do 13 Y (Zv (ov Y) (ZH (ov Y) tZ_3) Qp Y Y Y (fun _=>Zb Y) Y h_l)<|Dq 15 Y (Zo (ov Y) Y Y)<|Dq 16 Y (Ze (ov Y) Y Y QQ)<|Do 17 Y (Zf (ov Y) (ov Y) (Zg XA) Y Y Y (Nat.le_of_ble_eq_true Y) (Zb Y) Y)<|Do 18 Y (Zy (m:=at__2) (fk:=FK3) (fv:=FV3) (k:=x.At) (z0:=0) (ov Y) (ov Y) ZN QV Y (fun _=>.b Y)<|Zx X9 Y)<|Dq 19 Y (Zk (ov Y) Y)<|Do 20 Y (Zr (m:=at__2) (fk:=FK3) (fv:=FV3) (k:=x.At) (v:=i) (ov Y) (ov Y) (ov Y) ZN Y)<|Dd<|⟨_,h,ES [some 0,some 1,some 2,some 3] (hhp:= .cons Y (ro1 (by exact tZ_98.symm)<|rlc (.dat Y)<|rlc (.own _ Y)<|rlc (.own _ Y)<|rlc (.mref _ Y) rln)<|.cons Y (roM D47)<|.cons Y (roM D3)<|.cons Y (Z7 (fk:=FK3) (fv:=FV3) (m:=(Qc kqI at__2 x.At i)) tZ_96 (fun _=>.dat Y) fun _=>.ren<|.dat Y) .nil)⟩
        ·
         exact Dq 4 Y (Zm (ov Y) Y Y Y Zcd Y)<|Dq 15 Y (Zo (ov Y) Y Y)<|Dq 16 Y (Ze (ov Y) Y Y QQ)<|Do 17 Y (Zf (ov Y) (ov Y) (Zg XA) Y Y Y (Nat.le_of_ble_eq_true Y) (Zb Y) Y)<|Do 18 Y (Zy (m:=at__2) (fk:=FK3) (fv:=FV3) (k:=x.At) (z0:=0) (ov Y) (ov Y) ZN QV Y (fun _=>.b Y)<|Zx X9 Y)<|Dq 19 Y (Zk (ov Y) Y)<|Do 20 Y (Zr (m:=at__2) (fk:=FK3) (fv:=FV3) (k:=x.At) (v:=i) (ov Y) (ov Y) (ov Y) ZN Y)<|Dd<|⟨_,h,ES [some 0,some 1,some 2,some 3] (hhp:= .cons Y (ro1 (by exact tZ_98.symm)<|rlc (.dat Y)<|rlc (.own _ Y)<|rlc (.own _ Y)<|rlc (.mref _ Y) rln)<|.cons Y (roM D47)<|.cons Y (roM D3)<|.cons Y (Z7 (fk:=FK3) (fv:=FV3) (m:=(Qc kqI at__2 x.At i)) tZ_96 (fun _=>.dat Y) fun _=>.ren<|.dat Y) .nil)⟩
       ·
        exact Dq 3 Y (Ze (ov Y) Y Y ZbU)<|Dq 4 Y (Zm (ov Y) Y Y Y Zcd Y)<|Dq 15 Y (Zo (ov Y) Y Y)<|Dq 16 Y (Ze (ov Y) Y Y QQ)<|Do 17 Y (Zf (ov Y) (ov Y) (Zg XA) Y Y Y (Nat.le_of_ble_eq_true Y) (Zb Y) Y)<|Do 18 Y (Zy (m:=at__2) (fk:=FK3) (fv:=FV3) (k:=x.At) (z0:=0) (ov Y) (ov Y) ZN QV Y (fun _=>.b Y)<|Zx X9 Y)<|Dq 19 Y (Zk (ov Y) Y)<|Do 20 Y (Zr (m:=at__2) (fk:=FK3) (fv:=FV3) (k:=x.At) (v:=i) (ov Y) (ov Y) (ov Y) ZN Y)<|Dd<|⟨_,h,ES [some 0,some 1,some 2,some 3] (hhp:= .cons Y (ro1 (by exact tZ_98.symm)<|rlc (.dat Y)<|rlc (.own _ Y)<|rlc (.own _ Y)<|rlc (.mref _ Y) rln)<|.cons Y (roM D47)<|.cons Y (roM D3)<|.cons Y (Z7 (fk:=FK3) (fv:=FV3) (m:=(Qc kqI at__2 x.At i)) tZ_96 (fun _=>.dat Y) fun _=>.ren<|.dat Y) .nil)⟩
      ·
       refine Dq 3 Y (Ze (ov Y) Y Y ZbU)<|Dq 4 Y (Zm (ov Y) Y Y Y Zcd Y)<|Dq 15 Y (Zo (ov Y) Y Y)<|Dq 16 Y (Ze (ov Y) Y Y QQ)<|Dw 6 17 Y (Zm (ov Y) Y Y Y tS3<|Zn Xo) (Zf (ov Y) (ov Y) (Zg XA) Y Y Y (Nat.le_of_ble_eq_true Y) (Zb Y) Y) ?_ ?_
       ·
        exact Do 17 Y (Zf (ov Y) (ov Y) (Zg XA) Y Y Y (Nat.le_of_ble_eq_true Y) (Zb Y) Y)<|Do 18 Y (Zy (m:=at__2) (fk:=FK3) (fv:=FV3) (k:=x.At) (z0:=0) (ov Y) (ov Y) ZN QV Y (fun _=>.b Y)<|Zx X9 Y)<|Dq 19 Y (Zk (ov Y) Y)<|Do 20 Y (Zr (m:=at__2) (fk:=FK3) (fv:=FV3) (k:=x.At) (v:=i) (ov Y) (ov Y) (ov Y) ZN Y)<|Dd<|⟨_,h,ES [some 0,some 1,some 2,some 3] (hhp:= .cons Y (ro1 (by exact tZ_98.symm)<|rlc (.dat Y)<|rlc (.own _ Y)<|rlc (.own _ Y)<|rlc (.mref _ Y) rln)<|.cons Y (roM D47)<|.cons Y (roM D3)<|.cons Y (Z7 (fk:=FK3) (fv:=FV3) (m:=(Qc kqI at__2 x.At i)) tZ_96 (fun _=>.dat Y) fun _=>.ren<|.dat Y) .nil)⟩
       ·
        exact Dq 6 Y (Zm (ov Y) Y Y Y tS3<|Zn Xo)<|Do 18 Y (Zy (m:=at__2) (fk:=FK3) (fv:=FV3) (k:=x.At) (z0:=0) (ov Y) (ov Y) ZN QV Y (fun _=>.b Y)<|Zx X9 Y)<|Dq 19 Y (Zk (ov Y) Y)<|Do 20 Y (Zr (m:=at__2) (fk:=FK3) (fv:=FV3) (k:=x.At) (v:=i) (ov Y) (ov Y) (ov Y) ZN Y)<|Dd<|⟨_,h,ES [some 0,some 1,some 2,some 3] (hhp:= .cons Y (ro1 (by exact tZ_98.symm)<|rlc (.dat Y)<|rlc (.own _ Y)<|rlc (.own _ Y)<|rlc (.mref _ Y) rln)<|.cons Y (roM D47)<|.cons Y (roM D3)<|.cons Y (Z7 (fk:=FK3) (fv:=FV3) (m:=(Qc kqI at__2 x.At i)) tZ_96 (fun _=>.dat Y) fun _=>.ren<|.dat Y) .nil)⟩
     ·
      refine Dq 3 Y (Ze (ov Y) Y Y ZbU)<|Dq 4 Y (Zm (ov Y) Y Y Y Zcd Y)<|Dq 15 Y (Zo (ov Y) Y Y)<|Dq 16 Y (Ze (ov Y) Y Y QQ)<|Dw 5 17 Y (Ze (ov Y) Y Y Xm) (Zf (ov Y) (ov Y) (Zg XA) Y Y Y (Nat.le_of_ble_eq_true Y) (Zb Y) Y) ?_ ?_
      ·
       refine Dw 6 17 Y (Zm (ov Y) Y Y Y tS3<|Zn Xo) (Zf (ov Y) (ov Y) (Zg XA) Y Y Y (Nat.le_of_ble_eq_true Y) (Zb Y) Y) ?_ ?_
       ·
        exact Do 17 Y (Zf (ov Y) (ov Y) (Zg XA) Y Y Y (Nat.le_of_ble_eq_true Y) (Zb Y) Y)<|Do 18 Y (Zy (m:=at__2) (fk:=FK3) (fv:=FV3) (k:=x.At) (z0:=0) (ov Y) (ov Y) ZN QV Y (fun _=>.b Y)<|Zx X9 Y)<|Dq 19 Y (Zk (ov Y) Y)<|Do 20 Y (Zr (m:=at__2) (fk:=FK3) (fv:=FV3) (k:=x.At) (v:=i) (ov Y) (ov Y) (ov Y) ZN Y)<|Dd<|⟨_,h,ES [some 0,some 1,some 2,some 3] (hhp:= .cons Y (ro1 (by exact tZ_98.symm)<|rlc (.dat Y)<|rlc (.own _ Y)<|rlc (.own _ Y)<|rlc (.mref _ Y) rln)<|.cons Y (roM D47)<|.cons Y (roM D3)<|.cons Y (Z7 (fk:=FK3) (fv:=FV3) (m:=(Qc kqI at__2 x.At i)) tZ_96 (fun _=>.dat Y) fun _=>.ren<|.dat Y) .nil)⟩
       ·
        exact Dq 6 Y (Zm (ov Y) Y Y Y tS3<|Zn Xo)<|Do 18 Y (Zy (m:=at__2) (fk:=FK3) (fv:=FV3) (k:=x.At) (z0:=0) (ov Y) (ov Y) ZN QV Y (fun _=>.b Y)<|Zx X9 Y)<|Dq 19 Y (Zk (ov Y) Y)<|Do 20 Y (Zr (m:=at__2) (fk:=FK3) (fv:=FV3) (k:=x.At) (v:=i) (ov Y) (ov Y) (ov Y) ZN Y)<|Dd<|⟨_,h,ES [some 0,some 1,some 2,some 3] (hhp:= .cons Y (ro1 (by exact tZ_98.symm)<|rlc (.dat Y)<|rlc (.own _ Y)<|rlc (.own _ Y)<|rlc (.mref _ Y) rln)<|.cons Y (roM D47)<|.cons Y (roM D3)<|.cons Y (Z7 (fk:=FK3) (fv:=FV3) (m:=(Qc kqI at__2 x.At i)) tZ_96 (fun _=>.dat Y) fun _=>.ren<|.dat Y) .nil)⟩
      ·
       exact Dq 5 Y (Ze (ov Y) Y Y Xm)<|Dq 6 Y (Zm (ov Y) Y Y Y tS3<|Zn Xo)<|Do 18 Y (Zy (m:=at__2) (fk:=FK3) (fv:=FV3) (k:=x.At) (z0:=0) (ov Y) (ov Y) ZN QV Y (fun _=>.b Y)<|Zx X9 Y)<|Dq 19 Y (Zk (ov Y) Y)<|Do 20 Y (Zr (m:=at__2) (fk:=FK3) (fv:=FV3) (k:=x.At) (v:=i) (ov Y) (ov Y) (ov Y) ZN Y)<|Dd<|⟨_,h,ES [some 0,some 1,some 2,some 3] (hhp:= .cons Y (ro1 (by exact tZ_98.symm)<|rlc (.dat Y)<|rlc (.own _ Y)<|rlc (.own _ Y)<|rlc (.mref _ Y) rln)<|.cons Y (roM D47)<|.cons Y (roM D3)<|.cons Y (Z7 (fk:=FK3) (fv:=FV3) (m:=(Qc kqI at__2 x.At i)) tZ_96 (fun _=>.dat Y) fun _=>.ren<|.dat Y) .nil)⟩
    ·
     refine Ze0 [2,6,13] (by kernel_rfl)<|.q Y Y Y (Zo (ov Y) Y Y) ?_<|.q Y Y Y (Zm (ov Y) Y Y Y tS3<|Zn Xo) ?_<|.w Y Y Y (fun h=>by cases h) (fun h=>by cases h) (Zv (ov Y) (ZH (ov Y) tZ_3) Qp Y Y Y (fun _=>Zb Y) Y h_l) ?_ .nil
     ·
      refine Ze0 [3,6,13] (by kernel_rfl)<|.q Y Y Y (Ze (ov Y) Y Y ZbU) ?_<|.q Y Y Y (Zm (ov Y) Y Y Y tS3<|Zn Xo) ?_<|.w Y Y Y (fun h=>by cases h) (fun h=>by cases h) (Zv (ov Y) (ZH (ov Y) tZ_3) Qp Y Y Y (fun _=>Zb Y) Y h_l) ?_ .nil
      ·
       refine Ze0 [4,6,13] (by kernel_rfl)<|.q Y Y Y (Zm (ov Y) Y Y Y Zcd Y) ?_<|.q Y Y Y (Zm (ov Y) Y Y Y tS3<|Zn Xo) ?_<|.w Y Y Y (fun h=>by cases h) (fun h=>by cases h) (Zv (ov Y) (ZH (ov Y) tZ_3) Qp Y Y Y (fun _=>Zb Y) Y h_l) ?_ .nil
       ·
        refine Dw 6 13 Y (Zm (ov Y) Y Y Y tS3<|Zn Xo) (Zv (ov Y) (ZH (ov Y) tZ_3) Qp Y Y Y (fun _=>Zb Y) Y h_l) ?_ ?_
        ·
         exact Do 13 Y (Zv (ov Y) (ZH (ov Y) tZ_3) Qp Y Y Y (fun _=>Zb Y) Y h_l)<|Dq 15 Y (Zo (ov Y) Y Y)<|Dq 16 Y (Ze (ov Y) Y Y QQ)<|Do 17 Y (Zf (ov Y) (ov Y) (Zg XA) Y Y Y (Nat.le_of_ble_eq_true Y) (Zb Y) Y)<|Do 18 Y (Zy (m:=at__2) (fk:=FK3) (fv:=FV3) (k:=x.At) (z0:=0) (ov Y) (ov Y) ZN QV Y (fun _=>.b Y)<|Zx X9 Y)<|Dq 19 Y (Zk (ov Y) Y)<|Do 20 Y (Zr (m:=at__2) (fk:=FK3) (fv:=FV3) (k:=x.At) (v:=i) (ov Y) (ov Y) (ov Y) ZN Y)<|Dd<|⟨_,h,ES [some 0,some 1,some 2,some 3] (hhp:= .cons Y (ro1 (by exact tZ_98.symm)<|rlc (.dat Y)<|rlc (.own _ Y)<|rlc (.own _ Y)<|rlc (.mref _ Y) rln)<|.cons Y (roM D47)<|.cons Y (roM D3)<|.cons Y (Z7 (fk:=FK3) (fv:=FV3) (m:=(Qc kqI at__2 x.At i)) tZ_96 (fun _=>.dat Y) fun _=>.ren<|.dat Y) .nil)⟩
        ·
         refine Dq 15 Y (Zo (ov Y) Y Y)<|Dq 16 Y (Ze (ov Y) Y Y QQ)<|Dw 6 17 Y (Zm (ov Y) Y Y Y tS3<|Zn Xo) (Zf (ov Y) (ov Y) (Zg XA) Y Y Y (Nat.le_of_ble_eq_true Y) (Zb Y) Y) ?_ ?_
         ·
          exact Do 17 Y (Zf (ov Y) (ov Y) (Zg XA) Y Y Y (Nat.le_of_ble_eq_true Y) (Zb Y) Y)<|Do 18 Y (Zy (m:=at__2) (fk:=FK3) (fv:=FV3) (k:=x.At) (z0:=0) (ov Y) (ov Y) ZN QV Y (fun _=>.b Y)<|Zx X9 Y)<|Dq 19 Y (Zk (ov Y) Y)<|Do 20 Y (Zr (m:=at__2) (fk:=FK3) (fv:=FV3) (k:=x.At) (v:=i) (ov Y) (ov Y) (ov Y) ZN Y)<|Dd<|⟨_,h,ES [some 0,some 1,some 2,some 3] (hhp:= .cons Y (ro1 (by exact tZ_98.symm)<|rlc (.dat Y)<|rlc (.own _ Y)<|rlc (.own _ Y)<|rlc (.mref _ Y) rln)<|.cons Y (roM D47)<|.cons Y (roM D3)<|.cons Y (Z7 (fk:=FK3) (fv:=FV3) (m:=(Qc kqI at__2 x.At i)) tZ_96 (fun _=>.dat Y) fun _=>.ren<|.dat Y) .nil)⟩
         ·
          exact Dq 6 Y (Zm (ov Y) Y Y Y tS3<|Zn Xo)<|Do 18 Y (Zy (m:=at__2) (fk:=FK3) (fv:=FV3) (k:=x.At) (z0:=0) (ov Y) (ov Y) ZN QV Y (fun _=>.b Y)<|Zx X9 Y)<|Dq 19 Y (Zk (ov Y) Y)<|Do 20 Y (Zr (m:=at__2) (fk:=FK3) (fv:=FV3) (k:=x.At) (v:=i) (ov Y) (ov Y) (ov Y) ZN Y)<|Dd<|⟨_,h,ES [some 0,some 1,some 2,some 3] (hhp:= .cons Y (ro1 (by exact tZ_98.symm)<|rlc (.dat Y)<|rlc (.own _ Y)<|rlc (.own _ Y)<|rlc (.mref _ Y) rln)<|.cons Y (roM D47)<|.cons Y (roM D3)<|.cons Y (Z7 (fk:=FK3) (fv:=FV3) (m:=(Qc kqI at__2 x.At i)) tZ_96 (fun _=>.dat Y) fun _=>.ren<|.dat Y) .nil)⟩
       ·
        refine Dw 4 13 Y (Zm (ov Y) Y Y Y Zcd Y) (Zv (ov Y) (ZH (ov Y) tZ_3) Qp Y Y Y (fun _=>Zb Y) Y h_l) ?_ ?_
        ·
         exact Do 13 Y (Zv (ov Y) (ZH (ov Y) tZ_3) Qp Y Y Y (fun _=>Zb Y) Y h_l)<|Dq 15 Y (Zo (ov Y) Y Y)<|Dq 16 Y (Ze (ov Y) Y Y QQ)<|Do 17 Y (Zf (ov Y) (ov Y) (Zg XA) Y Y Y (Nat.le_of_ble_eq_true Y) (Zb Y) Y)<|Do 18 Y (Zy (m:=at__2) (fk:=FK3) (fv:=FV3) (k:=x.At) (z0:=0) (ov Y) (ov Y) ZN QV Y (fun _=>.b Y)<|Zx X9 Y)<|Dq 19 Y (Zk (ov Y) Y)<|Do 20 Y (Zr (m:=at__2) (fk:=FK3) (fv:=FV3) (k:=x.At) (v:=i) (ov Y) (ov Y) (ov Y) ZN Y)<|Dd<|⟨_,h,ES [some 0,some 1,some 2,some 3] (hhp:= .cons Y (ro1 (by exact tZ_98.symm)<|rlc (.dat Y)<|rlc (.own _ Y)<|rlc (.own _ Y)<|rlc (.mref _ Y) rln)<|.cons Y (roM D47)<|.cons Y (roM D3)<|.cons Y (Z7 (fk:=FK3) (fv:=FV3) (m:=(Qc kqI at__2 x.At i)) tZ_96 (fun _=>.dat Y) fun _=>.ren<|.dat Y) .nil)⟩
        ·
         exact Dq 4 Y (Zm (ov Y) Y Y Y Zcd Y)<|Dq 15 Y (Zo (ov Y) Y Y)<|Dq 16 Y (Ze (ov Y) Y Y QQ)<|Do 17 Y (Zf (ov Y) (ov Y) (Zg XA) Y Y Y (Nat.le_of_ble_eq_true Y) (Zb Y) Y)<|Do 18 Y (Zy (m:=at__2) (fk:=FK3) (fv:=FV3) (k:=x.At) (z0:=0) (ov Y) (ov Y) ZN QV Y (fun _=>.b Y)<|Zx X9 Y)<|Dq 19 Y (Zk (ov Y) Y)<|Do 20 Y (Zr (m:=at__2) (fk:=FK3) (fv:=FV3) (k:=x.At) (v:=i) (ov Y) (ov Y) (ov Y) ZN Y)<|Dd<|⟨_,h,ES [some 0,some 1,some 2,some 3] (hhp:= .cons Y (ro1 (by exact tZ_98.symm)<|rlc (.dat Y)<|rlc (.own _ Y)<|rlc (.own _ Y)<|rlc (.mref _ Y) rln)<|.cons Y (roM D47)<|.cons Y (roM D3)<|.cons Y (Z7 (fk:=FK3) (fv:=FV3) (m:=(Qc kqI at__2 x.At i)) tZ_96 (fun _=>.dat Y) fun _=>.ren<|.dat Y) .nil)⟩
       ·
        refine Dq 4 Y (Zm (ov Y) Y Y Y Zcd Y)<|Dq 15 Y (Zo (ov Y) Y Y)<|Dq 16 Y (Ze (ov Y) Y Y QQ)<|Dw 6 17 Y (Zm (ov Y) Y Y Y tS3<|Zn Xo) (Zf (ov Y) (ov Y) (Zg XA) Y Y Y (Nat.le_of_ble_eq_true Y) (Zb Y) Y) ?_ ?_
        ·
         exact Do 17 Y (Zf (ov Y) (ov Y) (Zg XA) Y Y Y (Nat.le_of_ble_eq_true Y) (Zb Y) Y)<|Do 18 Y (Zy (m:=at__2) (fk:=FK3) (fv:=FV3) (k:=x.At) (z0:=0) (ov Y) (ov Y) ZN QV Y (fun _=>.b Y)<|Zx X9 Y)<|Dq 19 Y (Zk (ov Y) Y)<|Do 20 Y (Zr (m:=at__2) (fk:=FK3) (fv:=FV3) (k:=x.At) (v:=i) (ov Y) (ov Y) (ov Y) ZN Y)<|Dd<|⟨_,h,ES [some 0,some 1,some 2,some 3] (hhp:= .cons Y (ro1 (by exact tZ_98.symm)<|rlc (.dat Y)<|rlc (.own _ Y)<|rlc (.own _ Y)<|rlc (.mref _ Y) rln)<|.cons Y (roM D47)<|.cons Y (roM D3)<|.cons Y (Z7 (fk:=FK3) (fv:=FV3) (m:=(Qc kqI at__2 x.At i)) tZ_96 (fun _=>.dat Y) fun _=>.ren<|.dat Y) .nil)⟩
        ·
         exact Dq 6 Y (Zm (ov Y) Y Y Y tS3<|Zn Xo)<|Do 18 Y (Zy (m:=at__2) (fk:=FK3) (fv:=FV3) (k:=x.At) (z0:=0) (ov Y) (ov Y) ZN QV Y (fun _=>.b Y)<|Zx X9 Y)<|Dq 19 Y (Zk (ov Y) Y)<|Do 20 Y (Zr (m:=at__2) (fk:=FK3) (fv:=FV3) (k:=x.At) (v:=i) (ov Y) (ov Y) (ov Y) ZN Y)<|Dd<|⟨_,h,ES [some 0,some 1,some 2,some 3] (hhp:= .cons Y (ro1 (by exact tZ_98.symm)<|rlc (.dat Y)<|rlc (.own _ Y)<|rlc (.own _ Y)<|rlc (.mref _ Y) rln)<|.cons Y (roM D47)<|.cons Y (roM D3)<|.cons Y (Z7 (fk:=FK3) (fv:=FV3) (m:=(Qc kqI at__2 x.At i)) tZ_96 (fun _=>.dat Y) fun _=>.ren<|.dat Y) .nil)⟩
      ·
       refine Dw 3 13 Y (Ze (ov Y) Y Y ZbU) (Zv (ov Y) (ZH (ov Y) tZ_3) Qp Y Y Y (fun _=>Zb Y) Y h_l) ?_ ?_
       ·
        refine Dw 4 13 Y (Zm (ov Y) Y Y Y Zcd Y) (Zv (ov Y) (ZH (ov Y) tZ_3) Qp Y Y Y (fun _=>Zb Y) Y h_l) ?_ ?_
        ·
         exact Do 13 Y (Zv (ov Y) (ZH (ov Y) tZ_3) Qp Y Y Y (fun _=>Zb Y) Y h_l)<|Dq 15 Y (Zo (ov Y) Y Y)<|Dq 16 Y (Ze (ov Y) Y Y QQ)<|Do 17 Y (Zf (ov Y) (ov Y) (Zg XA) Y Y Y (Nat.le_of_ble_eq_true Y) (Zb Y) Y)<|Do 18 Y (Zy (m:=at__2) (fk:=FK3) (fv:=FV3) (k:=x.At) (z0:=0) (ov Y) (ov Y) ZN QV Y (fun _=>.b Y)<|Zx X9 Y)<|Dq 19 Y (Zk (ov Y) Y)<|Do 20 Y (Zr (m:=at__2) (fk:=FK3) (fv:=FV3) (k:=x.At) (v:=i) (ov Y) (ov Y) (ov Y) ZN Y)<|Dd<|⟨_,h,ES [some 0,some 1,some 2,some 3] (hhp:= .cons Y (ro1 (by exact tZ_98.symm)<|rlc (.dat Y)<|rlc (.own _ Y)<|rlc (.own _ Y)<|rlc (.mref _ Y) rln)<|.cons Y (roM D47)<|.cons Y (roM D3)<|.cons Y (Z7 (fk:=FK3) (fv:=FV3) (m:=(Qc kqI at__2 x.At i)) tZ_96 (fun _=>.dat Y) fun _=>.ren<|.dat Y) .nil)⟩
        ·
         exact Dq 4 Y (Zm (ov Y) Y Y Y Zcd Y)<|Dq 15 Y (Zo (ov Y) Y Y)<|Dq 16 Y (Ze (ov Y) Y Y QQ)<|Do 17 Y (Zf (ov Y) (ov Y) (Zg XA) Y Y Y (Nat.le_of_ble_eq_true Y) (Zb Y) Y)<|Do 18 Y (Zy (m:=at__2) (fk:=FK3) (fv:=FV3) (k:=x.At) (z0:=0) (ov Y) (ov Y) ZN QV Y (fun _=>.b Y)<|Zx X9 Y)<|Dq 19 Y (Zk (ov Y) Y)<|Do 20 Y (Zr (m:=at__2) (fk:=FK3) (fv:=FV3) (k:=x.At) (v:=i) (ov Y) (ov Y) (ov Y) ZN Y)<|Dd<|⟨_,h,ES [some 0,some 1,some 2,some 3] (hhp:= .cons Y (ro1 (by exact tZ_98.symm)<|rlc (.dat Y)<|rlc (.own _ Y)<|rlc (.own _ Y)<|rlc (.mref _ Y) rln)<|.cons Y (roM D47)<|.cons Y (roM D3)<|.cons Y (Z7 (fk:=FK3) (fv:=FV3) (m:=(Qc kqI at__2 x.At i)) tZ_96 (fun _=>.dat Y) fun _=>.ren<|.dat Y) .nil)⟩
       ·
        exact Dq 3 Y (Ze (ov Y) Y Y ZbU)<|Dq 4 Y (Zm (ov Y) Y Y Y Zcd Y)<|Dq 15 Y (Zo (ov Y) Y Y)<|Dq 16 Y (Ze (ov Y) Y Y QQ)<|Do 17 Y (Zf (ov Y) (ov Y) (Zg XA) Y Y Y (Nat.le_of_ble_eq_true Y) (Zb Y) Y)<|Do 18 Y (Zy (m:=at__2) (fk:=FK3) (fv:=FV3) (k:=x.At) (z0:=0) (ov Y) (ov Y) ZN QV Y (fun _=>.b Y)<|Zx X9 Y)<|Dq 19 Y (Zk (ov Y) Y)<|Do 20 Y (Zr (m:=at__2) (fk:=FK3) (fv:=FV3) (k:=x.At) (v:=i) (ov Y) (ov Y) (ov Y) ZN Y)<|Dd<|⟨_,h,ES [some 0,some 1,some 2,some 3] (hhp:= .cons Y (ro1 (by exact tZ_98.symm)<|rlc (.dat Y)<|rlc (.own _ Y)<|rlc (.own _ Y)<|rlc (.mref _ Y) rln)<|.cons Y (roM D47)<|.cons Y (roM D3)<|.cons Y (Z7 (fk:=FK3) (fv:=FV3) (m:=(Qc kqI at__2 x.At i)) tZ_96 (fun _=>.dat Y) fun _=>.ren<|.dat Y) .nil)⟩
      ·
       refine Dq 3 Y (Ze (ov Y) Y Y ZbU)<|Dq 4 Y (Zm (ov Y) Y Y Y Zcd Y)<|Dq 15 Y (Zo (ov Y) Y Y)<|Dq 16 Y (Ze (ov Y) Y Y QQ)<|Dw 6 17 Y (Zm (ov Y) Y Y Y tS3<|Zn Xo) (Zf (ov Y) (ov Y) (Zg XA) Y Y Y (Nat.le_of_ble_eq_true Y) (Zb Y) Y) ?_ ?_
       ·
        exact Do 17 Y (Zf (ov Y) (ov Y) (Zg XA) Y Y Y (Nat.le_of_ble_eq_true Y) (Zb Y) Y)<|Do 18 Y (Zy (m:=at__2) (fk:=FK3) (fv:=FV3) (k:=x.At) (z0:=0) (ov Y) (ov Y) ZN QV Y (fun _=>.b Y)<|Zx X9 Y)<|Dq 19 Y (Zk (ov Y) Y)<|Do 20 Y (Zr (m:=at__2) (fk:=FK3) (fv:=FV3) (k:=x.At) (v:=i) (ov Y) (ov Y) (ov Y) ZN Y)<|Dd<|⟨_,h,ES [some 0,some 1,some 2,some 3] (hhp:= .cons Y (ro1 (by exact tZ_98.symm)<|rlc (.dat Y)<|rlc (.own _ Y)<|rlc (.own _ Y)<|rlc (.mref _ Y) rln)<|.cons Y (roM D47)<|.cons Y (roM D3)<|.cons Y (Z7 (fk:=FK3) (fv:=FV3) (m:=(Qc kqI at__2 x.At i)) tZ_96 (fun _=>.dat Y) fun _=>.ren<|.dat Y) .nil)⟩
       ·
        exact Dq 6 Y (Zm (ov Y) Y Y Y tS3<|Zn Xo)<|Do 18 Y (Zy (m:=at__2) (fk:=FK3) (fv:=FV3) (k:=x.At) (z0:=0) (ov Y) (ov Y) ZN QV Y (fun _=>.b Y)<|Zx X9 Y)<|Dq 19 Y (Zk (ov Y) Y)<|Do 20 Y (Zr (m:=at__2) (fk:=FK3) (fv:=FV3) (k:=x.At) (v:=i) (ov Y) (ov Y) (ov Y) ZN Y)<|Dd<|⟨_,h,ES [some 0,some 1,some 2,some 3] (hhp:= .cons Y (ro1 (by exact tZ_98.symm)<|rlc (.dat Y)<|rlc (.own _ Y)<|rlc (.own _ Y)<|rlc (.mref _ Y) rln)<|.cons Y (roM D47)<|.cons Y (roM D3)<|.cons Y (Z7 (fk:=FK3) (fv:=FV3) (m:=(Qc kqI at__2 x.At i)) tZ_96 (fun _=>.dat Y) fun _=>.ren<|.dat Y) .nil)⟩
     ·
      refine Dw 2 13 Y (Zo (ov Y) Y Y) (Zv (ov Y) (ZH (ov Y) tZ_3) Qp Y Y Y (fun _=>Zb Y) Y h_l) ?_ ?_
      ·
       refine Dw 3 13 Y (Ze (ov Y) Y Y ZbU) (Zv (ov Y) (ZH (ov Y) tZ_3) Qp Y Y Y (fun _=>Zb Y) Y h_l) ?_ ?_
       ·
        refine Dw 4 13 Y (Zm (ov Y) Y Y Y Zcd Y) (Zv (ov Y) (ZH (ov Y) tZ_3) Qp Y Y Y (fun _=>Zb Y) Y h_l) ?_ ?_
        ·
         exact Do 13 Y (Zv (ov Y) (ZH (ov Y) tZ_3) Qp Y Y Y (fun _=>Zb Y) Y h_l)<|Dq 15 Y (Zo (ov Y) Y Y)<|Dq 16 Y (Ze (ov Y) Y Y QQ)<|Do 17 Y (Zf (ov Y) (ov Y) (Zg XA) Y Y Y (Nat.le_of_ble_eq_true Y) (Zb Y) Y)<|Do 18 Y (Zy (m:=at__2) (fk:=FK3) (fv:=FV3) (k:=x.At) (z0:=0) (ov Y) (ov Y) ZN QV Y (fun _=>.b Y)<|Zx X9 Y)<|Dq 19 Y (Zk (ov Y) Y)<|Do 20 Y (Zr (m:=at__2) (fk:=FK3) (fv:=FV3) (k:=x.At) (v:=i) (ov Y) (ov Y) (ov Y) ZN Y)<|Dd<|⟨_,h,ES [some 0,some 1,some 2,some 3] (hhp:= .cons Y (ro1 (by exact tZ_98.symm)<|rlc (.dat Y)<|rlc (.own _ Y)<|rlc (.own _ Y)<|rlc (.mref _ Y) rln)<|.cons Y (roM D47)<|.cons Y (roM D3)<|.cons Y (Z7 (fk:=FK3) (fv:=FV3) (m:=(Qc kqI at__2 x.At i)) tZ_96 (fun _=>.dat Y) fun _=>.ren<|.dat Y) .nil)⟩
        ·
         exact Dq 4 Y (Zm (ov Y) Y Y Y Zcd Y)<|Dq 15 Y (Zo (ov Y) Y Y)<|Dq 16 Y (Ze (ov Y) Y Y QQ)<|Do 17 Y (Zf (ov Y) (ov Y) (Zg XA) Y Y Y (Nat.le_of_ble_eq_true Y) (Zb Y) Y)<|Do 18 Y (Zy (m:=at__2) (fk:=FK3) (fv:=FV3) (k:=x.At) (z0:=0) (ov Y) (ov Y) ZN QV Y (fun _=>.b Y)<|Zx X9 Y)<|Dq 19 Y (Zk (ov Y) Y)<|Do 20 Y (Zr (m:=at__2) (fk:=FK3) (fv:=FV3) (k:=x.At) (v:=i) (ov Y) (ov Y) (ov Y) ZN Y)<|Dd<|⟨_,h,ES [some 0,some 1,some 2,some 3] (hhp:= .cons Y (ro1 (by exact tZ_98.symm)<|rlc (.dat Y)<|rlc (.own _ Y)<|rlc (.own _ Y)<|rlc (.mref _ Y) rln)<|.cons Y (roM D47)<|.cons Y (roM D3)<|.cons Y (Z7 (fk:=FK3) (fv:=FV3) (m:=(Qc kqI at__2 x.At i)) tZ_96 (fun _=>.dat Y) fun _=>.ren<|.dat Y) .nil)⟩
       ·
        exact Dq 3 Y (Ze (ov Y) Y Y ZbU)<|Dq 4 Y (Zm (ov Y) Y Y Y Zcd Y)<|Dq 15 Y (Zo (ov Y) Y Y)<|Dq 16 Y (Ze (ov Y) Y Y QQ)<|Do 17 Y (Zf (ov Y) (ov Y) (Zg XA) Y Y Y (Nat.le_of_ble_eq_true Y) (Zb Y) Y)<|Do 18 Y (Zy (m:=at__2) (fk:=FK3) (fv:=FV3) (k:=x.At) (z0:=0) (ov Y) (ov Y) ZN QV Y (fun _=>.b Y)<|Zx X9 Y)<|Dq 19 Y (Zk (ov Y) Y)<|Do 20 Y (Zr (m:=at__2) (fk:=FK3) (fv:=FV3) (k:=x.At) (v:=i) (ov Y) (ov Y) (ov Y) ZN Y)<|Dd<|⟨_,h,ES [some 0,some 1,some 2,some 3] (hhp:= .cons Y (ro1 (by exact tZ_98.symm)<|rlc (.dat Y)<|rlc (.own _ Y)<|rlc (.own _ Y)<|rlc (.mref _ Y) rln)<|.cons Y (roM D47)<|.cons Y (roM D3)<|.cons Y (Z7 (fk:=FK3) (fv:=FV3) (m:=(Qc kqI at__2 x.At i)) tZ_96 (fun _=>.dat Y) fun _=>.ren<|.dat Y) .nil)⟩
      ·
       exact Dq 2 Y (Zo (ov Y) Y Y)<|Dq 3 Y (Ze (ov Y) Y Y ZbU)<|Dq 4 Y (Zm (ov Y) Y Y Y Zcd Y)<|Dq 15 Y (Zo (ov Y) Y Y)<|Dq 16 Y (Ze (ov Y) Y Y QQ)<|Do 17 Y (Zf (ov Y) (ov Y) (Zg XA) Y Y Y (Nat.le_of_ble_eq_true Y) (Zb Y) Y)<|Do 18 Y (Zy (m:=at__2) (fk:=FK3) (fv:=FV3) (k:=x.At) (z0:=0) (ov Y) (ov Y) ZN QV Y (fun _=>.b Y)<|Zx X9 Y)<|Dq 19 Y (Zk (ov Y) Y)<|Do 20 Y (Zr (m:=at__2) (fk:=FK3) (fv:=FV3) (k:=x.At) (v:=i) (ov Y) (ov Y) (ov Y) ZN Y)<|Dd<|⟨_,h,ES [some 0,some 1,some 2,some 3] (hhp:= .cons Y (ro1 (by exact tZ_98.symm)<|rlc (.dat Y)<|rlc (.own _ Y)<|rlc (.own _ Y)<|rlc (.mref _ Y) rln)<|.cons Y (roM D47)<|.cons Y (roM D3)<|.cons Y (Z7 (fk:=FK3) (fv:=FV3) (m:=(Qc kqI at__2 x.At i)) tZ_96 (fun _=>.dat Y) fun _=>.ren<|.dat Y) .nil)⟩
     ·
      refine Dq 2 Y (Zo (ov Y) Y Y)<|Dq 3 Y (Ze (ov Y) Y Y ZbU)<|Dq 4 Y (Zm (ov Y) Y Y Y Zcd Y)<|Dq 15 Y (Zo (ov Y) Y Y)<|Dq 16 Y (Ze (ov Y) Y Y QQ)<|Dw 6 17 Y (Zm (ov Y) Y Y Y tS3<|Zn Xo) (Zf (ov Y) (ov Y) (Zg XA) Y Y Y (Nat.le_of_ble_eq_true Y) (Zb Y) Y) ?_ ?_
      ·
       exact Do 17 Y (Zf (ov Y) (ov Y) (Zg XA) Y Y Y (Nat.le_of_ble_eq_true Y) (Zb Y) Y)<|Do 18 Y (Zy (m:=at__2) (fk:=FK3) (fv:=FV3) (k:=x.At) (z0:=0) (ov Y) (ov Y) ZN QV Y (fun _=>.b Y)<|Zx X9 Y)<|Dq 19 Y (Zk (ov Y) Y)<|Do 20 Y (Zr (m:=at__2) (fk:=FK3) (fv:=FV3) (k:=x.At) (v:=i) (ov Y) (ov Y) (ov Y) ZN Y)<|Dd<|⟨_,h,ES [some 0,some 1,some 2,some 3] (hhp:= .cons Y (ro1 (by exact tZ_98.symm)<|rlc (.dat Y)<|rlc (.own _ Y)<|rlc (.own _ Y)<|rlc (.mref _ Y) rln)<|.cons Y (roM D47)<|.cons Y (roM D3)<|.cons Y (Z7 (fk:=FK3) (fv:=FV3) (m:=(Qc kqI at__2 x.At i)) tZ_96 (fun _=>.dat Y) fun _=>.ren<|.dat Y) .nil)⟩
      ·
       exact Dq 6 Y (Zm (ov Y) Y Y Y tS3<|Zn Xo)<|Do 18 Y (Zy (m:=at__2) (fk:=FK3) (fv:=FV3) (k:=x.At) (z0:=0) (ov Y) (ov Y) ZN QV Y (fun _=>.b Y)<|Zx X9 Y)<|Dq 19 Y (Zk (ov Y) Y)<|Do 20 Y (Zr (m:=at__2) (fk:=FK3) (fv:=FV3) (k:=x.At) (v:=i) (ov Y) (ov Y) (ov Y) ZN Y)<|Dd<|⟨_,h,ES [some 0,some 1,some 2,some 3] (hhp:= .cons Y (ro1 (by exact tZ_98.symm)<|rlc (.dat Y)<|rlc (.own _ Y)<|rlc (.own _ Y)<|rlc (.mref _ Y) rln)<|.cons Y (roM D47)<|.cons Y (roM D3)<|.cons Y (Z7 (fk:=FK3) (fv:=FV3) (m:=(Qc kqI at__2 x.At i)) tZ_96 (fun _=>.dat Y) fun _=>.ren<|.dat Y) .nil)⟩
    ·
     refine Dq 2 Y (Zo (ov Y) Y Y)<|Dq 3 Y (Ze (ov Y) Y Y ZbU)<|Dq 4 Y (Zm (ov Y) Y Y Y Zcd Y)<|Dq 15 Y (Zo (ov Y) Y Y)<|Dq 16 Y (Ze (ov Y) Y Y QQ)<|Dw 5 17 Y (Ze (ov Y) Y Y Xm) (Zf (ov Y) (ov Y) (Zg XA) Y Y Y (Nat.le_of_ble_eq_true Y) (Zb Y) Y) ?_ ?_
     ·
      refine Dw 6 17 Y (Zm (ov Y) Y Y Y tS3<|Zn Xo) (Zf (ov Y) (ov Y) (Zg XA) Y Y Y (Nat.le_of_ble_eq_true Y) (Zb Y) Y) ?_ ?_
      ·
       exact Do 17 Y (Zf (ov Y) (ov Y) (Zg XA) Y Y Y (Nat.le_of_ble_eq_true Y) (Zb Y) Y)<|Do 18 Y (Zy (m:=at__2) (fk:=FK3) (fv:=FV3) (k:=x.At) (z0:=0) (ov Y) (ov Y) ZN QV Y (fun _=>.b Y)<|Zx X9 Y)<|Dq 19 Y (Zk (ov Y) Y)<|Do 20 Y (Zr (m:=at__2) (fk:=FK3) (fv:=FV3) (k:=x.At) (v:=i) (ov Y) (ov Y) (ov Y) ZN Y)<|Dd<|⟨_,h,ES [some 0,some 1,some 2,some 3] (hhp:= .cons Y (ro1 (by exact tZ_98.symm)<|rlc (.dat Y)<|rlc (.own _ Y)<|rlc (.own _ Y)<|rlc (.mref _ Y) rln)<|.cons Y (roM D47)<|.cons Y (roM D3)<|.cons Y (Z7 (fk:=FK3) (fv:=FV3) (m:=(Qc kqI at__2 x.At i)) tZ_96 (fun _=>.dat Y) fun _=>.ren<|.dat Y) .nil)⟩
      ·
       exact Dq 6 Y (Zm (ov Y) Y Y Y tS3<|Zn Xo)<|Do 18 Y (Zy (m:=at__2) (fk:=FK3) (fv:=FV3) (k:=x.At) (z0:=0) (ov Y) (ov Y) ZN QV Y (fun _=>.b Y)<|Zx X9 Y)<|Dq 19 Y (Zk (ov Y) Y)<|Do 20 Y (Zr (m:=at__2) (fk:=FK3) (fv:=FV3) (k:=x.At) (v:=i) (ov Y) (ov Y) (ov Y) ZN Y)<|Dd<|⟨_,h,ES [some 0,some 1,some 2,some 3] (hhp:= .cons Y (ro1 (by exact tZ_98.symm)<|rlc (.dat Y)<|rlc (.own _ Y)<|rlc (.own _ Y)<|rlc (.mref _ Y) rln)<|.cons Y (roM D47)<|.cons Y (roM D3)<|.cons Y (Z7 (fk:=FK3) (fv:=FV3) (m:=(Qc kqI at__2 x.At i)) tZ_96 (fun _=>.dat Y) fun _=>.ren<|.dat Y) .nil)⟩
     ·
      exact Dq 5 Y (Ze (ov Y) Y Y Xm)<|Dq 6 Y (Zm (ov Y) Y Y Y tS3<|Zn Xo)<|Do 18 Y (Zy (m:=at__2) (fk:=FK3) (fv:=FV3) (k:=x.At) (z0:=0) (ov Y) (ov Y) ZN QV Y (fun _=>.b Y)<|Zx X9 Y)<|Dq 19 Y (Zk (ov Y) Y)<|Do 20 Y (Zr (m:=at__2) (fk:=FK3) (fv:=FV3) (k:=x.At) (v:=i) (ov Y) (ov Y) (ov Y) ZN Y)<|Dd<|⟨_,h,ES [some 0,some 1,some 2,some 3] (hhp:= .cons Y (ro1 (by exact tZ_98.symm)<|rlc (.dat Y)<|rlc (.own _ Y)<|rlc (.own _ Y)<|rlc (.mref _ Y) rln)<|.cons Y (roM D47)<|.cons Y (roM D3)<|.cons Y (Z7 (fk:=FK3) (fv:=FV3) (m:=(Qc kqI at__2 x.At i)) tZ_96 (fun _=>.dat Y) fun _=>.ren<|.dat Y) .nil)⟩
   ·
    exact Zt<|R2 ZX Y<|Rm Y<|Za<|⟨_,h,ES [some 0,some 1,some 2,some 3] (hhp:= .cons Y (ro1 (by exact tZ_98.symm)<|rlc (.dat Y)<|rlc (.own _ Y)<|rlc (.own _ Y)<|rlc (.mref _ Y) rln)<|.cons Y (roM D47)<|.cons Y (roM D3)<|.cons Y (Z7 (fk:=FK3) (fv:=FV3) (m:=at__3) tZ_96 (fun _=>.dat Y) fun _=>.ren<|.dat Y) .nil)⟩
  ·
   refine ZI<|?_
   replace h:=lx h▸ho1
   exact⟨_,h,ES [some 0,some 1,some 2,some 3] (hhp:= .cons Y (ro1 (by exact tZ_98.symm)<|rlc (.dat Y)<|rlc (.own _ Y)<|rlc (.own _ Y)<|rlc (.mref _ Y) rln)<|.cons Y (roM D47)<|.cons Y (roM D3)<|.cons Y (Z7 (fk:=FK3) (fv:=FV3) (m:=at__2) tZ_96 (fun _=>.dat Y) fun _=>.ren<|.dat Y) .nil)⟩
 ·
  refine Tr<|Rm Y<|Ra Y<|Za<|?_
  obtain rfl:=rt h
  exact ZiS (Ent.sel [some 0,none,none,some 3] (sr 2 Y (.ptr (r':=0) _ _ _ Y)<|sr 3 Y (.ptr (r':=0) _ _ _ Y)<|sr 50 Y (.ptr (r':=0) _ _ _ Y) sn) (.cons Y (ro1 (by exact tZ_98.symm)<|rlc (.dat Y)<|rlc (ZpE Y Y Y D47)<|rlc (ZpE Y Y Y D3)<|rlc (.mref (r':=3) _ Y) rln)<|.row 47<|.row 3<|.cons Y (Z7 (fk:=FK3) (fv:=FV3) (m:=at__) tZ_96 (fun _=>.dat Y) fun _=>.ren<|.dat Y) .nil) Y Y)<|ZiS (Ent.sel [some 0,some 1,some 2,some 3] (sr 2 Y (.ptr (r':=0) _ _ _ Y)<|sr 3 Y (.ptr (r':=0) _ _ _ Y)<|sr 50 Y (.ptr (r':=0) _ _ _ Y) sn) (.cons Y (ro1 (by exact tZ_98.symm)<|rlc (.dat Y)<|rlc (.dat Y)<|rlc (.dat Y)<|rlc (.out _) rln)<|.cons Y roE<|.cons Y roE<|.cons Y (Z7 (fk:=FK3) (fv:=FV3) (m:=at__) tZ_96 (fun _=>.dat Y) fun _=>.ren<|.dat Y) .nil) Y Y)<|ZiS (Ent.sel [none,some 1,some 2,some 3] (sr 2 Y (.frp ⟨Y,⟨_,Y⟩,Y,Y⟩)<|sr 3 Y (.frp ⟨Y,⟨_,Y⟩,Y,Y⟩)<|sr 50 Y (.frp ⟨Y,⟨_,Y⟩,Y,Y⟩) sn) (.row 98<|.cons Y roE<|.cons Y roE<|.cons Y (Z7 (fk:=FK3) (fv:=FV3) (m:=at__) tZ_96 (fun _=>.dat Y) fun _=>.ren<|.dat Y) .nil) Y Y)<|Zs (ZK Y (.one<|rb Y))
end Go.Proofs.YtjjknklgafdeiaaGreatDoor
