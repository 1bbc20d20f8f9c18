/- A text of the proof: a verified executor of the program form, or the contracts of the functions that the law reaches. -/
import Derived.Test.YtailpehcgelmdaaGreatDoorOkSb
set_option linter.all false
namespace Go.Proofs.YtailpehcgelmdaaGreatDoor
open Go Go.Vx
set_option maxRecDepth 10000
set_option maxHeartbeats 1000000
set_option linter.unusedVariables false
theorem Zcy{p:api_Panel}{l:List api_Track}{s:api_PanelState}{r:api_PanelState}(h:Xk p l s=some r):
 GSpec Tryz.prog gl0 50 [.agg [.sl 49 (List.map R49 p.Instruments)],.sl 54 (List.map R54 l),.agg [.int .i64 s.Frame,.sl 99 (List.map R99 s.Memos)]] [] (.agg [.int .i64 r.Frame,.own 0 r.Memos.length]) [some ⟨99,List.map R99 r.Memos⟩]:=by
 unfold Xk at h
 replace h:=Z9 h
 refine XJ (by kernel_rfl) Tryz.func50 Y Y<|?_
 intro w0 A W φ0
 refine Tr<|Rq Y (Qn (cva<|ov Y) Y tZ_24 Y)<|Rq Y (Qn (cva<|ov Y) Y tZ_44 Y)<|Rx Y (Z8 (row:= [_,_]) 0 Y Zhw Y tZ_44)<|Za<|K4 1 3 5 6 Y<|Tr<|Rq Y (Ze (ov Y) Zbg)<|Rq Y (Zc (ov Y) tS3 Y)<|R2 Jh Y<|Rq Y (ZaC (ys:= [_,_]) ZkY Zk3 Zhw (.cons (cvs (ov Y)<|ZX Y) .nil) Y)<|Rx Y (Z8 (row:= [_,_]) 1 Y Zhw Y tZ_44)<|Rx Y (Zq (ov Y) (ov Y) (ZE ZaO Y) Y Y Y (Nat.le_of_ble_eq_true Y) (Zd Y) Y)<|Za<|I1 (fun Memos=>⟨[(6,.ptr 0 1 0 0),(7,.ptr 1 1 0 0)],[some ⟨44,[[.int .i64 0,.nils]]⟩,some ⟨44,[[.int .i64 (i64 (s.Frame+1)),.own 2 Memos.length]]⟩,some ⟨99,List.map R99 Memos⟩]⟩) h (fun h=>?_) fun Memos h=>?_
 ·
  refine K5 1 3 5 6 7 Y<|Tr<|Rq Y (Ze (ov Y) Zba)<|Rq Y (Zc (ov Y) Zfq Y)<|Rl tZ_49 Zc1 Y<|Rm Y<|Za<|Zr<|?_
  obtain⟨r1,hl1,ho1⟩:=Zay h
  refine L2 (fun Memos2 i=>⟨[(1,.sl 54 (List.map R54 l)),(5,.rp [.int .i64 s.Frame,.sl 99 (List.map R99 s.Memos)] 0),(6,.ptr 0 1 0 0),(7,.ptr 1 1 0 0),(18,.sl 49 (List.map R49 p.Instruments)),(19,.int .i64 (p.Instruments.length:Int)),(20,.int .i64 i)],[some ⟨44,[[.int .i64 0,.nils]]⟩,some ⟨44,[[.int .i64 (i64 (s.Frame+1)),.own 2 Memos2.length]]⟩,some ⟨99,List.map R99 Memos2⟩]⟩) hl1 (ES [some 0,some 1,none]) fun n1 Memos2 i h=>?_
  unfold QS at h
  refine Tr<|R2 QE Y<|Za<|Zt<|If h Y (fun h=>?_) fun h=>?_
  ·
   exact Zf<|Zt<|Zr<|K7 1 5 6 7 18 19 20 Y<|Tr<|Rm Y<|bE h fun x h_x h=>Rq Y (QX (ov Y) (ov Y) Zc1 h_x)<|Rq Y (ZB (ov Y) Zds Y Y)<|Rx Y (Z8 (row:= [_,_,_,_,_,_,_,_,_,_,_,_]) 3 Y ZkE Y tZ_49)<|Ra Y<|Rx Y (Zq (ov Y) (ov Y) (ZE Zds Y) Y Y Y (Nat.le_of_ble_eq_true Y) (Zd Y) Y)<|Za<|K9 1 5 6 7 8 9 18 19 20 Y<|Td md0<|ZbH 0 _ Y (by kernel_rfl) Y Y (fun hp'=>Zg<|ov Y)<|ZbH 1 _ Y (by kernel_rfl) Y Y (fun hp'=>Zg<|ov Y)<|ZeN 2 _ Y (by kernel_rfl) Y Y Y ExtW.refl (fun hp' hx=>Qk (ov Y) (hx.get Y Y) Y Y Zds Y Y)<|bE h fun y h_y h=>ZeN 3 _ Y (by kernel_rfl) Y Y Y ExtW.refl (fun hp' hx=>Zm (ZbA h_y)<|.cons (ov Y) (.b Y)<|.cons (ov Y) (.aggB Y) .nil)<|bE h fun x2 h_x2 h=>ZeN 4 _ Y (by kernel_rfl) Y Y Y ExtW.refl (fun hp' hx=>QX (ov Y) (ov Y) Zeq h_x2)<|ZeN 5 _ Y (by kernel_rfl) Y Y Y ExtW.refl (fun hp' hx=>ZB (ov Y) Zic Y Y)<|ZeN 6 _ Y (by kernel_rfl) Y Y Y ExtW.refl (fun hp' hx=>Zb (ov Y) (hx.get Y Y) Y Zbg)<|ZeN 7 _ Y (by kernel_rfl) Y Y Y ExtW.refl (fun hp' hx=>Zo (ov Y) (hx.get Y Y) Y Y tS3 Y)<|bE h fun y2 h_y2 h=>ZeN 8 _ Y (by kernel_rfl) Y Y Y ExtW.refl (fun hp' hx=>Zm (Zd4 h_y2)<|.cons (ov Y) (.aggB Y)<|.cons (ov Y) (.b Y) .nil)<|ZbH 9 _ Y (by kernel_rfl) Y Y (fun hp'=>Zg<|ov Y)<|ZbH 10 _ Y (by kernel_rfl) Y Y (fun hp'=>Zx (ov Y) Y)<|ZbH 11 _ Y (by kernel_rfl) Y Y (fun hp'=>Zx (ov Y) Y)<|Zki 12 _ _ Y (by kernel_rfl) Y Y (fun _=>Ext.app) (fun h=>by cases h) (Z8 (row:= [_,_,_]) 4 Y Zio Y tZ_56)<|Do 13 Y (Zq (ov Y) (ov Y) (ZE ZdA Y) Y Y Y (Nat.le_of_ble_eq_true Y) (Zd Y) Y)<|D1 14 Zaw Y<|Dd<|K11 1 5 6 7 8 9 10 11 18 19 20 Y<|Tr<|Rq Y (Ze (ov Y) Za5)<|Rq Y (Zc (ov Y) Zft Y)<|Rm Y<|bE h fun x3 h_x3 h=>Rq Y (QX (ov Y) (ov Y) Zfm h_x3)<|Rq Y (ZB (ov Y) Ziq Y Y)<|Rx Y (Z8 (row:= [_,_,_,_,_]) 5 Y Zk7 Y tZ_99)<|Rx Y (Zq (ov Y) (ov Y) (ZE Ziq Y) Y Y Y (Nat.le_of_ble_eq_true Y) (Zd Y) Y)<|Za<|K11 1 5 6 7 9 10 11 12 18 19 20 Y<|Tr<|Rq Y (Zb (ov Y) Y Y Zdy)<|Rq Y (Zo (ov Y) Y Y Y ZhO Y)<|bE h fun y3 h_y3 h=>Rx Y (Q0 [] (Zgb h_y3) (.cons (ov Y) (.dat Y) .nil) .nil Y (.keep Y Y<|.keep Y Y<|.keep Y Y<|.keep Y Y<|.keep Y Y<|.keep Y Y<|.lent 0 (.inr ⟨Nat.le_of_ble_eq_true Y,Y⟩) Y (roM D3) .nil) Y Y<|.own _<|.inr ⟨Nat.le_of_ble_eq_true Y,Y⟩)<|Rq Y (Zb (ov Y) Y Y Zdy)<|Rx Y (Zq (ov Y) (ov Y) (Zv ZhO) Y Y Y (Nat.le_of_ble_eq_true Y) (Zd Y) Y)<|Za<|K11 1 5 6 7 9 10 11 12 18 19 20 Y<|Zdf (Ent.sel [some 0,some 1,some 2,some 3,some 4,some 5,none] (sd 1 Y Y<|sd 5 Y Y<|sr 6 Y (.ptr (r':=0) _ _ _ Y)<|sr 7 Y (.ptr (r':=1) _ _ _ Y)<|sr 9 Y (.ptr (r':=3) _ _ _ Y)<|sr 10 Y (.ptr (r':=4) _ _ _ Y)<|sd 11 Y Y<|sr 12 Y (.ptr (r':=5) _ _ _ Y)<|sd 18 Y Y<|sd 19 Y Y<|sd 20 Y Y sn) (.cons Y (ro1 (by exact tZ_44.symm)<|rlc (.dat Y)<|rlc (.dat Y) rln)<|.cons Y (ro1 (by exact tZ_44.symm)<|rlc (.dat Y)<|rlc (.own (r':=2) _ Y) rln)<|.cons Y (roM D99)<|.cons Y (ro1 (by exact tZ_49.symm)<|rld Y)<|.cons Y (ro1 (by exact tZ_56.symm)<|rld Y)<|.cons Y (ro1 (by exact tZ_99.symm)<|rlc (.dat Y)<|rlc (.dat Y)<|rlc (.dat Y)<|rlc (.dat Y)<|rlc (ZgH Y Y Y D3) rln)<|.row 3 .nil) Y Y)<|Zc6 (cw:=md0) (by kernel_rfl)<|Dq 0 Y (Zb (ov Y) Y Y Za5)<|Dq 1 Y (Zo (ov Y) Y Y Y Zft Y)<|Dq 2 Y (Qk (ov Y) Y Y Y Zds Y Y)<|Dq 3 Y (Qk (ov Y) Y Y Y Ziq Y Y)<|Dq 4 Y (Zb (ov Y) Y Y Ze6)<|Dq 5 Y (Zo (ov Y) Y Y Y tS3 Y)<|D1 6 Zg Y<|bE h fun y4 h_y4 h=>Dq 7 Y (Zm (ZdO h_y4)<|.cons (ov Y) (.aggB Y)<|.cons (ov Y) (.aggB Y)<|.cons (ov Y) (.b Y)<|.cons (ov Y) (.b Y) .nil)<|Zkh 8 (.sl 99<|List.map R99 ([y4]:List api_Memo)) Y (by kernel_rfl) Y Y (ZdF Zfm (.cons (cva<|ov Y) Y (pwD Y) .nil) Y Y)<|bE h fun l2 h_l2 h=>Do 9 Y (Zdk (ov Y) (ZbE (ov Y) tZ_99) Zfm Y Y Y (fun _=>Zd Y) Y h_l2)<|Dq 10 Y (Zb (ov Y) Y Y Za5)<|Do 11 Y (Zq (ov Y) (ov Y) (Zv Zft) Y Y Y (Nat.le_of_ble_eq_true Y) (Zd Y) Y)<|Dd<|K7 1 5 6 7 18 19 20 Y<|ZH<|R2 Jh Y<|Rm Y<|Za<|⟨_,h,ES [some 0,some 1,some 2]⟩
  ·
   refine Z3<|?_
   replace h:=lx h▸ho1
   exact⟨_,h,ES [some 0,some 1,some 2]⟩
 ·
  refine Tr<|Rq Y (Qk (ov Y) Y Y Y ZaO Y Y)<|Rx Y (Zq (ov Y) (ov Y) (ZE ZaO Y) Y Y Y (Nat.le_of_ble_eq_true Y) (Zd Y) Y)<|Za<|?_
  obtain rfl:=rt h
  exact Zj<|ZcQ [some 2] Y (.cons (.agg Y Y Y Y ZaO Y Y) .nil) (.cons Y (roM D99) .nil) Y Y<|ZcR<|rlc (.dat Y)<|rlc (.own _ Y) rln
theorem ZdW{z:Int}{r:Str}(h:itoa z=some r):CSpec Tryz.prog gl0 90 [.int .i64 z] (.str r):=
  Zkr (g:=1) (by kernel_rfl) (by kernel_rfl) (by simp [gl0]) (fun _ h1 h2 _ ht=>Any.strconv_Itoa Tryz.laysM171 _ h1 h2 _ ht) h
theorem Zb0{n:Int}{den:Int}{places:Int}{r:Str}(h:Q6 n den places=some r):
 CSpec Tryz.prog gl0 121 [.int .i64 n,.int .i64 den,.int .i64 places] (.str r):=by
 unfold Q6 at h
 replace h:=Z9 h
 refine So Tryz.func121 Y fun w0 A=>Tr<|Ra Y<|Za<|K3 0 1 2 Y<|Tr<|Rm Y<|Rm Y<|Rq Y (ZlT (ov Y) Y)<|Rq Y (ZkI (ov Y) (ov Y) Y)<|Ra Y<|Za<|K4 0 1 2 7 Y<|Tr<|Rm Y<|Rm Y<|bE h fun q h_q h=>Rq Y (Zhb (ov Y) (ov Y) h_q)<|Ra Y<|Ra Y<|Za<|I1 (fun scale=>⟨[(0,.int .i64 n),(1,.int .i64 den),(2,.int .i64 places),(7,.int .i64 (max n (i64 (-n)))),(8,.int .i64 q),(9,.int .i64 scale)],[]⟩) h (fun h=>?_) fun scale h=>?_
 ·
  refine K6 0 1 2 7 8 9 Y<|Tr<|Rm Y<|Rm Y<|Za<|Zr<|?_
  obtain⟨r1,hl1,ho1⟩:=Zay h
  refine L2 (fun scale2 i=>⟨[(0,.int .i64 n),(1,.int .i64 den),(2,.int .i64 places),(7,.int .i64 (max n (i64 (-n)))),(8,.int .i64 q),(9,.int .i64 scale2),(19,.int .i64 places),(20,.int .i64 i)],[]⟩) hl1 (ES []) fun n1 scale2 i h=>?_
  unfold JU at h
  refine Tr<|R2 QE Y<|Za<|Zt<|If h Y (fun h=>?_) fun h=>?_
  ·
   exact Zf<|Zt<|Zr<|K8 0 1 2 7 8 9 19 20 Y<|ZH<|Rm Y<|R2 Zhr Y<|Ra Y<|Za<|K8 0 1 2 7 8 9 19 20 Y<|ZH<|R2 Jh Y<|Rm Y<|Za<|⟨_,h,ES []⟩
  ·
   refine Z3<|?_
   replace h:=lx h▸ho1
   exact⟨_,h,ES []⟩
 ·
  refine Tr<|Rm Y<|Rm Y<|bE h fun q2 h_q2 h=>Rq Y (Zie (ov Y) (ov Y) h_q2)<|Rm Y<|R2 Zhr Y<|R2 Zhr Y<|Rm Y<|R2 Jh Y<|Rm Y<|R2 Zhr Y<|bE h fun q3 h_q3 h=>Rq Y (Zhb (ov Y) (ov Y) h_q3)<|Ra Y<|Za<|I2 (fun whole part=>⟨[(0,.int .i64 n),(2,.int .i64 places),(8,.int .i64 whole),(9,.int .i64 scale),(10,.int .i64 part)],[]⟩) h (fun h=>?_) fun whole part h=>?_
  ·
   refine K5 0 2 8 9 10 Y<|Tr<|Rm Y<|Rm Y<|R2 Xs Y<|Za<|K6 0 2 8 9 10 38 Y<|If h Y (fun h=>?_) fun h=>?_
   ·
    exact K5 0 2 8 9 10 Y<|ZH<|Rm Y<|R2 Jh Y<|Ra Y<|Ra Y<|Za<|⟨_,h,ES []⟩
   ·
    exact Zf<|⟨_,h,ES []⟩
  ·
   refine Tr<|Rm Y<|bE h fun y h_y h=>Rq Y (Zm (ZdW h_y)<|.cons (ov Y) (.b Y) .nil)<|Ra Y<|Za<|I1 (fun out=>⟨[(0,.int .i64 n),(8,.int .i64 whole),(10,.int .i64 part),(11,.str out)],[]⟩) h (fun h=>?_) fun out h=>?_
   ·
    refine K6 0 2 8 9 10 11 Y<|Tr<|Rm Y<|R2 JC Y<|Za<|K6 0 8 9 10 11 44 Y<|If h Y (fun h=>?_) fun h=>?_
    ·
     exact K5 0 8 9 10 11 Y<|ZH<|Rm Y<|Rm Y<|Rm Y<|R2 Jh Y<|bE h fun y2 h_y2 h=>Rq Y (Zm (ZdW h_y2)<|.cons (ov Y) (.b Y) .nil)<|bE h fun s h_s h=>Rq Y (Ja (ov Y) QB (oi<|ov Y) on h_s)<|bE h fun s2 h_s2 h=>Rq Y (ZfM (ov Y) (ov Y) h_s2)<|bE h fun s3 h_s3 h=>Rq Y (ZfM (ov Y) (ov Y) h_s3)<|Ra Y<|Za<|⟨_,h,ES []⟩
    ·
     exact Zf<|⟨_,h,ES []⟩
   ·
    refine Zt<|Tr<|Rm Y<|R2 QE Y<|Rm Y<|Rq Y (.guarded ((decide (n<0))==true) Y Y Y Y fun h=>Zg<|ov Y)<|Rq Y (.guarded ((decide (n<0))==true) Y Y Y Y fun h=>JC (ow Y h)<|ov Y)<|Rq Y (.guarded ((decide (n<0))==true) Y Y Y Y fun h=>Zg<|ow Y h)<|Rq Y (.guarded2 (((decide (n<0))==true)&&((decide (0<whole))==false)) Y Y Y Y fun h=>Zg<|ov Y)<|Rq Y (.guarded2 (((decide (n<0))==true)&&((decide (0<whole))==false)) Y Y Y Y fun h=>JC (ow Y h)<|ov Y)<|Rq Y (.guarded ((decide (n<0))==true) Y Y Y Y fun h=>Zab (ow Y h) fun hp=>ow Y<|gA h<|gF hp)<|Rq Y (XT (ov Y) fun hp=>ow Y<|gT hp)<|Za<|K2 11 62 Y<|If h Y (fun h=>?_) fun h=>?_
    ·
     refine K1 11 Y<|Tr<|Rm Y<|bE h fun s4 h_s4 h=>Rq Y (ZfM (ov Y) (ov Y) h_s4)<|Ra Y<|Za<|?_
     obtain rfl:=rt h
     exact Zj (ZD Y (.one<|rb Y))
    ·
     refine Zf<|K1 11 Y<|Tr<|Rm Y<|Ra Y<|Za<|?_
     obtain rfl:=rt h
     exact Zj (ZD Y (.one<|rb Y))
theorem Zgi{i:api_Instrument}{n:Int}{r:Int}(h:JQ i n=some r):
 CSpec Tryz.prog gl0 122 [.agg [.int .i64 i.Kind,.str i.Name,.str i.Track,.int .i64 i.Places,.int .i64 i.Low,.int .i64 i.High,.int .i64 i.Steps,.sl 136 (List.map R136 i.Zones),.int .i64 i.Op,.int .i64 i.N,.bool i.Latch,.int .i64 i.Size],.int .i64 n] (.int .i64 r):=by
 unfold JQ at h
 replace h:=Z9 h
 refine So Tryz.func122 Y fun w0 A=>Tr<|Rq Y (Qn (cva<|ov Y) Y tZ_49 Y)<|Ra Y<|Za<|Zt<|Zr<|K2 1 2 Y<|Tr<|Rm Y<|Rq Y (Ze (ov Y) Zf3)<|Rq Y (Zc (ov Y) tS3 Y)<|R2 ZcL Y<|Ra Y<|Za<|K3 1 2 5 Y<|If h Y (fun h=>?_) fun h=>?_
 ·
  refine K0<|Tr<|Ra Y<|Za<|?_
  obtain rfl:=rt h
  exact Zj (ZD Y (.one<|rb Y))
 ·
  refine K2 1 2 Y<|Tr<|Rm Y<|Rq Y (Ze (ov Y) Zhc)<|Rq Y (Zc (ov Y) tS3 Y)<|R2 ZbN Y<|Ra Y<|Za<|K3 1 2 10 Y<|If h Y (fun h=>?_) fun h=>?_
  ·
   refine K1 2 Y<|Tr<|Rq Y (Ze (ov Y) Zim)<|Rq Y (Zc (ov Y) tS3 Y)<|Ra Y<|Za<|?_
   obtain rfl:=rt h
   exact Zj (ZD Y (.one<|rb Y))
  ·
   refine Zf<|K2 1 2 Y<|Tr<|Rm Y<|Rq Y (Ze (ov Y) Zf3)<|Rq Y (Zc (ov Y) tS3 Y)<|R2 Zda Y<|Rq Y (Ze (ov Y) Zim)<|Rq Y (Zc (ov Y) tS3 Y)<|R2 Zhr Y<|Rq Y (Ze (ov Y) Zhc)<|Rq Y (Zc (ov Y) tS3 Y)<|Rq Y (Ze (ov Y) Zf3)<|Rq Y (Zc (ov Y) tS3 Y)<|R2 Zda Y<|bE h fun q h_q h=>Rq Y (Zhb (ov Y) (ov Y) h_q)<|Ra Y<|Za<|?_
   obtain rfl:=rt h
   exact Zj (ZD Y (.one<|rb Y))
theorem Zgl{i:api_Instrument}{n:Int}{r:Str}(h:Jl i n=some r):
 CSpec Tryz.prog gl0 123 [.agg [.int .i64 i.Kind,.str i.Name,.str i.Track,.int .i64 i.Places,.int .i64 i.Low,.int .i64 i.High,.int .i64 i.Steps,.sl 136 (List.map R136 i.Zones),.int .i64 i.Op,.int .i64 i.N,.bool i.Latch,.int .i64 i.Size],.int .i64 n] (.str r):=by
 unfold Jl at h
 replace h:=Z9 h
 refine So Tryz.func123 Y fun w0 A=>Tr<|Rq Y (Qn (cva<|ov Y) Y tZ_49 Y)<|Ra Y<|Za<|J0 (fun j=>(.inr j)) ⟨[],[]⟩ h (fun h=>?_) fun h=>?_
 ·
  refine K2 1 2 Y<|Tr<|Rq Y (Ze (ov Y) ZeL)<|Rq Y (Zc (ov Y) ZiU Y)<|Rl tZ_136 Zh0 Y<|Rm Y<|Za<|Zr<|?_
  obtain⟨r1,hl1,ho1⟩:=Zay h
  refine L1 (fun i2=>⟨[(1,.int .i64 n),(8,.sl 136 (List.map R136 i.Zones)),(9,.int .i64 (i.Zones.length:Int)),(10,.int .i64 i2)],[]⟩) hl1 (ES []) fun n1 i2 h=>?_
  unfold Q8 at h
  refine Tr<|R2 QE Y<|Za<|Zt<|If h Y (fun h=>?_) fun h=>?_
  ·
   refine Zf<|Zt<|Zr<|K4 1 8 9 10 Y<|Tr<|bE h fun x h_x h=>Rq Y (QX (ov Y) (ov Y) Zh0 h_x)<|Rq Y (ZB (ov Y) Zjo Y Y)<|Rx Y (Z8 (row:= [_,_,_]) 0 Y Zl1 Y tZ_136)<|Rx Y (Zq (ov Y) (ov Y) (ZE Zjo Y) Y Y Y (Nat.le_of_ble_eq_true Y) (Zd Y) Y)<|Za<|K5 1 6 8 9 10 Y<|Tr<|Rm Y<|Rq Y (Zb (ov Y) Y Y ZhS)<|Rq Y (Zo (ov Y) Y Y Y tS3 Y)<|Rq Y (Zb (ov Y) Y Y Zh6)<|Rq Y (Zo (ov Y) Y Y Y tS3 Y)<|bE h fun y h_y h=>Rq Y (Zm (Qj h_y)<|.cons (ov Y) (.b Y)<|.cons (ov Y) (.b Y)<|.cons (ov Y) (.b Y) .nil)<|Za<|K6 1 6 8 9 10 19 Y<|If h Y (fun h=>?_) fun h=>?_
   ·
    refine K1 6 Y<|Tr<|Rq Y (Zb (ov Y) Y Y Zjv)<|Rq Y (Zo (ov Y) Y Y Y tS9 Y)<|Ra Y<|Za<|?_
    replace h:=lx h▸ho1
    obtain rfl:=rt h
    exact Zj (ZD Y (.one<|rb Y))
   ·
    exact Zf<|K4 1 8 9 10 Y<|ZH<|R2 Jh Y<|Rm Y<|Za<|⟨_,h,ES []⟩
  ·
   refine Z3<|?_
   replace h:=lx h▸ho1
   exact⟨(),h,ES []⟩
 ·
  replace h:=elr h
  replace h:=t0i h
  refine Tr<|Ra Y<|Za<|?_
  obtain rfl:=rt h
  exact Zj (ZD Y (.one<|rb Y))
theorem ZkS{l:List Str}{sep r:Str}(h:Zg8 l sep=some r):CSpec Tryz.prog gl0 124 [.sl 9 (l.map R9),.str sep] (.str r):=
  Zkw (by kernel_rfl) (by kernel_rfl) (fun a c sep w=>Any.strings_Join_none Tryz.lays156 Tryz.Builder_Extra_156 a c sep w) (fun bk o c xs sep w=>Any.strings_Join Tryz.lays156 Tryz.Builder_Extra_156 bk o c xs sep w) h
theorem Zhx{i:api_Instrument}{m:api_Memo}{den:Int}{x:api_Sample}{known:Bool}{r:api_Face}(h:XD i m den x known=some r):
 CSpec Tryz.prog gl0 89 [.agg [.int .i64 i.Kind,.str i.Name,.str i.Track,.int .i64 i.Places,.int .i64 i.Low,.int .i64 i.High,.int .i64 i.Steps,.sl 136 (List.map R136 i.Zones),.int .i64 i.Op,.int .i64 i.N,.bool i.Latch,.int .i64 i.Size],.agg [.bool m.Lit,.bool m.Some,.int .i64 m.N,.int .i64 m.Count,.sl 3 (List.map R3 m.Tape)],.int .i64 den,.agg [.int .i64 x.At,.int .i64 x.N,.int .i64 x.Mark],.bool known] (.agg [.str r.Text,.int .i64 r.Needle,.bool r.Lit,.int .i64 r.Mark]):=by
 unfold XD at h
 replace h:=Z9 h
 refine So Tryz.func89 Y fun w0 A=>Tr<|Rq Y (Qn (cva<|ov Y) Y tZ_49 Y)<|Rq Y (Qn (cva<|ov Y) Y tZ_99 Y)<|Rq Y (Qn (cva<|ov Y) Y tZ_56 Y)<|Rx Y (Z8 (row:= [_,_,_,_]) 0 Y Zk5 Y tZ_39)<|Za<|K6 2 4 5 6 8 10 Y<|Tr<|Rq Y (Ze (ov Y) ZgI)<|Rq Y (Zc (ov Y) tS3 Y)<|Rq Y (Ze (ov Y) ZeK)<|Rq Y (Zc (ov Y) tS4 Y)<|Rq Y (ZaC (ys:= [_,_,_,_]) Zl9 Zl2 Zk5 (.cons (cvs (ov Y)<|ZX Y)<|.cons (cvs (ov Y)<|ZX Y)<|.cons (cvs (ov Y)<|ZX Y) .nil) Y)<|Rx Y (Z8 (row:= [_,_,_,_]) 1 Y Zk5 Y tZ_39)<|Rx Y (Zq (ov Y) (ov Y) (ZE ZkM Y) Y Y Y (Nat.le_of_ble_eq_true Y) (Zd Y) Y)<|Za<|I1 (fun out=>⟨[(10,.ptr 0 1 0 0),(11,.ptr 1 1 0 0)],[some ⟨39,[[.str [],.int .i64 0,.bool false,.int .i64 0]]⟩,some ⟨39,[[.str out.Text,.int .i64 out.Needle,.bool out.Lit,.int .i64 out.Mark]]⟩]⟩) h (fun h=>?_) fun out h=>?_
 ·
  refine K7 2 4 5 6 8 10 11 Y<|Tr<|Rq Y (Ze (ov Y) Zcp)<|Rq Y (Zc (ov Y) tS3 Y)<|Za<|Zr<|K8 2 4 5 6 8 10 11 21 Y<|Tr<|R2 Xs Y<|Ra Y<|Za<|K9 2 4 5 6 8 10 11 21 22 Y<|If h Y (fun h=>?_) fun h=>?_
  ·
   refine K6 2 4 5 8 10 11 Y<|Tr<|Rm Y<|Za<|K6 2 5 8 10 11 24 Y<|If h Y (fun h=>?_) fun h=>?_
   ·
    exact K5 2 5 8 10 11 Y<|ZH<|Rq Y (Ze (ov Y) Ze6)<|Rq Y (Zc (ov Y) tS3 Y)<|Rm Y<|Rq Y (Ze (ov Y) ZfL)<|Rq Y (Zc (ov Y) tS3 Y)<|bE h fun y h_y h=>Rq Y (Zm (Zb0 h_y)<|.cons (ov Y) (.b Y)<|.cons (ov Y) (.b Y)<|.cons (ov Y) (.b Y) .nil)<|Rq Y (Zb (ov Y) Y Y Zdz)<|Rx Y (Zq (ov Y) (ov Y) (Zv tS9) Y Y Y (Nat.le_of_ble_eq_true Y) (Zd Y) Y)<|Za<|⟨_,h,ES [some 0,some 1]⟩
   ·
    exact Zf<|⟨_,h,ES [some 0,some 1]⟩
  ·
   refine K8 2 4 5 6 8 10 11 21 Y<|Tr<|R2 Xs Y<|Ra Y<|Za<|K9 2 4 5 6 8 10 11 21 32 Y<|If h Y (fun h=>?_) fun h=>?_
   ·
    refine K5 4 5 8 10 11 Y<|Tr<|Rm Y<|Za<|K5 5 8 10 11 34 Y<|If h Y (fun h=>?_) fun h=>?_
    ·
     exact K4 5 8 10 11 Y<|Zc6 (cw:=md0) (by kernel_rfl)<|Dq 0 Y (ZB (ov Y) Zds Y Y)<|Dq 1 Y (Ze (ov Y) Ze6)<|Dq 2 Y (Zc (ov Y) tS3 Y)<|bE h fun y2 h_y2 h=>Dq 3 Y (Zm (Zgi h_y2)<|.cons (ov Y) (.aggB Y)<|.cons (ov Y) (.b Y) .nil)<|Dq 4 Y (ZB (ov Y) Zds Y Y)<|Dq 5 Y (Ze (ov Y) Ze6)<|Dq 6 Y (Zc (ov Y) tS3 Y)<|bE h fun y3 h_y3 h=>Dq 7 Y (Zm (Zgl h_y3)<|.cons (ov Y) (.aggB Y)<|.cons (ov Y) (.b Y) .nil)<|Dq 8 Y (Zb (ov Y) Y Y Zmn)<|Do 9 Y (Zq (ov Y) (ov Y) (Zv tS3) Y Y Y (Nat.le_of_ble_eq_true Y) (Zd Y) Y)<|Dq 10 Y (Zb (ov Y) Y Y Zdz)<|Do 11 Y (Zq (ov Y) (ov Y) (Zv tS9) Y Y Y (Nat.le_of_ble_eq_true Y) (Zd Y) Y)<|Dd<|⟨_,h,ES [some 0,some 1]⟩
    ·
     exact Zf<|⟨_,h,ES [some 0,some 1]⟩
   ·
    refine K7 2 4 5 6 10 11 21 Y<|Tr<|R2 Xs Y<|Ra Y<|Za<|K8 2 4 5 6 10 11 21 45 Y<|If h Y (fun h=>?_) fun h=>?_
    ·
     refine K4 4 6 10 11 Y<|Tr<|Rq Y (Ze (ov Y) ZeK)<|Rq Y (Zc (ov Y) tS4 Y)<|Za<|K4 4 10 11 48 Y<|If h Y (fun h=>?_) fun h=>?_
     ·
      exact K2 10 11 Y<|ZH<|Rq Y (Zb (ov Y) Y Y Zdz)<|Rx Y (Zq (ov Y) (ov Y) (Zv tS9) Y Y Y (Nat.le_of_ble_eq_true Y) (Zd Y) Y)<|Za<|⟨_,h,ES [some 0,some 1]⟩
     ·
      refine K3 4 10 11 Y<|Tr<|Rm Y<|Za<|K3 10 11 50 Y<|If h Y (fun h=>?_) fun h=>?_
      ·
       exact K2 10 11 Y<|ZH<|Rq Y (Zb (ov Y) Y Y Zdz)<|Rx Y (Zq (ov Y) (ov Y) (Zv tS9) Y Y Y (Nat.le_of_ble_eq_true Y) (Zd Y) Y)<|Za<|⟨_,h,ES [some 0,some 1]⟩
      ·
       exact Zf<|⟨_,h,ES [some 0,some 1]⟩
    ·
     refine K6 2 5 6 10 11 21 Y<|Tr<|R2 Xs Y<|Ra Y<|Za<|K7 2 5 6 10 11 21 52 Y<|If h Y (fun h=>?_) fun h=>?_
     ·
      refine K5 2 5 6 10 11 Y<|Tr<|Rq Y (Ze (ov Y) Zi0)<|Rq Y (Zc (ov Y) tS4 Y)<|Za<|K6 2 5 6 10 11 55 Y<|If h Y (fun h=>?_) fun h=>?_
      ·
       exact K5 2 5 6 10 11 Y<|ZH<|Rq Y (Ze (ov Y) ZiY)<|Rq Y (Zc (ov Y) tS3 Y)<|Rm Y<|Rq Y (Ze (ov Y) ZfL)<|Rq Y (Zc (ov Y) tS3 Y)<|bE h fun y4 h_y4 h=>Rq Y (Zm (Zb0 h_y4)<|.cons (ov Y) (.b Y)<|.cons (ov Y) (.b Y)<|.cons (ov Y) (.b Y) .nil)<|Rq Y (Zb (ov Y) Y Y Zdz)<|Rx Y (Zq (ov Y) (ov Y) (Zv tS9) Y Y Y (Nat.le_of_ble_eq_true Y) (Zd Y) Y)<|Za<|⟨_,h,ES [some 0,some 1]⟩
      ·
       exact Zf<|⟨_,h,ES [some 0,some 1]⟩
     ·
      refine K6 2 5 6 10 11 21 Y<|Tr<|R2 Xs Y<|Ra Y<|Za<|K7 2 5 6 10 11 21 63 Y<|If h Y (fun h=>?_) fun h=>?_
      ·
       exact K3 6 10 11 Y<|ZH<|Rq Y (Ze (ov Y) Zi3)<|Rq Y (Zc (ov Y) tS3 Y)<|bE h fun y5 h_y5 h=>Rq Y (Zm (ZdW h_y5)<|.cons (ov Y) (.b Y) .nil)<|Rq Y (Zb (ov Y) Y Y Zdz)<|Rx Y (Zq (ov Y) (ov Y) (Zv tS9) Y Y Y (Nat.le_of_ble_eq_true Y) (Zd Y) Y)<|Za<|⟨_,h,ES [some 0,some 1]⟩
      ·
       refine K6 2 5 6 10 11 21 Y<|Tr<|R2 Xs Y<|Ra Y<|Za<|K6 2 5 6 10 11 69 Y<|If h Y (fun h=>?_) fun h=>?_
       ·
        refine K5 2 5 6 10 11 Y<|Tr<|Ra Y<|Za<|I1 (fun l=>⟨[(10,.ptr 0 1 0 0),(11,.ptr 1 1 0 0),(12,.own 2 l.length)],[some ⟨39,[[.str [],.int .i64 0,.bool false,.int .i64 0]]⟩,some ⟨39,[[.str [45,45,45],.int .i64 0,.bool m.Lit,.int .i64 x.Mark]]⟩,some ⟨9,List.map R9 l⟩]⟩) h (fun h=>?_) fun l h=>?_
        ·
         refine Tr<|Rq Y (Ze (ov Y) Zdy)<|Rq Y (Zc (ov Y) ZhO Y)<|Rl tZ_3 Zdh Y<|Rm Y<|Za<|Zr<|?_
         obtain⟨r1,hl1,ho1⟩:=Zay h
         refine L2 (fun l2 i2=>⟨[(2,.int .i64 den),(5,.rp [.int .i64 i.Kind,.str i.Name,.str i.Track,.int .i64 i.Places,.int .i64 i.Low,.int .i64 i.High,.int .i64 i.Steps,.sl 136 (List.map R136 i.Zones),.int .i64 i.Op,.int .i64 i.N,.bool i.Latch,.int .i64 i.Size] 0),(10,.ptr 0 1 0 0),(11,.ptr 1 1 0 0),(12,.own 2 l2.length),(72,.sl 3 (List.map R3 m.Tape)),(73,.int .i64 (m.Tape.length:Int)),(74,.int .i64 i2)],[some ⟨39,[[.str [],.int .i64 0,.bool false,.int .i64 0]]⟩,some ⟨39,[[.str [45,45,45],.int .i64 0,.bool m.Lit,.int .i64 x.Mark]]⟩,some ⟨9,List.map R9 l2⟩]⟩) hl1 (ES [some 0,some 1,none]) fun n1 l2 i2 h=>?_
         unfold XS at h
         refine Tr<|R2 QE Y<|Za<|Zt<|If h Y (fun h=>?_) fun h=>?_
         ·
          exact Zf<|Zt<|Zr<|K8 2 5 10 11 12 72 73 74 Y<|Tr<|bE h fun x2 h_x2 h=>Rq Y (QX (ov Y) (ov Y) Zdh h_x2)<|Rq Y (Zc (ov Y) tS3 Y)<|Ra Y<|Za<|K9 2 5 10 11 12 14 72 73 74 Y<|ZH<|Rm Y<|Rm Y<|Rm Y<|Rq Y (Ze (ov Y) ZfL)<|Rq Y (Zc (ov Y) tS3 Y)<|bE h fun y6 h_y6 h=>Rq Y (Zm (Zb0 h_y6)<|.cons (ov Y) (.b Y)<|.cons (ov Y) (.b Y)<|.cons (ov Y) (.b Y) .nil)<|R_q (.sl 9<|List.map R9 ([y6]:List Str)) Y (ZdF Zj9 (.cons (cvs (ov Y)<|ZX Y) Y (.cons (.b Y) .nil) .nil) Y Y)<|bE h fun l3 h_l3 h=>Rx Y (Zdk (ov Y) (ZbE (ov Y) tZ_9) Zj9 Y Y Y (fun _=>Zd Y) Y h_l3)<|Ra Y<|Za<|K8 2 5 10 11 12 72 73 74 Y<|ZH<|R2 Jh Y<|Rm Y<|Za<|⟨_,h,ES [some 0,some 1,some 2]⟩
         ·
          refine Z3<|?_
          replace h:=lx h▸ho1
          exact⟨_,h,ES [some 0,some 1,some 2]⟩
        ·
         refine Tr<|Rm Y<|Rq Y (Zef (ov Y) Y Y Zj9)<|R2 JC Y<|Za<|K4 10 11 12 89 Y<|If h Y (fun h=>?_) fun h=>?_
         ·
          exact K3 10 11 12 Y<|ZH<|Rm Y<|bE h fun y7 h_y7 h=>Rq Y (Zfy (ZkS h_y7) .str<|.cons (ov Y) (View.ownM Y Y D9)<|.cons (ov Y) (Dat.view<|.b Y) .nil)<|Rq Y (Zb (ov Y) Y Y Zdz)<|Rx Y (Zq (ov Y) (ov Y) (Zv tS9) Y Y Y (Nat.le_of_ble_eq_true Y) (Zd Y) Y)<|Za<|⟨_,h,ES [some 0,some 1]⟩
         ·
          exact Zf<|⟨_,h,ES [some 0,some 1]⟩
       ·
        exact Zf<|⟨_,h,ES [some 0,some 1]⟩
 ·
  refine Tr<|Rq Y (Qk (ov Y) Y Y Y ZkM Y Y)<|Rx Y (Zq (ov Y) (ov Y) (ZE ZkM Y) Y Y Y (Nat.le_of_ble_eq_true Y) (Zd Y) Y)<|Za<|?_
  obtain rfl:=rt h
  exact Zj (ZD Y (.one<|.agg Y Y Y Y ZkM Y Y<|pwB Y))
theorem ZgG{p:api_Panel}{l:List api_Track}{s:api_PanelState}{r:(List api_Face)}(h:Zaf p l s=some r):
 CSpec Tryz.prog gl0 45 [.agg [.sl 49 (List.map R49 p.Instruments)],.sl 54 (List.map R54 l),.agg [.int .i64 s.Frame,.sl 99 (List.map R99 s.Memos)]] (.sl 39 (List.map R39 r)):=by
 unfold Zaf at h
 replace h:=Z9 h
 refine So Tryz.func45 Y fun w0 A=>Tr<|Rq Y (Qn (cva<|ov Y) Y tZ_24 Y)<|Rq Y (Qn (cva<|ov Y) Y tZ_44 Y)<|Ra Y<|Za<|K3 1 3 5 Y<|Tr<|Ra Y<|Za<|I1 (fun out=>⟨[(7,.own 0 out.length)],[some ⟨39,List.map R39 out⟩]⟩) h (fun h=>?_) fun out h=>?_
 ·
  refine Tr<|Rq Y (Ze (ov Y) Zba)<|Rq Y (Zc (ov Y) Zfq Y)<|Rl tZ_49 Zc1 Y<|Rm Y<|Za<|Zr<|?_
  obtain⟨r1,hl1,ho1⟩:=Zay h
  refine L2 (fun out2 i=>⟨[(1,.sl 54 (List.map R54 l)),(5,.rp [.int .i64 s.Frame,.sl 99 (List.map R99 s.Memos)] 0),(7,.own 0 out2.length),(14,.sl 49 (List.map R49 p.Instruments)),(15,.int .i64 (p.Instruments.length:Int)),(16,.int .i64 i)],[some ⟨39,List.map R39 out2⟩]⟩) hl1 (ES [none]) fun n1 out2 i h=>?_
  unfold Xy at h
  refine Tr<|R2 QE Y<|Za<|Zt<|If h Y (fun h=>?_) fun h=>?_
  ·
   refine Zf<|Zt<|Zr<|K6 1 5 7 14 15 16 Y<|Tr<|Rm Y<|bE h fun x h_x h=>Rq Y (QX (ov Y) (ov Y) Zc1 h_x)<|Rq Y (ZB (ov Y) Zds Y Y)<|Rx Y (Z8 (row:= [_,_,_,_,_,_,_,_,_,_,_,_]) 1 Y ZkE Y tZ_49)<|Ra Y<|Rx Y (Zq (ov Y) (ov Y) (ZE Zds Y) Y Y Y (Nat.le_of_ble_eq_true Y) (Zd Y) Y)<|Za<|K8 1 5 7 8 9 14 15 16 Y<|Tr<|Rm Y<|Rm Y<|Rq Y (Qk (ov Y) Y Y Y Zds Y Y)<|bE h fun y h_y h=>Rq Y (Zm (ZbA h_y)<|.cons (ov Y) (.b Y)<|.cons (ov Y) (.aggB Y) .nil)<|bE h fun x2 h_x2 h=>Rq Y (QX (ov Y) (ov Y) Zeq h_x2)<|Rq Y (ZB (ov Y) Zic Y Y)<|Rx Y (Z8 (row:= [_,_,_,_]) 2 Y Zlz Y tZ_54)<|Rx Y (Zq (ov Y) (ov Y) (ZE Zic Y) Y Y Y (Nat.le_of_ble_eq_true Y) (Zd Y) Y)<|Za<|K9 1 5 7 8 9 10 14 15 16 Y<|Tr<|Rx Y (Z8 (row:= [_,_,_]) 3 Y Zio Y tZ_56)<|Za<|Tr<|Ra Y<|Za<|I2 (fun x3 known=>⟨[(1,.sl 54 (List.map R54 l)),(5,.rp [.int .i64 s.Frame,.sl 99 (List.map R99 s.Memos)] 0),(7,.own 0 out2.length),(8,.int .i64 i),(9,.ptr 1 1 0 0),(10,.ptr 2 1 0 0),(11,.ptr 3 1 0 0),(12,.bool known),(14,.sl 49 (List.map R49 p.Instruments)),(15,.int .i64 (p.Instruments.length:Int)),(16,.int .i64 i)],[some ⟨39,List.map R39 out2⟩,some ⟨49,[[.int .i64 x.Kind,.str x.Name,.str x.Track,.int .i64 x.Places,.int .i64 x.Low,.int .i64 x.High,.int .i64 x.Steps,.sl 136 (List.map R136 x.Zones),.int .i64 x.Op,.int .i64 x.N,.bool x.Latch,.int .i64 x.Size]]⟩,some ⟨54,[[.str x2.Name,.int .i64 x2.Series.Den,.sl 56 (List.map R56 x2.Series.Samples),.int .i64 x2.Long]]⟩,some ⟨56,[[.int .i64 x3.At,.int .i64 x3.N,.int .i64 x3.Mark]]⟩]⟩) h (fun h=>?_) fun x3 known h=>?_
   ·
    refine Tr<|Rq Y (Ze (ov Y) Zbg)<|Rq Y (Zc (ov Y) tS3 Y)<|R2 ZbN Y<|Za<|K12 1 5 7 8 9 10 11 12 14 15 16 29 Y<|If h Y (fun h=>?_) fun h=>?_
    ·
     exact K11 1 5 7 8 9 10 11 12 14 15 16 Y<|ZH<|Rq Y (Qk (ov Y) Y Y Y Zic Y Y)<|Rq Y (Ze (ov Y) Zbg)<|Rq Y (Zc (ov Y) tS3 Y)<|bE h fun y2 h_y2 h=>Rq Y (Zm (Zd4 h_y2)<|.cons (ov Y) (.aggB Y)<|.cons (ov Y) (.b Y) .nil)<|Rm Y<|Rq Y (Zx (ov Y) Y)<|Rq Y (Zx (ov Y) Y)<|Rx Y (Zq (ov Y) (ov Y) (ZE ZdA Y) Y Y Y (Nat.le_of_ble_eq_true Y) (Zd Y) Y)<|Ra Y<|Za<|⟨_,h,ES [some 0,some 1,some 2,some 3]⟩
    ·
     exact Zf<|⟨_,h,ES [some 0,some 1,some 2,some 3]⟩
   ·
    exact Zc6 (cw:=md0) (by kernel_rfl)<|D1 0 Zg Y<|Dq 1 Y (Qk (ov Y) Y Y Y Zds Y Y)<|Dq 2 Y (Ze (ov Y) Za5)<|Dq 3 Y (Zc (ov Y) Zft Y)<|D1 4 Zg Y<|bE h fun x4 h_x4 h=>Dq 5 Y (QX (ov Y) (ov Y) Zfm h_x4)<|Dq 6 Y (ZB (ov Y) Ziq Y Y)<|Dq 7 Y (Zb (ov Y) Y Y ZeU)<|Dq 8 Y (Zb (ov Y) Y Y ZiV)<|Dq 9 Y (Zo (ov Y) Y Y Y tS3 Y)<|Dq 10 Y (Qk (ov Y) Y Y Y ZdA Y Y)<|D1 11 Zg Y<|bE h fun y3 h_y3 h=>Dq 12 Y (Zm (Zhx h_y3)<|.cons (ov Y) (.aggB Y)<|.cons (ov Y) (.aggB Y)<|.cons (ov Y) (.b Y)<|.cons (ov Y) (.aggB Y)<|.cons (ov Y) (.b Y) .nil)<|Zkh 13 (.sl 39<|List.map R39 ([y3]:List api_Face)) Y (by kernel_rfl) Y Y (ZdF Zje (.cons (cva<|ov Y) Y (pwD Y) .nil) Y Y)<|bE h fun l2 h_l2 h=>Do 14 Y (Zdk (ov Y) (ZbE (ov Y) tZ_39) Zje Y Y Y (fun _=>Zd Y) Y h_l2)<|D1 15 Zaw Y<|Dd<|K6 1 5 7 14 15 16 Y<|ZH<|R2 Jh Y<|Rm Y<|Za<|⟨_,h,ES [some 0]⟩
  ·
   refine Z3<|?_
   replace h:=lx h▸ho1
   exact⟨_,h,ES [some 0]⟩
 ·
  refine Tr<|Rm Y<|Ra Y<|Za<|?_
  obtain rfl:=rt h
  exact Zj (ZD Y (.one<|.tmp Y<|View.ownM Y Y D39))
theorem Z2{x:List api_PanelState}{target:Int}{cmp:api_PanelState→Int→Option Int}{r:Int×Bool}{cmp_f:FuncId}{cmp_c:List AV}(cmp_d:cmp_c.all datB=true)(cmp_h: ∀ (z0:api_PanelState) (z1:Int) z,cmp z0 z1=some z→CSpec Tryz.prog gl0 cmp_f ([.agg [.int .i64 z0.Frame,.sl 99 (List.map R99 z0.Memos)],.int .i64 z1]++cmp_c) (.int .i64 z))(h:Zs x target cmp=some r):
 CSpec Tryz.prog gl0 85 [.sl 44 (List.map R44 x),.int .i64 target,.fn cmp_f cmp_c] (.tuple [.int .i64 r.1,.bool r.2]):=by
 unfold Zs at h
 replace h:=Z9 h
 refine So Tryz.func85 Y fun w0 A=>Tr<|Ra Y<|Ra Y<|Za<|K3 0 1 2 Y<|Tr<|Rm Y<|Rl tZ_44 Jf Y<|Ra Y<|Za<|K4 0 1 2 8 Y<|Tr<|Rm Y<|Ra Y<|Ra Y<|Za<|I1 (fun i=>⟨[(0,.sl 44 (List.map R44 x)),(1,.int .i64 target),(2,.fn cmp_f cmp_c),(8,.int .i64 (x.length:Int)),(9,.int .i64 i)],[]⟩) h (fun h=>?_) fun i h=>?_
 ·
  refine Zr<|?_
  obtain⟨r1,hl1,ho1⟩:=Zay h
  refine L2 (fun i2 j=>⟨[(0,.sl 44 (List.map R44 x)),(1,.int .i64 target),(2,.fn cmp_f cmp_c),(8,.int .i64 (x.length:Int)),(9,.int .i64 i2),(10,.int .i64 j)],[]⟩) hl1 (ES []<|sd 0 Y Y<|sd 1 Y Y<|sr 2 Y (rFn<|rld cmp_d)<|sd 8 Y Y<|sd 9 Y Y<|sd 10 Y Y sn) fun n1 i2 j h=>?_
  unfold Zl at h
  refine Zt<|Tr<|Rm Y<|Rm Y<|R2 QE Y<|Za<|K7 0 1 2 8 9 10 17 Y<|If h Y (fun h=>?_) fun h=>?_
  ·
   refine Zf<|Zr<|K6 0 1 2 8 9 10 Y<|Tr<|Rm Y<|Rm Y<|R2 Jh Y<|Rq Y (ZeQ (ov Y) tI3 ZjK Y)<|bE h fun q h_q h=>Rq Y (Zkn (ov Y) (ov Y) h_q)<|Rq Y (ZeQ (ov Y) ZjK tI3 Y)<|Ra Y<|Za<|K7 0 1 2 8 9 10 11 Y<|Tr<|Rm Y<|Rm Y<|Rm Y<|bE h fun x2 h_x2 h=>Rq Y (QX (ov Y) (ov Y) Jf h_x2)<|Rq Y (ZB (ov Y) ZaO Y Y)<|Rm Y<|bE h fun y h_y h=>Rq Y (Zbi (ov Y) cmp_d (cmp_h _ _ _ h_y)<|.cons (ov Y) (.aggB Y)<|.cons (ov Y) (.b Y) .nil)<|R2 QE Y<|Za<|K8 0 1 2 8 9 10 11 31 Y<|If h Y (fun h=>?_) fun h=>?_
   ·
    exact K7 0 1 2 8 9 10 11 Y<|ZH<|Rm Y<|R2 Jh Y<|Ra Y<|Za<|⟨_,h,ES []<|sd 0 Y Y<|sd 1 Y Y<|sr 2 Y (rFn<|rld cmp_d)<|sd 8 Y Y<|sd 9 Y Y<|sd 10 Y Y sn⟩
   ·
    exact K7 0 1 2 8 9 10 11 Y<|ZH<|Rm Y<|Ra Y<|Za<|⟨_,h,ES []<|sd 0 Y Y<|sd 1 Y Y<|sr 2 Y (rFn<|rld cmp_d)<|sd 8 Y Y<|sd 9 Y Y<|sd 10 Y Y sn⟩
  ·
   refine Z3<|?_
   replace h:=lx h▸ho1
   exact⟨_,h,ES []<|sd 0 Y Y<|sd 1 Y Y<|sr 2 Y (rFn<|rld cmp_d)<|sd 8 Y Y<|sd 9 Y Y sn⟩
 ·
  refine Tr<|Rm Y<|Rm Y<|Rm Y<|R2 QE Y<|Rm Y<|Rq Y (.guarded ((decide (i<(x.length:Int)))==true) Y Y Y Y fun h=>Zg<|ov Y)<|Rq Y (.guarded ((decide (i<(x.length:Int)))==true) Y Y Y Y fun h=>Zg<|ov Y)<|Rq Y (.guarded ((decide (i<(x.length:Int)))==true) Y Y Y Y fun h=>Zg<|ov Y)<|bE h fun x3 h_x3 h=>Rq Y (.guarded ((decide (i<(x.length:Int)))==true) Y Y Y Y fun h=>QX (ow Y h) (ow Y h) Jf<|gdT h_x3 h)<|Rq Y (.guarded ((decide (i<(x.length:Int)))==true) Y Y Y Y fun h=>ZB (ow Y h) ZaO Y Y)<|Rq Y (.guarded ((decide (i<(x.length:Int)))==true) Y Y Y Y fun h=>Zg<|ov Y)<|bE h fun y2 h_y2 h=>Rq Y (.guarded ((decide (i<(x.length:Int)))==true) Y Y Y Y fun h=>Zbi (ow Y h) cmp_d (cmp_h _ _ _<|gdT h_y2 h)<|.cons (ow Y h) (.aggB Y)<|.cons (ow Y h) (.b Y) .nil)<|Rq Y (.guarded ((decide (i<(x.length:Int)))==true) Y Y Y Y fun h=>Xs (ow Y h)<|ov Y)<|Rq Y (XT (ov Y) fun hp=>ow Y<|gT hp)<|Ra Y<|Ra Y<|Za<|?_
  obtain rfl:=rt h
  exact Zj (ZD Y (.two (rb Y)<|rb Y))
theorem ZaJ{s:api_PanelState}{frame:Int}{r:Int}(h:Z4 s frame=some r):
 CSpec Tryz.prog gl0 86 [.agg [.int .i64 s.Frame,.sl 99 (List.map R99 s.Memos)],.int .i64 frame] (.int .i64 r):=by
 unfold Z4 at h
 replace h:=Z9 h
 refine So Tryz.func86 Y fun w0 A=>Tr<|Rq Y (Qn (cva<|ov Y) Y tZ_44 Y)<|Ra Y<|Za<|K3 1 2 4 Y<|Tr<|Rq Y (Ze (ov Y) Zbg)<|Rq Y (Zc (ov Y) tS3 Y)<|Rm Y<|R2 Zda Y<|Ra Y<|Za<|?_
 obtain rfl:=rt h
 exact Zj (ZD Y (.one<|rb Y))
theorem JD{r_:panel_Replay}{frame:Int}{r:Int×Bool}(h:ZP r_ frame=some r):
 GSpec Tryz.prog gl0 43 [.ptr 0 1 0 0,.int .i64 frame] [some ⟨91,[[.sl 49 (List.map R49 r_.p.Instruments),.sl 54 (List.map R54 r_.l),.int .i64 r_.keep,.int .i64 r_.state.Frame,.own 1 r_.state.Memos.length,.own 2 r_.kept.length,.own 3 r_.marks.length]]⟩,some ⟨99,List.map R99 r_.state.Memos⟩,some ⟨44,List.map R44 r_.kept⟩,some ⟨120,List.map R120 r_.marks⟩] (.tuple [.int .i64 r.1,.bool r.2]) [some ⟨91,[[.sl 49 (List.map R49 r_.p.Instruments),.sl 54 (List.map R54 r_.l),.int .i64 r_.keep,.int .i64 r_.state.Frame,.own 4 r_.state.Memos.length,.own 5 r_.kept.length,.own 6 r_.marks.length]]⟩,none,none,none,some ⟨99,List.map R99 r_.state.Memos⟩,some ⟨44,List.map R44 r_.kept⟩,some ⟨120,List.map R120 r_.marks⟩]:=by
 unfold ZP at h
 replace h:=Z9 h
 refine XJ (by kernel_rfl) Tryz.func43 Y Y<|?_
 intro w0 A W φ0
 refine Zdf (Ent.sel [some 0,some 1,some 2,some 3,some 1,some 2,some 3] (sr 0 Y (.ptr (r':=0) _ _ _ Y)<|sd 1 Y Y sn) (.cons Y (ro1 (by exact tZ_91.symm)<|rlc (.dat Y)<|rlc (.dat Y)<|rlc (.dat Y)<|rlc (.dat Y)<|rlc (.own (r':=4) _ Y)<|rlc (.own (r':=5) _ Y)<|rlc (.own (r':=6) _ Y) rln)<|.dead<|.dead<|.dead<|.cons Y (roM D99)<|.cons Y (roM D44)<|.cons Y (roM D120) .nil) Y Y)<|Tr<|Ra Y<|Ra Y<|Za<|Tr<|Rm Y<|Rq Y (Zi (ov Y) Y Y)<|Rq Y (Zb (ov Y) Y Y Qx)<|Rq Y (Zo (ov Y) Y Y Y Jp Y)<|Rm Y<|bE h fun y h_y h=>Rq Y (Zfy (Z2 Y (fun z0 z1 _ hz=>ZaJ hz) h_y) (.tuple<|by simp only [List.mem_cons,List.not_mem_nil,or_false,forall_eq_or_imp,forall_eq];exact⟨.int,.bool⟩)<|.cons (ov Y) (View.ownM Y Y D44)<|.cons (ov Y) (Dat.view<|.b Y)<|.cons (ov Y) (Dat.view .fn) .nil)<|Rq Y (Zx (ov Y) Y)<|Rq Y (Zx (ov Y) Y)<|Ra Y<|Ra Y<|Za<|?_
 obtain rfl:=rt h
 exact Zj<|ZcQ [some 0,some 1,some 2,some 3,some 4,some 5,some 6] Y (.cons (.tmp Y)<|.cons (.tmp Y) .nil) (.cons Y (ro1 (by exact tZ_91.symm)<|rlc (.dat Y)<|rlc (.dat Y)<|rlc (.dat Y)<|rlc (.dat Y)<|rlc (.own _ Y)<|rlc (.own _ Y)<|rlc (.own _ Y) rln)<|.dead<|.dead<|.dead<|.cons Y (roM D99)<|.cons Y (roM D44)<|.cons Y (roM D120) .nil) Y Y<|Zb4<|rlc (.dat Y)<|rlc (.dat Y) rln
theorem Zfw{xs r:List api_Memo}(h:JX xs=some r):
 GSpec Tryz.prog gl0 83 [.sl 99 (List.map R99 xs)] [] (.own 0 r.length) [some ⟨99,List.map R99 r⟩]:=by
 have h2:app [] xs=some r:=h
 refine XJ (by kernel_rfl) Tryz.func83 Y Y<|?_
 intro w0 A W φ0
 refine Tr<|Ra Y<|Za<|Zt<|Zt<|ZH<|Rm Y<|Zdx (ov Y) Zmr Y fun b hb=>?_
 refine Za<|Zd6 Y (fun hb2=>?_) fun hb2=>?_
 ·
  obtain rfl:xs= []:=by simpa using hb hb2
  obtain rfl:r= []:=by simpa [app,apz] using h2.symm
  exact Tr<|Ra Y<|Za<|Zj<|ZcQ [none] Y (.cons (.tmp Y) .nil) (.row 99 .nil) Y Y<|.row Y
 ·
  exact Zf<|Tr<|Rx Y (Xg (r:=0) (xs:= []) (f:=R99) Y Zfm .nil Y Y Y)<|Rm Y<|Rx Y (ZaZ (ov Y) (ZbE (ov Y) tZ_99) Zfm Y Y (fun _=>Zd Y) Y h2)<|Ra Y<|Za<|Zj<|ZcQ [some 0] Y (.cons (.tmp Y) .nil) (.cons Y (roM D99) .nil) Y Y<|.own _ Y
theorem ZhC{xs r:List Int}(h:JX xs=some r):
 CSpec Tryz.prog gl0 84 [.sl 3 (List.map R3 xs)] (.sl 3 (List.map R3 r)):=by
 have h2:app [] xs=some r:=h
 refine So Tryz.func84 Y fun w0 A=>Tr<|Ra Y<|Za<|Zt<|Zt<|ZH<|Rm Y<|Zdx (ov Y) ZkQ Y fun b hb=>?_
 refine Za<|Zd6 Y (fun hb2=>?_) fun hb2=>?_
 ·
  obtain rfl:xs= []:=by simpa using hb hb2
  obtain rfl:r= []:=by simpa [app,apz] using h2.symm
  refine Tr<|Ra Y<|Za<|Zj<|ZD Y<|.one<|.tmp Y<|View.nils _
 ·
  refine Zf<|Tr<|Rx Y (Xg (r:=0) (xs:= []) (f:=R3) Y Zdh .nil Y Y Y)<|Rm Y<|Rx Y (ZaZ (ov Y) (ZbE (ov Y) tZ_3) Zdh Y Y (fun _=>Zd Y) Y h2)<|Ra Y<|Za<|Zj<|ZD Y<|.one<|.tmp Y<|View.ownM Y Y D3
theorem Qw{s:api_PanelState}{r:api_PanelState}(h:Z5 s=some r):
 CSpec Tryz.prog gl0 42 [.agg [.int .i64 s.Frame,.sl 99 (List.map R99 s.Memos)]] (.agg [.int .i64 r.Frame,.sl 99 (List.map R99 r.Memos)]):=by
 unfold Z5 at h
 replace h:=Z9 h
 refine So Tryz.func42 Y fun w0 A=>Tr<|Rx Y (Zjn 0 Y (ov Y) ZaO Y)<|Rx Y (Z8 (row:= [_,_]) 1 Y Zhw Y tZ_44)<|Za<|K2 1 2 Y<|Tr<|Rq Y (Zb (ov Y) Y Y Za5)<|Rq Y (Zo (ov Y) Y Y Y Zft Y)<|bE h fun y h_y h=>Rx Y (Q0 [] (Zfw h_y) (.cons (ov Y) (.dat Y) .nil) .nil Y (.keep Y Y<|.keep Y Y<|.lent 0 (.inr ⟨Nat.le_of_ble_eq_true Y,Y⟩) Y (roM D99) .nil) Y Y<|.own _<|.inr ⟨Nat.le_of_ble_eq_true Y,Y⟩)<|Rq Y (Zb (ov Y) Y Y Za5)<|Rx Y (Zq (ov Y) (ov Y) (Zv Zft) Y Y Y (Nat.le_of_ble_eq_true Y) (Zd Y) Y)<|Za<|I1 (fun Memos=>⟨[(1,.ptr 0 1 0 0),(2,.ptr 2 1 0 0)],[some ⟨44,[[.int .i64 s.Frame,.own 1 Memos.length]]⟩,some ⟨99,List.map R99 Memos⟩,some ⟨44,[[.int .i64 0,.nils]]⟩]⟩) h (fun h=>?_) fun Memos h=>?_
 ·
  refine K2 1 2 Y<|Tr<|Rq Y (Zb (ov Y) Y Y Za5)<|Rq Y (Zo (ov Y) Y Y Y Zft Y)<|Rq Y (Zef (ov Y) Y Y Zfm)<|Rm Y<|Za<|Zr<|?_
  obtain⟨r1,hl1,ho1⟩:=Zay h
  refine L2 (fun Memos2 i=>⟨[(1,.ptr 0 1 0 0),(2,.ptr 2 1 0 0),(10,.int .i64 (y.length:Int)),(11,.int .i64 i)],[some ⟨44,[[.int .i64 s.Frame,.own 1 Memos2.length]]⟩,some ⟨99,List.map R99 Memos2⟩,some ⟨44,[[.int .i64 0,.nils]]⟩]⟩) hl1 (ES [some 0,some 2,some 1]) fun n1 Memos2 i h=>?_
  unfold Qd at h
  refine Tr<|R2 QE Y<|Za<|Zt<|If h Y (fun h=>?_) fun h=>?_
  ·
   exact Zf<|Zt<|Zr<|K4 1 2 10 11 Y<|Tr<|Rm Y<|Ra Y<|Za<|K5 1 2 3 10 11 Y<|Zc6 (cw:=md0) (by kernel_rfl)<|Dq 0 Y (Zb (ov Y) Y Y Za5)<|Dq 1 Y (Zo (ov Y) Y Y Y Zft Y)<|D1 2 Zg Y<|Dq 3 Y (Zb (ov Y) Y Y Za5)<|Dq 4 Y (Zo (ov Y) Y Y Y Zft Y)<|D1 5 Zg Y<|bE h fun x h_x h=>Dq 6 Y (Zdv (ov Y) (ov Y) Zfm Y Y h_x)<|Dq 7 Y (J2 (ov Y) Y Y Zdy)<|Dq 8 Y (Zd0 (ov Y) Y Y h_x ZhO Y)<|bE h fun y2 h_y2 h=>Dq 9 Y (Zm (ZhC h_y2)<|.cons (ov Y) (.b Y) .nil)<|bE h fun x2 h_x2 h=>Dq 10 Y (Zdv (ov Y) (ov Y) Zfm Y Y h_x2)<|Dq 11 Y (J2 (ov Y) Y Y Zdy)<|Do 12 Y (Zd8 (u':=(api_Memo.mk x2.Lit x2.Some x2.N x2.Count y2)) (ov Y) (ov Y) (Zv ZhO) Y Y h_x2 Y (Zd Y) Y)<|Dd<|K4 1 2 10 11 Y<|ZH<|R2 Jh Y<|Rm Y<|Za<|⟨_,h,ES [some 0,some 1,some 2] (hhp:= .cons Y (ro1 (by exact tZ_44.symm)<|rlc (.dat Y)<|rlc (ZkD (Eq.symm<|(List.length_set ..).trans Y) Y) rln)<|.cons Y (roM D99)<|.cons Y (ro1 (by exact tZ_44.symm)<|rld Y) .nil)⟩
  ·
   refine Z3<|?_
   replace h:=lx h▸ho1
   exact⟨_,h,ES [some 0,some 1,some 2]⟩
 ·
  refine Tr<|Rq Y (Qk (ov Y) Y Y Y ZaO Y Y)<|Rx Y (Zq (ov Y) (ov Y) (ZE ZaO Y) Y Y Y (Nat.le_of_ble_eq_true Y) (Zd Y) Y)<|Za<|?_
  obtain rfl:=rt h
  exact Zj (ZD Y (.one<|.agg Y Y Y Y ZaO Y Y<|.cons (Dat.view<|.b Y)<|.cons (View.ownM Y Y D99) .nil))
set_option maxHeartbeats 4000000 in
set_option maxRecDepth 100000 in
open Go.Shelf Go.RowKit Go.Lib Go.Proofs in
theorem Zhl(vb voff vc:Nat)(v':Value)(w w':World)
 (hrun:(Builtin.append_ #[88,88] 88 #[.slice none 0 0,.slice (some ⟨vb,voff,none⟩) 1 vc]).run Tryz.prog w= .ok v' w'):
 Calls Tryz.prog 87 #[.slice none 0 0,.int .i64 (0:Nat),.slice (some ⟨vb,voff,none⟩) 1 vc] w fun e W=>e= .returned v'∧W=w':=by
 go_enter Tryz.func87,Tryz.ntmps87
 go_wp2_with (at_builtin;refine Lib.wpList_append_run _ rfl _ _ _ _ rfl _ _ rfl rfl _ _ hrun ?_)
 go_ret
 exact⟨Y,Y⟩
set_option maxHeartbeats 4000000 in
set_option maxRecDepth 100000 in
open Go.Shelf Go.RowKit Go.Lib Go.Proofs in
theorem Zh9(b n c vb voff vc:Nat)(v':Value)(w w':World)(hn:n≤c)(hc63:c≤9223372036854775807)
 (hrun:(Builtin.append_ #[88,88] 88 #[.slice (some ⟨b,0,none⟩) n c,.slice (some ⟨vb,voff,none⟩) 1 vc]).run Tryz.prog w= .ok v' w'):
 Calls Tryz.prog 87 #[.slice (some ⟨b,0,none⟩) n c,.int .i64 n,.slice (some ⟨vb,voff,none⟩) 1 vc] w fun e W=>e= .returned v'∧W=w':=by
 go_enter Tryz.func87,Tryz.ntmps87
 go_wp2_with (at_builtin;refine Lib.wpList_append_run _ rfl _ _ _ _ rfl _ _ rfl rfl _ _ hrun ?_)
 all_goals (go_ret;exact⟨rfl,rfl⟩)
set_option maxHeartbeats 4000000 in
set_option maxRecDepth 100000 in
open Go.Shelf Go.RowKit Go.Lib Go.Proofs in
theorem Zhu(b n c i vb voff vc:Nat)(w w1 w2:World)(hi:i<n)(hroom:n+1≤c)(hc63:c≤9223372036854775807)
 (hov: ∀ lb cb,(callFunc 118 #[.slice (some ⟨vb,voff,none⟩) 1 vc,.slice (some ⟨b,(i+1)*2,none⟩) lb cb]).run Tryz.prog w= .ok (.value (.bool false)) w)
 (hcp1: ∀ ty dc sc,(Builtin.copy_ #[88,88] ty #[.slice (some ⟨b,(i+1)*2,none⟩) (n-i) dc,.slice (some ⟨b,i*2,none⟩) (n+1-i) sc]).run Tryz.prog w.drew= .ok (goInt (n-i:Nat)) w1)
 (hcp2: ∀ ty dc,(Builtin.copy_ #[88,88] ty #[.slice (some ⟨b,i*2,none⟩) (n+1-i) dc,.slice (some ⟨vb,voff,none⟩) 1 vc]).run Tryz.prog w1= .ok (goInt 1) w2):
 Calls Tryz.prog 87 #[.slice (some ⟨b,0,none⟩) n c,.int .i64 i,.slice (some ⟨vb,voff,none⟩) 1 vc] w fun e w'=>
   e= .returned (.slice (some ⟨b,0,none⟩) (n+1) c)∧w'=w2:=by
 have mixed:Tryz.prog.follows .mixedOrders=true:=by kernel_rfl
 have hz2: ¬((i:Int)=(n:Int)):=by omega
 have hw1:IntKind.i64.wrap ((i:Int)+(1:Int))=(i:Int)+(1:Int):=by rw [IntKind.wrap_i64];omega
 have hb1:(0:Int)≤(i:Int)+(1:Int):=by omega
 have hin:i≤n:=by omega
 have htn:((i:Int)+(1:Int)).toNat=i+1:=by omega
 have hb2: ¬(c=i+1):=by omega
 have hb3:(i:Int)≤(n:Int)+(1:Int):=by omega
 have hb4: ¬(c=i):=by omega
 have hr: ¬((n:Int)+1>(c:Int)):=by omega
 go_enter Tryz.func87,Tryz.ntmps87
 go_wp2_with (simp only [hov])
 go_region_law_o (refine step_copy_runI rfl _ _ 88 88 rfl _ _ (by simp [Act.eval,Act.put]) (by simp [Act.eval,Act.put]) (hcp1 _ _ _) ?_)
 go_wp2_with (at_builtin;refine wpList_copy_runI _ rfl _ _ 88 88 rfl _ _ rfl rfl (hcp2 _ _) ?_)
 go_ret
 exact⟨Y,Y⟩
set_option maxHeartbeats 4000000 in
set_option maxRecDepth 100000 in
open Go.Shelf Go.RowKit Go.Lib Go.Proofs in
theorem Zhs(b n c i vb voff vc g c':Nat)(w w1 w2 w3:World)(hi:i<n)(hn:n≤c)(hroom:c<n+1)(hc63:c≤9223372036854775806)(hc1:n+1≤c')(hc2:c'≤9223372036854775807)
 (hap: ∀ ty,(Builtin.append_ #[88,3] ty #[.slice (some ⟨b,0,none⟩) i c,.int .i64 ((n+1-i:Nat):Int)]).run Tryz.prog w= .ok (.slice (some ⟨g,0,none⟩) (n+1) c') w1)
 (hcp1: ∀ ty dc,(Builtin.copy_ #[88,88] ty #[.slice (some ⟨g,i*2,none⟩) (n+1-i) dc,.slice (some ⟨vb,voff,none⟩) 1 vc]).run Tryz.prog w1= .ok (goInt 1) w2)
 (hcp2: ∀ ty dc sc,(Builtin.copy_ #[88,88] ty #[.slice (some ⟨g,(i+1)*2,none⟩) (n-i) dc,.slice (some ⟨b,i*2,none⟩) (n-i) sc]).run Tryz.prog w2.drew= .ok (goInt (n-i:Nat)) w3):
 Calls Tryz.prog 87 #[.slice (some ⟨b,0,none⟩) n c,.int .i64 i,.slice (some ⟨vb,voff,none⟩) 1 vc] w fun e W=>e= .returned (.slice (some ⟨g,0,none⟩) (n+1) c')∧W=w3:=by
 have mixed:Tryz.prog.follows .mixedOrders=true:=by kernel_rfl
 obtain rfl:c=n:=by omega
 have hz2: ¬((i:Int)=(c:Int)):=by omega
 have hsub:IntKind.i64.wrap ((c:Int)+1-(i:Int))=((c+1-i:Nat):Int):=by rw [IntKind.wrap_i64];omega
 have hw1:IntKind.i64.wrap ((i:Int)+(1:Int))=(i:Int)+(1:Int):=by rw [IntKind.wrap_i64];omega
 have hb1:(0:Int)≤(i:Int)+(1:Int):=by omega
 have hin:i≤c:=by omega
 have htn:((i:Int)+(1:Int)).toNat=i+1:=by omega
 have hb2: ¬(c'=i+1):=by omega
 have hb3:(i:Int)≤(c:Int)+(1:Int):=by omega
 have hb4: ¬(c=i):=by omega
 have hb5: ¬(c'=i):=by omega
 go_enter Tryz.func87,Tryz.ntmps87
 go_wp2_with (at_builtin;refine Lib.wpList_append_run _ rfl _ _ _ _ rfl _ _ rfl rfl _ _ (hap _) ?_)
 go_wp2_with (at_builtin;refine wpList_copy_runI _ rfl _ _ 88 88 rfl _ _ rfl rfl (hcp1 _ _) ?_)
 go_region_law_o (refine step_copy_runI rfl _ _ 88 88 rfl _ _ (by simp [Act.eval,Act.put]) (by simp [Act.eval,Act.put]) (hcp2 _ _ _) ?_)
 go_wp2
 go_ret
 exact⟨Y,Y⟩
theorem QI:InsK Tryz.prog 87 118 88 3 2:=⟨Zhl,Zh9,Zhu,Zhs⟩
open Go.Shelf Go.RowKit Go.Lib Go.Proofs in
theorem QP:OvK Tryz.prog 118:=fun w a b la ca lb cb hne tA tB kA kB h1 h2 h3 h4 h5=>by
  rw [run_callFunc_extern Tryz.func118 (by kernel_rfl) (by kernel_rfl) (by kernel_rfl) (e:=Extern.SlicesOverlaps.overlaps #[88,88] #[4]) (by kernel_rfl),Lib.run_overlaps_apart w 88 4 44 (by kernel_rfl) 2 (fun w=>by kernel_rfl) a b la ca lb cb hne tA tB kA kB h1 h2 h3 h4 h5]
  rfl
theorem Za3{r_:panel_Replay}{n:Int}{r:panel_Replay}(h:QM r_ n=some r):
 GSpec Tryz.prog gl0 44 [.ptr 0 1 0 0,.int .i64 n] [some ⟨91,[[.sl 49 (List.map R49 r_.p.Instruments),.sl 54 (List.map R54 r_.l),.int .i64 r_.keep,.int .i64 r_.state.Frame,.sl 99 (List.map R99 r_.state.Memos),.own 1 r_.kept.length,.own 2 r_.marks.length]]⟩,some ⟨44,List.map R44 r_.kept⟩,some ⟨120,List.map R120 r_.marks⟩] (.tuple []) [some ⟨91,[[.sl 49 (List.map R49 r.p.Instruments),.sl 54 (List.map R54 r.l),.int .i64 r.keep,.int .i64 r.state.Frame,.sl 99 (List.map R99 r.state.Memos),.own 3 r.kept.length,.own 4 r.marks.length]]⟩,none,none,some ⟨44,List.map R44 r.kept⟩,some ⟨120,List.map R120 r.marks⟩]:=by
 unfold QM at h
 replace h:=Z9 h
 refine XJ (by kernel_rfl) Tryz.func44 Y Y<|?_
 intro w0 A W φ0
 refine Zdf (Ent.sel [some 0,some 1,some 2,some 1,some 2] (sr 0 Y (.ptr (r':=0) _ _ _ Y)<|sd 1 Y Y sn) (.cons Y (ro1 (by exact tZ_91.symm)<|rlc (.dat Y)<|rlc (.dat Y)<|rlc (.dat Y)<|rlc (.dat Y)<|rlc (.dat Y)<|rlc (.own (r':=3) _ Y)<|rlc (.own (r':=4) _ Y) rln)<|.dead<|.dead<|.cons Y (roM D44)<|.cons Y (roM D120) .nil) Y Y)<|Tr<|Rm Y<|Rm Y<|Za<|Zr<|?_
 obtain⟨r1,hl1,ho1⟩:=Zay h
 refine L3 (fun state kept i=>⟨[(0,.ptr 0 1 0 0),(6,.int .i64 n),(7,.int .i64 i)],[some ⟨91,[[.sl 49 (List.map R49 r_.p.Instruments),.sl 54 (List.map R54 r_.l),.int .i64 r_.keep,.int .i64 state.Frame,.sl 99 (List.map R99 state.Memos),.own 3 kept.length,.own 4 r_.marks.length]]⟩,none,none,some ⟨44,List.map R44 kept⟩,some ⟨120,List.map R120 r_.marks⟩]⟩) hl1 (ES [some 0,some 1,some 2,some 3,some 4]) fun n1 state kept i h=>?_
 unfold Q3 at h
 refine Tr<|R2 QE Y<|Za<|Zt<|If h Y (fun h=>?_) fun h=>?_
 ·
  refine Zf<|I3 (fun Frame Memos kept2=>⟨[(0,.ptr 0 1 0 0),(6,.int .i64 n),(7,.int .i64 i)],[some ⟨91,[[.sl 49 (List.map R49 r_.p.Instruments),.sl 54 (List.map R54 r_.l),.int .i64 r_.keep,.int .i64 Frame,.sl 99 (List.map R99 Memos),.own 3 kept2.length,.own 4 r_.marks.length]]⟩,none,none,some ⟨44,List.map R44 kept2⟩,some ⟨120,List.map R120 r_.marks⟩]⟩) h (fun h=>?_) fun Frame Memos kept2 h=>?_
  ·
   refine Zr<|K3 0 6 7 Y<|Td ⟨true,false,[],[],[]⟩<|D1 1 Zg Y<|Dq 2 Y (Zi (ov Y) Y Y)<|Dq 3 Y (Zb (ov Y) Y Y ZhU)<|Dq 4 Y (Qk (ov Y) Y Y Y ZeY Y Y)<|D1 5 Zg Y<|Dq 6 Y (Zi (ov Y) Y Y)<|Dq 7 Y (Zb (ov Y) Y Y Zi2)<|Dq 8 Y (Zo (ov Y) Y Y Y Zkp Y)<|D1 9 Zg Y<|Dq 10 Y (Zi (ov Y) Y Y)<|Dq 11 Y (Zb (ov Y) Y Y Za7)<|Dq 12 Y (Qk (ov Y) Y Y Y ZaO Y Y)<|ZbH 0 _ Y (by kernel_rfl) Y Y (fun hp'=>Zg<|ov Y)<|bE h fun y h_y h=>Do 13 Y (Q0 [] (Zcy h_y) (.cons (ov Y) (ZcR<|rld Y)<|.cons (ov Y) (.dat Y)<|.cons (ov Y) (ZcR<|rld Y) .nil) .nil Y (.keep Y Y<|.none<|.none<|.keep Y Y<|.keep Y Y<|.lent 0 (.inr ⟨Nat.le_of_ble_eq_true Y,Y⟩) Y (roM D99) .nil) Y Y<|ZcR<|rlc (.dat Y)<|rlc (.own _<|.inr ⟨Nat.le_of_ble_eq_true Y,Y⟩) rln)<|Dq 14 Y (Zi (ov Y) Y Y)<|Dq 15 Y (Zb (ov Y) Y Y Za7)<|Do 16 Y (Zq (ov Y) (ov Y) (ZE ZaO Y) Y Y Y (Nat.le_of_ble_eq_true Y) (Zd Y) Y)<|Dd<|Zt<|K3 0 6 7 Y<|Td md0<|D1 0 Zg Y<|Dq 1 Y (Zi (ov Y) Y Y)<|Dq 2 Y (Zb (ov Y) Y Y Za7)<|Dq 3 Y (Zb (ov Y) Y Y Zbg)<|Dq 4 Y (Zo (ov Y) Y Y Y tS3 Y)<|D1 5 Zg Y<|Dq 6 Y (Zi (ov Y) Y Y)<|Dq 7 Y (Zb (ov Y) Y Y Zig)<|Dq 8 Y (Zo (ov Y) Y Y Y tS3 Y)<|bE h fun q h_q h=>Dq 9 Y (Zie (ov Y) (ov Y) h_q)<|D1 10 Zg Y<|Dq 11 Y (Zi (ov Y) Y Y)<|Dq 12 Y (Zb (ov Y) Y Y Zig)<|Dq 13 Y (Zo (ov Y) Y Y Y tS3 Y)<|D2 14 Zda Y<|D2 15 Jz Y<|Dd<|K4 0 6 7 40 Y<|If h Y (fun h=>?_) fun h=>?_
   ·
    exact Z3<|⟨_,h,ES [some 0,some 1,some 2,some 3,some 4] (hhp:= .cons Y (ro1 (by exact tZ_91.symm)<|rlc (.dat Y)<|rlc (.dat Y)<|rlc (.dat Y)<|rlc (.dat Y)<|rlc (ZgH Y Y Y D99)<|rlc (.own _ Y)<|rlc (.own _ Y) rln)<|.dead<|.dead<|.cons Y (roM D44)<|.cons Y (roM D120) .nil)⟩
   ·
    refine Zf<|K3 0 6 7 Y<|Tr<|Rm Y<|Rm Y<|Rq Y (Zi (ov Y) Y Y)<|Rq Y (Zb (ov Y) Y Y Za7)<|Rq Y (Zb (ov Y) Y Y Zbg)<|Rq Y (Zo (ov Y) Y Y Y tS3 Y)<|bE h fun y2 h_y2 h=>Rx Y (Q0 [0,5,3,4] (JD h_y2) (.cons (ov Y) (.ptr _ _ _ Y)<|.cons (ov Y) (.dat Y) .nil) (.cons Y (ro1 (by exact tZ_91.symm)<|rlc (.dat Y)<|rlc (.dat Y)<|rlc (.dat Y)<|rlc (.dat Y)<|rlc (.own _ Y)<|rlc (.own _ Y)<|rlc (.own _ Y) rln)<|.cons Y (roM D99)<|.cons Y (roM D44)<|.cons Y (roM D120) .nil) Y (.lent 0 (.inl Y) Y (ro1 (by exact tZ_91.symm)<|rlc (.dat Y)<|rlc (.dat Y)<|rlc (.dat Y)<|rlc (.dat Y)<|rlc (.own _<|.inr ⟨Nat.le_of_ble_eq_true Y,Y⟩)<|rlc (.own _<|.inr ⟨Nat.le_of_ble_eq_true Y,Y⟩)<|rlc (.own _<|.inr ⟨Nat.le_of_ble_eq_true Y,Y⟩) rln)<|.none<|.none<|.none<|.none<|.none<|.lent 4 (.inr ⟨Nat.le_of_ble_eq_true Y,Y⟩) Y (roM D99)<|.lent 5 (.inr ⟨Nat.le_of_ble_eq_true Y,Y⟩) Y (roM D44)<|.lent 6 (.inr ⟨Nat.le_of_ble_eq_true Y,Y⟩) Y (roM D120) .nil) Y Y<|Zb4<|rld Y)<|Rm Y<|Rq Y (Zx (ov Y) Y)<|Rq Y (Zx (ov Y) Y)<|Ra Y<|Ra Y<|Za<|K5 0 4 5 6 7 Y<|Tr<|Rm Y<|R1 Xt Y<|Za<|K5 0 4 6 7 52 Y<|If h Y (fun h=>?_) fun h=>?_
    ·
     refine K4 0 4 6 7 Y<|Zdf (Ent.sel [some 0,some 1,some 2,some 3,some 4,some 5,none,some 7,some 8] (sr 0 Y (.ptr (r':=0) _ _ _ Y)<|sd 4 Y Y<|sd 6 Y Y<|sd 7 Y Y sn) (.cons Y (ro1 (by exact tZ_91.symm)<|rlc (.dat Y)<|rlc (.dat Y)<|rlc (.dat Y)<|rlc (.dat Y)<|rlc (ZgH Y Y Y D99)<|rlc (.own (r':=7) _ Y)<|rlc (.own (r':=8) _ Y) rln)<|.dead<|.dead<|.dead<|.dead<|.dead<|.row 99<|.cons Y (roM D44)<|.cons Y (roM D120) .nil) Y Y)<|Zc6 (cw:=⟨true,false,[],[],[]⟩) (by kernel_rfl)<|D1 6 Zg Y<|Dq 7 Y (Zi (ov Y) Y Y)<|Dq 8 Y (Zb (ov Y) Y Y Za7)<|Dq 9 Y (Qk (ov Y) Y Y Y ZaO Y Y)<|ZbH 0 _ Y (by kernel_rfl) Y Y (fun hp'=>Zg<|ov Y)<|ZbH 1 _ Y (by kernel_rfl) Y Y (fun hp'=>Zg<|ov Y)<|ZbH 5 _ Y (by kernel_rfl) Y Y (fun hp'=>Zg<|ov Y)<|bE h fun y3 h_y3 h=>Dw 2 10 Y (Zi (ov Y) Y Y) (Zed<|Zm (Qw h_y3)<|.cons (ov Y) (.aggB Y) .nil) ?_ ?_
     ·
      refine Dw 3 10 Y (Zb (ov Y) Y Y Qx) (Zed<|Zm (Qw h_y3)<|.cons (ov Y) (.aggB Y) .nil) ?_ ?_
      ·
       refine Dw 4 10 Y (Zo (ov Y) Y Y Y Jp Y) (Zed<|Zm (Qw h_y3)<|.cons (ov Y) (.aggB Y) .nil) ?_ ?_
       ·
        exact Do 10 Y (Zed<|Zm (Qw h_y3)<|.cons (ov Y) (.aggB Y) .nil)<|Do 11 Y (Xg (r:=9) (xs:=([y3]:List api_PanelState)) (f:=R44) Y Jf (.cons (cva<|ov Y) Y (pwD Y) .nil) Y Y Y)<|bE h fun l h_l h=>Do 12 Y (Jy (f:=R44) QI QP (by kernel_rfl) Y (ov Y) (ov Y) (ov Y) Jf Y Y Y Y Y D44 (fun _=>Y) Y h_l)<|Dq 13 Y (Zi (ov Y) Y Y)<|Dq 14 Y (Zb (ov Y) Y Y Qx)<|Do 15 Y (Zq (ov Y) (ov Y) (Zv Jp) Y Y Y (Nat.le_of_ble_eq_true Y) (Zd Y) Y)<|Dd<|⟨_,h,ES [some 0,some 1,some 2,some 7,some 8]⟩
       ·
        refine Dw 4 11 Y (Zo (ov Y) Y Y Y Jp Y) (Xg (r:=9) (xs:=([y3]:List api_PanelState)) (f:=R44) Y Jf (.cons (cva<|ov Y) Y (pwD Y) .nil) Y Y Y) ?_ ?_
        ·
         exact Do 11 Y (Xg (r:=9) (xs:=([y3]:List api_PanelState)) (f:=R44) Y Jf (.cons (cva<|ov Y) Y (pwD Y) .nil) Y Y Y)<|bE h fun l h_l h=>Do 12 Y (Jy (f:=R44) QI QP (by kernel_rfl) Y (ov Y) (ov Y) (ov Y) Jf Y Y Y Y Y D44 (fun _=>Y) Y h_l)<|Dq 13 Y (Zi (ov Y) Y Y)<|Dq 14 Y (Zb (ov Y) Y Y Qx)<|Do 15 Y (Zq (ov Y) (ov Y) (Zv Jp) Y Y Y (Nat.le_of_ble_eq_true Y) (Zd Y) Y)<|Dd<|⟨_,h,ES [some 0,some 1,some 2,some 7,some 8]⟩
        ·
         exact Dq 4 Y (Zo (ov Y) Y Y Y Jp Y)<|bE h fun l h_l h=>Do 12 Y (Jy (f:=R44) QI QP (by kernel_rfl) Y (ov Y) (ov Y) (ov Y) Jf Y Y Y Y Y D44 (fun _=>Y) Y h_l)<|Dq 13 Y (Zi (ov Y) Y Y)<|Dq 14 Y (Zb (ov Y) Y Y Qx)<|Do 15 Y (Zq (ov Y) (ov Y) (Zv Jp) Y Y Y (Nat.le_of_ble_eq_true Y) (Zd Y) Y)<|Dd<|⟨_,h,ES [some 0,some 1,some 2,some 7,some 8]⟩
      ·
       refine Dw 3 11 Y (Zb (ov Y) Y Y Qx) (Xg (r:=9) (xs:=([y3]:List api_PanelState)) (f:=R44) Y Jf (.cons (cva<|ov Y) Y (pwD Y) .nil) Y Y Y) ?_ ?_
       ·
        refine Dw 4 11 Y (Zo (ov Y) Y Y Y Jp Y) (Xg (r:=9) (xs:=([y3]:List api_PanelState)) (f:=R44) Y Jf (.cons (cva<|ov Y) Y (pwD Y) .nil) Y Y Y) ?_ ?_
        ·
         exact Do 11 Y (Xg (r:=9) (xs:=([y3]:List api_PanelState)) (f:=R44) Y Jf (.cons (cva<|ov Y) Y (pwD Y) .nil) Y Y Y)<|bE h fun l h_l h=>Do 12 Y (Jy (f:=R44) QI QP (by kernel_rfl) Y (ov Y) (ov Y) (ov Y) Jf Y Y Y Y Y D44 (fun _=>Y) Y h_l)<|Dq 13 Y (Zi (ov Y) Y Y)<|Dq 14 Y (Zb (ov Y) Y Y Qx)<|Do 15 Y (Zq (ov Y) (ov Y) (Zv Jp) Y Y Y (Nat.le_of_ble_eq_true Y) (Zd Y) Y)<|Dd<|⟨_,h,ES [some 0,some 1,some 2,some 7,some 8]⟩
        ·
         exact Dq 4 Y (Zo (ov Y) Y Y Y Jp Y)<|bE h fun l h_l h=>Do 12 Y (Jy (f:=R44) QI QP (by kernel_rfl) Y (ov Y) (ov Y) (ov Y) Jf Y Y Y Y Y D44 (fun _=>Y) Y h_l)<|Dq 13 Y (Zi (ov Y) Y Y)<|Dq 14 Y (Zb (ov Y) Y Y Qx)<|Do 15 Y (Zq (ov Y) (ov Y) (Zv Jp) Y Y Y (Nat.le_of_ble_eq_true Y) (Zd Y) Y)<|Dd<|⟨_,h,ES [some 0,some 1,some 2,some 7,some 8]⟩
       ·
        exact Dq 3 Y (Zb (ov Y) Y Y Qx)<|Dq 4 Y (Zo (ov Y) Y Y Y Jp Y)<|bE h fun l h_l h=>Do 12 Y (Jy (f:=R44) QI QP (by kernel_rfl) Y (ov Y) (ov Y) (ov Y) Jf Y Y Y Y Y D44 (fun _=>Y) Y h_l)<|Dq 13 Y (Zi (ov Y) Y Y)<|Dq 14 Y (Zb (ov Y) Y Y Qx)<|Do 15 Y (Zq (ov Y) (ov Y) (Zv Jp) Y Y Y (Nat.le_of_ble_eq_true Y) (Zd Y) Y)<|Dd<|⟨_,h,ES [some 0,some 1,some 2,some 7,some 8]⟩
     ·
      refine Dw 2 11 Y (Zi (ov Y) Y Y) (Xg (r:=9) (xs:=([y3]:List api_PanelState)) (f:=R44) Y Jf (.cons (cva<|ov Y) Y (pwD Y) .nil) Y Y Y) ?_ ?_
      ·
       refine Dw 3 11 Y (Zb (ov Y) Y Y Qx) (Xg (r:=9) (xs:=([y3]:List api_PanelState)) (f:=R44) Y Jf (.cons (cva<|ov Y) Y (pwD Y) .nil) Y Y Y) ?_ ?_
       ·
        refine Dw 4 11 Y (Zo (ov Y) Y Y Y Jp Y) (Xg (r:=9) (xs:=([y3]:List api_PanelState)) (f:=R44) Y Jf (.cons (cva<|ov Y) Y (pwD Y) .nil) Y Y Y) ?_ ?_
        ·
         exact Do 11 Y (Xg (r:=9) (xs:=([y3]:List api_PanelState)) (f:=R44) Y Jf (.cons (cva<|ov Y) Y (pwD Y) .nil) Y Y Y)<|bE h fun l h_l h=>Do 12 Y (Jy (f:=R44) QI QP (by kernel_rfl) Y (ov Y) (ov Y) (ov Y) Jf Y Y Y Y Y D44 (fun _=>Y) Y h_l)<|Dq 13 Y (Zi (ov Y) Y Y)<|Dq 14 Y (Zb (ov Y) Y Y Qx)<|Do 15 Y (Zq (ov Y) (ov Y) (Zv Jp) Y Y Y (Nat.le_of_ble_eq_true Y) (Zd Y) Y)<|Dd<|⟨_,h,ES [some 0,some 1,some 2,some 7,some 8]⟩
        ·
         exact Dq 4 Y (Zo (ov Y) Y Y Y Jp Y)<|bE h fun l h_l h=>Do 12 Y (Jy (f:=R44) QI QP (by kernel_rfl) Y (ov Y) (ov Y) (ov Y) Jf Y Y Y Y Y D44 (fun _=>Y) Y h_l)<|Dq 13 Y (Zi (ov Y) Y Y)<|Dq 14 Y (Zb (ov Y) Y Y Qx)<|Do 15 Y (Zq (ov Y) (ov Y) (Zv Jp) Y Y Y (Nat.le_of_ble_eq_true Y) (Zd Y) Y)<|Dd<|⟨_,h,ES [some 0,some 1,some 2,some 7,some 8]⟩
       ·
        exact Dq 3 Y (Zb (ov Y) Y Y Qx)<|Dq 4 Y (Zo (ov Y) Y Y Y Jp Y)<|bE h fun l h_l h=>Do 12 Y (Jy (f:=R44) QI QP (by kernel_rfl) Y (ov Y) (ov Y) (ov Y) Jf Y Y Y Y Y D44 (fun _=>Y) Y h_l)<|Dq 13 Y (Zi (ov Y) Y Y)<|Dq 14 Y (Zb (ov Y) Y Y Qx)<|Do 15 Y (Zq (ov Y) (ov Y) (Zv Jp) Y Y Y (Nat.le_of_ble_eq_true Y) (Zd Y) Y)<|Dd<|⟨_,h,ES [some 0,some 1,some 2,some 7,some 8]⟩
      ·
       exact Dq 2 Y (Zi (ov Y) Y Y)<|Dq 3 Y (Zb (ov Y) Y Y Qx)<|Dq 4 Y (Zo (ov Y) Y Y Y Jp Y)<|bE h fun l h_l h=>Do 12 Y (Jy (f:=R44) QI QP (by kernel_rfl) Y (ov Y) (ov Y) (ov Y) Jf Y Y Y Y Y D44 (fun _=>Y) Y h_l)<|Dq 13 Y (Zi (ov Y) Y Y)<|Dq 14 Y (Zb (ov Y) Y Y Qx)<|Do 15 Y (Zq (ov Y) (ov Y) (Zv Jp) Y Y Y (Nat.le_of_ble_eq_true Y) (Zd Y) Y)<|Dd<|⟨_,h,ES [some 0,some 1,some 2,some 7,some 8]⟩
    ·
     exact Zf<|⟨_,h,ES [some 0,some 1,some 2,some 7,some 8] (hhp:= .cons Y (ro1 (by exact tZ_91.symm)<|rlc (.dat Y)<|rlc (.dat Y)<|rlc (.dat Y)<|rlc (.dat Y)<|rlc (ZgH Y Y Y D99)<|rlc (.own _ Y)<|rlc (.own _ Y) rln)<|.dead<|.dead<|.cons Y (roM D44)<|.cons Y (roM D120) .nil)⟩
  ·
   exact ZH<|R2 Jh Y<|Rm Y<|Za<|⟨_,h,ES [some 0,some 1,some 2,some 3,some 4]⟩
 ·
  refine Z3<|?_
  replace h:=lx h▸ho1
  obtain rfl:=rt h
  exact ZjM [some 0,some 1,some 2,some 3,some 4] Y .nil (.cons Y (ro1 (by exact tZ_91.symm)<|rlc (.dat Y)<|rlc (.dat Y)<|rlc (.dat Y)<|rlc (.dat Y)<|rlc (.dat Y)<|rlc (.own _ Y)<|rlc (.own _ Y) rln)<|.dead<|.dead<|.cons Y (roM D44)<|.cons Y (roM D120) .nil) Y Y<|Zb4 rln
theorem ZbD{r_:panel_Replay}{n:Int}{r:Int×panel_Replay}(h:Xq r_ n=some r):
 GSpec Tryz.prog gl0 10 [.ptr 0 1 0 0,.int .i64 n] [some ⟨91,[[.sl 49 (List.map R49 r_.p.Instruments),.sl 54 (List.map R54 r_.l),.int .i64 r_.keep,.int .i64 r_.state.Frame,.sl 99 (List.map R99 r_.state.Memos),.own 1 r_.kept.length,.own 2 r_.marks.length]]⟩,some ⟨44,List.map R44 r_.kept⟩,some ⟨120,List.map R120 r_.marks⟩] (.int .i64 r.1) [some ⟨91,[[.sl 49 (List.map R49 r.2.p.Instruments),.sl 54 (List.map R54 r.2.l),.int .i64 r.2.keep,.int .i64 r.2.state.Frame,.sl 99 (List.map R99 r.2.state.Memos),.own 3 r.2.kept.length,.own 4 r.2.marks.length]]⟩,none,none,some ⟨44,List.map R44 r.2.kept⟩,some ⟨120,List.map R120 r.2.marks⟩]:=by
 unfold Xq at h
 replace h:=Z9 h
 refine XJ (by kernel_rfl) Tryz.func10 Y Y<|?_
 intro w0 A W φ0
 refine Zdf (Ent.sel [some 0,some 1,some 2,some 1,some 2] (sr 0 Y (.ptr (r':=0) _ _ _ Y)<|sd 1 Y Y sn) (.cons Y (ro1 (by exact tZ_91.symm)<|rlc (.dat Y)<|rlc (.dat Y)<|rlc (.dat Y)<|rlc (.dat Y)<|rlc (.dat Y)<|rlc (.own (r':=3) _ Y)<|rlc (.own (r':=4) _ Y) rln)<|.dead<|.dead<|.cons Y (roM D44)<|.cons Y (roM D120) .nil) Y Y)<|Tr<|Ra Y<|Za<|Zt<|K2 0 1 Y<|Tr<|Rm Y<|R2 QE Y<|Rm Y<|Rq Y (.guarded ((decide (n<0))==false) Y Y Y Y fun h=>Zg<|ov Y)<|Rq Y (.guarded ((decide (n<0))==false) Y Y Y Y fun h=>Zg<|ov Y)<|Rq Y (.guarded ((decide (n<0))==false) Y Y Y Y fun h=>Zi (ow Y h) Y Y)<|Rq Y (.guarded ((decide (n<0))==false) Y Y Y Y fun h=>Zb (ow Y h) Y Y Za7)<|Rq Y (.guarded ((decide (n<0))==false) Y Y Y Y fun h=>Zb (ow Y h) Y Y Zbg)<|Rq Y (.guarded ((decide (n<0))==false) Y Y Y Y fun h=>Zo (ow Y h) Y Y Y tS3 Y)<|Rq Y (.guarded ((decide (n<0))==false) Y Y Y Y fun h=>ZhF (ov Y) (ow Y h) Y)<|Rq Y (.guarded ((decide (n<0))==false) Y Y Y Y fun h=>JC (ow Y h)<|ow Y h)<|Rq Y (Zab (ov Y) fun hp=>ow Y<|gF hp)<|Za<|K3 0 1 16 Y<|If h Y (fun h=>?_) fun h=>?_
 ·
  refine K0<|Tr<|Ra Y<|Za<|?_
  obtain rfl:=rt h
  exact Zj<|ZcQ [some 0,some 1,some 2,some 3,some 4] Y (.cons (.tmp Y) .nil) (.cons Y (ro1 (by exact tZ_91.symm)<|rlc (.dat Y)<|rlc (.dat Y)<|rlc (.dat Y)<|rlc (.dat Y)<|rlc (.dat Y)<|rlc (.own _ Y)<|rlc (.own _ Y) rln)<|.dead<|.dead<|.cons Y (roM D44)<|.cons Y (roM D120) .nil) Y Y<|.dat Y
 ·
  refine Zf<|K2 0 1 Y<|Tr<|Rm Y<|Rm Y<|bE h fun y h_y h=>Rx Y (Q0 [0,3,4] (Za3 h_y) (.cons (ov Y) (.ptr _ _ _ Y)<|.cons (ov Y) (.dat Y) .nil) (.cons Y (ro1 (by exact tZ_91.symm)<|rlc (.dat Y)<|rlc (.dat Y)<|rlc (.dat Y)<|rlc (.dat Y)<|rlc (.dat Y)<|rlc (.own _ Y)<|rlc (.own _ Y) rln)<|.cons Y (roM D44)<|.cons Y (roM D120) .nil) Y (.lent 0 (.inl Y) Y (ro1 (by exact tZ_91.symm)<|rlc (.dat Y)<|rlc (.dat Y)<|rlc (.dat Y)<|rlc (.dat Y)<|rlc (.dat Y)<|rlc (.own _<|.inr ⟨Nat.le_of_ble_eq_true Y,Y⟩)<|rlc (.own _<|.inr ⟨Nat.le_of_ble_eq_true Y,Y⟩) rln)<|.none<|.none<|.none<|.none<|.lent 3 (.inr ⟨Nat.le_of_ble_eq_true Y,Y⟩) Y (roM D44)<|.lent 4 (.inr ⟨Nat.le_of_ble_eq_true Y,Y⟩) Y (roM D120) .nil) Y Y<|Zb4<|rld Y)<|Za<|K0<|Tr<|Ra Y<|Za<|?_
  obtain rfl:=rt h
  exact Zj<|ZcQ [some 0,some 1,some 2,some 5,some 6] Y (.cons (.tmp Y) .nil) (.cons Y (ro1 (by exact tZ_91.symm)<|rlc (.dat Y)<|rlc (.dat Y)<|rlc (.dat Y)<|rlc (.dat Y)<|rlc (.dat Y)<|rlc (.own _ Y)<|rlc (.own _ Y) rln)<|.dead<|.dead<|.cons Y (roM D44)<|.cons Y (roM D120) .nil) Y Y<|.dat Y
theorem JV{r_:panel_Replay}{r:(List api_Face)}(h:Qy r_=some r):
 GSpec Tryz.prog gl0 13 [.ptr 0 1 0 0] [some ⟨91,[[.sl 49 (List.map R49 r_.p.Instruments),.sl 54 (List.map R54 r_.l),.int .i64 r_.keep,.int .i64 r_.state.Frame,.sl 99 (List.map R99 r_.state.Memos),.own 1 r_.kept.length,.own 2 r_.marks.length]]⟩,some ⟨44,List.map R44 r_.kept⟩,some ⟨120,List.map R120 r_.marks⟩] (.sl 39 (List.map R39 r)) [some ⟨91,[[.sl 49 (List.map R49 r_.p.Instruments),.sl 54 (List.map R54 r_.l),.int .i64 r_.keep,.int .i64 r_.state.Frame,.sl 99 (List.map R99 r_.state.Memos),.own 3 r_.kept.length,.own 4 r_.marks.length]]⟩,none,none,some ⟨44,List.map R44 r_.kept⟩,some ⟨120,List.map R120 r_.marks⟩]:=by
 unfold Qy at h
 replace h:=Z9 h
 refine XJ (by kernel_rfl) Tryz.func13 Y Y<|?_
 intro w0 A W φ0
 refine Zdf (Ent.sel [some 0,some 1,some 2,some 1,some 2] (sr 0 Y (.ptr (r':=0) _ _ _ Y) sn) (.cons Y (ro1 (by exact tZ_91.symm)<|rlc (.dat Y)<|rlc (.dat Y)<|rlc (.dat Y)<|rlc (.dat Y)<|rlc (.dat Y)<|rlc (.own (r':=3) _ Y)<|rlc (.own (r':=4) _ Y) rln)<|.dead<|.dead<|.cons Y (roM D44)<|.cons Y (roM D120) .nil) Y Y)<|Tr<|Ra Y<|Za<|Td md0<|D1 0 Zg Y<|Dq 1 Y (Zi (ov Y) Y Y)<|Dq 2 Y (Zb (ov Y) Y Y ZhU)<|Dq 3 Y (Qk (ov Y) Y Y Y ZeY Y Y)<|D1 4 Zg Y<|Dq 5 Y (Zi (ov Y) Y Y)<|Dq 6 Y (Zb (ov Y) Y Y Zi2)<|Dq 7 Y (Zo (ov Y) Y Y Y Zkp Y)<|D1 8 Zg Y<|Dq 9 Y (Zi (ov Y) Y Y)<|Dq 10 Y (Zb (ov Y) Y Y Za7)<|Dq 11 Y (Qk (ov Y) Y Y Y ZaO Y Y)<|bE h fun y h_y h=>Dq 12 Y (Zm (ZgG h_y)<|.cons (ov Y) (.aggB Y)<|.cons (ov Y) (.b Y)<|.cons (ov Y) (.aggB Y) .nil)<|D1 13 Zaw Y<|Dd<|?_
 obtain rfl:=rt h
 exact Zj<|ZcQ [some 0,some 1,some 2,some 3,some 4] Y (.cons (.tmp Y) .nil) (.cons Y (ro1 (by exact tZ_91.symm)<|rlc (.dat Y)<|rlc (.dat Y)<|rlc (.dat Y)<|rlc (.dat Y)<|rlc (.dat Y)<|rlc (.own _ Y)<|rlc (.own _ Y) rln)<|.dead<|.dead<|.cons Y (roM D44)<|.cons Y (roM D120) .nil) Y Y<|.dat Y
theorem ZbI{r:Bool}(h:JM=some r):
 CSpec Tryz.prog gl0 16 [] (.bool r):=by
 unfold JM at h
 replace h:=Z9 h
 refine So Tryz.func16 Y fun w0 A=>Tr<|Ra Y<|Za<|K0<|Tr<|Rq Y (ZaC (ys:= [_,_,_,_,_,_,_,_,_,_,_,_]) ZmZ Zm3 ZkE (.cons (cvs (ov Y)<|ZX Y)<|.cons (cvs (ov Y)<|ZX Y)<|.cons (cvs (ov Y)<|ZX Y)<|.cons (cvs (ov Y)<|ZX Y) .nil) Y)<|R_q (.sl 49<|List.map R49 ([(api_Instrument.mk 1 [97] [116] 1 0 0 0 [] 0 0 false 0)]:List api_Instrument)) Y (ZdF Zc1 (.cons (cva<|ov Y) Y (.cons (.b Y)<|.cons (.b Y)<|.cons (.b Y)<|.cons (.b Y)<|.cons (.b Y)<|.cons (.b Y)<|.cons (.b Y)<|.cons (Dat.nils _)<|.cons (.b Y)<|.cons (.b Y)<|.cons (.b Y)<|.cons (.b Y) .nil) .nil) Y Y)<|Rq Y (ZaC (ys:= [_]) Zl6 Zl3 Zke (.cons (cvs (ov Y)<|ZX Y) .nil) Y)<|Rx Y (Z8 (row:= [_]) 0 Y Zke Y tZ_24)<|Rx Y (Zq (ov Y) (ov Y) (ZE ZeY Y) Y Y Y (Nat.le_of_ble_eq_true Y) (Zd Y) Y)<|Za<|K1 1 Y<|Tr<|Rq Y (ZaC (ys:= [_,_,_]) Zl0 Zl5 Zio (.cons (cvs (ov Y)<|ZX Y)<|.cons (cvs (ov Y)<|ZX Y)<|.cons (cvs (ov Y)<|ZX Y) .nil) Y)<|R_q (.sl 56<|List.map R56 ([(api_Sample.mk 70 (-3) 4)]:List api_Sample)) Y (ZdF ZeH (.cons (cva<|ov Y) Y (pwD Y) .nil) Y Y)<|Rq Y (ZaC (ys:= [_,_]) ZmT ZmO Znt (.cons (cvs (ov Y)<|ZX Y)<|.cons (cvs (ov Y)<|ZX Y) .nil) Y)<|Rq Y (ZaC (ys:= [_,_,_,_]) Zm9 Zne Zlz (.cons (cvs (ov Y)<|ZX Y)<|.cons (cva<|ov Y)<|.cons (cvs (ov Y)<|ZX Y) .nil) Y)<|R_q (.sl 54<|List.map R54 ([(api_Track.mk [116] (api_Series.mk 2 ([(api_Sample.mk 70 (-3) 4)]:List api_Sample)) 100)]:List api_Track)) Y (ZdF Zeq (.cons (cva<|ov Y) Y (pwD Y) .nil) Y Y)<|Ra Y<|Za<|K2 1 2 Y<|Tr<|Rq Y (Qk (ov Y) Y Y Y ZeY Y Y)<|Rm Y<|bE h fun y h_y h=>?_
 rcases y with y |y
 ·
  replace h:=ell h
  refine Rx Y (Q0 [] (Zcu h_y) (.cons (ov Y) (ZcR<|rld Y)<|.cons (ov Y) (.dat Y)<|.cons (ov Y) (.dat Y) .nil) .nil Y (.keep Y Y .nil) Y Y<|Zb4<|rlc (.dat Y)<|rlc (.dat Y) rln)<|Rm Y<|Rq Y (Zx (ov Y) Y)<|Rq Y (Zx (ov Y) Y)<|Ra Y<|Ra Y<|Za<|Zt<|K2 3 4 Y<|Tr<|Rm Y<|R2 Jz Y<|Rm Y<|Rq Y (.guarded ((!decide (y=0))==false) Y Y Y Y fun h=>Zg<|ov Y)<|bE h fun u h_u h=>R_q (.when ((!decide (y=0))==false)<|.int .i64 0) Y (.guarded ((!decide (y=0))==false) Y Y Y Y fun h=>ZlZ<|gdT h_u h)<|Rq Y (.guarded ((!decide (y=0))==false) Y Y Y Y fun h=>Jz (ow Y h)<|ov Y)<|Rq Y (Zab (ov Y) fun hp=>ow Y<|gF hp)<|Za<|K2 3 26 Y<|If h Y (fun h=>?_) fun h=>?_
  ·
   refine K0<|Tr<|Ra Y<|Za<|?_
   obtain rfl:=rt h
   exact Zj (ZD Y (.one<|rb Y))
  ·
   exact Zf<|(ZjG h).elim
 ·
  replace h:=elr h
  refine Rx Y (Q0 [] (Zcs h_y) (.cons (ov Y) (ZcR<|rld Y)<|.cons (ov Y) (.dat Y)<|.cons (ov Y) (.dat Y) .nil) .nil Y (.keep Y Y<|.lent 0 (.inr ⟨Nat.le_of_ble_eq_true Y,Y⟩) Y (ro1 (by exact tZ_91.symm)<|rlc (.dat Y)<|rlc (.dat Y)<|rlc (.dat Y)<|rlc (.dat Y)<|rlc (.dat Y)<|rlc (.own _<|.inr ⟨Nat.le_of_ble_eq_true Y,Y⟩)<|rlc (.own _<|.inr ⟨Nat.le_of_ble_eq_true Y,Y⟩) rln)<|.lent 1 (.inr ⟨Nat.le_of_ble_eq_true Y,Y⟩) Y (roM D44)<|.lent 2 (.inr ⟨Nat.le_of_ble_eq_true Y,Y⟩) Y (roM D120) .nil) Y Y<|Zb4<|rlc (.ptr _ _ _<|.inr ⟨Nat.le_of_ble_eq_true Y,Y⟩)<|rlc (.dat Y) rln)<|Rm Y<|Rq Y (Zx (ov Y) Y)<|Rq Y (Zx (ov Y) Y)<|Ra Y<|Ra Y<|Za<|J6 (fun j=>(.inr j)) (fun p l keep state kept marks=>⟨[(3,.ptr 0 1 0 0)],[some ⟨91,[[.sl 49 (List.map R49 p.Instruments),.sl 54 (List.map R54 l),.int .i64 keep,.int .i64 state.Frame,.sl 99 (List.map R99 state.Memos),.own 1 kept.length,.own 2 marks.length]]⟩,some ⟨44,List.map R44 kept⟩,some ⟨120,List.map R120 marks⟩]⟩) h (fun h=>?_) fun p l keep state kept marks h=>?_
  ·
   refine K2 3 4 Y<|Tr<|Rm Y<|R2 Jz Y<|Rm Y<|Rq Y (.guarded ((!decide (y.2=0))==false) Y Y Y Y fun h=>Zg<|ov Y)<|?_
   rcases ifR h with ⟨hg,h⟩ | ⟨hg,h⟩
   ·
    refine ZlO (d:=22) (b':=false) Y (Znk hg)<|bE h fun y2 h_y2 h=>Zno _ _ Y Y Y Y (Q0 [1,2,3] (ZbD h_y2) (.cons (ow Y<|by simp_all) (.ptr _ _ _ Y)<|.cons (ov Y) (.dat Y) .nil) (.cons Y (ro1 (by exact tZ_91.symm)<|rlc (.dat Y)<|rlc (.dat Y)<|rlc (.dat Y)<|rlc (.dat Y)<|rlc (.dat Y)<|rlc (.own _ Y)<|rlc (.own _ Y) rln)<|.cons Y (roM D44)<|.cons Y (roM D120) .nil) Y (.keep Y Y<|.lent 0 (.inl Y) Y (ro1 (by exact tZ_91.symm)<|rlc (.dat Y)<|rlc (.dat Y)<|rlc (.dat Y)<|rlc (.dat Y)<|rlc (.dat Y)<|rlc (.own _<|.inr ⟨Nat.le_of_ble_eq_true Y,Y⟩)<|rlc (.own _<|.inr ⟨Nat.le_of_ble_eq_true Y,Y⟩) rln)<|.none<|.none<|.lent 3 (.inr ⟨Nat.le_of_ble_eq_true Y,Y⟩) Y (roM D44)<|.lent 4 (.inr ⟨Nat.le_of_ble_eq_true Y,Y⟩) Y (roM D120) .nil) Y Y<|.dat Y)<|Rq Y (.guarded (false==false) Y Y Y Y fun h=>Jz (ov Y)<|ov Y)<|Rq Y (Zab (ov Y) fun hp=>ow Y<|gF hp)<|Za<|K2 3 26 Y<|If h Y (fun h=>?_) fun h=>?_
    ·
     refine K0<|Tr<|Ra Y<|Za<|?_
     obtain rfl:=rt h
     exact Zj (ZD Y (.one<|rb Y))
    ·
     exact Zf<|⟨_,h,ES [some 1,some 4,some 5]⟩
   ·
    refine ZlO (d:=22) (b':=true) Y (Znm hg)<|Zlp Y Y Y Y Y<|bE h fun u2 h_u2 h=>R_q (.when (true==false)<|.bool false) Y (.guarded (true==false) Y Y Y Y fun h=>ZlZ<|gdT h_u2 h)<|Rq Y (Zab (ov Y) fun hp=>ow Y<|gF hp)<|Za<|K2 3 26 Y<|If h Y (fun h=>?_) fun h=>?_
    ·
     refine K0<|Tr<|Ra Y<|Za<|?_
     obtain rfl:=rt h
     exact Zj (ZD Y (.one<|rb Y))
    ·
     exact Zf<|⟨_,h,ES [some 1,some 2,some 3]⟩
  ·
   replace h:=elr h
   replace h:=t6i h
   refine Tr<|Rm Y<|bE h fun y3 h_y3 h=>Rx Y (Q0 [0,1,2] (JV h_y3) (.cons (ov Y) (.ptr _ _ _ Y) .nil) (.cons Y (ro1 (by exact tZ_91.symm)<|rlc (.dat Y)<|rlc (.dat Y)<|rlc (.dat Y)<|rlc (.dat Y)<|rlc (.dat Y)<|rlc (.own _ Y)<|rlc (.own _ Y) rln)<|.cons Y (roM D44)<|.cons Y (roM D120) .nil) Y (.lent 0 (.inl Y) Y (ro1 (by exact tZ_91.symm)<|rlc (.dat Y)<|rlc (.dat Y)<|rlc (.dat Y)<|rlc (.dat Y)<|rlc (.dat Y)<|rlc (.own _<|.inr ⟨Nat.le_of_ble_eq_true Y,Y⟩)<|rlc (.own _<|.inr ⟨Nat.le_of_ble_eq_true Y,Y⟩) rln)<|.none<|.none<|.lent 3 (.inr ⟨Nat.le_of_ble_eq_true Y,Y⟩) Y (roM D44)<|.lent 4 (.inr ⟨Nat.le_of_ble_eq_true Y,Y⟩) Y (roM D120) .nil) Y Y<|.dat Y)<|Ra Y<|Za<|K1 5 Y<|Tr<|Rm Y<|Rl tZ_39 Zje Y<|R2 Xs Y<|Rm Y<|Rq Y (.guarded ((decide ((y3.length:Int)=1))==true) Y Y Y Y fun h=>Zg<|ov Y)<|bE h fun x h_x h=>Rq Y (.guarded ((decide ((y3.length:Int)=1))==true) Y Y Y Y fun h=>QX (ow Y h) (ov Y) Zje<|gdT h_x h)<|Rq Y (.guarded ((decide ((y3.length:Int)=1))==true) Y Y Y Y fun h=>ZB (ow Y h) ZkM Y Y)<|Rq Y (.guarded ((decide ((y3.length:Int)=1))==true) Y Y Y Y fun h=>ZaC (ys:= [_,_,_,_]) Zl9 Zl2 Zk5 (.cons (cvs (ov Y)<|ZX Y)<|.cons (cvs (ov Y)<|ZX Y) .nil) Y)<|Rq Y (.guarded ((decide ((y3.length:Int)=1))==true) Y Y Y Y fun h=>Zmv Znh (ow Y h) (ow Y h) (.aggB Y) (.aggB Y) Y Y)<|Rq Y (XT (ov Y) fun hp=>ow Y<|gT hp)<|Ra Y<|Za<|?_
   obtain rfl:=rt h
   exact Zj (ZD Y (.one<|rb Y))
end Go.Proofs.YtailpehcgelmdaaGreatDoor
