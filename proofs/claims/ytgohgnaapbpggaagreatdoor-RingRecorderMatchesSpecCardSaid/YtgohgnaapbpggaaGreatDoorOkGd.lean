/- A text of the proof: a verified executor of the program form, or the contracts of the functions that the law reaches. -/
import Derived.Test.YtgohgnaapbpggaaGreatDoorOkGc
set_option linter.all false
namespace Go.Proofs.YtgohgnaapbpggaaGreatDoor
open Go Go.Vx
set_option maxRecDepth 10000
set_option maxHeartbeats 1000000
set_option linter.unusedVariables false
theorem Zdg{r:Bool}(h:Zbc=some r):
 CSpec Tryz.prog gl0 12 [] (.bool r):=by
 unfold Zbc at h
 replace h:=Qb h
 refine So Tryz.func12 Y fun w0 A=>Tr<|Rz Y<|K0<|Tr<|bE h fun l h_l h=>Rx Y (Zbq [none] (r:=0) (f:=R3) (z0:=0) Y (ov Y) (ov Y) QA Y tZ3 Y Y h_l)<|bE h fun y h_y h=>Rq Y (Jh (ZmT h_y) (.tuple<|by simp only [List.mem_cons,List.not_mem_nil,or_false,forall_eq_or_imp,forall_eq];exact⟨(Zm7 (fun _=> .int)),.int⟩)<|.cons (ov Y) (Dat.view<|.b Y)<|.cons (ov Y) (View.ownM Y Y D3) .nil)<|Rm Y<|Rj Y Y Y<|Rj Y Y Y<|Rx Y (Qd (row:=(List.map C44 (Vector.replicate 64 0).toList)) 1 Y Ziy Y tZ_46)<|Rx Y (Zm (ov Y) (ov Y) (ZB X3 arL) Y Y Y (Zb4 (Zu arL) arL) (Za<|arC fun _=>Y)<|ZaF<|Eq.trans arL<|Eq.symm arL)<|Rz Y<|K1 1 Y<|Tr<|bE h fun y2 h_y2 h=>Rq Y (Zq (ZiT h_y2)<|.cons (ov Y) (.b Y)<|.cons (ov Y) (.b Y)<|.cons (ov Y) (.b Y) .nil)<|Rm Y<|Rj Y Y Y<|Rj Y Y Y<|Rx Y (Qd (row:= [_,_,_,_,_]) 2 Y Zde Y tZ_59)<|Rx Y (Zm (ov Y) (ov Y) (ZB XL Y) Y Y Y (nL Y) (Za Y) Y)<|Rz Y<|Zh<|K3 1 3 4 Y<|Tr<|Rm Y<|R2 Qy Y<|Zb<|K3 1 3 20 Y<|If h Y (fun h=>?_) fun h=>?_
 ·
  refine K0<|Tr<|Rz Y<|?_
  obtain rfl:=rt h
  exact Zk (ZK Y (.one<|rb Y))
 ·
  refine Zg<|K2 1 3 Y<|Tr<|Rq Y (Qt (ov Y) Y Y Y XL Y Y)<|R_q (.sl 59<|List.map R59 ([y2.1]:List api_Memory)) Y (Jc XC (.cons (cva<|ov Y) Y (pwD Y) .nil) Y Y)<|bE h fun y3 h_y3 h=>?_
  rcases y3 with y3 |y3
  ·
   replace h:=ell h
   refine Rx Y (Zz [] (Zcd h_y3) (.cons (ov Y) (.dat Y)<|.cons (ov Y) (.dat Y) .nil) .nil Y (.keep Y Y<|.keep Y Y<|.keep Y Y .nil) Y Y<|Qq<|rlD Y<|rlD Y rln)<|Rm Y<|Rj Y Y Y<|Rj Y Y Y<|Ra Y<|Rz Y<|Zh<|K3 1 4 5 Y<|Tr<|Rm Y<|R2 Qy Y<|Zb<|K3 1 5 28 Y<|If h Y (fun h=>?_) fun h=>?_
   ·
    refine K0<|Tr<|Rz Y<|?_
    obtain rfl:=rt h
    exact Zk (ZK Y (.one<|rb Y))
   ·
    exact Zg<|(ZiW h).elim
  ·
   replace h:=elr h
   refine Rx Y (Zz [] (Zb5 h_y3) (.cons (ov Y) (.dat Y)<|.cons (ov Y) (.dat Y) .nil) .nil Y (.keep Y Y<|.keep Y Y<|.keep Y Y<|.lent 0 (Wa Y Y) Y (ro1 (by exact tZ_80.symm)<|rlc (.own _<|Wa Y Y)<|rlc (.own _<|Wa Y Y)<|rlD Y<|rlD Y<|rlD Y<|rlD Y<|rlD Y rln)<|.lent 1 (Wa Y Y) Y (roO Zw)<|.lent 2 (Wa Y Y) Y (roM D83) .nil) Y Y<|Qq<|rlc (.ptr _ _ _<|Wa Y Y)<|rlD Y rln)<|Rm Y<|Rj Y Y Y<|Rj Y Y Y<|Ra Y<|Rz Y<|Zh<|K3 1 4 5 Y<|ZH [some ⟨3,List.map R3 l⟩,some ⟨46,[(List.map C44 y.1.toList)]⟩,some ⟨59,[[.int .i64 y2.1.Slots,.int .i64 y2.1.Limit,.sl 22 (List.map R22 y2.1.Sectors),.sl 3 (List.map R3 y2.1.Wear),.sl 4 (List.map R4 y2.1.Bad)]]⟩,some ⟨80,[[.own 4 y3.1.bank.memories.length,.own 5 y3.1.bank.spots.length,.int .i64 y3.1.copies,.bool y3.1.frozen,.bool y3.1.stopped,.int .i64 y3.1.last,.bool y3.1.some_]]⟩,some ⟨59,List.map O59 y3.1.bank.memories⟩,some ⟨83,List.map R83 y3.1.bank.spots⟩] Y<|Tr<|Rm Y<|R2 Qy Y<|Zb<|K3 1 5 28 Y<|If h Y (fun h=>?_) fun h=>?_
   ·
    refine K0<|Tr<|Rz Y<|?_
    obtain rfl:=rt h
    exact Zk (ZK Y (.one<|rb Y))
   ·
    refine Zg<|K2 1 5 Y<|Tr<|Rm Y<|Rq Y (Qt (ov Y) Y Y Y X3 (Qs<|Zu arL) arL (hns:=(nsM fun _=>Y)))<|bE h fun y4 h_y4 h=>Rx Y (Zz [3,4,5] (Zb2 h_y4) (.cons (ov Y) (.ptr _ _ _ Y)<|.cons (ov Y) (Zb7<|rld<|arD fun _=>Y)<|.cons (ov Y) (.dat Y) .nil) (.cons Y (ro1 (by exact tZ_80.symm)<|rlc (.own _ Y)<|rlc (.own _ Y)<|rlD Y<|rlD Y<|rlD Y<|rlD Y<|rlD Y rln)<|.cons Y (roO Zw)<|.cons Y (roM D83) .nil) Y (.keep Y Y<|.keep Y Y<|.keep Y Y<|.lent 0 (.inl Y) Y (ro1 (by exact tZ_80.symm)<|rlc (.own _<|Wa Y Y)<|rlc (.own _<|Wa Y Y)<|rlD Y<|rlD Y<|rlD Y<|rlD Y<|rlD Y rln)<|.none<|.none<|.lent 3 (Wa Y Y) Y (roO Zw)<|.lent 4 (Wa Y Y) Y (roM D83) .nil) Y Y<|Qq<|rld Y)<|Rm Y<|Rj Y Y Y<|Rj Y Y Y<|Rj Y Y Y<|Ra Y<|Ra Y<|Rz Y<|K5 1 4 5 6 7 Y<|ZH [some ⟨3,List.map R3 l⟩,some ⟨46,[(List.map C44 y.1.toList)]⟩,some ⟨59,[[.int .i64 y2.1.Slots,.int .i64 y2.1.Limit,.sl 22 (List.map R22 y2.1.Sectors),.sl 3 (List.map R3 y2.1.Wear),.sl 4 (List.map R4 y2.1.Bad)]]⟩,some ⟨80,[[.own 6 y4.2.2.2.bank.memories.length,.own 7 y4.2.2.2.bank.spots.length,.int .i64 y4.2.2.2.copies,.bool y4.2.2.2.frozen,.bool y4.2.2.2.stopped,.int .i64 y4.2.2.2.last,.bool y4.2.2.2.some_]]⟩,none,none,some ⟨59,List.map O59 y4.2.2.2.bank.memories⟩,some ⟨83,List.map R83 y4.2.2.2.bank.spots⟩] Y<|Tr<|Rm Y<|bE h fun y5 h_y5 h=>Rx Y (Zz [3,6,7] (ZeP h_y5) (.cons (ov Y) (.ptr _ _ _ Y) .nil) (.cons Y (ro1 (by exact tZ_80.symm)<|rlc (.own _ Y)<|rlc (.own _ Y)<|rlD Y<|rlD Y<|rlD Y<|rlD Y<|rlD Y rln)<|.cons Y (roO Zw)<|.cons Y (roM D83) .nil) Y (.keep Y Y<|.keep Y Y<|.keep Y Y<|.lent 0 (.inl Y) Y (ro1 (by exact tZ_80.symm)<|rlD Y<|rlc (.own _<|Wa Y Y)<|rlD Y<|rlD Y<|rlD Y<|rlD Y<|rlD Y rln)<|.none<|.none<|.none<|.none<|.lent 3 (Wa Y Y) Y (roM D83) .nil) Y Y<|.dat Y)<|bE h fun y6 h_y6 h=>Rq Y (Zq (Zkx h_y6)<|.cons (ov Y) (.b Y) .nil)<|Rm Y<|Rj Y Y Y<|Rj Y Y Y<|Ra Y<|Rz Y<|Zh<|K6 1 4 6 7 8 9 Y<|Z5 (cw:=md0) (by kernel_rfl)<|D1 0 Zc Y<|D2 1 Zae Y<|D1 2 Zc Y<|Dq 3 Y (.guarded ((decide (y4.1=1))==true) Y Y Y Y fun h=>Zc<|ov Y)<|Dq 4 Y (J6 (ov Y) fun hp=>ow Y<|gT hp)<|D1 5 Zc Y<|Dq 6 Y (.guarded (((decide (y4.1=1))&&y4.2.1)==true) Y Y Y Y fun h=>Zc<|ov Y)<|Dq 7 Y (.guarded (((decide (y4.1=1))&&y4.2.1)==true) Y Y Y Y fun h=>Zae (ow Y h)<|ov Y)<|Dq 8 Y (J6 (ov Y) fun hp=>ow Y<|gT hp)<|D1 9 Zc Y<|Dq 10 Y (.guarded ((((decide (y4.1=1))&&y4.2.1)&&(decide (y4.2.2.1=0)))==true) Y Y Y Y fun h=>Zc<|ov Y)<|Dq 11 Y (.guarded ((((decide (y4.1=1))&&y4.2.1)&&(decide (y4.2.2.1=0)))==true) Y Y Y Y fun h=>Zae (ow Y h)<|ov Y)<|Dq 12 Y (J6 (ov Y) fun hp=>ow Y<|gT hp)<|D1 13 Zc Y<|Dq 14 Y (.guarded (((((decide (y4.1=1))&&y4.2.1)&&(decide (y4.2.2.1=0)))&&(decide (y6.2=0)))==true) Y Y Y Y fun h=>Zc<|ov Y)<|Dq 15 Y (.guarded (((((decide (y4.1=1))&&y4.2.1)&&(decide (y4.2.2.1=0)))&&(decide (y6.2=0)))==true) Y Y Y Y fun h=>Zk2 (Qr (ow Y h) tZ_46) ZqY<|Zgw _ _)<|Dq 16 Y (.guarded (((((decide (y4.1=1))&&y4.2.1)&&(decide (y4.2.2.1=0)))&&(decide (y6.2=0)))==true) Y Y Y Y fun h=>Zae (ow Y h)<|ov Y)<|Dq 17 Y (J6 (ov Y) fun hp=>ow Y<|gT hp)<|D1 18 Zc Y<|Dq 19 Y (.guarded ((((((decide (y4.1=1))&&y4.2.1)&&(decide (y4.2.2.1=0)))&&(decide (y6.2=0)))&&(decide ((y6.1.length:Int)=1)))==true) Y Y Y Y fun h=>Zc<|ov Y)<|bE h fun x h_x h=>Dq 20 Y (.guarded ((((((decide (y4.1=1))&&y4.2.1)&&(decide (y4.2.2.1=0)))&&(decide (y6.2=0)))&&(decide ((y6.1.length:Int)=1)))==true) Y Y Y Y fun h=>ZP (ow Y h) (ov Y) ZqY<|gdT h_x h)<|Dq 21 Y (.guarded ((((((decide (y4.1=1))&&y4.2.1)&&(decide (y4.2.2.1=0)))&&(decide (y6.2=0)))&&(decide ((y6.1.length:Int)=1)))==true) Y Y Y Y fun h=>Z3 (ow Y h) X3 (Qs<|Zu arL) arL)<|Dq 22 Y (.guarded ((((((decide (y4.1=1))&&y4.2.1)&&(decide (y4.2.2.1=0)))&&(decide (y6.2=0)))&&(decide ((y6.1.length:Int)=1)))==true) Y Y Y Y fun h=>Qt (ov Y) Y Y Y X3 (Qs<|Zu arL) arL (hns:=(nsM fun _=>Y)))<|Dq 23 Y (.guarded ((((((decide (y4.1=1))&&y4.2.1)&&(decide (y4.2.2.1=0)))&&(decide (y6.2=0)))&&(decide ((y6.1.length:Int)=1)))==true) Y Y Y Y fun h=>Zrp ZsW (ow Y h) (ow Y h) (.aggB<|arD fun _=>Y) (.aggB<|arD fun _=>Y) (fkV fun _=>Y) (fkV fun _=>Y)<|eqV fun _ _=>Y)<|Dq 24 Y (J6 (ov Y) fun hp=>ow Y<|gT hp)<|D1 25 ZS Y<|Dd<|?_
    obtain rfl:=rt h
    exact Zk (ZK Y (.one<|rb Y))
theorem Zfw{r_:ring_Recorder}{power:Int}{r:Int×Bool×Int×ring_Recorder}(h:XK r_ power=some r):
 GSpec Tryz.prog gl0 15 [.ptr 0 1 0 0,.int .i64 power] [some ⟨80,[[.own 1 r_.bank.memories.length,.own 2 r_.bank.spots.length,.int .i64 r_.copies,.bool r_.frozen,.bool r_.stopped,.int .i64 r_.last,.bool r_.some_]]⟩,some ⟨59,List.map O59 r_.bank.memories⟩,some ⟨83,List.map R83 r_.bank.spots⟩] (.tuple [.int .i64 r.1,.bool r.2.1,.int .i64 r.2.2.1]) [some ⟨80,[[.own 3 r.2.2.2.bank.memories.length,.own 4 r.2.2.2.bank.spots.length,.int .i64 r.2.2.2.copies,.bool r.2.2.2.frozen,.bool r.2.2.2.stopped,.int .i64 r.2.2.2.last,.bool r.2.2.2.some_]]⟩,none,none,some ⟨59,List.map O59 r.2.2.2.bank.memories⟩,some ⟨83,List.map R83 r.2.2.2.bank.spots⟩]:=by
 unfold XK at h
 replace h:=Qb h
 refine Ql (by kernel_rfl) Tryz.func15 Y Y<|?_
 intro w0 A W φ0
 refine ZbK (Ent.sel [some 0,some 1,some 2,some 1,some 2] (sr 0 Y (.ptr (r':=0) _ _ _ Y)<|sd 1 Y Y sn) (.cons Y (ro1 (by exact tZ_80.symm)<|rlc (.own (r':=3) _ Y)<|rlc (.own (r':=4) _ Y)<|rlD Y<|rlD Y<|rlD Y<|rlD Y<|rlD Y rln)<|.dead<|.dead<|.cons Y (roO Zw)<|.cons Y (roM D83) .nil) Y Y)<|ZH [some ⟨80,[[.own 3 r_.bank.memories.length,.own 4 r_.bank.spots.length,.int .i64 r_.copies,.bool r_.frozen,.bool r_.stopped,.int .i64 r_.last,.bool r_.some_]]⟩,none,none,some ⟨59,List.map O59 r_.bank.memories⟩,some ⟨83,List.map R83 r_.bank.spots⟩] Y<|Tr<|Ra Y<|Ra Y<|Rz Y<|Zh<|K2 0 1 Y<|Tr<|Rm Y<|Rm Y<|bE h fun y h_y h=>Rq Y (Jh (Zdz h_y) .int<|.cons (ov Y) (View.ptrS (j:=0) (k:=7) Y Y Y (nL Y)<|.cons (View.ownO Y Y Zw (fun x=>(D59 x).1) ZeK)<|.cons (View.ownM Y Y D83)<|.cons (Dat.view<|.b Y)<|.cons (Dat.view<|.b Y)<|.cons (Dat.view<|.b Y)<|.cons (Dat.view<|.b Y)<|.cons (Dat.view<|.b Y) .nil)<|.cons (ov Y) (Dat.view<|.b Y) .nil)<|Rz Y<|K3 0 1 7 Y<|Tr<|Rm Y<|R2 Qy Y<|Zb<|K4 0 1 7 15 Y<|If h Y (fun h=>?_) fun h=>?_
 ·
  refine K1 7 Y<|Tr<|Rm Y<|Ra Y<|Ra Y<|Rz Y<|?_
  obtain rfl:=rt h
  exact Zk<|Xu [some 0,some 1,some 2,some 3,some 4] Y (.cons (.tmp Y)<|.cons (.tmp Y)<|.cons (.tmp Y) .nil) (.cons Y (ro1 (by exact tZ_80.symm)<|rlc (.own _ Y)<|rlc (.own _ Y)<|rlD Y<|rlD Y<|rlD Y<|rlD Y<|rlD Y rln)<|.dead<|.dead<|.cons Y (roO Zw)<|.cons Y (roM D83) .nil) Y Y<|Qq<|rlD Y<|rlD Y<|rlD Y rln
 ·
  refine Zg<|K2 0 1 Y<|Tr<|Rm Y<|Rq Y (Zi (ov Y) Y Y)<|Rq Y (Ze (ov Y) Y Y ZlS)<|Rx Y (Zm (ov Y) (ov Y) (Zj tS4) Y Y Y (nL Y) (Za Y) Y)<|Zb<|J2 (fun j=>(.inr j)) (fun memories power2=>⟨[(1,.int .i64 power2)],[some ⟨80,[[.own 3 memories.length,.own 4 r_.bank.spots.length,.int .i64 r_.copies,.bool true,.bool r_.stopped,.int .i64 r_.last,.bool r_.some_]]⟩,none,none,some ⟨59,List.map O59 memories⟩,some ⟨83,List.map R83 r_.bank.spots⟩]⟩) h (fun h=>?_) fun memories power2 h=>?_
  ·
   refine K2 0 1 Y<|ZH [some ⟨80,[[.own 3 r_.bank.memories.length,.own 4 r_.bank.spots.length,.int .i64 r_.copies,.bool true,.bool r_.stopped,.int .i64 r_.last,.bool r_.some_]]⟩,none,none,some ⟨59,List.map O59 r_.bank.memories⟩,some ⟨83,List.map R83 r_.bank.spots⟩] Y<|Tr<|Rm Y<|Rq Y (Zi (ov Y) Y Y)<|Rq Y (Ze (ov Y) Y Y Ze2)<|Rq Y (Ze (ov Y) Y Y ZhD)<|Rq Y (Zl (ov Y) Y Y Y ZmB Y)<|Rq Y (Zb9 (ov Y) Y Y Zmj)<|Rm Y<|Zb<|Zf<|?_
   obtain⟨r1,hl1,ho1⟩:=QC h
   refine L3 (fun memories2 power3 i=>⟨[(0,.ptr 0 1 0 0),(1,.int .i64 power3),(24,.own 4 r_.bank.spots.length),(25,.int .i64 (r_.bank.spots.length:Int)),(26,.int .i64 i)],[some ⟨80,[[.own 3 memories2.length,.own 4 r_.bank.spots.length,.int .i64 r_.copies,.bool true,.bool r_.stopped,.int .i64 r_.last,.bool r_.some_]]⟩,none,none,some ⟨59,List.map O59 memories2⟩,some ⟨83,List.map R83 r_.bank.spots⟩]⟩) hl1 (ES [some 0,some 1,some 2,some 3,some 4] (hhp:= .cons Y (ro1 (by exact tZ_80.symm)<|rlc (.own _ Y)<|rlc (.own _ Y)<|rlD Y<|rlD Y<|rlD Y<|rlD Y<|rlD Y rln)<|.dead<|.dead<|.cons Y (roO Zw)<|.cons Y (roM D83) .nil)) fun n1 memories2 power3 i h=>?_
   unfold Jw at h
   refine Tr<|R2 ZL Y<|Zb<|Zh<|If h Y (fun h=>?_) fun h=>?_
   ·
    refine Zg<|Zh<|Zf<|K5 0 1 24 25 26 Y<|Tr<|Rm Y<|bE h fun x h_x h=>Rq Y (Z4 (ov Y) (ov Y) Zmj Y Y h_x)<|Rq Y (ZmS (ov Y) Y Y h_x ZkQ Y Y)<|Rx Y (Qd (row:= [_,_]) 5 Y Znn Y tZ_83)<|Ra Y<|Rx Y (Zm (ov Y) (ov Y) (ZB ZkQ Y) Y Y Y (nL Y) (Za Y) Y)<|Zb<|Zh<|K7 0 1 8 9 24 25 26 Y<|ZH [some ⟨80,[[.own 3 memories2.length,.own 4 r_.bank.spots.length,.int .i64 r_.copies,.bool true,.bool r_.stopped,.int .i64 r_.last,.bool r_.some_]]⟩,none,none,some ⟨59,List.map O59 memories2⟩,some ⟨83,List.map R83 r_.bank.spots⟩,some ⟨83,[[.int .i64 x.sector,.int .i64 x.slot]]⟩] Y<|Tr<|Rq Y (Ze (ov Y) Y Y Zhu)<|Rq Y (Zl (ov Y) Y Y Y tS3 Y)<|R2 ZL Y<|Zb<|K8 0 1 8 9 24 25 26 33 Y<|If h Y (fun h=>?_) fun h=>?_
    ·
     exact ZA<|K5 0 1 24 25 26 Y<|Zo<|R2 ZI Y<|Rm Y<|Zb<|⟨_,h,ES [some 0,some 1,some 2,some 3,some 4] (hhp:= .cons Y (ro1 (by exact tZ_80.symm)<|rlc (.own _ Y)<|rlc (.own _ Y)<|rlD Y<|rlD Y<|rlD Y<|rlD Y<|rlD Y rln)<|.dead<|.dead<|.cons Y (roO Zw)<|.cons Y (roM D83) .nil)⟩
    ·
     refine Zg<|K7 0 1 8 9 24 25 26 Y<|Tr<|Rz Y<|Zh<|bE h fun x2 h_x2 h=>ZbK (Ent.focusH (r:=3) (j:=2) (e':=22) (g:=O22) (ys:=x2.Sectors) Y (Zp h_x2).2 Y Zat)<|bE h fun x3 h_x3 h=>ZbK (Ent.focusH (r:=6) (j:=0) (e':=5) (g:=R5) (ys:=x3) Y (Zp h_x3).2 Y DR5)<|Z5 (cw:=⟨true,true,[some ⟨80,[[.own 3 memories2.length,.own 4 r_.bank.spots.length,.int .i64 r_.copies,.bool true,.bool r_.stopped,.int .i64 r_.last,.bool r_.some_]]⟩,none,none,some ⟨59,List.set (List.map O59 memories2) i.toNat [.int .i64 x2.Slots,.int .i64 x2.Limit,.own 6 x2.Sectors.length,.osub 3 (List.map R3 x2.Wear),.osub 4 (List.map R4 x2.Bad)]⟩,some ⟨83,List.map R83 r_.bank.spots⟩,some ⟨83,[[.int .i64 x.sector,.int .i64 x.slot]]⟩,some ⟨22,List.set (List.map O22 x2.Sectors) x.sector.toNat [.own 7 x3.length]⟩,some ⟨5,List.map R5 x3⟩],[],[7]⟩) (by kernel_rfl)<|ZO 0 _ Y (by kernel_rfl) Y Y (fun hp'=>Zc<|ov Y)<|Xq 1 _ Y (by kernel_rfl) Y Y Y (EL.ext<|.keep<|.keep<|.keep<|.keep<|.keep<|.keep<|.keep<|.wr Y Y Y .nil) (fun hp' hx=>Zi (ov Y) (hx.get Y Y) Y)<|Xq 2 _ Y (by kernel_rfl) Y Y Y (EL.ext<|.keep<|.keep<|.keep<|.keep<|.keep<|.keep<|.keep<|.wr Y Y Y .nil) (fun hp' hx=>Ze (ov Y) (hx.get Y Y) Y Ze2)<|Xq 3 _ Y (by kernel_rfl) Y Y Y (EL.ext<|.keep<|.keep<|.keep<|.keep<|.keep<|.keep<|.keep<|.wr Y Y Y .nil) (fun hp' hx=>Ze (ov Y) (hx.get Y Y) Y Ze6)<|Xq 4 _ Y (by kernel_rfl) Y Y Y (EL.ext<|.keep<|.keep<|.keep<|.keep<|.keep<|.keep<|.keep<|.wr Y Y Y .nil) (fun hp' hx=>Zl (ov Y) (hx.get Y Y) Y Y Zcc Y)<|ZO 5 _ Y (by kernel_rfl) Y Y (fun hp'=>Zc<|ov Y)<|bE h fun x4 h_x4 h=>Xq 6 _ Y (by kernel_rfl) Y Y Y (EL.ext<|.keep<|.keep<|.keep<|.keep<|.keep<|.keep<|.keep<|.wr Y Y Y .nil) (fun hp' hx=>ZgD (ov Y) (ov Y) XC (hx.get Y Y) Y h_x4)<|Xq 7 _ Y (by kernel_rfl) Y Y Y (EL.ext<|.keep<|.keep<|.keep<|.keep<|.keep<|.keep<|.keep<|.wr Y Y Y .nil) (fun hp' hx=>Zge (ov Y) (hx.get Y Y) Y Z9)<|Xq 8 _ Y (by kernel_rfl) Y Y Y (EL.ext<|.keep<|.keep<|.keep<|.keep<|.keep<|.keep<|.keep<|.wr Y Y Y .nil) (fun hp' hx=>Jl (ov Y) (hx.get Y Y) Y (Zp h_x2).2 Q7 Y)<|Xq 9 _ Y (by kernel_rfl) Y Y Y (EL.ext<|.keep<|.keep<|.keep<|.keep<|.keep<|.keep<|.keep<|.wr Y Y Y .nil) (fun hp' hx=>Ze (ov Y) (hx.get Y Y) Y Zhu)<|Xq 10 _ Y (by kernel_rfl) Y Y Y (EL.ext<|.keep<|.keep<|.keep<|.keep<|.keep<|.keep<|.keep<|.wr Y Y Y .nil) (fun hp' hx=>Zl (ov Y) (hx.get Y Y) Y Y tS3 Y)<|bE h fun x5 h_x5 h=>Xq 11 _ Y (by kernel_rfl) Y Y Y (EL.ext<|.keep<|.keep<|.keep<|.keep<|.keep<|.keep<|.keep<|.wr Y Y Y .nil) (fun hp' hx=>ZgD (ov Y) (ov Y) Q3 (hx.get Y Y) Y h_x5)<|Xq 12 _ Y (by kernel_rfl) Y Y Y (EL.ext<|.keep<|.keep<|.keep<|.keep<|.keep<|.keep<|.keep<|.wr Y Y Y .nil) (fun hp' hx=>Jl (ov Y) (hx.get Y Y) Y (Zp h_x3).2 Zek Y)<|ZO 14 _ Y (by kernel_rfl) Y Y (fun hp'=>Zc<|ov Y)<|Zba 13 (.sl 5<|List.map R5 ([0]:List Int)) _ Y (by kernel_rfl) Y Y (fun h=>by cases h) (fun _=>by exact EL.ext (.keep<| .keep<| .keep<| .keep<| .keep<| .keep<| .keep<| .wr rfl rfl rfl<| .nil)) (Zbh<|Jc Qi (.cons (cvs (ov Y)<|Zn Y) Y (.cons (.b Y) .nil) .nil) Y Y)<|bE h fun y2 h_y2 h=>Zba 15 _ _ Y (by kernel_rfl) Y Y (fun h=>by cases h) (fun _=>by exact EL.ext (.keep<| .keep<| .keep<| .keep<| .keep<| .keep<| .keep<| .wr rfl rfl ((List.length_map ..).trans (Eq.trans (JP h_y2) (Eq.symm ((List.length_map ..).trans rfl))))<| .nil)) (Zz [7] (ZdX h_y2) (.cons (ov Y) (.own _ Y)<|.cons (ov Y) (.dat Y)<|.cons (ov Y) (.dat Y)<|.cons (ov Y) (.dat Y) .nil) (.cons Y (roM D5) .nil) Y (.keep Y Y<|.none<|.none<|.keep Y Y<|.keep Y Y<|.keep Y Y<|.keep Y Y<|.lent 0 (.inl Y) Y (roM D5) .nil) Y Y<|Qq<|rld Y)<|D1 16 Zc Y<|Dq 17 Y (Xa (ov Y) Y)<|Dq 18 Y (Xa (ov Y) Y)<|D1 19 ZS Y<|D1 20 ZS Y<|?_
     have h_x6:=Xb (y:=y2.2.2) h_x5
     have h_x7:=Xb (y:=(api_Memory.mk x2.Slots x2.Limit (x2.Sectors.set x.sector.toNat y2.2.2) x2.Wear x2.Bad)) h_x4
     have h_x8:=Xb (y:=(api_Memory.mk x2.Slots x2.Limit (x2.Sectors.set x.sector.toNat y2.2.2) x2.Wear x2.Bad)) h_x4
     refine Jd (by kernel_rfl) (Ent.trans (Ent.absorbH (r:=6) (j:=0) (q:=7) Y (Zp h_x3).2 Y Y ((List.length_map ..).trans<|JP h_y2) Y)<|Ent.trans (Ent.closeH (r:=6) (y:=y2.2.2) Y Y)<|Ent.trans (Ent.absorbH (r:=3) (j:=2) (q:=6) Y (Zp h_x2).2 Y Y ((List.length_map ..).trans<|(List.length_set ..).trans Y) Y)<|Ent.closeH (r:=3) (y:=(api_Memory.mk x2.Slots x2.Limit (x2.Sectors.set x.sector.toNat y2.2.2) x2.Wear x2.Bad)) Y Y)<|K6 0 1 10 24 25 26 Y<|ZH [some ⟨80,[[.own 3 memories2.length,.own 4 r_.bank.spots.length,.int .i64 r_.copies,.bool true,.bool r_.stopped,.int .i64 r_.last,.bool r_.some_]]⟩,none,none,some ⟨59,List.map O59 (memories2.set i.toNat (api_Memory.mk x2.Slots x2.Limit (x2.Sectors.set x.sector.toNat y2.2.2) x2.Wear x2.Bad))⟩,some ⟨83,List.map R83 r_.bank.spots⟩,some ⟨83,[[.int .i64 x.sector,.int .i64 x.slot]]⟩,none,none] Y<|Tr<|Rm Y<|R1 XM Y<|Zb<|K6 0 1 24 25 26 54 Y<|If h Y (fun h=>?_) fun h=>?_
     ·
      refine K2 0 1 Y<|Tr<|Rm Y<|Rq Y (Zi (ov Y) Y Y)<|Rq Y (Ze (ov Y) Y Y ZnB)<|Rx Y (Zm (ov Y) (ov Y) (Zj tS4) Y Y Y (nL Y) (Za Y) Y)<|Zb<|K1 1 Y<|ZH [some ⟨80,[[.own 3 memories2.length,.own 4 r_.bank.spots.length,.int .i64 r_.copies,.bool true,.bool true,.int .i64 r_.last,.bool r_.some_]]⟩,none,none,some ⟨59,List.map O59 (memories2.set i.toNat (api_Memory.mk x2.Slots x2.Limit (x2.Sectors.set x.sector.toNat y2.2.2) x2.Wear x2.Bad))⟩,some ⟨83,List.map R83 r_.bank.spots⟩,some ⟨83,[[.int .i64 x.sector,.int .i64 x.slot]]⟩,none,none] Y<|Tr<|Rm Y<|Ra Y<|Ra Y<|Rz Y<|?_
      replace h:=lx h▸ho1
      obtain rfl:=rt h
      exact Zk<|Xu [some 0,some 1,some 2,some 3,some 4] Y (.cons (.tmp Y)<|.cons (.tmp Y)<|.cons (.tmp Y) .nil) (.cons Y (ro1 (by exact tZ_80.symm)<|rlc (Zbu (Eq.symm<|(List.length_set ..).trans Y) Y)<|rlc (.own _ Y)<|rlD Y<|rlD Y<|rlD Y<|rlD Y<|rlD Y rln)<|.dead<|.dead<|.cons Y (roO Zw)<|.cons Y (roM D83) .nil) Y Y<|Qq<|rlD Y<|rlD Y<|rlD Y rln
     ·
      exact Zg<|K5 0 1 24 25 26 Y<|Zo<|R2 ZI Y<|Rm Y<|Zb<|⟨_,h,ES [some 0,some 1,some 2,some 3,some 4] (hhp:= .cons Y (ro1 (by exact tZ_80.symm)<|rlc (Zbu (Eq.symm<|(List.length_set ..).trans Y) Y)<|rlc (.own _ Y)<|rlD Y<|rlD Y<|rlD Y<|rlD Y<|rlD Y rln)<|.dead<|.dead<|.cons Y (roO Zw)<|.cons Y (roM D83) .nil)⟩
   ·
    refine ZA<|?_
    replace h:=lx h▸ho1
    exact⟨_,h,ES [some 0,some 1,some 2,some 3,some 4] (hhp:= .cons Y (ro1 (by exact tZ_80.symm)<|rlc (.own _ Y)<|rlc (.own _ Y)<|rlD Y<|rlD Y<|rlD Y<|rlD Y<|rlD Y rln)<|.dead<|.dead<|.cons Y (roO Zw)<|.cons Y (roM D83) .nil)⟩
  ·
   replace h:=elr h
   replace h:=t2i h
   refine Tr<|Rm Y<|Ra Y<|Ra Y<|Rz Y<|?_
   obtain rfl:=rt h
   exact Zk<|Xu [some 0,some 1,some 2,some 3,some 4] Y (.cons (.tmp Y)<|.cons (.tmp Y)<|.cons (.tmp Y) .nil) (.cons Y (ro1 (by exact tZ_80.symm)<|rlc (.own _ Y)<|rlc (.own _ Y)<|rlD Y<|rlD Y<|rlD Y<|rlD Y<|rlD Y rln)<|.dead<|.dead<|.cons Y (roO Zw)<|.cons Y (roM D83) .nil) Y Y<|Qq<|rlD Y<|rlD Y<|rlD Y rln
theorem Zlk{s:List Int}{at_:Int}{data:List Int}{power:Int}{r:(List Int)×Int×Bool}(h:ZhB s at_ data power=some r):
 GSpec Tryz.prog gl0 28 [.sl 5 (List.map R5 s),.int .i64 at_,.sl 5 (List.map R5 data),.int .i64 power] [] (.tuple [.own 0 r.1.length,.int .i64 r.2.1,.bool r.2.2]) [some ⟨5,List.map R5 r.1⟩]:=by
 unfold ZhB at h
 replace h:=Qb h
 refine Ql (by kernel_rfl) Tryz.func28 Y Y<|?_
 intro w0 A W φ0
 refine Tr<|Ra Y<|Ra Y<|Rz Y<|K4 0 1 2 3 Y<|Tr<|Rx Y (Zfr (r:=0) (xs:=([]:List Int)) (f:=R5) Y Qi .nil Y Y Y)<|Rm Y<|bE h fun l h_l h=>Rx Y (Zaj (ov Y) (Qr (ov Y) tZ_5) Qi Y Y (fun _=>Za Y) Y h_l)<|Rz Y<|J2 (fun j=>(.inr j)) (fun power2 out=>⟨[(3,.int .i64 power2),(11,.own 0 out.length)],[some ⟨5,List.map R5 out⟩]⟩) h (fun h=>?_) fun power2 out h=>?_
 ·
  refine K4 1 2 3 11 Y<|Tr<|Rm Y<|Rl tZ_5 Qi Y<|Rm Y<|Zb<|Zf<|?_
  obtain⟨r1,hl1,ho1⟩:=QC h
  refine L3 (fun power3 out2 i=>⟨[(1,.int .i64 at_),(3,.int .i64 power3),(11,.own 0 out2.length),(17,.sl 5 (List.map R5 data)),(18,.int .i64 (data.length:Int)),(19,.int .i64 i)],[some ⟨5,List.map R5 out2⟩]⟩) hl1 (ES [some 0]) fun n1 power3 out2 i h=>?_
  unfold ZfI at h
  refine Tr<|R2 ZL Y<|Zb<|Zh<|If h Y (fun h=>?_) fun h=>?_
  ·
   refine Zg<|Zh<|Zf<|K6 1 3 11 17 18 19 Y<|Tr<|Rm Y<|bE h fun x h_x h=>Rq Y (ZP (ov Y) (ov Y) Qi h_x)<|Rq Y (Zd (ov Y) tS5 Y)<|Ra Y<|Rz Y<|Zh<|K8 1 3 11 12 13 17 18 19 Y<|Tr<|Rm Y<|R2 Zae Y<|Zb<|K9 1 3 11 12 13 17 18 19 25 Y<|If h Y (fun h=>?_) fun h=>?_
   ·
    refine K4 1 11 12 13 Y<|Tr<|Rm Y<|Rm Y<|Rm Y<|R2 ZI Y<|bE h fun x2 h_x2 h=>Rq Y (Z4 (ov Y) (ov Y) Qi Y Y h_x2)<|Rq Y (Qj (ov Y) Y Y h_x2 tS5 Y)<|Rm Y<|R2 Zho Y<|R2 Zbk Y<|bE h fun x3 h_x3 h=>Rq Y (Z4 (ov Y) (ov Y) Qi Y Y h_x3)<|Rx Y (Xg (u':=(QD .u8 x2 (bor .u8 x 15))) (ov Y) (ov Y) (Zj tS5) Y Y h_x3 Y (Za Y) Y)<|Zb<|K1 11 Y<|Tr<|Rm Y<|Ra Y<|Ra Y<|Rz Y<|?_
    replace h:=lx h▸ho1
    obtain rfl:=rt h
    exact Zk<|Xu [some 0] Y (.cons (.tmp Y)<|.cons (.tmp Y)<|.cons (.tmp Y) .nil) (.cons Y (roM D5) .nil) Y Y<|Qq<|rlc (Zbu (Eq.symm<|(List.length_set ..).trans Y) Y)<|rlD Y<|rlD Y rln
   ·
    exact Zg<|K8 1 3 11 12 13 17 18 19 Y<|Tr<|Rm Y<|Rm Y<|Rm Y<|R2 ZI Y<|bE h fun x4 h_x4 h=>Rq Y (Z4 (ov Y) (ov Y) Qi Y Y h_x4)<|Rq Y (Qj (ov Y) Y Y h_x4 tS5 Y)<|Rm Y<|R2 Zbk Y<|bE h fun x5 h_x5 h=>Rq Y (Z4 (ov Y) (ov Y) Qi Y Y h_x5)<|Rx Y (Xg (u':=(QD .u8 x4 x)) (ov Y) (ov Y) (Zj tS5) Y Y h_x5 Y (Za Y) Y)<|Zb<|K6 1 3 11 17 18 19 Y<|Zo<|Rm Y<|R2 ZbR Y<|Rz Y<|K6 1 3 11 17 18 19 Y<|Zo<|R2 ZI Y<|Rm Y<|Zb<|⟨_,h,ES [some 0]<|sd 1 Y Y<|sd 3 Y Y<|sr 11 Y (Zbu (Eq.symm<|(List.length_set ..).trans Y) Y)<|sd 17 Y Y<|sd 18 Y Y<|sd 19 Y Y sn⟩
  ·
   refine ZA<|?_
   replace h:=lx h▸ho1
   exact⟨_,h,ES [some 0]⟩
 ·
  replace h:=elr h
  replace h:=t2i h
  refine Tr<|Rm Y<|Rm Y<|Ra Y<|Ra Y<|Rz Y<|?_
  obtain rfl:=rt h
  exact Zk<|Xu [some 0] Y (.cons (.tmp Y)<|.cons (.tmp Y)<|.cons (.tmp Y) .nil) (.cons Y (roM D5) .nil) Y Y<|Qq<|rlc (.own _ Y)<|rlD Y<|rlD Y rln
theorem Jg{r_:ref3_Recorder}{k:Int}{sector:Int}{at_:Int}{data:List Int}{r:Bool×ref3_Recorder}(h:Qc r_ k sector at_ data=some r):
 GSpec Tryz.prog gl0 44 [.ptr 0 1 0 0,.int .i64 k,.int .i64 sector,.int .i64 at_,.sl 5 (List.map R5 data)] [some ⟨89,[[.own 1 r_.list.length,.int .i64 r_.copies,.own 2 r_.stands.length,.bool r_.frozen,.bool r_.stopped,.int .i64 r_.last,.bool r_.some_,.int .i64 r_.power]]⟩,some ⟨59,List.map O59 r_.list⟩,some ⟨92,List.map R92 r_.stands⟩] (.bool r.1) [some ⟨89,[[.own 3 r.2.list.length,.int .i64 r.2.copies,.own 2 r_.stands.length,.bool r.2.frozen,.bool r.2.stopped,.int .i64 r.2.last,.bool r.2.some_,.int .i64 r.2.power]]⟩,none,some ⟨92,List.map R92 r_.stands⟩,some ⟨59,List.map O59 r.2.list⟩]:=by
 unfold Qc at h
 replace h:=Qb h
 refine Ql (by kernel_rfl) Tryz.func44 Y Y<|?_
 intro w0 A W φ0
 refine ZbK (Ent.sel [some 0,some 1,some 2,some 1] (sr 0 Y (.ptr (r':=0) _ _ _ Y)<|sd 1 Y Y<|sd 2 Y Y<|sd 3 Y Y<|sd 4 Y Y sn) (.cons Y (ro1 (by exact tZ_89.symm)<|rlc (.own (r':=3) _ Y)<|rlD Y<|rlc (.own (r':=2) _ Y)<|rlD Y<|rlD Y<|rlD Y<|rlD Y<|rlD Y rln)<|.dead<|.cons Y (roM D92)<|.cons Y (roO Zw) .nil) Y Y)<|ZH [some ⟨89,[[.own 3 r_.list.length,.int .i64 r_.copies,.own 2 r_.stands.length,.bool r_.frozen,.bool r_.stopped,.int .i64 r_.last,.bool r_.some_,.int .i64 r_.power]]⟩,none,some ⟨92,List.map R92 r_.stands⟩,some ⟨59,List.map O59 r_.list⟩] Y<|Tr<|Rz Y<|Zh<|K5 0 1 2 3 4 Y<|bE h fun x h_x h=>ZbK (Ent.focusH (r:=3) (j:=2) (e':=22) (g:=O22) (ys:=x.Sectors) Y (Zp h_x).2 Y Zat)<|bE h fun x2 h_x2 h=>ZbK (Ent.focusH (r:=4) (j:=0) (e':=5) (g:=R5) (ys:=x2) Y (Zp h_x2).2 Y DR5)<|Z5 (cw:=⟨true,false,[],[],[]⟩) (by kernel_rfl)<|D1 0 Zc Y<|Dq 1 Y (Zi (ov Y) Y Y)<|Dq 2 Y (Ze (ov Y) Y Y ZaI)<|Dq 3 Y (Zl (ov Y) Y Y Y Zcc Y)<|D1 4 Zc Y<|bE h fun x3 h_x3 h=>Dq 5 Y (ZgD (ov Y) (ov Y) XC Y Y h_x3)<|Dq 6 Y (Zge (ov Y) Y Y Z9)<|Dq 7 Y (Jl (ov Y) Y Y (Zp h_x).2 Q7 Y)<|D1 8 Zc Y<|bE h fun x4 h_x4 h=>Dq 9 Y (ZgD (ov Y) (ov Y) Q3 Y Y h_x4)<|Dq 10 Y (Jl (ov Y) Y Y (Zp h_x2).2 Zek Y)<|D1 11 Zc Y<|D1 12 Zc Y<|D1 13 Zc Y<|Dq 14 Y (Zi (ov Y) Y Y)<|Dq 15 Y (Ze (ov Y) Y Y Zfn)<|Dq 16 Y (Zl (ov Y) Y Y Y tS3 Y)<|bE h fun y h_y h=>Do 17 Y (Zkj (Zlk h_y) (.cons (ov Y) (View.ownM Y Y D5)<|.cons (ov Y) (Dat.view<|.b Y)<|.cons (ov Y) (Dat.view<|.b Y)<|.cons (ov Y) (Dat.view<|.b Y) .nil) (.keep Y Y<|.none<|.keep Y Y<|.keep Y Y<|.keep Y Y<|.keep Y Y<|.lent 0 (Wa Y Y) Y (roM D5) .nil) Y (Qq<|rlc (.own _<|Wa Y Y)<|rlD Y<|rlD Y rln) Y<|.cons (frM DR5) .nil)<|D1 18 Zc Y<|Dq 19 Y (Xa (ov Y) Y)<|Dq 20 Y (Xa (ov Y) Y)<|Dq 21 Y (Xa (ov Y) Y)<|D1 22 ZS Y<|D1 23 ZS Y<|D1 24 ZS Y<|Jd (by kernel_rfl) (Ent.trans (Ent.absorbH (r:=4) (j:=0) (q:=5) Y (Zp h_x2).2 Y Y (List.length_map ..) Y)<|Ent.trans (Ent.closeS (r:=4) Y (Zp h_x2).2 Y)<|Ent.trans (Ent.absorbH (r:=3) (j:=2) (q:=4) Y (Zp h_x).2 Y Y (List.length_map ..) Y)<|Ent.closeS (r:=3) Y (Zp h_x).2 Y)<|K6 0 1 2 11 12 13 Y<|ZH [some ⟨89,[[.own 3 r_.list.length,.int .i64 r_.copies,.own 2 r_.stands.length,.bool r_.frozen,.bool r_.stopped,.int .i64 r_.last,.bool r_.some_,.int .i64 r_.power]]⟩,none,some ⟨92,List.map R92 r_.stands⟩,some ⟨59,List.map O59 r_.list⟩,none,none,some ⟨5,List.map R5 y.1⟩] Y<|Tr<|Rm Y<|Rq Y (Zi (ov Y) Y Y)<|Rq Y (Ze (ov Y) Y Y ZaI)<|Rq Y (Zl (ov Y) Y Y Y Zcc Y)<|Rm Y<|bE h fun x5 h_x5 h=>Rq Y (Z4 (ov Y) (ov Y) XC Y Y h_x5)<|Rq Y (Ju (ov Y) Y Y Z9)<|Qk (Ent.focusH (r:=3) (j:=2) (e':=22) (g:=O22) (ys:=x5.Sectors) Y (Zp h_x5).2 Y Zat)<|Rq Y (Jl (ov Y) Y Y (Zp h_x5).2 Q7 Y)<|Rm Y<|Rm Y<|Rm Y<|Rm Y<|bE h fun x6 h_x6 h=>Rq Y (Z4 (ov Y) (ov Y) Q3 Y Y h_x6)<|Rx Y (ZmA (ov Y) (ov Y) (Zj Zek) Y Y (Zp h_x6).2 Y (Za Y) Y)<|Rq Y (Zi (ov Y) Y Y)<|Rq Y (Ze (ov Y) Y Y Zfn)<|Rx Y (Zm (ov Y) (ov Y) (Zj tS3) Y Y Y (nL Y) (Za Y) Y)<|ZdL [some ⟨89,[[.own 3 r_.list.length,.int .i64 r_.copies,.own 2 r_.stands.length,.bool r_.frozen,.bool r_.stopped,.int .i64 r_.last,.bool r_.some_,.int .i64 y.2.1]]⟩,none,some ⟨92,List.map R92 r_.stands⟩,some ⟨59,List.set (List.map O59 r_.list) k.toNat [.int .i64 x5.Slots,.int .i64 x5.Limit,.own 7 x5.Sectors.length,.osub 3 (List.map R3 x5.Wear),.osub 4 (List.map R4 x5.Bad)]⟩,none,none,some ⟨5,List.map R5 y.1⟩,some ⟨22,List.set (List.map O22 x5.Sectors) sector.toNat [.own 6 y.1.length]⟩] Y<|?_
 have h_x7:=Xb (y:=y.1) h_x6
 have h_x8:=Xb (y:=(api_Memory.mk x5.Slots x5.Limit (x5.Sectors.set sector.toNat y.1) x5.Wear x5.Bad)) h_x5
 have h_x9:=Xb (y:=(api_Memory.mk x5.Slots x5.Limit (x5.Sectors.set sector.toNat y.1) x5.Wear x5.Bad)) h_x5
 refine Qk (Ent.absorbH (r:=7) (j:=0) (q:=6) Y (Zp h_x6).2 Y Y (List.length_map ..) Y)<|Qk (Ent.closeH (r:=7) (y:=y.1) Y Y)<|Qk (Ent.absorbH (r:=3) (j:=2) (q:=7) Y (Zp h_x5).2 Y Y ((List.length_map ..).trans<|(List.length_set ..).trans Y) Y)<|Qk (Ent.closeH (r:=3) (y:=(api_Memory.mk x5.Slots x5.Limit (x5.Sectors.set sector.toNat y.1) x5.Wear x5.Bad)) Y Y)<|Zb<|K1 13 Y<|ZH [some ⟨89,[[.own 3 r_.list.length,.int .i64 r_.copies,.own 2 r_.stands.length,.bool r_.frozen,.bool r_.stopped,.int .i64 r_.last,.bool r_.some_,.int .i64 y.2.1]]⟩,none,some ⟨92,List.map R92 r_.stands⟩,some ⟨59,List.map O59 (r_.list.set k.toNat (api_Memory.mk x5.Slots x5.Limit (x5.Sectors.set sector.toNat y.1) x5.Wear x5.Bad))⟩,none,none,none,none] Y<|Tr<|Rm Y<|Rz Y<|?_
 obtain rfl:=rt h
 exact Zk<|Xu [some 0,some 1,some 2,some 3] Y (.cons (.tmp Y) .nil) (.cons Y (ro1 (by exact tZ_89.symm)<|rlc (Zbu (Eq.symm<|(List.length_set ..).trans Y) Y)<|rlD Y<|rlc (.own _ Y)<|rlD Y<|rlD Y<|rlD Y<|rlD Y<|rlD Y rln)<|.dead<|.cons Y (roM D92)<|.cons Y (roO Zw) .nil) Y Y<|.dat Y
theorem Zfx{r_:ref3_Recorder}{power:Int}{r:Int×Bool×Int×ref3_Recorder}(h:XD r_ power=some r):
 GSpec Tryz.prog gl0 16 [.ptr 0 1 0 0,.int .i64 power] [some ⟨89,[[.own 1 r_.list.length,.int .i64 r_.copies,.own 2 r_.stands.length,.bool r_.frozen,.bool r_.stopped,.int .i64 r_.last,.bool r_.some_,.int .i64 r_.power]]⟩,some ⟨59,List.map O59 r_.list⟩,some ⟨92,List.map R92 r_.stands⟩] (.tuple [.int .i64 r.1,.bool r.2.1,.int .i64 r.2.2.1]) [some ⟨89,[[.own 3 r.2.2.2.list.length,.int .i64 r.2.2.2.copies,.own 4 r.2.2.2.stands.length,.bool r.2.2.2.frozen,.bool r.2.2.2.stopped,.int .i64 r.2.2.2.last,.bool r.2.2.2.some_,.int .i64 r.2.2.2.power]]⟩,none,none,some ⟨59,List.map O59 r.2.2.2.list⟩,some ⟨92,List.map R92 r.2.2.2.stands⟩]:=by
 unfold XD at h
 replace h:=Qb h
 refine Ql (by kernel_rfl) Tryz.func16 Y Y<|?_
 intro w0 A W φ0
 refine ZbK (Ent.sel [some 0,some 1,some 2,some 1,some 2] (sr 0 Y (.ptr (r':=0) _ _ _ Y)<|sd 1 Y Y sn) (.cons Y (ro1 (by exact tZ_89.symm)<|rlc (.own (r':=3) _ Y)<|rlD Y<|rlc (.own (r':=4) _ Y)<|rlD Y<|rlD Y<|rlD Y<|rlD Y<|rlD Y rln)<|.dead<|.dead<|.cons Y (roO Zw)<|.cons Y (roM D92) .nil) Y Y)<|ZH [some ⟨89,[[.own 3 r_.list.length,.int .i64 r_.copies,.own 4 r_.stands.length,.bool r_.frozen,.bool r_.stopped,.int .i64 r_.last,.bool r_.some_,.int .i64 r_.power]]⟩,none,none,some ⟨59,List.map O59 r_.list⟩,some ⟨92,List.map R92 r_.stands⟩] Y<|Tr<|Ra Y<|Ra Y<|Rz Y<|Zh<|Zf<|K2 0 1 Y<|Tr<|Rm Y<|Rq Y (Zi (ov Y) Y Y)<|Rq Y (Ze (ov Y) Y Y ZkE)<|Rq Y (Zl (ov Y) Y Y Y tS4 Y)<|Rz Y<|K3 0 1 9 Y<|If h Y (fun h=>?_) fun h=>?_
 ·
  refine K0<|Tr<|Ra Y<|Ra Y<|Rz Y<|?_
  obtain rfl:=rt h
  exact Zk<|Xu [some 0,some 1,some 2,some 3,some 4] Y (.cons (.tmp Y)<|.cons (.tmp Y)<|.cons (.tmp Y) .nil) (.cons Y (ro1 (by exact tZ_89.symm)<|rlc (.own _ Y)<|rlD Y<|rlc (.own _ Y)<|rlD Y<|rlD Y<|rlD Y<|rlD Y<|rlD Y rln)<|.dead<|.dead<|.cons Y (roO Zw)<|.cons Y (roM D92) .nil) Y Y<|Qq<|rlD Y<|rlD Y<|rlD Y rln
 ·
  refine K2 0 1 Y<|Tr<|Rm Y<|Rq Y (Zi (ov Y) Y Y)<|Rq Y (Ze (ov Y) Y Y Zku)<|Rq Y (Zl (ov Y) Y Y Y tS4 Y)<|Rz Y<|K3 0 1 14 Y<|If h Y (fun h=>?_) fun h=>?_
  ·
   refine K0<|Tr<|Ra Y<|Ra Y<|Rz Y<|?_
   obtain rfl:=rt h
   exact Zk<|Xu [some 0,some 1,some 2,some 3,some 4] Y (.cons (.tmp Y)<|.cons (.tmp Y)<|.cons (.tmp Y) .nil) (.cons Y (ro1 (by exact tZ_89.symm)<|rlc (.own _ Y)<|rlD Y<|rlc (.own _ Y)<|rlD Y<|rlD Y<|rlD Y<|rlD Y<|rlD Y rln)<|.dead<|.dead<|.cons Y (roO Zw)<|.cons Y (roM D92) .nil) Y Y<|Qq<|rlD Y<|rlD Y<|rlD Y rln
  ·
   refine K2 0 1 Y<|Tr<|Rm Y<|bE h fun y h_y h=>Rq Y (Zq (QU h_y)<|.cons (ov Y) (.b Y)<|.cons (ov Y) (.b Y)<|.cons (ov Y) (.b Y) .nil)<|Rz Y<|K3 0 1 19 Y<|If h Y (fun h=>?_) fun h=>?_
   ·
    refine K0<|Tr<|Ra Y<|Ra Y<|Rz Y<|?_
    obtain rfl:=rt h
    exact Zk<|Xu [some 0,some 1,some 2,some 3,some 4] Y (.cons (.tmp Y)<|.cons (.tmp Y)<|.cons (.tmp Y) .nil) (.cons Y (ro1 (by exact tZ_89.symm)<|rlc (.own _ Y)<|rlD Y<|rlc (.own _ Y)<|rlD Y<|rlD Y<|rlD Y<|rlD Y<|rlD Y rln)<|.dead<|.dead<|.cons Y (roO Zw)<|.cons Y (roM D92) .nil) Y Y<|Qq<|rlD Y<|rlD Y<|rlD Y rln
   ·
    refine Zg<|K2 0 1 Y<|Tr<|Rm Y<|Rq Y (Zi (ov Y) Y Y)<|Rq Y (Ze (ov Y) Y Y Zku)<|Rx Y (Zm (ov Y) (ov Y) (Zj tS4) Y Y Y (nL Y) (Za Y) Y)<|Zb<|K2 0 1 Y<|ZH [some ⟨89,[[.own 3 r_.list.length,.int .i64 r_.copies,.own 4 r_.stands.length,.bool true,.bool r_.stopped,.int .i64 r_.last,.bool r_.some_,.int .i64 r_.power]]⟩,none,none,some ⟨59,List.map O59 r_.list⟩,some ⟨92,List.map R92 r_.stands⟩] Y<|Tr<|Rm Y<|Rm Y<|Rq Y (Zi (ov Y) Y Y)<|Rq Y (Ze (ov Y) Y Y Zfn)<|Rx Y (Zm (ov Y) (ov Y) (Zj tS3) Y Y Y (nL Y) (Za Y) Y)<|Zb<|J7 (fun j=>(.inr j)) (fun list copies frozen stopped last some_ power2=>⟨[(0,.ptr 0 1 0 0)],[some ⟨89,[[.own 3 list.length,.int .i64 copies,.own 4 r_.stands.length,.bool frozen,.bool stopped,.int .i64 last,.bool some_,.int .i64 power2]]⟩,none,none,some ⟨59,List.map O59 list⟩,some ⟨92,List.map R92 r_.stands⟩]⟩) h (fun h=>?_) fun list copies frozen stopped last some_ power2 h=>?_
    ·
     refine K1 0 Y<|ZH [some ⟨89,[[.own 3 r_.list.length,.int .i64 r_.copies,.own 4 r_.stands.length,.bool true,.bool r_.stopped,.int .i64 r_.last,.bool r_.some_,.int .i64 power]]⟩,none,none,some ⟨59,List.map O59 r_.list⟩,some ⟨92,List.map R92 r_.stands⟩] Y<|Tr<|Rm Y<|Rq Y (Zi (ov Y) Y Y)<|Rq Y (Ze (ov Y) Y Y Ze0)<|Rq Y (Zl (ov Y) Y Y Y ZkW Y)<|Rq Y (Zb9 (ov Y) Y Y ZjA)<|Rm Y<|Zb<|Zf<|?_
     obtain⟨r1,hl1,ho1⟩:=QC h
     refine L8 (fun list2 copies2 frozen2 stopped2 last2 some_2 power3 i=>⟨[(0,.ptr 0 1 0 0),(32,.own 4 r_.stands.length),(33,.int .i64 (r_.stands.length:Int)),(34,.int .i64 i)],[some ⟨89,[[.own 3 list2.length,.int .i64 copies2,.own 4 r_.stands.length,.bool frozen2,.bool stopped2,.int .i64 last2,.bool some_2,.int .i64 power3]]⟩,none,none,some ⟨59,List.map O59 list2⟩,some ⟨92,List.map R92 r_.stands⟩]⟩) hl1 (ES [some 0,some 1,some 2,some 3,some 4] (hhp:= .cons Y (ro1 (by exact tZ_89.symm)<|rlc (.own _ Y)<|rlD Y<|rlc (.own _ Y)<|rlD Y<|rlD Y<|rlD Y<|rlD Y<|rlD Y rln)<|.dead<|.dead<|.cons Y (roO Zw)<|.cons Y (roM D92) .nil)) fun n1 list2 copies2 frozen2 stopped2 last2 some_2 power3 i h=>?_
     unfold Jt at h
     refine Tr<|R2 ZL Y<|Zb<|Zh<|If h Y (fun h=>?_) fun h=>?_
     ·
      refine Zg<|Zh<|Zf<|K4 0 32 33 34 Y<|Tr<|Rm Y<|bE h fun x h_x h=>Rq Y (Z4 (ov Y) (ov Y) ZjA Y Y h_x)<|Rq Y (ZmS (ov Y) Y Y h_x Zpm Y Y)<|Rx Y (Qd (row:= [_,_]) 5 Y Zqp Y tZ_92)<|Ra Y<|Rx Y (Zm (ov Y) (ov Y) (ZB Zpm Y) Y Y Y (nL Y) (Za Y) Y)<|Zb<|K6 0 7 8 32 33 34 Y<|ZH [some ⟨89,[[.own 3 list2.length,.int .i64 copies2,.own 4 r_.stands.length,.bool frozen2,.bool stopped2,.int .i64 last2,.bool some_2,.int .i64 power3]]⟩,none,none,some ⟨59,List.map O59 list2⟩,some ⟨92,List.map R92 r_.stands⟩,some ⟨92,[[.int .i64 x.sector,.int .i64 x.slot]]⟩] Y<|Tr<|Rq Y (Ze (ov Y) Y Y ZgH)<|Rq Y (Zl (ov Y) Y Y Y tS3 Y)<|R2 ZiV Y<|Rm Y<|Rq Y (.guarded ((decide (0≤x.sector))==true) Y Y Y Y fun h=>Zc<|ov Y)<|Rq Y (.guarded ((decide (0≤x.sector))==true) Y Y Y Y fun h=>Zc<|ov Y)<|Rq Y (.guarded ((decide (0≤x.sector))==true) Y Y Y Y fun h=>Ze (ov Y) Y Y ZgH)<|Rq Y (.guarded ((decide (0≤x.sector))==true) Y Y Y Y fun h=>Zl (ow Y h) Y Y Y tS3 Y)<|R_q (.when ((decide (0≤x.sector))==true)<|.sl 5<|List.map R5 ([0]:List Int)) Y (.guarded ((decide (0≤x.sector))==true) Y Y Y Y fun h=>Jc Qi (.cons (cvs (ov Y)<|Zn Y) Y (.cons (.b Y) .nil) .nil) Y Y)<|?_
      rcases ifR h with ⟨hg,h⟩ | ⟨hg,h⟩
      ·
       refine ZlL (d:=42) (b':=true) Y (ZrK hg)<|bE h fun y2 h_y2 h=>Zrt _ _ Y Y Y Y (Zz [0,3,4] (Jg h_y2) (.cons (ow Y<|by first |rfl |exact hg |simp_all) (.ptr _ _ _ Y)<|.cons (ow Y<|by first |rfl |exact hg |simp_all) (.dat Y)<|.cons (ow Y<|by first |rfl |exact hg |simp_all) (.dat Y)<|.cons (ov Y) (.dat Y)<|.cons (ow Y<|by first |rfl |exact hg |simp_all) (.dat Y) .nil) (.cons Y (ro1 (by exact tZ_89.symm)<|rlc (.own _ Y)<|rlD Y<|rlc (.own _ Y)<|rlD Y<|rlD Y<|rlD Y<|rlD Y<|rlD Y rln)<|.cons Y (roO Zw)<|.cons Y (roM D92) .nil) Y (.lent 0 (.inl Y) Y (ro1 (by exact tZ_89.symm)<|rlc (.own _<|Wa Y Y)<|rlD Y<|rlc (.own _<|.inl Y)<|rlD Y<|rlD Y<|rlD Y<|rlD Y<|rlD Y rln)<|.none<|.none<|.none<|.lent 2 (.inl Y) Y (roM D92)<|.keep Y Y<|.lent 3 (Wa Y Y) Y (roO Zw) .nil) Y Y<|.dat Y)<|Rq Y (.guarded (true==true) Y Y Y Y fun h=>XM<|ov Y)<|Rq Y (J6 (ov Y) fun hp=>ow Y<|gT hp)<|Zb<|K5 0 32 33 34 50 Y<|If h Y (fun h=>?_) fun h=>?_
       ·
        refine K1 0 Y<|ZH [some ⟨89,[[.own 6 y2.2.list.length,.int .i64 y2.2.copies,.own 4 r_.stands.length,.bool y2.2.frozen,.bool y2.2.stopped,.int .i64 y2.2.last,.bool y2.2.some_,.int .i64 y2.2.power]]⟩,none,none,none,some ⟨92,List.map R92 r_.stands⟩,some ⟨92,[[.int .i64 x.sector,.int .i64 x.slot]]⟩,some ⟨59,List.map O59 y2.2.list⟩] Y<|Tr<|Rm Y<|Rq Y (Zi (ov Y) Y Y)<|Rq Y (Ze (ov Y) Y Y ZkE)<|Rx Y (Zm (ov Y) (ov Y) (Zj tS4) Y Y Y (nL Y) (Za Y) Y)<|Zb<|K1 0 Y<|ZH [some ⟨89,[[.own 6 y2.2.list.length,.int .i64 y2.2.copies,.own 4 r_.stands.length,.bool y2.2.frozen,.bool true,.int .i64 y2.2.last,.bool y2.2.some_,.int .i64 y2.2.power]]⟩,none,none,none,some ⟨92,List.map R92 r_.stands⟩,some ⟨92,[[.int .i64 x.sector,.int .i64 x.slot]]⟩,some ⟨59,List.map O59 y2.2.list⟩] Y<|Tr<|Rm Y<|Rq Y (Zi (ov Y) Y Y)<|Rq Y (Ze (ov Y) Y Y Zfn)<|Rq Y (Zl (ov Y) Y Y Y tS3 Y)<|Ra Y<|Ra Y<|Rz Y<|?_
        replace h:=lx h▸ho1
        obtain rfl:=rt h
        exact Zk<|Xu [some 0,some 1,some 2,some 6,some 4] Y (.cons (.tmp Y)<|.cons (.tmp Y)<|.cons (.tmp Y) .nil) (.cons Y (ro1 (by exact tZ_89.symm)<|rlc (.own _ Y)<|rlD Y<|rlc (.own _ Y)<|rlD Y<|rlD Y<|rlD Y<|rlD Y<|rlD Y rln)<|.dead<|.dead<|.cons Y (roO Zw)<|.cons Y (roM D92) .nil) Y Y<|Qq<|rlD Y<|rlD Y<|rlD Y rln
       ·
        exact Zg<|K4 0 32 33 34 Y<|ZH [some ⟨89,[[.own 6 y2.2.list.length,.int .i64 y2.2.copies,.own 4 r_.stands.length,.bool y2.2.frozen,.bool y2.2.stopped,.int .i64 y2.2.last,.bool y2.2.some_,.int .i64 y2.2.power]]⟩,none,none,none,some ⟨92,List.map R92 r_.stands⟩,some ⟨92,[[.int .i64 x.sector,.int .i64 x.slot]]⟩,some ⟨59,List.map O59 y2.2.list⟩] Y<|Zo<|R2 ZI Y<|Rm Y<|Zb<|⟨_,h,ES [some 0,some 1,some 2,some 6,some 4] (hhp:= .cons Y (ro1 (by exact tZ_89.symm)<|rlc (.own _ Y)<|rlD Y<|rlc (.own _ Y)<|rlD Y<|rlD Y<|rlD Y<|rlD Y<|rlD Y rln)<|.dead<|.dead<|.cons Y (roO Zw)<|.cons Y (roM D92) .nil)⟩
      ·
       refine ZlL (d:=42) (b':=false) Y (Zry hg)<|Zl5 Y Y Y Y Y<|bE h fun u h_u h=>R_q (.when (false==true)<|.bool false) Y (.guarded (false==true) Y Y Y Y fun h=>Zqo<|gdT h_u h)<|Rq Y (J6 (ov Y) fun hp=>ow Y<|gT hp)<|Zb<|K5 0 32 33 34 50 Y<|If h Y (fun h=>?_) fun h=>?_
       ·
        refine K1 0 Y<|Tr<|Rm Y<|Rq Y (Zi (ov Y) Y Y)<|Rq Y (Ze (ov Y) Y Y ZkE)<|Rx Y (Zm (ov Y) (ov Y) (Zj tS4) Y Y Y (nL Y) (Za Y) Y)<|Zb<|K1 0 Y<|ZH [some ⟨89,[[.own 3 list2.length,.int .i64 copies2,.own 4 r_.stands.length,.bool frozen2,.bool true,.int .i64 last2,.bool some_2,.int .i64 power3]]⟩,none,none,some ⟨59,List.map O59 list2⟩,some ⟨92,List.map R92 r_.stands⟩,some ⟨92,[[.int .i64 x.sector,.int .i64 x.slot]]⟩] Y<|Tr<|Rm Y<|Rq Y (Zi (ov Y) Y Y)<|Rq Y (Ze (ov Y) Y Y Zfn)<|Rq Y (Zl (ov Y) Y Y Y tS3 Y)<|Ra Y<|Ra Y<|Rz Y<|?_
        replace h:=lx h▸ho1
        obtain rfl:=rt h
        exact Zk<|Xu [some 0,some 1,some 2,some 3,some 4] Y (.cons (.tmp Y)<|.cons (.tmp Y)<|.cons (.tmp Y) .nil) (.cons Y (ro1 (by exact tZ_89.symm)<|rlc (.own _ Y)<|rlD Y<|rlc (.own _ Y)<|rlD Y<|rlD Y<|rlD Y<|rlD Y<|rlD Y rln)<|.dead<|.dead<|.cons Y (roO Zw)<|.cons Y (roM D92) .nil) Y Y<|Qq<|rlD Y<|rlD Y<|rlD Y rln
       ·
        exact Zg<|K4 0 32 33 34 Y<|Zo<|R2 ZI Y<|Rm Y<|Zb<|⟨_,h,ES [some 0,some 1,some 2,some 3,some 4] (hhp:= .cons Y (ro1 (by exact tZ_89.symm)<|rlc (.own _ Y)<|rlD Y<|rlc (.own _ Y)<|rlD Y<|rlD Y<|rlD Y<|rlD Y<|rlD Y rln)<|.dead<|.dead<|.cons Y (roO Zw)<|.cons Y (roM D92) .nil)⟩
     ·
      refine ZA<|?_
      replace h:=lx h▸ho1
      exact⟨_,h,ES [some 0,some 1,some 2,some 3,some 4] (hhp:= .cons Y (ro1 (by exact tZ_89.symm)<|rlc (.own _ Y)<|rlD Y<|rlc (.own _ Y)<|rlD Y<|rlD Y<|rlD Y<|rlD Y<|rlD Y rln)<|.dead<|.dead<|.cons Y (roO Zw)<|.cons Y (roM D92) .nil)⟩
    ·
     replace h:=elr h
     replace h:=t7i h
     refine Tr<|Rm Y<|Rq Y (Zi (ov Y) Y Y)<|Rq Y (Ze (ov Y) Y Y Zfn)<|Rq Y (Zl (ov Y) Y Y Y tS3 Y)<|Ra Y<|Ra Y<|Rz Y<|?_
     obtain rfl:=rt h
     exact Zk<|Xu [some 0,some 1,some 2,some 3,some 4] Y (.cons (.tmp Y)<|.cons (.tmp Y)<|.cons (.tmp Y) .nil) (.cons Y (ro1 (by exact tZ_89.symm)<|rlc (.own _ Y)<|rlD Y<|rlc (.own _ Y)<|rlD Y<|rlD Y<|rlD Y<|rlD Y<|rlD Y rln)<|.dead<|.dead<|.cons Y (roO Zw)<|.cons Y (roM D92) .nil) Y Y<|Qq<|rlD Y<|rlD Y<|rlD Y rln
theorem Zld{f:Vector Int 64}{r:(List api_Flaw)}(h:Zfo f=some r):
 CSpec Tryz.prog gl0 88 [.agg (List.map C44 f.toList)] (.sl 133 (List.map R133 r)):=by
 unfold Zfo at h
 replace h:=Qb h
 refine So Tryz.func88 Y fun w0 A=>Tr<|Rq Y (JL (cva<|ov Y) arL tZ_46<|arD fun _=>Y)<|Rz Y<|K1 1 Y<|Tr<|Rz Y<|I1 (fun out=>⟨[(1,.rp (List.map C44 f.toList) 0),(3,.own 0 out.length)],[some ⟨133,List.map R133 out⟩]⟩) h (fun h=>?_) fun out h=>?_
 ·
  refine Tr<|Rq Y (Z3 (ov Y) X3 (Qs<|Zu arL) arL)<|Rm Y<|Zb<|Zf<|?_
  obtain⟨r1,hl1,ho1⟩:=QC h
  refine L2 (fun out2 i=>⟨[(1,.rp (List.map C44 f.toList) 0),(3,.own 0 out2.length),(7,.agg (List.map C44 f.toList)),(8,.int .i64 i)],[some ⟨133,List.map R133 out2⟩]⟩) hl1 (ES [none]) fun n1 out2 i h=>?_
  unfold Zcm at h
  refine Tr<|R2 ZL Y<|Zb<|Zh<|If h Y (fun h=>?_) fun h=>?_
  ·
   refine Zg<|Zh<|Zf<|K4 1 3 7 8 Y<|Tr<|Rm Y<|bE h fun x h_x h=>Rq Y (ZhH (ov Y) (ov Y) Zaq Za7 h_x)<|Ra Y<|Rz Y<|K6 1 3 4 5 7 8 Y<|Tr<|Rm Y<|R2 Za9 Y<|Zb<|K6 1 3 4 7 8 13 Y<|If h Y (fun h=>?_) fun h=>?_
   ·
    exact K5 1 3 4 7 8 Y<|Zo<|Rm Y<|Rm Y<|Rq Y (Xw (ys:= [_,_]) Zf4 ZfT Zh2 (.cons (cvs (ov Y)<|Zn Y)<|.cons (cvs (ov Y)<|Zn Y) .nil) Y)<|R_q (.sl 133<|List.map R133 ([(api_Flaw.mk i 5)]:List api_Flaw)) Y (Jc ZeG (.cons (cva<|ov Y) Y (pwD Y) .nil) Y Y)<|bE h fun l h_l h=>Rx Y (QK (ov Y) (Qr (ov Y) tZ_133) ZeG Y Y Y (fun _=>Za Y) Y h_l)<|Rz Y<|K4 1 3 7 8 Y<|Zo<|R2 ZI Y<|Rm Y<|Zb<|⟨_,h,ES [some 0]⟩
   ·
    exact Zg<|K4 1 3 7 8 Y<|Zo<|R2 ZI Y<|Rm Y<|Zb<|⟨_,h,ES [some 0]⟩
  ·
   refine ZA<|?_
   replace h:=lx h▸ho1
   exact⟨_,h,ES [some 0]⟩
 ·
  refine Zh<|Tr<|Rm Y<|Rq Y (Zb9 (ov Y) Y Y ZeG)<|R2 Za9 Y<|Zb<|K3 1 3 22 Y<|If h Y (fun h=>?_) fun h=>?_
  ·
   refine K1 3 Y<|Tr<|Rm Y<|Rz Y<|?_
   obtain rfl:=rt h
   exact Zk (ZK Y (.one<|.tmp Y<|View.ownM Y Y D133))
  ·
   refine Zg<|I1 (fun out3=>⟨[(1,.rp (List.map C44 f.toList) 0),(3,.own 0 out3.length)],[some ⟨133,List.map R133 out3⟩]⟩) h (fun h=>?_) fun out3 h=>?_
   ·
    refine Zh<|K2 1 3 Y<|Z5 (cw:=md0) (by kernel_rfl)<|bE h fun x2 h_x2 h=>Dq 0 Y (Q6 (ov Y) (ov Y) Zaq h_x2)<|Dq 1 Y (Zd (ov Y) Za7<|Qx<|XV (o:=0) (o':=((Int.toNat 0)*1)) (Zu arL)<|XR h_x2)<|Dq 2 Y (Qh (ov Y) Zdl tI3 Y)<|Dq 3 Y (Z3 (ov Y) X3 (Qs<|Zu arL) arL)<|bE h fun y h_y h=>Dq 4 Y (Zq (ZdH h_y)<|.cons (ov Y) (.aggB<|arD fun _=>Y) .nil)<|bE h fun y2 h_y2 h=>Dq 5 Y (Zq (Zhz h_y2)<|.cons (ov Y) (.b Y) .nil)<|D2 6 Qy Y<|Dd<|K3 1 3 30 Y<|If h Y (fun h=>?_) fun h=>?_
    ·
     exact K2 1 3 Y<|Zo<|Rm Y<|Rq Y (Xw (ys:= [_,_]) Zf4 ZfT Zh2 (.cons (cvs (ov Y)<|Zn Y)<|.cons (cvs (ov Y)<|Zn Y) .nil) Y)<|R_q (.sl 133<|List.map R133 ([(api_Flaw.mk 0 1)]:List api_Flaw)) Y (Jc ZeG (.cons (cva<|ov Y) Y (pwD Y) .nil) Y Y)<|bE h fun l2 h_l2 h=>Rx Y (QK (ov Y) (Qr (ov Y) tZ_133) ZeG Y Y Y (fun _=>Za Y) Y h_l2)<|Rz Y<|⟨_,h,ES [some 0]⟩
    ·
     exact Zg<|⟨_,h,ES [some 0]⟩
   ·
    refine I1 (fun out4=>⟨[(1,.rp (List.map C44 f.toList) 0),(3,.own 0 out4.length)],[some ⟨133,List.map R133 out4⟩]⟩) h (fun h=>?_) fun out4 h=>?_
    ·
     refine Tr<|Rz Y<|Zf<|?_
     obtain⟨r2,hl2,ho2⟩:=QC h
     refine L2 (fun out5 i2=>⟨[(1,.rp (List.map C44 f.toList) 0),(3,.own 0 out5.length),(6,.int .i64 i2)],[some ⟨133,List.map R133 out5⟩]⟩) hl2 (ES [some 0]) fun n2 out5 i2 h=>?_
     unfold Zch at h
     refine Zh<|Tr<|Rm Y<|R2 ZL Y<|Zb<|K4 1 3 6 36 Y<|If h Y (fun h=>?_) fun h=>?_
     ·
      refine Zg<|Zh<|Zf<|K3 1 3 6 Y<|Tr<|Rm Y<|bE h fun x3 h_x3 h=>Rq Y (Q6 (ov Y) (ov Y) Zaq h_x3)<|Rq Y (Zd (ov Y) Za7<|Qx<|XV (o:=0) (o':=(i2.toNat*1)) (Zu arL)<|XR h_x3)<|Rq Y (Qh (ov Y) Zdl tI3 Y)<|bE h fun y3 h_y3 h=>Rq Y (Zq (Zhx h_y3)<|.cons (ov Y) (.b Y) .nil)<|R1 XM Y<|Zb<|K4 1 3 6 44 Y<|If h Y (fun h=>?_) fun h=>?_
      ·
       exact K3 1 3 6 Y<|Zo<|Rm Y<|Rm Y<|Rq Y (Xw (ys:= [_,_]) Zf4 ZfT Zh2 (.cons (cvs (ov Y)<|Zn Y)<|.cons (cvs (ov Y)<|Zn Y) .nil) Y)<|R_q (.sl 133<|List.map R133 ([(api_Flaw.mk i2 2)]:List api_Flaw)) Y (Jc ZeG (.cons (cva<|ov Y) Y (pwD Y) .nil) Y Y)<|bE h fun l3 h_l3 h=>Rx Y (QK (ov Y) (Qr (ov Y) tZ_133) ZeG Y Y Y (fun _=>Za Y) Y h_l3)<|Rz Y<|K3 1 3 6 Y<|Zo<|Rm Y<|R2 ZI Y<|Rz Y<|⟨_,h,ES [some 0]⟩
      ·
       exact Zg<|K3 1 3 6 Y<|Zo<|Rm Y<|R2 ZI Y<|Rz Y<|⟨_,h,ES [some 0]⟩
     ·
      refine ZA<|?_
      replace h:=lx h▸ho2
      exact⟨_,h,ES [some 0]⟩
    ·
     refine I1 (fun out6=>⟨[(1,.rp (List.map C44 f.toList) 0),(3,.own 0 out6.length)],[some ⟨133,List.map R133 out6⟩]⟩) h (fun h=>?_) fun out6 h=>?_
     ·
      refine Zh<|Z5 (cw:=md0) (by kernel_rfl)<|bE h fun x4 h_x4 h=>Dq 0 Y (Q6 (ov Y) (ov Y) Zaq h_x4)<|Dq 1 Y (Zd (ov Y) Za7<|Qx<|XV (o:=0) (o':=((Int.toNat 61)*1)) (Zu arL)<|XR h_x4)<|Dq 2 Y (Qh (ov Y) Zdl tI3 Y)<|bE h fun q h_q h=>Dq 3 Y (Zaf (ov Y) (ov Y) h_q)<|Dq 4 Y (Z3 (ov Y) X3 (Qs<|Zu arL) arL)<|bE h fun y4 h_y4 h=>Dq 5 Y (Zq (ZjK h_y4)<|.cons (ov Y) (.aggB<|arD fun _=>Y) .nil)<|D2 6 Qy Y<|Dd<|K3 1 3 56 Y<|If h Y (fun h=>?_) fun h=>?_
      ·
       exact K2 1 3 Y<|Zo<|Rm Y<|Rq Y (Xw (ys:= [_,_]) Zf4 ZfT Zh2 (.cons (cvs (ov Y)<|Zn Y)<|.cons (cvs (ov Y)<|Zn Y) .nil) Y)<|R_q (.sl 133<|List.map R133 ([(api_Flaw.mk 61 3)]:List api_Flaw)) Y (Jc ZeG (.cons (cva<|ov Y) Y (pwD Y) .nil) Y Y)<|bE h fun l4 h_l4 h=>Rx Y (QK (ov Y) (Qr (ov Y) tZ_133) ZeG Y Y Y (fun _=>Za Y) Y h_l4)<|Rz Y<|⟨_,h,ES [some 0]⟩
      ·
       exact Zg<|⟨_,h,ES [some 0]⟩
     ·
      refine Zh<|Zh<|Z5 (cw:=md0) (by kernel_rfl)<|bE h fun x5 h_x5 h=>Dq 0 Y (Q6 (ov Y) (ov Y) Zaq h_x5)<|Dq 1 Y (Zd (ov Y) Za7<|Qx<|XV (o:=0) (o':=((Int.toNat 62)*1)) (Zu arL)<|XR h_x5)<|Dq 2 Y (Qh (ov Y) Zdl tI3 Y)<|bE h fun q2 h_q2 h=>Dq 3 Y (Zaf (ov Y) (ov Y) h_q2)<|D2 4 ZeC Y<|bE h fun x6 h_x6 h=>Dq 5 Y (Q6 (ov Y) (ov Y) Zaq h_x6)<|Dq 6 Y (Zd (ov Y) Za7<|Qx<|XV (o:=0) (o':=((Int.toNat 63)*1)) (Zu arL)<|XR h_x6)<|Dq 7 Y (Qh (ov Y) Zdl tI3 Y)<|bE h fun q3 h_q3 h=>Dq 8 Y (Zaf (ov Y) (ov Y) h_q3)<|D2 9 ZI Y<|Dq 10 Y (Z3 (ov Y) X3 (Qs<|Zu arL) arL)<|bE h fun y5 h_y5 h=>Dq 11 Y (Zq (Zh1 h_y5)<|.cons (ov Y) (.aggB<|arD fun _=>Y) .nil)<|D2 12 Qy Y<|Dd<|K2 3 73 Y<|If h Y (fun h=>?_) fun h=>?_
      ·
       refine K1 3 Y<|Zo<|Rm Y<|Rq Y (Xw (ys:= [_,_]) Zf4 ZfT Zh2 (.cons (cvs (ov Y)<|Zn Y)<|.cons (cvs (ov Y)<|Zn Y) .nil) Y)<|R_q (.sl 133<|List.map R133 ([(api_Flaw.mk 62 4)]:List api_Flaw)) Y (Jc ZeG (.cons (cva<|ov Y) Y (pwD Y) .nil) Y Y)<|bE h fun l5 h_l5 h=>Rx Y (QK (ov Y) (Qr (ov Y) tZ_133) ZeG Y Y Y (fun _=>Za Y) Y h_l5)<|Rz Y<|K1 3 Y<|Tr<|Rm Y<|Rz Y<|?_
       obtain rfl:=rt h
       exact Zk (ZK Y (.one<|.tmp Y<|View.ownM Y Y D133))
      ·
       refine Zg<|K1 3 Y<|Tr<|Rm Y<|Rz Y<|?_
       obtain rfl:=rt h
       exact Zk (ZK Y (.one<|.tmp Y<|View.ownM Y Y D133))
theorem Zls{f:Vector Int 64}{r:Bool}(h:ZdP f=some r):
 CSpec Tryz.prog gl0 51 [.agg (List.map C44 f.toList)] (.bool r):=by
 unfold ZdP at h
 replace h:=Qb h
 refine So Tryz.func51 Y fun w0 A=>Tr<|Rq Y (JL (cva<|ov Y) arL tZ_46<|arD fun _=>Y)<|Rz Y<|K2 1 2 Y<|Tr<|Rq Y (Z3 (ov Y) X3 (Qs<|Zu arL) arL)<|bE h fun y h_y h=>Rq Y (Zq (Zld h_y)<|.cons (ov Y) (.aggB<|arD fun _=>Y) .nil)<|Rl tZ_133 ZeG Y<|R2 Zae Y<|Rz Y<|?_
 obtain rfl:=rt h
 exact Zk (ZK Y (.one<|rb Y))
theorem ZhZ{w:Int}{r:Bool}(h:ZdZ w=some r):
 CSpec Tryz.prog gl0 89 [.int .u16 w] (.bool r):=by
 unfold ZdZ at h
 replace h:=Qb h
 refine So Tryz.func89 Y fun w0 A=>Tr<|Rz Y<|Tr<|Rm Y<|R2 ZiK Y<|Rm Y<|Rq Y (.guarded ((decide (w≤4095))==true) Y Y Y Y fun h=>Zc<|ov Y)<|Rq Y (.guarded ((decide (w≤4095))==true) Y Y Y Y fun h=>Qh (ow Y h) Zdl tI3 Y)<|bE h fun y h_y h=>Rq Y (.guarded ((decide (w≤4095))==true) Y Y Y Y fun h=>Zq (Zhx<|gdT h_y h)<|.cons (ow Y h) (.b Y) .nil)<|Rq Y (J6 (ov Y) fun hp=>ow Y<|gT hp)<|Rz Y<|?_
 obtain rfl:=rt h
 exact Zk (ZK Y (.one<|rb Y))
theorem Zlb{f:Vector Int 64}{r:Int×Bool}(h:Zer f=some r):
 CSpec Tryz.prog gl0 52 [.agg (List.map C44 f.toList)] (.tuple [.int .i64 r.1,.bool r.2]):=by
 unfold Zer at h
 replace h:=Qb h
 refine So Tryz.func52 Y fun w0 A=>Tr<|Rq Y (JL (cva<|ov Y) arL tZ_46<|arD fun _=>Y)<|Ra Y<|Rz Y<|Zh<|K1 1 Y<|Tr<|bE h fun x h_x h=>Rq Y (Q6 (ov Y) (ov Y) Zaq h_x)<|Rq Y (Zd (ov Y) Za7<|Qx<|XV (o:=0) (o':=((Int.toNat 1)*1)) (Zu arL)<|XR h_x)<|bE h fun y h_y h=>Rq Y (Zq (ZhZ h_y)<|.cons (ov Y) (.b Y) .nil)<|R1 XM Y<|Rm Y<|bE h fun x2 h_x2 h=>Rq Y (.guarded ((!y)==false) Y Y Y Y fun h=>Q6 (ov Y) (ov Y) Zaq<|gdT h_x2 h)<|Rq Y (.guarded ((!y)==false) Y Y Y Y fun h=>Zd (ow Y h) Za7<|Qx<|XV (o:=0) (o':=((Int.toNat 2)*1)) (Zu arL)<|XR<|gdT h_x2 h)<|bE h fun y2 h_y2 h=>Rq Y (.guarded ((!y)==false) Y Y Y Y fun h=>Zq (ZhZ<|gdT h_y2 h)<|.cons (ow Y h) (.b Y) .nil)<|Rq Y (.guarded ((!y)==false) Y Y Y Y fun h=>XM<|ow Y h)<|Rq Y (ZaO (ov Y) fun hp=>ow Y<|gF hp)<|Zb<|K2 1 13 Y<|If h Y (fun h=>?_) fun h=>?_
 ·
  refine K0<|Tr<|Ra Y<|Rz Y<|?_
  obtain rfl:=rt h
  exact Zk (ZK Y (.two (rb Y)<|rb Y))
 ·
  refine Zg<|K1 1 Y<|Tr<|Rq Y (Z3 (ov Y) X3 (Qs<|Zu arL) arL)<|bE h fun y3 h_y3 h=>Rq Y (Zq (ZdH h_y3)<|.cons (ov Y) (.aggB<|arD fun _=>Y) .nil)<|Ra Y<|Rz Y<|?_
  obtain rfl:=rt h
  exact Zk (ZK Y (.two (rb Y)<|rb Y))
theorem ZjY{number:Int}{memories:Int}{copies:Int}{r:(List Int)×Int}(h:Zdu number memories copies=some r):
 CSpec Tryz.prog gl0 53 [.int .i64 number,.int .i64 memories,.int .i64 copies] (.tuple [.sl 3 (List.map R3 r.1),.int .i64 r.2]):=by
 unfold Zdu at h
 replace h:=Qb h
 refine So Tryz.func53 Y fun w0 A=>Tr<|Ra Y<|Rz Y<|Zh<|K3 0 1 2 Y<|Tr<|Rm Y<|bE h fun y h_y h=>Rq Y (Zq (QU h_y)<|.cons (ov Y) (.b Y)<|.cons (ov Y) (.b Y)<|.cons (ov Y) (.b Y) .nil)<|Rm Y<|Rq Y (.guarded (y==false) Y Y Y Y fun h=>Zc<|ov Y)<|bE h fun y2 h_y2 h=>Rq Y (.guarded (y==false) Y Y Y Y fun h=>Zq (QU<|gdT h_y2 h)<|.cons (ow Y h) (.b Y)<|.cons (ov Y) (.b Y)<|.cons (ov Y) (.b Y) .nil)<|Rq Y (ZaO (ov Y) fun hp=>ow Y<|gF hp)<|Rm Y<|Rq Y (.guarded ((y || y2)==false) Y Y Y Y fun h=>Zc<|ov Y)<|Rq Y (.guarded ((y || y2)==false) Y Y Y Y fun h=>Zc<|ov Y)<|bE h fun y3 h_y3 h=>Rq Y (.guarded ((y || y2)==false) Y Y Y Y fun h=>Zq (QU<|gdT h_y3 h)<|.cons (ow Y h) (.b Y)<|.cons (ov Y) (.b Y)<|.cons (ow Y h) (.b Y) .nil)<|Rq Y (ZaO (ov Y) fun hp=>ow Y<|gF hp)<|Zb<|K4 0 1 2 20 Y<|If h Y (fun h=>?_) fun h=>?_
 ·
  refine K0<|Tr<|Ra Y<|Rz Y<|?_
  obtain rfl:=rt h
  exact Zk (ZK Y (.two (.tmp Y<|View.nils 3)<|rb Y))
 ·
  refine Zg<|K3 0 1 2 Y<|Tr<|Rz Y<|I1 (fun out=>⟨[(8,.own 0 out.length)],[some ⟨3,List.map R3 out⟩]⟩) h (fun h=>?_) fun out h=>?_
  ·
   refine Tr<|Rm Y<|Rm Y<|Zb<|Zf<|?_
   obtain⟨r1,hl1,ho1⟩:=QC h
   refine L2 (fun out2 i=>⟨[(0,.int .i64 number),(1,.int .i64 memories),(8,.own 0 out2.length),(21,.int .i64 copies),(22,.int .i64 i)],[some ⟨3,List.map R3 out2⟩]⟩) hl1 (ES [none]) fun n1 out2 i h=>?_
   unfold Zcp at h
   refine Tr<|R2 ZL Y<|Zb<|Zh<|If h Y (fun h=>?_) fun h=>?_
   ·
    exact Zg<|Zh<|Zf<|K5 0 1 8 21 22 Y<|Tr<|Rm Y<|Rz Y<|K6 0 1 8 9 21 22 Y<|Zo<|Rm Y<|Rm Y<|Rm Y<|R2 ZI Y<|Rm Y<|bE h fun q h_q h=>Rq Y (Zaf (ov Y) (ov Y) h_q)<|R_q (.sl 3<|List.map R3 ([q]:List Int)) Y (Jc QA (.cons (cvs (ov Y)<|Zn Y) Y (.cons (.b Y) .nil) .nil) Y Y)<|bE h fun l h_l h=>Rx Y (QK (ov Y) (Qr (ov Y) tZ_3) QA Y Y Y (fun _=>Za Y) Y h_l)<|Rz Y<|K5 0 1 8 21 22 Y<|Zo<|R2 ZI Y<|Rm Y<|Zb<|⟨_,h,ES [some 0]⟩
   ·
    refine ZA<|?_
    replace h:=lx h▸ho1
    exact⟨_,h,ES [some 0]⟩
  ·
   refine Tr<|Rm Y<|Ra Y<|Rz Y<|?_
   obtain rfl:=rt h
   exact Zk (ZK Y (.two (.tmp Y<|View.ownM Y Y D3)<|rb Y))
theorem Za0{r_:ref3_Recorder}{k:Int}{r:Bool}(h:Q0 r_ k=some r):
 CSpec Tryz.prog gl0 54 [.rp [.sl 59 (List.map R59 r_.list),.int .i64 r_.copies,.sl 92 (List.map R92 r_.stands),.bool r_.frozen,.bool r_.stopped,.int .i64 r_.last,.bool r_.some_,.int .i64 r_.power] 0,.int .i64 k] (.bool r):=by
 unfold Q0 at h
 replace h:=Qb h
 refine So Tryz.func54 Y fun w0 A=>Tr<|Rz Y<|Zh<|Z5 (cw:=md0) (by kernel_rfl)<|D1 0 Zc Y<|D1 1 ZG Y<|Dq 2 Y (Zv (ov Y) Ze0)<|Dq 3 Y (Zd (ov Y) ZkW Y)<|D1 4 Zc Y<|bE h fun x h_x h=>Dq 5 Y (ZP (ov Y) (ov Y) ZjA h_x)<|Dq 6 Y (Zv (ov Y) ZgH)<|Dq 7 Y (Zd (ov Y) tS3 Y)<|D2 8 ZL Y<|D1 9 Zc Y<|Dq 10 Y (.guarded ((decide (x.sector<0))==false) Y Y Y Y fun h=>Zc<|ov Y)<|Dq 11 Y (.guarded ((decide (x.sector<0))==false) Y Y Y Y fun h=>ZG<|ow Y h)<|Dq 12 Y (.guarded ((decide (x.sector<0))==false) Y Y Y Y fun h=>Zv (ow Y h) Ze0)<|Dq 13 Y (.guarded ((decide (x.sector<0))==false) Y Y Y Y fun h=>Zd (ow Y h) ZkW Y)<|Dq 14 Y (.guarded ((decide (x.sector<0))==false) Y Y Y Y fun h=>Zc<|ov Y)<|bE h fun x2 h_x2 h=>Dq 15 Y (.guarded ((decide (x.sector<0))==false) Y Y Y Y fun h=>ZP (ow Y h) (ow Y h) ZjA<|gdT h_x2 h)<|Dq 16 Y (.guarded ((decide (x.sector<0))==false) Y Y Y Y fun h=>Zv (ow Y h) Zkr)<|Dq 17 Y (.guarded ((decide (x.sector<0))==false) Y Y Y Y fun h=>Zd (ow Y h) tS3 Y)<|Dq 18 Y (.guarded ((decide (x.sector<0))==false) Y Y Y Y fun h=>Zc<|ov Y)<|Dq 19 Y (.guarded ((decide (x.sector<0))==false) Y Y Y Y fun h=>ZG<|ow Y h)<|Dq 20 Y (.guarded ((decide (x.sector<0))==false) Y Y Y Y fun h=>Zv (ow Y h) ZaI)<|Dq 21 Y (.guarded ((decide (x.sector<0))==false) Y Y Y Y fun h=>Zd (ow Y h) Zcc Y)<|Dq 22 Y (.guarded ((decide (x.sector<0))==false) Y Y Y Y fun h=>Zc<|ov Y)<|bE h fun x3 h_x3 h=>Dq 23 Y (.guarded ((decide (x.sector<0))==false) Y Y Y Y fun h=>ZP (ow Y h) (ow Y h) XC<|gdT h_x3 h)<|Dq 24 Y (.guarded ((decide (x.sector<0))==false) Y Y Y Y fun h=>Zv (ow Y h) Zfb)<|Dq 25 Y (.guarded ((decide (x.sector<0))==false) Y Y Y Y fun h=>Zd (ow Y h) tS3 Y)<|Dq 26 Y (.guarded ((decide (x.sector<0))==false) Y Y Y Y fun h=>Zae (ow Y h)<|ow Y h)<|Dq 27 Y (ZaO (ov Y) fun hp=>ow Y<|gF hp)<|D1 28 ZS Y<|Dd<|?_
 obtain rfl:=rt h
 exact Zk (ZK Y (.one<|rb Y))
theorem Zbm{r_:ref3_Recorder}{k:Int}{r:Int}(h:Xd r_ k=some r):
 CSpec Tryz.prog gl0 55 [.rp [.sl 59 (List.map R59 r_.list),.int .i64 r_.copies,.sl 92 (List.map R92 r_.stands),.bool r_.frozen,.bool r_.stopped,.int .i64 r_.last,.bool r_.some_,.int .i64 r_.power] 0,.int .i64 k] (.int .i64 r):=by
 unfold Xd at h
 replace h:=Qb h
 refine So Tryz.func55 Y fun w0 A=>Tr<|Rz Y<|Zh<|K2 0 1 Y<|Z5 (cw:=⟨false,false,[],[11,12,13,15,16,18,19,20,22,23,24],[]⟩) (by kernel_rfl)<|ZO 0 _ Y (by kernel_rfl) Y Y (fun hp'=>Zc<|ov Y)<|ZO 1 _ Y (by kernel_rfl) Y Y (fun hp'=>ZG<|ov Y)<|ZO 2 _ Y (by kernel_rfl) Y Y (fun hp'=>Zv (ov Y) ZaI)<|ZO 3 _ Y (by kernel_rfl) Y Y (fun hp'=>Zd (ov Y) Zcc Y)<|ZO 4 _ Y (by kernel_rfl) Y Y (fun hp'=>Zc<|ov Y)<|bE h fun x h_x h=>ZO 5 _ Y (by kernel_rfl) Y Y (fun hp'=>ZP (ov Y) (ov Y) XC h_x)<|ZO 6 _ Y (by kernel_rfl) Y Y (fun hp'=>Z3 (ov Y) XL Y Y)<|ZO 7 _ Y (by kernel_rfl) Y Y (fun hp'=>Zc<|ov Y)<|ZO 8 _ Y (by kernel_rfl) Y Y (fun hp'=>ZG<|ov Y)<|ZO 9 _ Y (by kernel_rfl) Y Y (fun hp'=>Zv (ov Y) Ze0)<|ZO 10 _ Y (by kernel_rfl) Y Y (fun hp'=>Zd (ov Y) ZkW Y)<|ZO 11 _ Y (by kernel_rfl) Y Y (fun hp'=>Zc<|ov Y)<|bE h fun x2 h_x2 h=>ZO 12 _ Y (by kernel_rfl) Y Y (fun hp'=>ZP (ov Y) (ov Y) ZjA h_x2)<|ZO 13 _ Y (by kernel_rfl) Y Y (fun hp'=>Zv (ov Y) ZgH)<|ZO 14 _ Y (by kernel_rfl) Y Y (fun hp'=>Zd (ov Y) tS3 Y)<|Zba 15 _ _ Y (by kernel_rfl) Y Y (fun _=>Ext.app) (fun h=>by cases h) (Qd (row:= [_,_,_,_,_]) 0 Y Zde Y tZ_59)<|Do 16 Y (Zm (ov Y) (ov Y) (ZB XL Y) Y Y Y (nL Y) (Za Y) Y)<|D1 17 ZS Y<|Dd<|K2 5 6 Y<|Tr<|Rq Y (Ze (ov Y) Y Y Z9)<|Rq Y (Zl (ov Y) Y Y Y Q7 Y)<|Rl tZ_22 Q3 Y<|Rz Y<|J0 (fun j=>(.inr j)) ⟨[],[]⟩ h (fun h=>?_) fun h=>?_
 ·
  refine K3 5 6 7 Y<|Tr<|Rz Y<|Zf<|?_
  obtain⟨r1,hl1,ho1⟩:=QC h
  refine L1 (fun j=>⟨[(5,.ptr 0 1 0 0),(6,.int .i64 x2.sector),(7,.int .i64 (x.Sectors.length:Int)),(8,.int .i64 j)],[some ⟨59,[[.int .i64 x.Slots,.int .i64 x.Limit,.sl 22 (List.map R22 x.Sectors),.sl 3 (List.map R3 x.Wear),.sl 4 (List.map R4 x.Bad)]]⟩]⟩) hl1 (ES [some 0]) fun n1 j h=>?_
  unfold J9 at h
  refine Zh<|Tr<|Rm Y<|Rm Y<|R2 ZiK Y<|Zb<|K5 5 6 7 8 30 Y<|If h Y (fun h=>?_) fun h=>?_
  ·
   refine Zg<|Zh<|Zf<|K4 5 6 7 8 Y<|Tr<|Rm Y<|Rm Y<|R2 ZI Y<|Rm Y<|bE h fun q h_q h=>Rq Y (Zaf (ov Y) (ov Y) h_q)<|Rz Y<|Zh<|K5 5 6 7 8 9 Y<|Z5 (cw:=md0) (by kernel_rfl)<|Dq 0 Y (Ze (ov Y) Y Y ZdK)<|Dq 1 Y (Zl (ov Y) Y Y Y ZiA Y)<|D1 2 Zc Y<|bE h fun x3 h_x3 h=>Dq 3 Y (ZP (ov Y) (ov Y) Zgl h_x3)<|Dq 4 Y (Zd (ov Y) tS4 Y)<|D1 5 XM Y<|D1 6 Zc Y<|Dq 7 Y (.guarded ((!x3)==true) Y Y Y Y fun h=>Ze (ov Y) Y Y Zcz)<|Dq 8 Y (.guarded ((!x3)==true) Y Y Y Y fun h=>Zl (ow Y h) Y Y Y Zib Y)<|Dq 9 Y (.guarded ((!x3)==true) Y Y Y Y fun h=>Zc<|ov Y)<|bE h fun x4 h_x4 h=>Dq 10 Y (.guarded ((!x3)==true) Y Y Y Y fun h=>ZP (ow Y h) (ow Y h) QA<|gdT h_x4 h)<|Dq 11 Y (.guarded ((!x3)==true) Y Y Y Y fun h=>Zd (ow Y h) tS3 Y)<|Dq 12 Y (.guarded ((!x3)==true) Y Y Y Y fun h=>Ze (ov Y) Y Y Zhg)<|Dq 13 Y (.guarded ((!x3)==true) Y Y Y Y fun h=>Zl (ow Y h) Y Y Y tS3 Y)<|Dq 14 Y (.guarded ((!x3)==true) Y Y Y Y fun h=>ZL (ow Y h)<|ow Y h)<|Dq 15 Y (J6 (ov Y) fun hp=>ow Y<|gT hp)<|Dd<|K6 5 6 7 8 9 53 Y<|If h Y (fun h=>?_) fun h=>?_
   ·
    refine K1 9 Y<|Tr<|Rm Y<|Rz Y<|?_
    replace h:=lx h▸ho1
    obtain rfl:=rt h
    exact Zk (ZK Y (.one<|rb Y))
   ·
    exact Zg<|K4 5 6 7 8 Y<|Zo<|Rm Y<|R2 ZI Y<|Rz Y<|⟨_,h,ES [some 0]⟩
  ·
   refine ZA<|?_
   replace h:=lx h▸ho1
   exact⟨(),h,ES []⟩
 ·
  replace h:=elr h
  replace h:=t0i h
  refine Tr<|Rz Y<|?_
  obtain rfl:=rt h
  exact Zk (ZK Y (.one<|rb Y))
theorem Zb1{r_:ref3_Recorder}{k:Int}{sector:Int}{r:Int}(h:QT r_ k sector=some r):
 CSpec Tryz.prog gl0 56 [.rp [.sl 59 (List.map R59 r_.list),.int .i64 r_.copies,.sl 92 (List.map R92 r_.stands),.bool r_.frozen,.bool r_.stopped,.int .i64 r_.last,.bool r_.some_,.int .i64 r_.power] 0,.int .i64 k,.int .i64 sector] (.int .i64 r):=by
 unfold QT at h
 replace h:=Qb h
 refine So Tryz.func56 Y fun w0 A=>Tr<|Rz Y<|K3 0 1 2 Y<|Tr<|Rz Y<|I1 (fun best=>⟨[(7,.int .i64 best)],[]⟩) h (fun h=>?_) fun best h=>?_
 ·
  refine Tr<|Rm Y<|R1 ZG Y<|Rq Y (Zv (ov Y) ZaI)<|Rq Y (Zd (ov Y) Zcc Y)<|Rm Y<|bE h fun x h_x h=>Rq Y (ZP (ov Y) (ov Y) XC h_x)<|Rq Y (Zv (ov Y) Z9)<|Rq Y (Zd (ov Y) Q7 Y)<|Rl tZ_22 Q3 Y<|Rm Y<|Zb<|Zf<|?_
  obtain⟨r1,hl1,ho1⟩:=QC h
  refine L2 (fun best2 i=>⟨[(2,.int .i64 sector),(7,.int .i64 best2),(20,.sl 22 (List.map R22 x.Sectors)),(21,.int .i64 (x.Sectors.length:Int)),(22,.int .i64 i)],[]⟩) hl1 (ES []) fun n1 best2 i h=>?_
  unfold Xo at h
  refine Tr<|R2 ZL Y<|Zb<|Zh<|If h Y (fun h=>?_) fun h=>?_
  ·
   refine Zg<|Zh<|Zf<|K5 2 7 20 21 22 Y<|Tr<|Rm Y<|bE h fun x2 h_x2 h=>Rq Y (ZP (ov Y) (ov Y) Q3 h_x2)<|Rq Y (Zd (ov Y) Zek Y)<|Ra Y<|Rz Y<|K7 2 7 8 9 20 21 22 Y<|Tr<|Rm Y<|bE h fun y h_y h=>Rq Y (Zq (ZeQ h_y)<|.cons (ov Y) (.b Y) .nil)<|Rm Y<|Rj Y Y Y<|Rj Y Y Y<|Rj Y Y Y<|Ra Y<|Ra Y<|Rz Y<|K8 2 7 8 10 12 20 21 22 Y<|Tr<|Rm Y<|Rm Y<|Rq Y (.guarded (y.2.2==true) Y Y Y Y fun h=>Zc<|ov Y)<|Rq Y (.guarded (y.2.2==true) Y Y Y Y fun h=>Zc<|ov Y)<|Rq Y (.guarded (y.2.2==true) Y Y Y Y fun h=>Qy (ow Y h)<|ow Y h)<|Rq Y (J6 (ov Y) fun hp=>ow Y<|gT hp)<|Zb<|K7 2 7 10 20 21 22 38 Y<|If h Y (fun h=>?_) fun h=>?_
   ·
    exact K6 2 7 10 20 21 22 Y<|Zo<|Rm Y<|Rm Y<|Rq Y (Zn7 (ov Y) (ov Y) Y)<|Rz Y<|K5 2 7 20 21 22 Y<|Zo<|R2 ZI Y<|Rm Y<|Zb<|⟨_,h,ES []⟩
   ·
    exact Zg<|K5 2 7 20 21 22 Y<|Zo<|R2 ZI Y<|Rm Y<|Zb<|⟨_,h,ES []⟩
  ·
   refine ZA<|?_
   replace h:=lx h▸ho1
   exact⟨_,h,ES []⟩
 ·
  refine Tr<|Rm Y<|R2 ZI Y<|Rz Y<|?_
  obtain rfl:=rt h
  exact Zk (ZK Y (.one<|rb Y))
theorem Zjz{n:Int}{r:(List Int)}(h:Zem n=some r):
 GSpec Tryz.prog gl0 61 [.int .i64 n] [] (.own 0 r.length) [some ⟨5,List.map R5 r⟩]:=by
 unfold Zem at h
 replace h:=Qb h
 refine Ql (by kernel_rfl) Tryz.func61 Y Y<|?_
 intro w0 A W φ0
 refine Tr<|Rz Y<|K1 0 Y<|Tr<|Rm Y<|bE h fun l h_l h=>Rx Y (Zbq [none] (r:=0) (f:=R5) (z0:=0) Y (ov Y) (ov Y) Qi Y tZ5 Y Y h_l)<|Rz Y<|I1 (fun out=>⟨[(3,.own 0 out.length)],[some ⟨5,List.map R5 out⟩]⟩) h (fun h=>?_) fun out h=>?_
 ·
  refine K1 3 Y<|Tr<|Rm Y<|Rq Y (Zb9 (ov Y) Y Y Qi)<|Rm Y<|Zb<|Zf<|?_
  obtain⟨r1,hl1,ho1⟩:=QC h
  refine L2 (fun out2 i=>⟨[(3,.own 0 out2.length),(8,.int .i64 (l.length:Int)),(9,.int .i64 i)],[some ⟨5,List.map R5 out2⟩]⟩) hl1 (ES [some 0]) fun n1 out2 i h=>?_
  unfold ZcZ at h
  refine Tr<|R2 ZL Y<|Zb<|Zh<|If h Y (fun h=>?_) fun h=>?_
  ·
   exact Zg<|Zh<|Zf<|K3 3 8 9 Y<|Tr<|Rm Y<|Rz Y<|K4 3 4 8 9 Y<|Zo<|Rm Y<|Rm Y<|bE h fun x h_x h=>Rq Y (Z4 (ov Y) (ov Y) Qi Y Y h_x)<|Rx Y (Xg (u':=255) (ov Y) (ov Y) (Zj tS5) Y Y h_x Y (Za Y) Y)<|Zb<|K3 3 8 9 Y<|Zo<|R2 ZI Y<|Rm Y<|Zb<|⟨_,h,ES [some 0]<|sr 3 Y (Zbu (Eq.symm<|(List.length_set ..).trans Y) Y)<|sd 8 Y Y<|sd 9 Y Y sn⟩
  ·
   refine ZA<|?_
   replace h:=lx h▸ho1
   exact⟨_,h,ES [some 0]⟩
 ·
  refine Tr<|Rm Y<|Rz Y<|?_
  obtain rfl:=rt h
  exact Zk<|Xu [some 0] Y (.cons (.tmp Y) .nil) (.cons Y (roM D5) .nil) Y Y<|.own _ Y
theorem Zjk{s:List Int}{power:Int}{r:(List Int)×Int×Bool}(h:Zef s power=some r):
 GSpec Tryz.prog gl0 30 [.sl 5 (List.map R5 s),.int .i64 power] [] (.tuple [.own 0 r.1.length,.int .i64 r.2.1,.bool r.2.2]) [some ⟨5,List.map R5 r.1⟩]:=by
 unfold Zef at h
 replace h:=Qb h
 refine Ql (by kernel_rfl) Tryz.func30 Y Y<|?_
 intro w0 A W φ0
 refine Tr<|Ra Y<|Ra Y<|Rz Y<|K2 0 1 Y<|Tr<|Rm Y<|Rl tZ_5 Qi Y<|Rz Y<|I1 (fun n=>⟨[(0,.sl 5 (List.map R5 s)),(1,.int .i64 power),(7,.int .i64 n)],[]⟩) h (fun h=>?_) fun n h=>?_
 ·
  refine K3 0 1 7 Y<|Tr<|Rm Y<|R2 Zae Y<|Zb<|K4 0 1 7 12 Y<|If h Y (fun h=>?_) fun h=>?_
  ·
   exact K3 0 1 7 Y<|Zo<|Rm Y<|Rl tZ_5 Qi Y<|bE h fun q h_q h=>Rq Y (Zgq (ov Y) (ov Y) h_q)<|Rz Y<|⟨_,h,ES []⟩
  ·
   exact Zg<|⟨_,h,ES []⟩
 ·
  refine Zh<|Z5 (cw:=⟨true,false,[],[20],[]⟩) (by kernel_rfl)<|D1 0 Zc Y<|ZO 2 _ Y (by kernel_rfl) Y Y (fun hp'=>Zc<|ov Y)<|ZO 3 _ Y (by kernel_rfl) Y Y (fun hp'=>Zc<|ov Y)<|bE h fun l h_l h=>ZO 4 _ Y (by kernel_rfl) Y Y (fun hp'=>Zf8 (ov Y) Qi (oi<|ov Y) on h_l)<|bE h fun y h_y h=>Do 1 Y (Zz [] (Zjz h_y) (.cons (ov Y) (.dat Y) .nil) .nil Y (.lent 0 (Wa Y Y) Y (roM D5) .nil) Y Y<|.own _<|Wa Y Y)<|bE h fun l2 h_l2 h=>Do 5 Y (Zaj (ov Y) (Qr (ov Y) tZ_5) Qi Y Y (fun _=>Za Y) Y h_l2)<|D1 6 ZS Y<|Dd<|Zh<|K2 1 8 Y<|Tr<|Rm Y<|R2 Zae Y<|Zb<|K3 1 8 23 Y<|If h Y (fun h=>?_) fun h=>?_
  ·
   refine K1 8 Y<|Tr<|Rm Y<|Ra Y<|Ra Y<|Rz Y<|?_
   obtain rfl:=rt h
   exact Zk<|Xu [some 0] Y (.cons (.tmp Y)<|.cons (.tmp Y)<|.cons (.tmp Y) .nil) (.cons Y (roM D5) .nil) Y Y<|Qq<|rlc (.own _ Y)<|rlD Y<|rlD Y rln
  ·
   refine Zg<|K2 1 8 Y<|Tr<|Rm Y<|Rm Y<|R2 ZbR Y<|Ra Y<|Ra Y<|Rz Y<|?_
   obtain rfl:=rt h
   exact Zk<|Xu [some 0] Y (.cons (.tmp Y)<|.cons (.tmp Y)<|.cons (.tmp Y) .nil) (.cons Y (roM D5) .nil) Y Y<|Qq<|rlc (.own _ Y)<|rlD Y<|rlD Y rln
theorem ZlZ{f:Vector Int 64}{r:Bool}(h:Zgc f=some r):
 CSpec Tryz.prog gl0 112 [.agg (List.map C44 f.toList)] (.bool r):=by
 unfold Zgc at h
 replace h:=Qb h
 refine So Tryz.func112 Y fun w0 A=>Tr<|Rq Y (JL (cva<|ov Y) arL tZ_46<|arD fun _=>Y)<|Rz Y<|J0 (fun j=>(.inr j)) ⟨[],[]⟩ h (fun h=>?_) fun h=>?_
 ·
  refine K1 1 Y<|Tr<|Rq Y (Z3 (ov Y) X3 (Qs<|Zu arL) arL)<|Rm Y<|Zb<|Zf<|?_
  obtain⟨r1,hl1,ho1⟩:=QC h
  refine L1 (fun i=>⟨[(5,.agg (List.map C44 f.toList)),(6,.int .i64 i)],[]⟩) hl1 (ES []) fun n1 i h=>?_
  unfold Zdi at h
  refine Tr<|R2 ZL Y<|Zb<|Zh<|If h Y (fun h=>?_) fun h=>?_
  ·
   refine Zg<|Zh<|Zf<|K2 5 6 Y<|Tr<|bE h fun x h_x h=>Rq Y (ZhH (ov Y) (ov Y) Zaq Za7 h_x)<|Rz Y<|K3 4 5 6 Y<|Tr<|Rm Y<|R2 Za9 Y<|Zb<|K3 5 6 10 Y<|If h Y (fun h=>?_) fun h=>?_
   ·
    refine K0<|Tr<|Rz Y<|?_
    replace h:=lx h▸ho1
    obtain rfl:=rt h
    exact Zk (ZK Y (.one<|rb Y))
   ·
    exact Zg<|K2 5 6 Y<|Zo<|R2 ZI Y<|Rm Y<|Zb<|⟨_,h,ES []⟩
  ·
   refine ZA<|?_
   replace h:=lx h▸ho1
   exact⟨(),h,ES []⟩
 ·
  replace h:=elr h
  replace h:=t0i h
  refine Tr<|Rz Y<|?_
  obtain rfl:=rt h
  exact Zk (ZK Y (.one<|rb Y))
theorem ZiP{f:Vector Int 64}{n:Int}{r:Int}(h:ZeU f n=some r):
 CSpec Tryz.prog gl0 130 [.agg (List.map C44 f.toList),.int .i64 n] (.int .i64 r):=by
 unfold ZeU at h
 replace h:=Qb h
 refine So Tryz.func130 Y fun w0 A=>Tr<|Rq Y (JL (cva<|ov Y) arL tZ_46<|arD fun _=>Y)<|Rz Y<|K3 1 2 4 Y<|Tr<|Rm Y<|bE h fun q h_q h=>Rq Y (Zgq (ov Y) (ov Y) h_q)<|bE h fun x h_x h=>Rq Y (Q6 (ov Y) (ov Y) Zaq h_x)<|Rq Y (Zd (ov Y) Za7<|Qx<|XV (o:=0) (o':=(q.toNat*1)) (Zu arL)<|XR h_x)<|Rq Y (Qh (ov Y) Zdl tI3 Y)<|Rm Y<|bE h fun q2 h_q2 h=>Rq Y (Zaf (ov Y) (ov Y) h_q2)<|R2 ZeC Y<|R2 ZbR Y<|bE h fun q3 h_q3 h=>Rq Y (Zbf (ov Y) (ov Y) h_q3)<|R2 Zbk Y<|Rz Y<|?_
 obtain rfl:=rt h
 exact Zk (ZK Y (.one<|rb Y))
theorem Zlv{f:Vector Int 64}{r:(List Int)}(h:Zfq f=some r):
 CSpec Tryz.prog gl0 113 [.agg (List.map C44 f.toList)] (.sl 5 (List.map R5 r)):=by
 unfold Zfq at h
 replace h:=Qb h
 refine So Tryz.func113 Y fun w0 A=>Tr<|Rq Y (JL (cva<|ov Y) arL tZ_46<|arD fun _=>Y)<|Rz Y<|K1 1 Y<|Tr<|bE h fun l h_l h=>Rx Y (Zbq [none] (r:=0) (f:=R5) (z0:=0) Y (ov Y) (ov Y) Qi Y tZ5 Y Y h_l)<|Rz Y<|I1 (fun out=>⟨[(3,.own 0 out.length)],[some ⟨5,List.map R5 out⟩]⟩) h (fun h=>?_) fun out h=>?_
 ·
  refine K2 1 3 Y<|Tr<|Rm Y<|Rq Y (Zb9 (ov Y) Y Y Qi)<|Rm Y<|Zb<|Zf<|?_
  obtain⟨r1,hl1,ho1⟩:=QC h
  refine L2 (fun out2 i=>⟨[(1,.rp (List.map C44 f.toList) 0),(3,.own 0 out2.length),(7,.int .i64 (l.length:Int)),(8,.int .i64 i)],[some ⟨5,List.map R5 out2⟩]⟩) hl1 (ES [some 0]) fun n1 out2 i h=>?_
  unfold Zcl at h
  refine Tr<|R2 ZL Y<|Zb<|Zh<|If h Y (fun h=>?_) fun h=>?_
  ·
   exact Zg<|Zh<|Zf<|K4 1 3 7 8 Y<|Tr<|Rm Y<|Rz Y<|K5 1 3 4 7 8 Y<|Z5 (cw:=md0) (by kernel_rfl)<|D1 0 Zc Y<|D1 1 Zc Y<|Dq 2 Y (Z3 (ov Y) X3 (Qs<|Zu arL) arL)<|D1 3 Zc Y<|D2 4 ZeC Y<|bE h fun y h_y h=>Dq 5 Y (Zq (ZiP h_y)<|.cons (ov Y) (.aggB<|arD fun _=>Y)<|.cons (ov Y) (.b Y) .nil)<|D2 6 ZeC Y<|Dq 7 Y (Z3 (ov Y) X3 (Qs<|Zu arL) arL)<|D1 8 Zc Y<|D2 9 ZeC Y<|D2 10 ZI Y<|bE h fun y2 h_y2 h=>Dq 11 Y (Zq (ZiP h_y2)<|.cons (ov Y) (.aggB<|arD fun _=>Y)<|.cons (ov Y) (.b Y) .nil)<|D2 12 ZI Y<|Dq 13 Y (Qh (ov Y) tI3 tI5 Y)<|bE h fun x h_x h=>Dq 14 Y (Z4 (ov Y) (ov Y) Qi Y Y h_x)<|Do 15 Y (Xg (u':=(u8 (i64 ((i64 (16*y))+y2)))) (ov Y) (ov Y) (Zj tS5) Y Y h_x Y (Za Y) Y)<|Dd<|K4 1 3 7 8 Y<|Zo<|R2 ZI Y<|Rm Y<|Zb<|⟨_,h,ES [some 0]<|sd 1 Y Y<|sr 3 Y (Zbu (Eq.symm<|(List.length_set ..).trans Y) Y)<|sd 7 Y Y<|sd 8 Y Y sn⟩
  ·
   refine ZA<|?_
   replace h:=lx h▸ho1
   exact⟨_,h,ES [some 0]⟩
 ·
  refine Tr<|Rm Y<|Rz Y<|?_
  obtain rfl:=rt h
  exact Zk (ZK Y (.one<|.tmp Y<|View.ownM Y Y D5))
theorem ZjV{f:Vector Int 64}{r:(List Int)×Int}(h:ZbX f=some r):
 CSpec Tryz.prog gl0 91 [.agg (List.map C44 f.toList)] (.tuple [.sl 5 (List.map R5 r.1),.int .i64 r.2]):=by
 unfold ZbX at h
 replace h:=Qb h
 refine So Tryz.func91 Y fun w0 A=>Tr<|Rq Y (JL (cva<|ov Y) arL tZ_46<|arD fun _=>Y)<|Ra Y<|Rz Y<|Zh<|K1 1 Y<|Tr<|Rq Y (Z3 (ov Y) X3 (Qs<|Zu arL) arL)<|bE h fun y h_y h=>Rq Y (Zq (ZlZ h_y)<|.cons (ov Y) (.aggB<|arD fun _=>Y) .nil)<|Zb<|K2 1 5 Y<|If h Y (fun h=>?_) fun h=>?_
 ·
  refine K0<|Tr<|Ra Y<|Rz Y<|?_
  obtain rfl:=rt h
  exact Zk (ZK Y (.two (.tmp Y<|View.nils 5)<|rb Y))
 ·
  refine Zg<|K1 1 Y<|Tr<|Rq Y (Z3 (ov Y) X3 (Qs<|Zu arL) arL)<|bE h fun y2 h_y2 h=>Rq Y (Zq (Zlv h_y2)<|.cons (ov Y) (.aggB<|arD fun _=>Y) .nil)<|Ra Y<|Rz Y<|?_
  obtain rfl:=rt h
  exact Zk (ZK Y (.two (rb Y)<|rb Y))
theorem Zfc{r_:ref3_Recorder}{k:Int}{f:Vector Int 64}{r:Bool×ref3_Recorder}(h:X7 r_ k f=some r):
 GSpec Tryz.prog gl0 57 [.ptr 0 1 0 0,.int .i64 k,.agg (List.map C44 f.toList)] [some ⟨89,[[.own 1 r_.list.length,.int .i64 r_.copies,.own 2 r_.stands.length,.bool r_.frozen,.bool r_.stopped,.int .i64 r_.last,.bool r_.some_,.int .i64 r_.power]]⟩,some ⟨59,List.map O59 r_.list⟩,some ⟨92,List.map R92 r_.stands⟩] (.bool r.1) [some ⟨89,[[.own 3 r.2.list.length,.int .i64 r.2.copies,.own 4 r.2.stands.length,.bool r.2.frozen,.bool r.2.stopped,.int .i64 r.2.last,.bool r.2.some_,.int .i64 r.2.power]]⟩,none,none,some ⟨59,List.map O59 r.2.list⟩,some ⟨92,List.map R92 r.2.stands⟩]:=by
 unfold X7 at h
 replace h:=Qb h
 refine Ql (by kernel_rfl) Tryz.func57 Y Y<|?_
 intro w0 A W φ0
 refine ZbK (Ent.sel [some 0,some 1,some 2,some 1,some 2] (sr 0 Y (.ptr (r':=0) _ _ _ Y)<|sd 1 Y Y<|sr 2 Y (Zb7<|rld<|arD fun _=>Y) sn) (.cons Y (ro1 (by exact tZ_89.symm)<|rlc (.own (r':=3) _ Y)<|rlD Y<|rlc (.own (r':=4) _ Y)<|rlD Y<|rlD Y<|rlD Y<|rlD Y<|rlD Y rln)<|.dead<|.dead<|.cons Y (roO Zw)<|.cons Y (roM D92) .nil) Y Y)<|ZH [some ⟨89,[[.own 3 r_.list.length,.int .i64 r_.copies,.own 4 r_.stands.length,.bool r_.frozen,.bool r_.stopped,.int .i64 r_.last,.bool r_.some_,.int .i64 r_.power]]⟩,none,none,some ⟨59,List.map O59 r_.list⟩,some ⟨92,List.map R92 r_.stands⟩] Y<|Tr<|Rq Y (JL (cva<|ov Y) arL tZ_46<|arD fun _=>Y)<|Rz Y<|J8 (fun j=>(.inr j)) (fun list copies stands frozen stopped last some_ power=>⟨[(0,.ptr 0 1 0 0),(1,.int .i64 k),(5,.rp (List.map C44 f.toList) 0)],[some ⟨89,[[.own 3 list.length,.int .i64 copies,.own 4 stands.length,.bool frozen,.bool stopped,.int .i64 last,.bool some_,.int .i64 power]]⟩,none,none,some ⟨59,List.map O59 list⟩,some ⟨92,List.map R92 stands⟩]⟩) h (fun h=>?_) fun list copies stands frozen stopped last some_ power h=>?_
 ·
  refine K3 0 1 5 Y<|Tr<|Rm Y<|Rm Y<|bE h fun y h_y h=>Rq Y (Jh (Za0 h_y) .bool<|.cons (ov Y) (View.ptrS (j:=0) (k:=8) Y Y Y (nL Y)<|.cons (View.ownO Y Y Zw (fun x=>(D59 x).1) ZeK)<|.cons (Dat.view<|.b Y)<|.cons (View.ownM Y Y D92)<|.cons (Dat.view<|.b Y)<|.cons (Dat.view<|.b Y)<|.cons (Dat.view<|.b Y)<|.cons (Dat.view<|.b Y)<|.cons (Dat.view<|.b Y) .nil)<|.cons (ov Y) (Dat.view<|.b Y) .nil)<|Zb<|K4 0 1 5 17 Y<|If h Y (fun h=>?_) fun h=>?_
  ·
   refine K3 0 1 5 Y<|Tr<|Rm Y<|Rm Y<|bE h fun y2 h_y2 h=>Rq Y (Jh (Zbm h_y2) .int<|.cons (ov Y) (View.ptrS (j:=0) (k:=8) Y Y Y (nL Y)<|.cons (View.ownO Y Y Zw (fun x=>(D59 x).1) ZeK)<|.cons (Dat.view<|.b Y)<|.cons (View.ownM Y Y D92)<|.cons (Dat.view<|.b Y)<|.cons (Dat.view<|.b Y)<|.cons (Dat.view<|.b Y)<|.cons (Dat.view<|.b Y)<|.cons (Dat.view<|.b Y) .nil)<|.cons (ov Y) (Dat.view<|.b Y) .nil)<|Rz Y<|K4 0 1 5 7 Y<|Tr<|Rm Y<|Rm Y<|Rm Y<|bE h fun y3 h_y3 h=>Rq Y (Jh (Zb1 h_y3) .int<|.cons (ov Y) (View.ptrS (j:=0) (k:=8) Y Y Y (nL Y)<|.cons (View.ownO Y Y Zw (fun x=>(D59 x).1) ZeK)<|.cons (Dat.view<|.b Y)<|.cons (View.ownM Y Y D92)<|.cons (Dat.view<|.b Y)<|.cons (Dat.view<|.b Y)<|.cons (Dat.view<|.b Y)<|.cons (Dat.view<|.b Y)<|.cons (Dat.view<|.b Y) .nil)<|.cons (ov Y) (Dat.view<|.b Y)<|.cons (ov Y) (Dat.view<|.b Y) .nil)<|Rz Y<|K5 0 1 5 7 8 Y<|Tr<|Rm Y<|Rq Y (Zi (ov Y) Y Y)<|Rq Y (Ze (ov Y) Y Y ZaI)<|Rq Y (Zl (ov Y) Y Y Y Zcc Y)<|Rm Y<|bE h fun x h_x h=>Rq Y (Z4 (ov Y) (ov Y) XC Y Y h_x)<|Rq Y (Ju (ov Y) Y Y Zcz)<|Qk (Ent.focusH (r:=3) (j:=3) (e':=3) (g:=R3) (ys:=x.Wear) Y (Zp h_x).2 Y DR3)<|Rq Y (Jl (ov Y) Y Y (Zp h_x).2 Zib Y)<|Rm Y<|bE h fun x2 h_x2 h=>Rq Y (Z4 (ov Y) (ov Y) QA Y Y h_x2)<|Rq Y (Qj (ov Y) Y Y h_x2 tS3 Y)<|R2 ZI Y<|bE h fun x3 h_x3 h=>Rq Y (Z4 (ov Y) (ov Y) QA Y Y h_x3)<|Rx Y (Xg (u':=(i64 (x2+1))) (ov Y) (ov Y) (Zj tS3) Y Y h_x3 Y (Za Y) Y)<|ZdL [some ⟨89,[[.own 3 r_.list.length,.int .i64 r_.copies,.own 4 r_.stands.length,.bool r_.frozen,.bool r_.stopped,.int .i64 r_.last,.bool r_.some_,.int .i64 r_.power]]⟩,none,none,some ⟨59,List.set (List.map O59 r_.list) k.toNat [.int .i64 x.Slots,.int .i64 x.Limit,.osub 22 (List.map O22 x.Sectors),.own 5 x.Wear.length,.osub 4 (List.map R4 x.Bad)]⟩,some ⟨92,List.map R92 r_.stands⟩,some ⟨3,List.map R3 (x.Wear.set y2.toNat (i64 (x2+1)))⟩] Y<|?_
   have h_x4:=Xb (y:=(api_Memory.mk x.Slots x.Limit x.Sectors (x.Wear.set y2.toNat (i64 (x2+1))) x.Bad)) h_x
   have h_x5:=Xb (y:=(api_Memory.mk x.Slots x.Limit x.Sectors (x.Wear.set y2.toNat (i64 (x2+1))) x.Bad)) h_x
   refine Qk (Ent.absorbH (r:=3) (j:=3) (q:=5) Y (Zp h_x).2 Y Y ((List.length_map ..).trans<|(List.length_set ..).trans Y) Y)<|Qk (Ent.closeH (r:=3) (y:=(api_Memory.mk x.Slots x.Limit x.Sectors (x.Wear.set y2.toNat (i64 (x2+1))) x.Bad)) Y Y)<|Zb<|Zh<|K5 0 1 5 7 8 Y<|ZH [some ⟨89,[[.own 3 r_.list.length,.int .i64 r_.copies,.own 4 r_.stands.length,.bool r_.frozen,.bool r_.stopped,.int .i64 r_.last,.bool r_.some_,.int .i64 r_.power]]⟩,none,none,some ⟨59,List.map O59 (r_.list.set k.toNat (api_Memory.mk x.Slots x.Limit x.Sectors (x.Wear.set y2.toNat (i64 (x2+1))) x.Bad))⟩,some ⟨92,List.map R92 r_.stands⟩,none] Y<|bE h fun x6 h_x6 h=>ZbK (Ent.focusH (r:=3) (j:=2) (e':=22) (g:=O22) (ys:=x6.Sectors) Y (Zp h_x6).2 Y Zat)<|bE h fun x7 h_x7 h=>ZbK (Ent.focusH (r:=6) (j:=0) (e':=5) (g:=R5) (ys:=x7) Y (Zp h_x7).2 Y DR5)<|Z5 (cw:=⟨true,false,[],[],[]⟩) (by kernel_rfl)<|D1 0 Zc Y<|Dq 1 Y (Zi (ov Y) Y Y)<|Dq 2 Y (Ze (ov Y) Y Y ZaI)<|Dq 3 Y (Zl (ov Y) Y Y Y Zcc Y)<|D1 4 Zc Y<|bE h fun x8 h_x8 h=>Dq 5 Y (ZgD (ov Y) (ov Y) XC Y ((List.length_set ..).trans Y) h_x8)<|Dq 6 Y (Zge (ov Y) Y ((List.length_set ..).trans Y) Z9)<|Dq 7 Y (Jl (ov Y) Y ((List.length_set ..).trans Y) (Zp h_x6).2 Q7 Y)<|D1 8 Zc Y<|bE h fun x9 h_x9 h=>Dq 9 Y (ZgD (ov Y) (ov Y) Q3 Y Y h_x9)<|Dq 10 Y (Jl (ov Y) Y Y (Zp h_x7).2 Zek Y)<|D1 11 Zc Y<|Dq 12 Y (Zi (ov Y) Y Y)<|Dq 13 Y (Ze (ov Y) Y Y Zfn)<|Dq 14 Y (Zl (ov Y) Y Y Y tS3 Y)<|bE h fun y4 h_y4 h=>Do 15 Y (Zkj (Zjk h_y4) (.cons (ov Y) (View.ownM Y Y D5)<|.cons (ov Y) (Dat.view<|.b Y) .nil) (.keep Y Y<|.none<|.none<|.keep Y Y<|.keep Y Y<|.none<|.keep Y Y<|.keep Y Y<|.lent 0 (Wa Y Y) Y (roM D5) .nil) Y (Qq<|rlc (.own _<|Wa Y Y)<|rlD Y<|rlD Y rln) Y<|.cons (frM DR5) .nil)<|D1 16 Zc Y<|Dq 17 Y (Xa (ov Y) Y)<|Dq 18 Y (Xa (ov Y) Y)<|Dq 19 Y (Xa (ov Y) Y)<|D1 20 ZS Y<|D1 21 ZS Y<|D1 22 ZS Y<|Jd (by kernel_rfl) (Ent.trans (Ent.absorbH (r:=6) (j:=0) (q:=7) Y (Zp h_x7).2 Y Y (List.length_map ..) Y)<|Ent.trans (Ent.closeS (r:=6) Y (Zp h_x7).2 Y)<|Ent.trans (Ent.absorbH (r:=3) (j:=2) (q:=6) Y (Zp h_x6).2 Y Y (List.length_map ..) Y)<|Ent.closeS (r:=3) Y (Zp h_x6).2 Y)<|K8 0 1 5 7 8 9 10 11 Y<|ZH [some ⟨89,[[.own 3 r_.list.length,.int .i64 r_.copies,.own 4 r_.stands.length,.bool r_.frozen,.bool r_.stopped,.int .i64 r_.last,.bool r_.some_,.int .i64 r_.power]]⟩,none,none,some ⟨59,List.map O59 (r_.list.set k.toNat (api_Memory.mk x.Slots x.Limit x.Sectors (x.Wear.set y2.toNat (i64 (x2+1))) x.Bad))⟩,some ⟨92,List.map R92 r_.stands⟩,none,none,none,some ⟨5,List.map R5 y4.1⟩] Y<|Tr<|Rm Y<|Rq Y (Zi (ov Y) Y Y)<|Rq Y (Ze (ov Y) Y Y ZaI)<|Rq Y (Zl (ov Y) Y Y Y Zcc Y)<|Rm Y<|bE h fun x10 h_x10 h=>Rq Y (Z4 (ov Y) (ov Y) XC Y ((List.length_set ..).trans Y) h_x10)<|Rq Y (Ju (ov Y) Y ((List.length_set ..).trans Y) Z9)<|Qk (Ent.focusH (r:=3) (j:=2) (e':=22) (g:=O22) (ys:=x10.Sectors) Y (Zp h_x10).2 Y Zat)<|Rq Y (Jl (ov Y) Y ((List.length_set ..).trans Y) (Zp h_x10).2 Q7 Y)<|Rm Y<|Rm Y<|Rm Y<|Rm Y<|bE h fun x11 h_x11 h=>Rq Y (Z4 (ov Y) (ov Y) Q3 Y Y h_x11)<|Rx Y (ZmA (ov Y) (ov Y) (Zj Zek) Y Y (Zp h_x11).2 Y (Za Y) Y)<|Rq Y (Zi (ov Y) Y Y)<|Rq Y (Ze (ov Y) Y Y Zfn)<|Rx Y (Zm (ov Y) (ov Y) (Zj tS3) Y Y Y (nL Y) (Za Y) Y)<|ZdL [some ⟨89,[[.own 3 r_.list.length,.int .i64 r_.copies,.own 4 r_.stands.length,.bool r_.frozen,.bool r_.stopped,.int .i64 r_.last,.bool r_.some_,.int .i64 y4.2.1]]⟩,none,none,some ⟨59,List.set (List.map O59 (r_.list.set k.toNat (api_Memory.mk x.Slots x.Limit x.Sectors (x.Wear.set y2.toNat (i64 (x2+1))) x.Bad))) k.toNat [.int .i64 x10.Slots,.int .i64 x10.Limit,.own 9 x10.Sectors.length,.osub 3 (List.map R3 x10.Wear),.osub 4 (List.map R4 x10.Bad)]⟩,some ⟨92,List.map R92 r_.stands⟩,none,none,none,some ⟨5,List.map R5 y4.1⟩,some ⟨22,List.set (List.map O22 x10.Sectors) y2.toNat [.own 8 y4.1.length]⟩] Y<|?_
   have h_x12:=Xb (y:=y4.1) h_x11
   have h_x13:=Xb (y:=(api_Memory.mk x10.Slots x10.Limit (x10.Sectors.set y2.toNat y4.1) x10.Wear x10.Bad)) h_x10
   have h_x14:=Xb (y:=(api_Memory.mk x10.Slots x10.Limit (x10.Sectors.set y2.toNat y4.1) x10.Wear x10.Bad)) h_x10
   refine Qk (Ent.absorbH (r:=9) (j:=0) (q:=8) Y (Zp h_x11).2 Y Y (List.length_map ..) Y)<|Qk (Ent.closeH (r:=9) (y:=y4.1) Y Y)<|Qk (Ent.absorbH (r:=3) (j:=2) (q:=9) Y (Zp h_x10).2 Y Y ((List.length_map ..).trans<|(List.length_set ..).trans Y) Y)<|Qk (Ent.closeH (r:=3) (y:=(api_Memory.mk x10.Slots x10.Limit (x10.Sectors.set y2.toNat y4.1) x10.Wear x10.Bad)) Y Y)<|Zb<|J7 (fun j=>(.inr j)) (fun list2 copies2 frozen2 stopped2 last2 some_2 power2=>⟨[(0,.ptr 0 1 0 0),(1,.int .i64 k),(5,.rp (List.map C44 f.toList) 0),(7,.int .i64 y2)],[some ⟨89,[[.own 3 list2.length,.int .i64 copies2,.own 4 r_.stands.length,.bool frozen2,.bool stopped2,.int .i64 last2,.bool some_2,.int .i64 power2]]⟩,none,none,some ⟨59,List.map O59 list2⟩,some ⟨92,List.map R92 r_.stands⟩]⟩) h (fun h=>?_) fun list2 copies2 frozen2 stopped2 last2 some_2 power2 h=>?_
   ·
    refine K6 0 1 5 7 8 11 Y<|ZH [some ⟨89,[[.own 3 r_.list.length,.int .i64 r_.copies,.own 4 r_.stands.length,.bool r_.frozen,.bool r_.stopped,.int .i64 r_.last,.bool r_.some_,.int .i64 y4.2.1]]⟩,none,none,some ⟨59,List.map O59 ((r_.list.set k.toNat (api_Memory.mk x.Slots x.Limit x.Sectors (x.Wear.set y2.toNat (i64 (x2+1))) x.Bad)).set k.toNat (api_Memory.mk x10.Slots x10.Limit (x10.Sectors.set y2.toNat y4.1) x10.Wear x10.Bad))⟩,some ⟨92,List.map R92 r_.stands⟩,none,none,none,none,none] Y<|Tr<|Rm Y<|R1 XM Y<|Rm Y<|Rq Y (.guarded ((!y4.2.2)==false) Y Y Y Y fun h=>Zc<|ov Y)<|Rq Y (.guarded ((!y4.2.2)==false) Y Y Y Y fun h=>Zc<|ov Y)<|Rq Y (.guarded ((!y4.2.2)==false) Y Y Y Y fun h=>Zc<|ov Y)<|Rq Y (.guarded ((!y4.2.2)==false) Y Y Y Y fun h=>Zc<|ov Y)<|bE h fun y5 h_y5 h=>Rq Y (.guarded ((!y4.2.2)==false) Y Y Y Y fun h=>Zq (Zhv<|gdT h_y5 h)<|.cons (ow Y h) (.b Y) .nil)<|?_
    rcases ifR h with ⟨hg,h⟩ | ⟨hg,h⟩
    ·
     refine ZlL (d:=75) (b':=false) Y (ZrK hg)<|bE h fun y6 h_y6 h=>Zrt _ _ Y Y Y Y (Zz [0,3,4] (Jg h_y6) (.cons (ow Y<|by first |rfl |exact hg |simp_all) (.ptr _ _ _ Y)<|.cons (ow Y<|by first |rfl |exact hg |simp_all) (.dat Y)<|.cons (ow Y<|by first |rfl |exact hg |simp_all) (.dat Y)<|.cons (ov Y) (.dat Y)<|.cons (ow Y<|by first |rfl |exact hg |simp_all) (.dat Y) .nil) (.cons Y (ro1 (by exact tZ_89.symm)<|rlc (Zbu (Eq.symm<|(List.length_set ..).trans<|(List.length_set ..).trans Y) Y)<|rlD Y<|rlc (.own _ Y)<|rlD Y<|rlD Y<|rlD Y<|rlD Y<|rlD Y rln)<|.cons Y (roO Zw)<|.cons Y (roM D92) .nil) Y (.lent 0 (.inl Y) Y (ro1 (by exact tZ_89.symm)<|rlc (.own _<|Wa Y Y)<|rlD Y<|rlc (.own _<|.inl Y)<|rlD Y<|rlD Y<|rlD Y<|rlD Y<|rlD Y rln)<|.none<|.none<|.none<|.lent 2 (.inl Y) Y (roM D92)<|.none<|.none<|.none<|.none<|.none<|.lent 3 (Wa Y Y) Y (roO Zw) .nil) Y Y<|.dat Y)<|Rq Y (.guarded (false==false) Y Y Y Y fun h=>XM<|ov Y)<|Rq Y (ZaO (ov Y) fun hp=>ow Y<|gF hp)<|Zb<|K5 0 1 5 7 83 Y<|If h Y (fun h=>?_) fun h=>?_
     ·
      refine K0<|ZH [some ⟨89,[[.own 10 y6.2.list.length,.int .i64 y6.2.copies,.own 4 r_.stands.length,.bool y6.2.frozen,.bool y6.2.stopped,.int .i64 y6.2.last,.bool y6.2.some_,.int .i64 y6.2.power]]⟩,none,none,none,some ⟨92,List.map R92 r_.stands⟩,none,none,none,none,none,some ⟨59,List.map O59 y6.2.list⟩] Y<|Tr<|Rz Y<|?_
      rw [←rt h]
      exact Zk<|Xu [some 0,some 1,some 2,some 10,some 4] Y (.cons (.tmp Y) .nil) (.cons Y (ro1 (by exact tZ_89.symm)<|rlc (.own _ Y)<|rlD Y<|rlc (.own _ Y)<|rlD Y<|rlD Y<|rlD Y<|rlD Y<|rlD Y rln)<|.dead<|.dead<|.cons Y (roO Zw)<|.cons Y (roM D92) .nil) Y Y<|.dat Y
     ·
      exact Zg<|⟨_,h,ES [some 0,some 1,some 2,some 10,some 4] (hhp:= .cons Y (ro1 (by exact tZ_89.symm)<|rlc (.own _ Y)<|rlD Y<|rlc (.own _ Y)<|rlD Y<|rlD Y<|rlD Y<|rlD Y<|rlD Y rln)<|.dead<|.dead<|.cons Y (roO Zw)<|.cons Y (roM D92) .nil)⟩
    ·
     refine ZlL (d:=75) (b':=true) Y (Zry hg)<|Zl5 Y Y Y Y Y<|bE h fun u h_u h=>R_q (.when (true==false)<|.bool false) Y (.guarded (true==false) Y Y Y Y fun h=>Zqo<|gdT h_u h)<|Rq Y (ZaO (ov Y) fun hp=>ow Y<|gF hp)<|Zb<|K5 0 1 5 7 83 Y<|If h Y (fun h=>?_) fun h=>?_
     ·
      refine K0<|Tr<|Rz Y<|?_
      rw [←rt h]
      exact Zk<|Xu [some 0,some 1,some 2,some 3,some 4] Y (.cons (.tmp Y) .nil) (.cons Y (ro1 (by exact tZ_89.symm)<|rlc (Zbu (Eq.symm<|(List.length_set ..).trans<|(List.length_set ..).trans Y) Y)<|rlD Y<|rlc (.own _ Y)<|rlD Y<|rlD Y<|rlD Y<|rlD Y<|rlD Y rln)<|.dead<|.dead<|.cons Y (roO Zw)<|.cons Y (roM D92) .nil) Y Y<|.dat Y
     ·
      exact Zg<|⟨_,h,ES [some 0,some 1,some 2,some 3,some 4] (hhp:= .cons Y (ro1 (by exact tZ_89.symm)<|rlc (Zbu (Eq.symm<|(List.length_set ..).trans<|(List.length_set ..).trans Y) Y)<|rlD Y<|rlc (.own _ Y)<|rlD Y<|rlD Y<|rlD Y<|rlD Y<|rlD Y rln)<|.dead<|.dead<|.cons Y (roO Zw)<|.cons Y (roM D92) .nil)⟩
   ·
    replace h:=elr h
    replace h:=t7i h
    exact Zo<|Rm Y<|Rq Y (Zi (ov Y) Y Y)<|Rq Y (Ze (ov Y) Y Y Ze0)<|Rq Y (Zl (ov Y) Y Y Y ZkW Y)<|Rm Y<|Rm Y<|Rq Y (Xw (ys:= [_,_]) Zq9 Zq4 Zqp (.cons (cvs (ov Y)<|Zn Y) .nil) Y)<|bE h fun x15 h_x15 h=>Rq Y (Z4 (ov Y) (ov Y) ZjA Y Y h_x15)<|Rx Y (Xg (u':=(ref3_stand.mk y2 0)) (ov Y) (ov Y) (ZB Zpm Y) Y Y h_x15 Y (Za Y) Y)<|Zb<|⟨_,h,ES [some 0,some 1,some 2,some 3,some 4] (hhp:= .cons Y (ro1 (by exact tZ_89.symm)<|rlc (.own _ Y)<|rlD Y<|rlc (Zbu (Eq.symm<|(List.length_set ..).trans Y) Y)<|rlD Y<|rlD Y<|rlD Y<|rlD Y<|rlD Y rln)<|.dead<|.dead<|.cons Y (roO Zw)<|.cons Y (roM D92) .nil)⟩
  ·
   exact Zg<|⟨_,h,ES [some 0,some 1,some 2,some 3,some 4] (hhp:= .cons Y (ro1 (by exact tZ_89.symm)<|rlc (.own _ Y)<|rlD Y<|rlc (.own _ Y)<|rlD Y<|rlD Y<|rlD Y<|rlD Y<|rlD Y rln)<|.dead<|.dead<|.cons Y (roO Zw)<|.cons Y (roM D92) .nil)⟩
 ·
  replace h:=elr h
  replace h:=t8i h
  refine Tr<|Rm Y<|Rq Y (Zi (ov Y) Y Y)<|Rq Y (Ze (ov Y) Y Y Ze0)<|Rq Y (Zl (ov Y) Y Y Y ZkW Y)<|Rm Y<|bE h fun x16 h_x16 h=>Rq Y (Z4 (ov Y) (ov Y) ZjA Y Y h_x16)<|Rq Y (Ju (ov Y) Y Y Zkr)<|Rq Y (Qj (ov Y) Y Y h_x16 tS3 Y)<|R2 ZeC Y<|R2 ZI Y<|Rz Y<|K4 0 1 5 12 Y<|Tr<|Rq Y (Z3 (ov Y) X3 (Qs<|Zu arL) arL)<|bE h fun y7 h_y7 h=>Rq Y (Zq (ZjV h_y7)<|.cons (ov Y) (.aggB<|arD fun _=>Y) .nil)<|Rm Y<|Rj Y Y Y<|Rj Y Y Y<|Ra Y<|Rz Y<|J7 (fun j=>(.inr j)) (fun list3 copies3 frozen3 stopped3 last3 some_3 power3=>⟨[(0,.ptr 0 1 0 0),(1,.int .i64 k)],[some ⟨89,[[.own 3 list3.length,.int .i64 copies3,.own 4 stands.length,.bool frozen3,.bool stopped3,.int .i64 last3,.bool some_3,.int .i64 power3]]⟩,none,none,some ⟨59,List.map O59 list3⟩,some ⟨92,List.map R92 stands⟩]⟩) h (fun h=>?_) fun list3 copies3 frozen3 stopped3 last3 some_3 power3 h=>?_
  ·
   refine K4 0 1 12 13 Y<|Tr<|Rm Y<|Rm Y<|Rm Y<|Rq Y (Zi (ov Y) Y Y)<|Rq Y (Ze (ov Y) Y Y Ze0)<|Rq Y (Zl (ov Y) Y Y Y ZkW Y)<|Rm Y<|bE h fun x17 h_x17 h=>Rq Y (Z4 (ov Y) (ov Y) ZjA Y Y h_x17)<|Rq Y (Ju (ov Y) Y Y ZgH)<|Rq Y (Qj (ov Y) Y Y h_x17 tS3 Y)<|Rm Y<|Rm Y<|bE h fun y8 h_y8 h=>Rx Y (Zz [0,3,4] (Jg h_y8) (.cons (ov Y) (.ptr _ _ _ Y)<|.cons (ov Y) (.dat Y)<|.cons (ov Y) (.dat Y)<|.cons (ov Y) (.dat Y)<|.cons (ov Y) (.dat Y) .nil) (.cons Y (ro1 (by exact tZ_89.symm)<|rlc (.own _ Y)<|rlD Y<|rlc (.own _ Y)<|rlD Y<|rlD Y<|rlD Y<|rlD Y<|rlD Y rln)<|.cons Y (roO Zw)<|.cons Y (roM D92) .nil) Y (.lent 0 (.inl Y) Y (ro1 (by exact tZ_89.symm)<|rlc (.own _<|Wa Y Y)<|rlD Y<|rlc (.own _<|.inl Y)<|rlD Y<|rlD Y<|rlD Y<|rlD Y<|rlD Y rln)<|.none<|.none<|.none<|.lent 2 (.inl Y) Y (roM D92)<|.lent 3 (Wa Y Y) Y (roO Zw) .nil) Y Y<|.dat Y)<|R1 XM Y<|Rm Y<|Rq Y (.guarded ((!y8.1)==false) Y Y Y Y fun h=>Zc<|ov Y)<|Rq Y (.guarded ((!y8.1)==false) Y Y Y Y fun h=>Zc<|ov Y)<|Rq Y (.guarded ((!y8.1)==false) Y Y Y Y fun h=>Zc<|ov Y)<|Rq Y (.guarded ((!y8.1)==false) Y Y Y Y fun h=>Zi (ow Y h) Y Y)<|Rq Y (.guarded ((!y8.1)==false) Y Y Y Y fun h=>Ze (ow Y h) Y Y Ze0)<|Rq Y (.guarded ((!y8.1)==false) Y Y Y Y fun h=>Zl (ow Y h) Y Y Y ZkW Y)<|Rq Y (.guarded ((!y8.1)==false) Y Y Y Y fun h=>Zc<|ov Y)<|bE h fun x18 h_x18 h=>Rq Y (.guarded ((!y8.1)==false) Y Y Y Y fun h=>Z4 (ow Y h) (ow Y h) ZjA Y Y<|gdT h_x18 h)<|Rq Y (.guarded ((!y8.1)==false) Y Y Y Y fun h=>Ju (ow Y h) Y Y ZgH)<|Rq Y (.guarded ((!y8.1)==false) Y Y Y Y fun h=>Qj (ow Y h) Y Y (gdT h_x18 h) tS3 Y)<|Rq Y (.guarded ((!y8.1)==false) Y Y Y Y fun h=>Zc<|ov Y)<|Rq Y (.guarded ((!y8.1)==false) Y Y Y Y fun h=>ZkV (ow Y h) (ov Y) Y)<|R_q (.when ((!y8.1)==false)<|.sl 5<|List.map R5 ([0]:List Int)) Y (.guarded ((!y8.1)==false) Y Y Y Y fun h=>Jc Qi (.cons (cvs (ov Y)<|Zn Y) Y (.cons (.b Y) .nil) .nil) Y Y)<|?_
   rcases ifR h with ⟨hg,h⟩ | ⟨hg,h⟩
   ·
    refine ZlL (d:=121) (b':=false) Y (ZrK hg)<|bE h fun y9 h_y9 h=>Zrt _ _ Y Y Y Y (Zz [0,5,4] (Jg h_y9) (.cons (ow Y<|by first |rfl |exact hg |simp_all) (.ptr _ _ _ Y)<|.cons (ow Y<|by first |rfl |exact hg |simp_all) (.dat Y)<|.cons (ow Y<|by first |rfl |exact hg |simp_all) (.dat Y)<|.cons (ow Y<|by first |rfl |exact hg |simp_all) (.dat Y)<|.cons (ow Y<|by first |rfl |exact hg |simp_all) (.dat Y) .nil) (.cons Y (ro1 (by exact tZ_89.symm)<|rlc (.own _ Y)<|rlD Y<|rlc (.own _ Y)<|rlD Y<|rlD Y<|rlD Y<|rlD Y<|rlD Y rln)<|.cons Y (roO Zw)<|.cons Y (roM D92) .nil) Y (.lent 0 (.inl Y) Y (ro1 (by exact tZ_89.symm)<|rlc (.own _<|Wa Y Y)<|rlD Y<|rlc (.own _<|.inl Y)<|rlD Y<|rlD Y<|rlD Y<|rlD Y<|rlD Y rln)<|.none<|.none<|.none<|.lent 2 (.inl Y) Y (roM D92)<|.none<|.lent 3 (Wa Y Y) Y (roO Zw) .nil) Y Y<|.dat Y)<|Rq Y (.guarded (false==false) Y Y Y Y fun h=>XM<|ov Y)<|Rq Y (ZaO (ov Y) fun hp=>ow Y<|gF hp)<|Zb<|K3 0 1 137 Y<|If h Y (fun h=>?_) fun h=>?_
    ·
     refine K0<|ZH [some ⟨89,[[.own 6 y9.2.list.length,.int .i64 y9.2.copies,.own 4 stands.length,.bool y9.2.frozen,.bool y9.2.stopped,.int .i64 y9.2.last,.bool y9.2.some_,.int .i64 y9.2.power]]⟩,none,none,none,some ⟨92,List.map R92 stands⟩,none,some ⟨59,List.map O59 y9.2.list⟩] Y<|Tr<|Rz Y<|?_
     rw [←rt h]
     exact Zk<|Xu [some 0,some 1,some 2,some 6,some 4] Y (.cons (.tmp Y) .nil) (.cons Y (ro1 (by exact tZ_89.symm)<|rlc (.own _ Y)<|rlD Y<|rlc (.own _ Y)<|rlD Y<|rlD Y<|rlD Y<|rlD Y<|rlD Y rln)<|.dead<|.dead<|.cons Y (roO Zw)<|.cons Y (roM D92) .nil) Y Y<|.dat Y
    ·
     exact Zg<|⟨_,h,ES [some 0,some 1,some 2,some 6,some 4] (hhp:= .cons Y (ro1 (by exact tZ_89.symm)<|rlc (.own _ Y)<|rlD Y<|rlc (.own _ Y)<|rlD Y<|rlD Y<|rlD Y<|rlD Y<|rlD Y rln)<|.dead<|.dead<|.cons Y (roO Zw)<|.cons Y (roM D92) .nil)⟩
   ·
    refine ZlL (d:=121) (b':=true) Y (Zry hg)<|Zl5 Y Y Y Y Y<|bE h fun u2 h_u2 h=>R_q (.when (true==false)<|.bool false) Y (.guarded (true==false) Y Y Y Y fun h=>Zqo<|gdT h_u2 h)<|Rq Y (ZaO (ov Y) fun hp=>ow Y<|gF hp)<|Zb<|K3 0 1 137 Y<|If h Y (fun h=>?_) fun h=>?_
    ·
     refine K0<|ZH [some ⟨89,[[.own 5 y8.2.list.length,.int .i64 y8.2.copies,.own 4 stands.length,.bool y8.2.frozen,.bool y8.2.stopped,.int .i64 y8.2.last,.bool y8.2.some_,.int .i64 y8.2.power]]⟩,none,none,none,some ⟨92,List.map R92 stands⟩,some ⟨59,List.map O59 y8.2.list⟩] Y<|Tr<|Rz Y<|?_
     rw [←rt h]
     exact Zk<|Xu [some 0,some 1,some 2,some 5,some 4] Y (.cons (.tmp Y) .nil) (.cons Y (ro1 (by exact tZ_89.symm)<|rlc (.own _ Y)<|rlD Y<|rlc (.own _ Y)<|rlD Y<|rlD Y<|rlD Y<|rlD Y<|rlD Y rln)<|.dead<|.dead<|.cons Y (roO Zw)<|.cons Y (roM D92) .nil) Y Y<|.dat Y
    ·
     exact Zg<|⟨_,h,ES [some 0,some 1,some 2,some 5,some 4] (hhp:= .cons Y (ro1 (by exact tZ_89.symm)<|rlc (.own _ Y)<|rlD Y<|rlc (.own _ Y)<|rlD Y<|rlD Y<|rlD Y<|rlD Y<|rlD Y rln)<|.dead<|.dead<|.cons Y (roO Zw)<|.cons Y (roM D92) .nil)⟩
  ·
   replace h:=elr h
   replace h:=t7i h
   refine Tr<|Rm Y<|Rq Y (Zi (ov Y) Y Y)<|Rq Y (Ze (ov Y) Y Y Ze0)<|Rq Y (Zl (ov Y) Y Y Y ZkW Y)<|Rm Y<|bE h fun x19 h_x19 h=>Rq Y (Z4 (ov Y) (ov Y) ZjA Y Y h_x19)<|Rq Y (Ju (ov Y) Y Y Zkr)<|Rq Y (Qj (ov Y) Y Y h_x19 tS3 Y)<|R2 ZI Y<|bE h fun x20 h_x20 h=>Rq Y (Z4 (ov Y) (ov Y) ZjA Y Y h_x20)<|Rq Y (Ju (ov Y) Y Y Zkr)<|Rx Y (Xg (u':=(ref3_stand.mk x20.sector (i64 (x19.slot+1)))) (ov Y) (ov Y) (Zj tS3) Y Y h_x20 Y (Za Y) Y)<|Zb<|K0<|ZH [some ⟨89,[[.own 3 list3.length,.int .i64 copies3,.own 4 stands.length,.bool frozen3,.bool stopped3,.int .i64 last3,.bool some_3,.int .i64 power3]]⟩,none,none,some ⟨59,List.map O59 list3⟩,some ⟨92,List.map R92 (stands.set k.toNat (ref3_stand.mk x20.sector (i64 (x19.slot+1))))⟩] Y<|Tr<|Rz Y<|?_
   rw [←rt h]
   exact Zk<|Xu [some 0,some 1,some 2,some 3,some 4] Y (.cons (.tmp Y) .nil) (.cons Y (ro1 (by exact tZ_89.symm)<|rlc (.own _ Y)<|rlD Y<|rlc (Zbu (Eq.symm<|(List.length_set ..).trans Y) Y)<|rlD Y<|rlD Y<|rlD Y<|rlD Y<|rlD Y rln)<|.dead<|.dead<|.cons Y (roO Zw)<|.cons Y (roM D92) .nil) Y Y<|.dat Y
theorem Zfu{r_:ref3_Recorder}{f:Vector Int 64}{power:Int}{r:Int×Bool×Int×ref3_Recorder}(h:XH r_ f power=some r):
 GSpec Tryz.prog gl0 18 [.ptr 0 1 0 0,.agg (List.map C44 f.toList),.int .i64 power] [some ⟨89,[[.own 1 r_.list.length,.int .i64 r_.copies,.own 2 r_.stands.length,.bool r_.frozen,.bool r_.stopped,.int .i64 r_.last,.bool r_.some_,.int .i64 r_.power]]⟩,some ⟨59,List.map O59 r_.list⟩,some ⟨92,List.map R92 r_.stands⟩] (.tuple [.int .i64 r.1,.bool r.2.1,.int .i64 r.2.2.1]) [some ⟨89,[[.own 3 r.2.2.2.list.length,.int .i64 r.2.2.2.copies,.own 4 r.2.2.2.stands.length,.bool r.2.2.2.frozen,.bool r.2.2.2.stopped,.int .i64 r.2.2.2.last,.bool r.2.2.2.some_,.int .i64 r.2.2.2.power]]⟩,none,none,some ⟨59,List.map O59 r.2.2.2.list⟩,some ⟨92,List.map R92 r.2.2.2.stands⟩]:=by
 unfold XH at h
 replace h:=Qb h
 refine Ql (by kernel_rfl) Tryz.func18 Y Y<|?_
 intro w0 A W φ0
 refine ZbK (Ent.sel [some 0,some 1,some 2,some 1,some 2] (sr 0 Y (.ptr (r':=0) _ _ _ Y)<|sr 1 Y (Zb7<|rld<|arD fun _=>Y)<|sd 2 Y Y sn) (.cons Y (ro1 (by exact tZ_89.symm)<|rlc (.own (r':=3) _ Y)<|rlD Y<|rlc (.own (r':=4) _ Y)<|rlD Y<|rlD Y<|rlD Y<|rlD Y<|rlD Y rln)<|.dead<|.dead<|.cons Y (roO Zw)<|.cons Y (roM D92) .nil) Y Y)<|ZH [some ⟨89,[[.own 3 r_.list.length,.int .i64 r_.copies,.own 4 r_.stands.length,.bool r_.frozen,.bool r_.stopped,.int .i64 r_.last,.bool r_.some_,.int .i64 r_.power]]⟩,none,none,some ⟨59,List.map O59 r_.list⟩,some ⟨92,List.map R92 r_.stands⟩] Y<|Tr<|Rq Y (JL (cva<|ov Y) arL tZ_46<|arD fun _=>Y)<|Ra Y<|Ra Y<|Rz Y<|Zh<|Zf<|K3 0 2 4 Y<|Tr<|Rm Y<|Rq Y (Zi (ov Y) Y Y)<|Rq Y (Ze (ov Y) Y Y ZkE)<|Rq Y (Zl (ov Y) Y Y Y tS4 Y)<|Rz Y<|K4 0 2 4 19 Y<|If h Y (fun h=>?_) fun h=>?_
 ·
  refine K0<|Tr<|Ra Y<|Ra Y<|Rz Y<|?_
  obtain rfl:=rt h
  exact Zk<|Xu [some 0,some 1,some 2,some 3,some 4] Y (.cons (.tmp Y)<|.cons (.tmp Y)<|.cons (.tmp Y) .nil) (.cons Y (ro1 (by exact tZ_89.symm)<|rlc (.own _ Y)<|rlD Y<|rlc (.own _ Y)<|rlD Y<|rlD Y<|rlD Y<|rlD Y<|rlD Y rln)<|.dead<|.dead<|.cons Y (roO Zw)<|.cons Y (roM D92) .nil) Y Y<|Qq<|rlD Y<|rlD Y<|rlD Y rln
 ·
  refine K3 0 2 4 Y<|Tr<|Rm Y<|Rq Y (Zi (ov Y) Y Y)<|Rq Y (Ze (ov Y) Y Y Zku)<|Rq Y (Zl (ov Y) Y Y Y tS4 Y)<|Rz Y<|K4 0 2 4 24 Y<|If h Y (fun h=>?_) fun h=>?_
  ·
   refine K0<|Tr<|Ra Y<|Ra Y<|Rz Y<|?_
   obtain rfl:=rt h
   exact Zk<|Xu [some 0,some 1,some 2,some 3,some 4] Y (.cons (.tmp Y)<|.cons (.tmp Y)<|.cons (.tmp Y) .nil) (.cons Y (ro1 (by exact tZ_89.symm)<|rlc (.own _ Y)<|rlD Y<|rlc (.own _ Y)<|rlD Y<|rlD Y<|rlD Y<|rlD Y<|rlD Y rln)<|.dead<|.dead<|.cons Y (roO Zw)<|.cons Y (roM D92) .nil) Y Y<|Qq<|rlD Y<|rlD Y<|rlD Y rln
  ·
   refine K3 0 2 4 Y<|Tr<|Rm Y<|bE h fun y h_y h=>Rq Y (Zq (QU h_y)<|.cons (ov Y) (.b Y)<|.cons (ov Y) (.b Y)<|.cons (ov Y) (.b Y) .nil)<|Rz Y<|K4 0 2 4 29 Y<|If h Y (fun h=>?_) fun h=>?_
   ·
    refine K0<|Tr<|Ra Y<|Ra Y<|Rz Y<|?_
    obtain rfl:=rt h
    exact Zk<|Xu [some 0,some 1,some 2,some 3,some 4] Y (.cons (.tmp Y)<|.cons (.tmp Y)<|.cons (.tmp Y) .nil) (.cons Y (ro1 (by exact tZ_89.symm)<|rlc (.own _ Y)<|rlD Y<|rlc (.own _ Y)<|rlD Y<|rlD Y<|rlD Y<|rlD Y<|rlD Y rln)<|.dead<|.dead<|.cons Y (roO Zw)<|.cons Y (roM D92) .nil) Y Y<|Qq<|rlD Y<|rlD Y<|rlD Y rln
   ·
    refine K3 0 2 4 Y<|Tr<|Rq Y (Z3 (ov Y) X3 (Qs<|Zu arL) arL)<|bE h fun y2 h_y2 h=>Rq Y (Zq (Zls h_y2)<|.cons (ov Y) (.aggB<|arD fun _=>Y) .nil)<|R1 XM Y<|Rz Y<|K4 0 2 4 32 Y<|If h Y (fun h=>?_) fun h=>?_
    ·
     refine K0<|Tr<|Ra Y<|Ra Y<|Rz Y<|?_
     obtain rfl:=rt h
     exact Zk<|Xu [some 0,some 1,some 2,some 3,some 4] Y (.cons (.tmp Y)<|.cons (.tmp Y)<|.cons (.tmp Y) .nil) (.cons Y (ro1 (by exact tZ_89.symm)<|rlc (.own _ Y)<|rlD Y<|rlc (.own _ Y)<|rlD Y<|rlD Y<|rlD Y<|rlD Y<|rlD Y rln)<|.dead<|.dead<|.cons Y (roO Zw)<|.cons Y (roM D92) .nil) Y Y<|Qq<|rlD Y<|rlD Y<|rlD Y rln
    ·
     refine Zg<|K3 0 2 4 Y<|Tr<|Rq Y (Z3 (ov Y) X3 (Qs<|Zu arL) arL)<|bE h fun y3 h_y3 h=>Rq Y (Zq (Zlb h_y3)<|.cons (ov Y) (.aggB<|arD fun _=>Y) .nil)<|Rm Y<|Rj Y Y Y<|Rj Y Y Y<|Ra Y<|Rz Y<|Zh<|K4 0 2 4 9 Y<|Z5 (cw:=md0) (by kernel_rfl)<|D1 0 Zc Y<|D1 1 Zc Y<|Dq 2 Y (Zi (ov Y) Y Y)<|Dq 3 Y (Ze (ov Y) Y Y ZaI)<|Dq 4 Y (Zl (ov Y) Y Y Y Zcc Y)<|Dq 5 Y (Zb9 (ov Y) Y Y XC)<|D1 6 Zc Y<|Dq 7 Y (Zi (ov Y) Y Y)<|Dq 8 Y (Ze (ov Y) Y Y ZrP)<|Dq 9 Y (Zl (ov Y) Y Y Y tS3 Y)<|bE h fun y4 h_y4 h=>Dq 10 Y (Zq (ZjY h_y4)<|.cons (ov Y) (.b Y)<|.cons (ov Y) (.b Y)<|.cons (ov Y) (.b Y) .nil)<|D1 11 Zc Y<|Dq 12 Y (Xa (ov Y) Y)<|Dq 13 Y (Xa (ov Y) Y)<|D1 14 ZS Y<|D1 15 ZS Y<|Dd<|J0 (fun j=>(.inr j)) ⟨[(0,.ptr 0 1 0 0),(2,.int .i64 power),(4,.rp (List.map C44 f.toList) 0),(9,.int .i64 y3.1),(11,.sl 3 (List.map R3 y4.1))],[some ⟨89,[[.own 3 r_.list.length,.int .i64 r_.copies,.own 4 r_.stands.length,.bool r_.frozen,.bool r_.stopped,.int .i64 r_.last,.bool r_.some_,.int .i64 r_.power]]⟩,none,none,some ⟨59,List.map O59 r_.list⟩,some ⟨92,List.map R92 r_.stands⟩]⟩ h (fun h=>?_) fun h=>?_
     ·
      refine K5 0 2 4 9 11 Y<|Tr<|Rm Y<|Rl tZ_3 QA Y<|Rm Y<|Zb<|Zf<|?_
      obtain⟨r1,hl1,ho1⟩:=QC h
      refine L1 (fun i=>⟨[(0,.ptr 0 1 0 0),(2,.int .i64 power),(4,.rp (List.map C44 f.toList) 0),(9,.int .i64 y3.1),(11,.sl 3 (List.map R3 y4.1)),(55,.sl 3 (List.map R3 y4.1)),(56,.int .i64 (y4.1.length:Int)),(57,.int .i64 i)],[some ⟨89,[[.own 3 r_.list.length,.int .i64 r_.copies,.own 4 r_.stands.length,.bool r_.frozen,.bool r_.stopped,.int .i64 r_.last,.bool r_.some_,.int .i64 r_.power]]⟩,none,none,some ⟨59,List.map O59 r_.list⟩,some ⟨92,List.map R92 r_.stands⟩]⟩) hl1 (ES [some 0,some 1,some 2,some 3,some 4] (hhp:= .cons Y (ro1 (by exact tZ_89.symm)<|rlc (.own _ Y)<|rlD Y<|rlc (.own _ Y)<|rlD Y<|rlD Y<|rlD Y<|rlD Y<|rlD Y rln)<|.dead<|.dead<|.cons Y (roO Zw)<|.cons Y (roM D92) .nil)) fun n1 i h=>?_
      unfold XE at h
      refine Tr<|R2 ZL Y<|Zb<|Zh<|If h Y (fun h=>?_) fun h=>?_
      ·
       refine Zg<|Zh<|Zf<|K8 0 2 4 9 11 55 56 57 Y<|Tr<|bE h fun x h_x h=>Rq Y (ZP (ov Y) (ov Y) QA h_x)<|Rq Y (Zd (ov Y) tS3 Y)<|Rz Y<|K9 0 2 4 9 11 14 55 56 57 Y<|Tr<|Rm Y<|Rm Y<|bE h fun y5 h_y5 h=>Rq Y (Jh (Za0 h_y5) .bool<|.cons (ov Y) (View.ptrS (j:=0) (k:=8) Y Y Y (nL Y)<|.cons (View.ownO Y Y Zw (fun x=>(D59 x).1) ZeK)<|.cons (Dat.view<|.b Y)<|.cons (View.ownM Y Y D92)<|.cons (Dat.view<|.b Y)<|.cons (Dat.view<|.b Y)<|.cons (Dat.view<|.b Y)<|.cons (Dat.view<|.b Y)<|.cons (Dat.view<|.b Y) .nil)<|.cons (ov Y) (Dat.view<|.b Y) .nil)<|Rm Y<|Rq Y (.guarded (y5==true) Y Y Y Y fun h=>Zc<|ov Y)<|Rq Y (.guarded (y5==true) Y Y Y Y fun h=>Zc<|ov Y)<|bE h fun y6 h_y6 h=>Rq Y (.guarded (y5==true) Y Y Y Y fun h=>Jh (Zbm<|gdT h_y6 h) .int<|.cons (ow Y h) (View.ptrS (j:=0) (k:=8) Y Y Y (nL Y)<|.cons (View.ownO Y Y Zw (fun x=>(D59 x).1) ZeK)<|.cons (Dat.view<|.b Y)<|.cons (View.ownM Y Y D92)<|.cons (Dat.view<|.b Y)<|.cons (Dat.view<|.b Y)<|.cons (Dat.view<|.b Y)<|.cons (Dat.view<|.b Y)<|.cons (Dat.view<|.b Y) .nil)<|.cons (ow Y h) (Dat.view<|.b Y) .nil)<|Rq Y (.guarded (y5==true) Y Y Y Y fun h=>ZL (ow Y h)<|ov Y)<|Rq Y (J6 (ov Y) fun hp=>ow Y<|gT hp)<|Zb<|K9 0 2 4 9 11 55 56 57 69 Y<|If h Y (fun h=>?_) fun h=>?_
       ·
        refine K0<|Tr<|Ra Y<|Ra Y<|Rz Y<|?_
        replace h:=lx h▸ho1
        obtain rfl:=rt h
        exact Zk<|Xu [some 0,some 1,some 2,some 3,some 4] Y (.cons (.tmp Y)<|.cons (.tmp Y)<|.cons (.tmp Y) .nil) (.cons Y (ro1 (by exact tZ_89.symm)<|rlc (.own _ Y)<|rlD Y<|rlc (.own _ Y)<|rlD Y<|rlD Y<|rlD Y<|rlD Y<|rlD Y rln)<|.dead<|.dead<|.cons Y (roO Zw)<|.cons Y (roM D92) .nil) Y Y<|Qq<|rlD Y<|rlD Y<|rlD Y rln
       ·
        exact Zg<|K8 0 2 4 9 11 55 56 57 Y<|Zo<|R2 ZI Y<|Rm Y<|Zb<|⟨_,h,ES [some 0,some 1,some 2,some 3,some 4] (hhp:= .cons Y (ro1 (by exact tZ_89.symm)<|rlc (.own _ Y)<|rlD Y<|rlc (.own _ Y)<|rlD Y<|rlD Y<|rlD Y<|rlD Y<|rlD Y rln)<|.dead<|.dead<|.cons Y (roO Zw)<|.cons Y (roM D92) .nil)⟩
      ·
       refine ZA<|?_
       replace h:=lx h▸ho1
       exact⟨(),h,ES [some 0,some 1,some 2,some 3,some 4] (hhp:= .cons Y (ro1 (by exact tZ_89.symm)<|rlc (.own _ Y)<|rlD Y<|rlc (.own _ Y)<|rlD Y<|rlD Y<|rlD Y<|rlD Y<|rlD Y rln)<|.dead<|.dead<|.cons Y (roO Zw)<|.cons Y (roM D92) .nil)⟩
     ·
      replace h:=elr h
      replace h:=t0i h
      refine J0 (fun j=>(.inr j)) ⟨[(0,.ptr 0 1 0 0),(2,.int .i64 power),(4,.rp (List.map C44 f.toList) 0),(9,.int .i64 y3.1),(11,.sl 3 (List.map R3 y4.1))],[some ⟨89,[[.own 3 r_.list.length,.int .i64 r_.copies,.own 4 r_.stands.length,.bool r_.frozen,.bool r_.stopped,.int .i64 r_.last,.bool r_.some_,.int .i64 r_.power]]⟩,none,none,some ⟨59,List.map O59 r_.list⟩,some ⟨92,List.map R92 r_.stands⟩]⟩ h (fun h=>?_) fun h=>?_
      ·
       refine Tr<|Rm Y<|Rl tZ_3 QA Y<|Rm Y<|Zb<|Zf<|?_
       obtain⟨r2,hl2,ho2⟩:=QC h
       refine L1 (fun i2=>⟨[(0,.ptr 0 1 0 0),(2,.int .i64 power),(4,.rp (List.map C44 f.toList) 0),(9,.int .i64 y3.1),(11,.sl 3 (List.map R3 y4.1)),(71,.sl 3 (List.map R3 y4.1)),(72,.int .i64 (y4.1.length:Int)),(73,.int .i64 i2)],[some ⟨89,[[.own 3 r_.list.length,.int .i64 r_.copies,.own 4 r_.stands.length,.bool r_.frozen,.bool r_.stopped,.int .i64 r_.last,.bool r_.some_,.int .i64 r_.power]]⟩,none,none,some ⟨59,List.map O59 r_.list⟩,some ⟨92,List.map R92 r_.stands⟩]⟩) hl2 (ES [some 0,some 1,some 2,some 3,some 4] (hhp:= .cons Y (ro1 (by exact tZ_89.symm)<|rlc (.own _ Y)<|rlD Y<|rlc (.own _ Y)<|rlD Y<|rlD Y<|rlD Y<|rlD Y<|rlD Y rln)<|.dead<|.dead<|.cons Y (roO Zw)<|.cons Y (roM D92) .nil)) fun n2 i2 h=>?_
       unfold XJ at h
       refine Tr<|R2 ZL Y<|Zb<|Zh<|If h Y (fun h=>?_) fun h=>?_
       ·
        refine Zg<|Zh<|Zf<|K8 0 2 4 9 11 71 72 73 Y<|Tr<|bE h fun x2 h_x2 h=>Rq Y (ZP (ov Y) (ov Y) QA h_x2)<|Rq Y (Zd (ov Y) tS3 Y)<|Rz Y<|K9 0 2 4 9 11 16 71 72 73 Y<|Tr<|Rm Y<|Rm Y<|bE h fun y7 h_y7 h=>Rq Y (Jh (Za0 h_y7) .bool<|.cons (ov Y) (View.ptrS (j:=0) (k:=8) Y Y Y (nL Y)<|.cons (View.ownO Y Y Zw (fun x=>(D59 x).1) ZeK)<|.cons (Dat.view<|.b Y)<|.cons (View.ownM Y Y D92)<|.cons (Dat.view<|.b Y)<|.cons (Dat.view<|.b Y)<|.cons (Dat.view<|.b Y)<|.cons (Dat.view<|.b Y)<|.cons (Dat.view<|.b Y) .nil)<|.cons (ov Y) (Dat.view<|.b Y) .nil)<|Rm Y<|Rq Y (.guarded (y7==true) Y Y Y Y fun h=>Zc<|ov Y)<|Rq Y (.guarded (y7==true) Y Y Y Y fun h=>Zc<|ov Y)<|Rq Y (.guarded (y7==true) Y Y Y Y fun h=>Zc<|ov Y)<|Rq Y (.guarded (y7==true) Y Y Y Y fun h=>Zc<|ov Y)<|bE h fun y8 h_y8 h=>Rq Y (.guarded (y7==true) Y Y Y Y fun h=>Jh (Zbm<|gdT h_y8 h) .int<|.cons (ow Y h) (View.ptrS (j:=0) (k:=8) Y Y Y (nL Y)<|.cons (View.ownO Y Y Zw (fun x=>(D59 x).1) ZeK)<|.cons (Dat.view<|.b Y)<|.cons (View.ownM Y Y D92)<|.cons (Dat.view<|.b Y)<|.cons (Dat.view<|.b Y)<|.cons (Dat.view<|.b Y)<|.cons (Dat.view<|.b Y)<|.cons (Dat.view<|.b Y) .nil)<|.cons (ow Y h) (Dat.view<|.b Y) .nil)<|bE h fun y9 h_y9 h=>Rq Y (.guarded (y7==true) Y Y Y Y fun h=>Jh (Zb1<|gdT h_y9 h) .int<|.cons (ow Y h) (View.ptrS (j:=0) (k:=8) Y Y Y (nL Y)<|.cons (View.ownO Y Y Zw (fun x=>(D59 x).1) ZeK)<|.cons (Dat.view<|.b Y)<|.cons (View.ownM Y Y D92)<|.cons (Dat.view<|.b Y)<|.cons (Dat.view<|.b Y)<|.cons (Dat.view<|.b Y)<|.cons (Dat.view<|.b Y)<|.cons (Dat.view<|.b Y) .nil)<|.cons (ow Y h) (Dat.view<|.b Y)<|.cons (ow Y h) (Dat.view<|.b Y) .nil)<|Rq Y (.guarded (y7==true) Y Y Y Y fun h=>Za9 (ow Y h)<|ov Y)<|Rq Y (J6 (ov Y) fun hp=>ow Y<|gT hp)<|Zb<|K9 0 2 4 9 11 71 72 73 88 Y<|If h Y (fun h=>?_) fun h=>?_
        ·
         refine K0<|Tr<|Ra Y<|Ra Y<|Rz Y<|?_
         replace h:=lx h▸ho2
         obtain rfl:=rt h
         exact Zk<|Xu [some 0,some 1,some 2,some 3,some 4] Y (.cons (.tmp Y)<|.cons (.tmp Y)<|.cons (.tmp Y) .nil) (.cons Y (ro1 (by exact tZ_89.symm)<|rlc (.own _ Y)<|rlD Y<|rlc (.own _ Y)<|rlD Y<|rlD Y<|rlD Y<|rlD Y<|rlD Y rln)<|.dead<|.dead<|.cons Y (roO Zw)<|.cons Y (roM D92) .nil) Y Y<|Qq<|rlD Y<|rlD Y<|rlD Y rln
        ·
         exact Zg<|K8 0 2 4 9 11 71 72 73 Y<|Zo<|R2 ZI Y<|Rm Y<|Zb<|⟨_,h,ES [some 0,some 1,some 2,some 3,some 4] (hhp:= .cons Y (ro1 (by exact tZ_89.symm)<|rlc (.own _ Y)<|rlD Y<|rlc (.own _ Y)<|rlD Y<|rlD Y<|rlD Y<|rlD Y<|rlD Y rln)<|.dead<|.dead<|.cons Y (roO Zw)<|.cons Y (roM D92) .nil)⟩
       ·
        refine ZA<|?_
        replace h:=lx h▸ho2
        exact⟨(),h,ES [some 0,some 1,some 2,some 3,some 4] (hhp:= .cons Y (ro1 (by exact tZ_89.symm)<|rlc (.own _ Y)<|rlD Y<|rlc (.own _ Y)<|rlD Y<|rlD Y<|rlD Y<|rlD Y<|rlD Y rln)<|.dead<|.dead<|.cons Y (roO Zw)<|.cons Y (roM D92) .nil)⟩
      ·
       replace h:=elr h
       replace h:=t0i h
       refine Tr<|Rm Y<|Rm Y<|Rq Y (Zi (ov Y) Y Y)<|Rq Y (Ze (ov Y) Y Y Zfn)<|Rx Y (Zm (ov Y) (ov Y) (Zj tS3) Y Y Y (nL Y) (Za Y) Y)<|Zb<|J8 (fun j=>(.inr j)) (fun list copies stands frozen stopped last some_ power2=>⟨[(0,.ptr 0 1 0 0),(9,.int .i64 y3.1)],[some ⟨89,[[.own 3 list.length,.int .i64 copies,.own 4 stands.length,.bool frozen,.bool stopped,.int .i64 last,.bool some_,.int .i64 power2]]⟩,none,none,some ⟨59,List.map O59 list⟩,some ⟨92,List.map R92 stands⟩]⟩) h (fun h=>?_) fun list copies stands frozen stopped last some_ power2 h=>?_
       ·
        refine K4 0 4 9 11 Y<|ZH [some ⟨89,[[.own 3 r_.list.length,.int .i64 r_.copies,.own 4 r_.stands.length,.bool r_.frozen,.bool r_.stopped,.int .i64 r_.last,.bool r_.some_,.int .i64 power]]⟩,none,none,some ⟨59,List.map O59 r_.list⟩,some ⟨92,List.map R92 r_.stands⟩] Y<|Tr<|Rm Y<|Rl tZ_3 QA Y<|Rm Y<|Zb<|Zf<|?_
        obtain⟨r3,hl3,ho3⟩:=QC h
        refine L9 (fun list2 copies2 stands2 frozen2 stopped2 last2 some_2 power3 i3=>⟨[(0,.ptr 0 1 0 0),(4,.rp (List.map C44 f.toList) 0),(9,.int .i64 y3.1),(94,.sl 3 (List.map R3 y4.1)),(95,.int .i64 (y4.1.length:Int)),(96,.int .i64 i3)],[some ⟨89,[[.own 3 list2.length,.int .i64 copies2,.own 4 stands2.length,.bool frozen2,.bool stopped2,.int .i64 last2,.bool some_2,.int .i64 power3]]⟩,none,none,some ⟨59,List.map O59 list2⟩,some ⟨92,List.map R92 stands2⟩]⟩) hl3 (ES [some 0,some 1,some 2,some 3,some 4] (hhp:= .cons Y (ro1 (by exact tZ_89.symm)<|rlc (.own _ Y)<|rlD Y<|rlc (.own _ Y)<|rlD Y<|rlD Y<|rlD Y<|rlD Y<|rlD Y rln)<|.dead<|.dead<|.cons Y (roO Zw)<|.cons Y (roM D92) .nil)) fun n3 list2 copies2 stands2 frozen2 stopped2 last2 some_2 power3 i3 h=>?_
        unfold Q9 at h
        refine Tr<|R2 ZL Y<|Zb<|Zh<|If h Y (fun h=>?_) fun h=>?_
        ·
         refine Zg<|Zh<|Zf<|K6 0 4 9 94 95 96 Y<|Tr<|bE h fun x3 h_x3 h=>Rq Y (ZP (ov Y) (ov Y) QA h_x3)<|Rq Y (Zd (ov Y) tS3 Y)<|Rz Y<|K7 0 4 9 18 94 95 96 Y<|Tr<|Rm Y<|Rm Y<|Rq Y (Z3 (ov Y) X3 (Qs<|Zu arL) arL)<|bE h fun y10 h_y10 h=>Rx Y (Zz [0,3,4] (Zfc h_y10) (.cons (ov Y) (.ptr _ _ _ Y)<|.cons (ov Y) (.dat Y)<|.cons (ov Y) (Zb7<|rld<|arD fun _=>Y) .nil) (.cons Y (ro1 (by exact tZ_89.symm)<|rlc (.own _ Y)<|rlD Y<|rlc (.own _ Y)<|rlD Y<|rlD Y<|rlD Y<|rlD Y<|rlD Y rln)<|.cons Y (roO Zw)<|.cons Y (roM D92) .nil) Y (.lent 0 (.inl Y) Y (ro1 (by exact tZ_89.symm)<|rlc (.own _<|Wa Y Y)<|rlD Y<|rlc (.own _<|Wa Y Y)<|rlD Y<|rlD Y<|rlD Y<|rlD Y<|rlD Y rln)<|.none<|.none<|.none<|.none<|.lent 3 (Wa Y Y) Y (roO Zw)<|.lent 4 (Wa Y Y) Y (roM D92) .nil) Y Y<|.dat Y)<|R1 XM Y<|Zb<|K7 0 4 9 94 95 96 104 Y<|If h Y (fun h=>?_) fun h=>?_
         ·
          refine K1 0 Y<|ZH [some ⟨89,[[.own 5 y10.2.list.length,.int .i64 y10.2.copies,.own 6 y10.2.stands.length,.bool y10.2.frozen,.bool y10.2.stopped,.int .i64 y10.2.last,.bool y10.2.some_,.int .i64 y10.2.power]]⟩,none,none,none,none,some ⟨59,List.map O59 y10.2.list⟩,some ⟨92,List.map R92 y10.2.stands⟩] Y<|Tr<|Rm Y<|Rq Y (Zi (ov Y) Y Y)<|Rq Y (Ze (ov Y) Y Y ZkE)<|Rx Y (Zm (ov Y) (ov Y) (Zj tS4) Y Y Y (nL Y) (Za Y) Y)<|Zb<|K1 0 Y<|ZH [some ⟨89,[[.own 5 y10.2.list.length,.int .i64 y10.2.copies,.own 6 y10.2.stands.length,.bool y10.2.frozen,.bool true,.int .i64 y10.2.last,.bool y10.2.some_,.int .i64 y10.2.power]]⟩,none,none,none,none,some ⟨59,List.map O59 y10.2.list⟩,some ⟨92,List.map R92 y10.2.stands⟩] Y<|Tr<|Rm Y<|Rq Y (Zi (ov Y) Y Y)<|Rq Y (Ze (ov Y) Y Y Zfn)<|Rq Y (Zl (ov Y) Y Y Y tS3 Y)<|Ra Y<|Ra Y<|Rz Y<|?_
          replace h:=lx h▸ho3
          obtain rfl:=rt h
          exact Zk<|Xu [some 0,some 1,some 2,some 5,some 6] Y (.cons (.tmp Y)<|.cons (.tmp Y)<|.cons (.tmp Y) .nil) (.cons Y (ro1 (by exact tZ_89.symm)<|rlc (.own _ Y)<|rlD Y<|rlc (.own _ Y)<|rlD Y<|rlD Y<|rlD Y<|rlD Y<|rlD Y rln)<|.dead<|.dead<|.cons Y (roO Zw)<|.cons Y (roM D92) .nil) Y Y<|Qq<|rlD Y<|rlD Y<|rlD Y rln
         ·
          exact Zg<|K6 0 4 9 94 95 96 Y<|ZH [some ⟨89,[[.own 5 y10.2.list.length,.int .i64 y10.2.copies,.own 6 y10.2.stands.length,.bool y10.2.frozen,.bool y10.2.stopped,.int .i64 y10.2.last,.bool y10.2.some_,.int .i64 y10.2.power]]⟩,none,none,none,none,some ⟨59,List.map O59 y10.2.list⟩,some ⟨92,List.map R92 y10.2.stands⟩] Y<|Zo<|R2 ZI Y<|Rm Y<|Zb<|⟨_,h,ES [some 0,some 1,some 2,some 5,some 6] (hhp:= .cons Y (ro1 (by exact tZ_89.symm)<|rlc (.own _ Y)<|rlD Y<|rlc (.own _ Y)<|rlD Y<|rlD Y<|rlD Y<|rlD Y<|rlD Y rln)<|.dead<|.dead<|.cons Y (roO Zw)<|.cons Y (roM D92) .nil)⟩
        ·
         refine ZA<|?_
         replace h:=lx h▸ho3
         exact⟨_,h,ES [some 0,some 1,some 2,some 3,some 4] (hhp:= .cons Y (ro1 (by exact tZ_89.symm)<|rlc (.own _ Y)<|rlD Y<|rlc (.own _ Y)<|rlD Y<|rlD Y<|rlD Y<|rlD Y<|rlD Y rln)<|.dead<|.dead<|.cons Y (roO Zw)<|.cons Y (roM D92) .nil)⟩
       ·
        replace h:=elr h
        replace h:=t8i h
        refine Tr<|Rm Y<|Rm Y<|Rm Y<|Rq Y (Zi (ov Y) Y Y)<|Rq Y (Ze (ov Y) Y Y Zpg)<|Rx Y (Zm (ov Y) (ov Y) (Zj tS3) Y Y Y (nL Y) (Za Y) Y)<|Rq Y (Zi (ov Y) Y Y)<|Rq Y (Ze (ov Y) Y Y ZpQ)<|Rx Y (Zm (ov Y) (ov Y) (Zj tS4) Y Y Y (nL Y) (Za Y) Y)<|Zb<|K1 0 Y<|ZH [some ⟨89,[[.own 3 list.length,.int .i64 copies,.own 4 stands.length,.bool frozen,.bool stopped,.int .i64 y3.1,.bool true,.int .i64 power2]]⟩,none,none,some ⟨59,List.map O59 list⟩,some ⟨92,List.map R92 stands⟩] Y<|Tr<|Rm Y<|Rq Y (Zi (ov Y) Y Y)<|Rq Y (Ze (ov Y) Y Y Zfn)<|Rq Y (Zl (ov Y) Y Y Y tS3 Y)<|Ra Y<|Ra Y<|Rz Y<|?_
        obtain rfl:=rt h
        exact Zk<|Xu [some 0,some 1,some 2,some 3,some 4] Y (.cons (.tmp Y)<|.cons (.tmp Y)<|.cons (.tmp Y) .nil) (.cons Y (ro1 (by exact tZ_89.symm)<|rlc (.own _ Y)<|rlD Y<|rlc (.own _ Y)<|rlD Y<|rlD Y<|rlD Y<|rlD Y<|rlD Y rln)<|.dead<|.dead<|.cons Y (roO Zw)<|.cons Y (roM D92) .nil) Y Y<|Qq<|rlD Y<|rlD Y<|rlD Y rln
end Go.Proofs.YtgohgnaapbpggaaGreatDoor
