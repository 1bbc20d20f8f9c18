/- A text of the proof: a verified executor of the program form, or the contracts of the functions that the law reaches. -/
import Derived.Test.YtgohgnaapbpggaaGreatDoorOkGd
set_option linter.all false
namespace Go.Proofs.YtgohgnaapbpggaaGreatDoor
open Go Go.Vx
set_option maxRecDepth 10000
set_option maxHeartbeats 1000000
set_option linter.unusedVariables false
theorem ZgY{r_:ring_Recorder}{r:Int×Bool}(h:ZaZ r_=some r):
 CSpec Tryz.prog gl0 19 [.rp [.sl 59 (List.map R59 r_.bank.memories),.sl 83 (List.map R83 r_.bank.spots),.int .i64 r_.copies,.bool r_.frozen,.bool r_.stopped,.int .i64 r_.last,.bool r_.some_] 0] (.tuple [.int .i64 r.1,.bool r.2]):=by
 unfold ZaZ at h
 replace h:=Qb h
 refine So Tryz.func19 Y fun w0 A=>Tr<|Ra Y<|Rz Y<|Zh<|Z5 (cw:=md0) (by kernel_rfl)<|D1 0 Zc Y<|D1 1 ZG Y<|Dq 2 Y (Zv (ov Y) ZpU)<|Dq 3 Y (Zd (ov Y) tS3 Y)<|D1 4 Zc Y<|D1 5 ZG Y<|Dq 6 Y (Zv (ov Y) Zp1)<|Dq 7 Y (Zd (ov Y) tS4 Y)<|D1 8 ZS Y<|D1 9 ZS Y<|Dd<|?_
 obtain rfl:=rt h
 exact Zk (ZK Y (.two (rb Y)<|rb Y))
theorem Zg2{r_:ref3_Recorder}{r:Int×Bool}(h:ZaY r_=some r):
 CSpec Tryz.prog gl0 20 [.rp [.sl 59 (List.map R59 r_.list),.int .i64 r_.copies,.sl 92 (List.map R92 r_.stands),.bool r_.frozen,.bool r_.stopped,.int .i64 r_.last,.bool r_.some_,.int .i64 r_.power] 0] (.tuple [.int .i64 r.1,.bool r.2]):=by
 unfold ZaY at h
 replace h:=Qb h
 refine So Tryz.func20 Y fun w0 A=>Tr<|Ra Y<|Rz Y<|Zh<|Z5 (cw:=md0) (by kernel_rfl)<|D1 0 Zc Y<|D1 1 ZG Y<|Dq 2 Y (Zv (ov Y) Zpg)<|Dq 3 Y (Zd (ov Y) tS3 Y)<|D1 4 Zc Y<|D1 5 ZG Y<|Dq 6 Y (Zv (ov Y) ZpQ)<|Dq 7 Y (Zd (ov Y) tS4 Y)<|D1 8 ZS Y<|D1 9 ZS Y<|Dd<|?_
 obtain rfl:=rt h
 exact Zk (ZK Y (.two (rb Y)<|rb Y))
theorem Zes{r_:ring_Recorder}{r:(List api_Memory)}(h:Z6 r_=some r):
 GSpec Tryz.prog gl0 21 [.ptr 0 1 0 0] [some ⟨80,[[.own 1 r_.bank.memories.length,.own 2 r_.bank.spots.length,.int .i64 r_.copies,.bool r_.frozen,.bool r_.stopped,.int .i64 r_.last,.bool r_.some_]]⟩,some ⟨59,List.map O59 r_.bank.memories⟩,some ⟨83,List.map R83 r_.bank.spots⟩] (.own 5 r.length) [some ⟨80,[[.own 3 r_.bank.memories.length,.own 4 r_.bank.spots.length,.int .i64 r_.copies,.bool r_.frozen,.bool r_.stopped,.int .i64 r_.last,.bool r_.some_]]⟩,none,none,some ⟨59,List.map O59 r_.bank.memories⟩,some ⟨83,List.map R83 r_.bank.spots⟩,some ⟨59,List.map O59 r⟩]:=by
 unfold Z6 at h
 replace h:=Qb h
 refine Ql (by kernel_rfl) Tryz.func21 Y Y<|?_
 intro w0 A W φ0
 refine ZbK (Ent.sel [some 0,some 1,some 2,some 1,some 2] (sr 0 Y (.ptr (r':=0) _ _ _ Y) sn) (.cons Y (ro1 (by exact tZ_80.symm)<|rlc (.own (r':=3) _ Y)<|rlc (.own (r':=4) _ Y)<|rlD Y<|rlD Y<|rlD Y<|rlD Y<|rlD Y rln)<|.dead<|.dead<|.cons Y (roO Zw)<|.cons Y (roM D83) .nil) Y Y)<|ZH [some ⟨80,[[.own 3 r_.bank.memories.length,.own 4 r_.bank.spots.length,.int .i64 r_.copies,.bool r_.frozen,.bool r_.stopped,.int .i64 r_.last,.bool r_.some_]]⟩,none,none,some ⟨59,List.map O59 r_.bank.memories⟩,some ⟨83,List.map R83 r_.bank.spots⟩] Y<|Tr<|Rz Y<|Tr<|Rm Y<|Rq Y (Zi (ov Y) Y Y)<|Rq Y (Ze (ov Y) Y Y Ze2)<|Rq Y (Ze (ov Y) Y Y Ze6)<|Rq Y (Zl (ov Y) Y Y Y Zcc Y)<|bE h fun y h_y h=>Rx Y (Zkj (ZfF h_y) (.cons (ov Y) (View.ownO Y Y Zw (fun x=>(D59 x).1) ZeK) .nil) (.keep Y Y<|.none<|.none<|.keep Y Y<|.keep Y Y<|.lent 0 (Wa Y Y) Y (roO Zw) .nil) Y (.own _<|Wa Y Y) Y<|.cons (frM Zw) .nil)<|Rz Y<|?_
 obtain rfl:=rt h
 exact Zk<|Xu [some 0,some 1,some 2,some 3,some 4,some 5] Y (.cons (.tmp Y) .nil) (.cons Y (ro1 (by exact tZ_80.symm)<|rlc (.own _ Y)<|rlc (.own _ Y)<|rlD Y<|rlD Y<|rlD Y<|rlD Y<|rlD Y rln)<|.dead<|.dead<|.cons Y (roO Zw)<|.cons Y (roM D83)<|.cons Y (roO Zw) .nil) Y Y<|.own _ Y
theorem Zep{r_:ref3_Recorder}{r:(List api_Memory)}(h:Xk r_=some r):
 GSpec Tryz.prog gl0 22 [.ptr 0 1 0 0] [some ⟨89,[[.own 1 r_.list.length,.int .i64 r_.copies,.own 2 r_.stands.length,.bool r_.frozen,.bool r_.stopped,.int .i64 r_.last,.bool r_.some_,.int .i64 r_.power]]⟩,some ⟨59,List.map O59 r_.list⟩,some ⟨92,List.map R92 r_.stands⟩] (.own 5 r.length) [some ⟨89,[[.own 3 r_.list.length,.int .i64 r_.copies,.own 4 r_.stands.length,.bool r_.frozen,.bool r_.stopped,.int .i64 r_.last,.bool r_.some_,.int .i64 r_.power]]⟩,none,none,some ⟨59,List.map O59 r_.list⟩,some ⟨92,List.map R92 r_.stands⟩,some ⟨59,List.map O59 r⟩]:=by
 unfold Xk at h
 replace h:=Qb h
 refine Ql (by kernel_rfl) Tryz.func22 Y Y<|?_
 intro w0 A W φ0
 refine ZbK (Ent.sel [some 0,some 1,some 2,some 1,some 2] (sr 0 Y (.ptr (r':=0) _ _ _ Y) sn) (.cons Y (ro1 (by exact tZ_89.symm)<|rlc (.own (r':=3) _ Y)<|rlD Y<|rlc (.own (r':=4) _ Y)<|rlD Y<|rlD Y<|rlD Y<|rlD Y<|rlD Y rln)<|.dead<|.dead<|.cons Y (roO Zw)<|.cons Y (roM D92) .nil) Y Y)<|ZH [some ⟨89,[[.own 3 r_.list.length,.int .i64 r_.copies,.own 4 r_.stands.length,.bool r_.frozen,.bool r_.stopped,.int .i64 r_.last,.bool r_.some_,.int .i64 r_.power]]⟩,none,none,some ⟨59,List.map O59 r_.list⟩,some ⟨92,List.map R92 r_.stands⟩] Y<|Tr<|Rz Y<|K1 0 Y<|Tr<|Rz Y<|I1 (fun out=>⟨[(3,.own 5 out.length)],[some ⟨89,[[.own 3 r_.list.length,.int .i64 r_.copies,.own 4 r_.stands.length,.bool r_.frozen,.bool r_.stopped,.int .i64 r_.last,.bool r_.some_,.int .i64 r_.power]]⟩,none,none,some ⟨59,List.map O59 r_.list⟩,some ⟨92,List.map R92 r_.stands⟩,some ⟨59,List.map O59 out⟩]⟩) h (fun h=>?_) fun out h=>?_
 ·
  refine Tr<|Rm Y<|Rq Y (Zi (ov Y) Y Y)<|Rq Y (Ze (ov Y) Y Y ZaI)<|Rq Y (Zl (ov Y) Y Y Y Zcc Y)<|Rq Y (Zb9 (ov Y) Y Y XC)<|Rm Y<|Zb<|Zf<|?_
  obtain⟨r1,hl1,ho1⟩:=QC h
  refine L2 (fun out2 i=>⟨[(3,.own 5 out2.length),(9,.own 3 r_.list.length),(10,.int .i64 (r_.list.length:Int)),(11,.int .i64 i)],[some ⟨89,[[.own 3 r_.list.length,.int .i64 r_.copies,.own 4 r_.stands.length,.bool r_.frozen,.bool r_.stopped,.int .i64 r_.last,.bool r_.some_,.int .i64 r_.power]]⟩,none,none,some ⟨59,List.map O59 r_.list⟩,some ⟨92,List.map R92 r_.stands⟩,some ⟨59,List.map O59 out2⟩]⟩) hl1 (ES [some 0,some 1,some 2,some 3,some 4,none] (hhp:= .cons Y (ro1 (by exact tZ_89.symm)<|rlc (.own _ Y)<|rlD Y<|rlc (.own _ Y)<|rlD Y<|rlD Y<|rlD Y<|rlD Y<|rlD Y rln)<|.dead<|.dead<|.cons Y (roO Zw)<|.cons Y (roM D92)<|.row 59 .nil)) fun n1 out2 i h=>?_
  unfold Xn at h
  refine Tr<|R2 ZL Y<|Zb<|Zh<|If h Y (fun h=>?_) fun h=>?_
  ·
   exact Zg<|Zh<|Zf<|K4 3 9 10 11 Y<|Tr<|bE h fun x h_x h=>Rq Y (Z4 (ov Y) (ov Y) XC Y Y h_x)<|Qk (Ent.focusH (r:=3) (j:=2) (e':=22) (g:=O22) (ys:=x.Sectors) Y (Zp h_x).2 Y Zat)<|Qk (Ent.focusI (r:=3) (j:=3) (e':=3) (g:=R3) (ys:=x.Wear) Y (Zp h_x).2 Y DR3)<|Qk (Ent.focusI (r:=3) (j:=4) (e':=4) (g:=R4) (ys:=x.Bad) Y (Zp h_x).2 Y DR4)<|Rq Y (Zmt (ov Y) Y Y (Zp h_x).2 XL Y Y)<|Rx Y (Qd (row:= [_,_,_,_,_]) 9 Y Zde Y tZ_59)<|Rx Y (Zm (ov Y) (ov Y) (ZB XL Y) Y Y Y (nL Y) (Za Y) Y)<|ZdL [some ⟨89,[[.own 3 r_.list.length,.int .i64 r_.copies,.own 4 r_.stands.length,.bool r_.frozen,.bool r_.stopped,.int .i64 r_.last,.bool r_.some_,.int .i64 r_.power]]⟩,none,none,some ⟨59,List.set (List.map O59 r_.list) i.toNat [.int .i64 x.Slots,.int .i64 x.Limit,.own 6 x.Sectors.length,.own 7 x.Wear.length,.own 8 x.Bad.length]⟩,some ⟨92,List.map R92 r_.stands⟩,some ⟨59,List.map O59 out2⟩,some ⟨22,List.map O22 x.Sectors⟩,some ⟨3,List.map R3 x.Wear⟩,some ⟨4,List.map R4 x.Bad⟩,some ⟨59,[[.int .i64 x.Slots,.int .i64 x.Limit,.own 6 x.Sectors.length,.own 7 x.Wear.length,.own 8 x.Bad.length]]⟩] Y<|Zb<|K5 3 5 9 10 11 Y<|Zo<|Rm Y<|Rq Y (Qt (ov Y) Y Y Y XL Y Y)<|bE h fun y h_y h=>Rx Y (Zkj (ZbH h_y) (.cons (ov Y) (View.aggL<|.cons (Dat.view<|.b Y)<|.cons (Dat.view<|.b Y)<|.cons (View.ownO Y Y Zat (fun x=>(D22 x).1) ZqB)<|.cons (View.ownM Y Y D3)<|.cons (View.ownM Y Y D4) .nil) .nil) (.keep Y Y<|.none<|.none<|.keep Y Y<|.keep Y Y<|.keep Y Y<|.keep Y Y<|.keep Y Y<|.keep Y Y<|.keep Y Y<|.lent 0 (Wa Y Y) Y (roO Zat)<|.lent 1 (Wa Y Y) Y (roM D3)<|.lent 2 (Wa Y Y) Y (roM D4) .nil) Y (Zb7<|rlD Y<|rlD Y<|rlc (.own _<|Wa Y Y)<|rlc (.own _<|Wa Y Y)<|rlc (.own _<|Wa Y Y) rln) Y<|.cons (frM Zat)<|.cons (frM DR3)<|.cons (frM DR4) .nil)<|Rx Y (Xs (r:=13) Y XC (.cons (cva<|ov Y) Y .nil) Y Y)<|bE h fun l h_l h=>Rx Y (Q8 (f:=O59) (ov Y) (Jv (o:=⟨59,[[.int .i64 y.Slots,.int .i64 y.Limit,.own 10 y.Sectors.length,.own 11 y.Wear.length,.own 12 y.Bad.length]]⟩) (ov Y) Y Y tZ_59) XC Y Y (Za Y) Y h_l)<|Ra Y<|ZdL [some ⟨89,[[.own 3 r_.list.length,.int .i64 r_.copies,.own 4 r_.stands.length,.bool r_.frozen,.bool r_.stopped,.int .i64 r_.last,.bool r_.some_,.int .i64 r_.power]]⟩,none,none,some ⟨59,List.set (List.map O59 r_.list) i.toNat [.int .i64 x.Slots,.int .i64 x.Limit,.own 6 x.Sectors.length,.own 7 x.Wear.length,.own 8 x.Bad.length]⟩,some ⟨92,List.map R92 r_.stands⟩,some ⟨59,List.set (List.map O59 l) out2.length [.int .i64 y.Slots,.int .i64 y.Limit,.own 10 y.Sectors.length,.own 11 y.Wear.length,.own 12 y.Bad.length]⟩,some ⟨22,List.map O22 x.Sectors⟩,some ⟨3,List.map R3 x.Wear⟩,some ⟨4,List.map R4 x.Bad⟩,some ⟨59,[[.int .i64 x.Slots,.int .i64 x.Limit,.own 6 x.Sectors.length,.own 7 x.Wear.length,.own 8 x.Bad.length]]⟩,some ⟨22,List.map O22 y.Sectors⟩,some ⟨3,List.map R3 y.Wear⟩,some ⟨4,List.map R4 y.Bad⟩,some ⟨59,[[.int .i64 y.Slots,.int .i64 y.Limit,.own 10 y.Sectors.length,.own 11 y.Wear.length,.own 12 y.Bad.length]]⟩] Y<|Qk (Ent.absorbH (r:=3) (j:=2) (q:=6) Y (Zp h_x).2 Y Y (List.length_map ..) Y)<|Qk (Ent.absorbH (r:=3) (j:=3) (q:=7) Y (Zp h_x).2 Y Y (List.length_map ..) Y)<|Qk (Ent.absorbH (r:=3) (j:=4) (q:=8) Y (Zp h_x).2 Y Y (List.length_map ..) Y)<|Qk (Ent.closeS (r:=3) Y (Zp h_x).2 Y)<|Qk (Ent.absorbH (r:=5) (j:=2) (q:=10) Y (ZF h_l) Y Y (List.length_map ..) Y)<|Qk (Ent.absorbH (r:=5) (j:=3) (q:=11) Y (ZF h_l) Y Y (List.length_map ..) Y)<|Qk (Ent.absorbH (r:=5) (j:=4) (q:=12) Y (ZF h_l) Y Y (List.length_map ..) Y)<|Qk (Ent.closeS (r:=5) Y (ZF h_l) Y)<|Zb<|K4 3 9 10 11 Y<|ZH [some ⟨89,[[.own 3 r_.list.length,.int .i64 r_.copies,.own 4 r_.stands.length,.bool r_.frozen,.bool r_.stopped,.int .i64 r_.last,.bool r_.some_,.int .i64 r_.power]]⟩,none,none,some ⟨59,List.map O59 r_.list⟩,some ⟨92,List.map R92 r_.stands⟩,some ⟨59,List.map O59 l⟩,none,none,none,some ⟨59,[[.int .i64 x.Slots,.int .i64 x.Limit,.own 6 x.Sectors.length,.own 7 x.Wear.length,.own 8 x.Bad.length]]⟩,none,none,none,some ⟨59,[[.int .i64 y.Slots,.int .i64 y.Limit,.own 10 y.Sectors.length,.own 11 y.Wear.length,.own 12 y.Bad.length]]⟩] Y<|Zo<|R2 ZI Y<|Rm Y<|Zb<|⟨_,h,ES [some 0,some 1,some 2,some 3,some 4,some 5] (hhp:= .cons Y (ro1 (by exact tZ_89.symm)<|rlc (.own _ Y)<|rlD Y<|rlc (.own _ Y)<|rlD Y<|rlD Y<|rlD Y<|rlD Y<|rlD Y rln)<|.dead<|.dead<|.cons Y (roO Zw)<|.cons Y (roM D92)<|.cons Y (roO Zw) .nil)⟩
  ·
   refine ZA<|?_
   replace h:=lx h▸ho1
   exact⟨_,h,ES [some 0,some 1,some 2,some 3,some 4,some 5] (hhp:= .cons Y (ro1 (by exact tZ_89.symm)<|rlc (.own _ Y)<|rlD Y<|rlc (.own _ Y)<|rlD Y<|rlD Y<|rlD Y<|rlD Y<|rlD Y rln)<|.dead<|.dead<|.cons Y (roO Zw)<|.cons Y (roM D92)<|.cons Y (roO Zw) .nil)⟩
 ·
  refine Tr<|Rm Y<|Rz Y<|?_
  obtain rfl:=rt h
  exact Zk<|Xu [some 0,some 1,some 2,some 3,some 4,some 5] Y (.cons (.tmp Y) .nil) (.cons Y (ro1 (by exact tZ_89.symm)<|rlc (.own _ Y)<|rlD Y<|rlc (.own _ Y)<|rlD Y<|rlD Y<|rlD Y<|rlD Y<|rlD Y rln)<|.dead<|.dead<|.cons Y (roO Zw)<|.cons Y (roM D92)<|.cons Y (roO Zw) .nil) Y Y<|.own _ Y
theorem XN{s1:List api_Memory}{s2:List api_Memory}{eq:api_Memory→api_Memory→Option Bool}{r:Bool}{eq_f:FuncId}{eq_c:List AV}(eq_d:eq_c.all datB=true)(eq_h: ∀ (z0:api_Memory) (z1:api_Memory) z,eq z0 z1=some z→CSpec Tryz.prog gl0 eq_f ([.agg [.int .i64 z0.Slots,.int .i64 z0.Limit,.sl 22 (List.map R22 z0.Sectors),.sl 3 (List.map R3 z0.Wear),.sl 4 (List.map R4 z0.Bad)],.agg [.int .i64 z1.Slots,.int .i64 z1.Limit,.sl 22 (List.map R22 z1.Sectors),.sl 3 (List.map R3 z1.Wear),.sl 4 (List.map R4 z1.Bad)]]++eq_c) (.bool z))(h:ZD s1 s2 eq=some r):
 CSpec Tryz.prog gl0 23 [.sl 59 (List.map R59 s1),.sl 59 (List.map R59 s2),.fn eq_f eq_c] (.bool r):=by
 unfold ZD at h
 replace h:=Qb h
 refine So Tryz.func23 Y fun w0 A=>Tr<|Rz Y<|Zh<|K3 0 1 2 Y<|Tr<|Rm Y<|Rl tZ_59 XC Y<|Rm Y<|Rl tZ_59 XC Y<|R2 Qy Y<|Zb<|K4 0 1 2 14 Y<|If h Y (fun h=>?_) fun h=>?_
 ·
  refine K0<|Tr<|Rz Y<|?_
  obtain rfl:=rt h
  exact Zk (ZK Y (.one<|rb Y))
 ·
  refine Zg<|J0 (fun j=>(.inr j)) ⟨[],[]⟩ h (fun h=>?_) fun h=>?_
  ·
   refine K3 0 1 2 Y<|Tr<|Rm Y<|Rl tZ_59 XC Y<|Rm Y<|Zb<|Zf<|?_
   obtain⟨r1,hl1,ho1⟩:=QC h
   refine L1 (fun i=>⟨[(1,.sl 59 (List.map R59 s2)),(2,.fn eq_f eq_c),(15,.sl 59 (List.map R59 s1)),(16,.int .i64 (s1.length:Int)),(17,.int .i64 i)],[]⟩) hl1 (ES []<|sd 1 Y Y<|sr 2 Y (rFn<|rld eq_d)<|sd 15 Y Y<|sd 16 Y Y<|sd 17 Y Y sn) fun n1 i h=>?_
   unfold Zy at h
   refine Tr<|R2 ZL Y<|Zb<|Zh<|If h Y (fun h=>?_) fun h=>?_
   ·
    refine Zg<|Zh<|Zf<|K5 1 2 15 16 17 Y<|Tr<|Rm Y<|bE h fun x h_x h=>Rq Y (ZP (ov Y) (ov Y) XC h_x)<|Rq Y (Z3 (ov Y) XL Y Y)<|Rx Y (Qd (row:= [_,_,_,_,_]) 0 Y Zde Y tZ_59)<|Ra Y<|Rx Y (Zm (ov Y) (ov Y) (ZB XL Y) Y Y Y (nL Y) (Za Y) Y)<|Zb<|K7 1 2 7 8 15 16 17 Y<|Tr<|Rm Y<|Rm Y<|bE h fun x2 h_x2 h=>Rq Y (ZP (ov Y) (ov Y) XC h_x2)<|Rq Y (Z3 (ov Y) XL Y Y)<|Rx Y (Qd (row:= [_,_,_,_,_]) 1 Y Zde Y tZ_59)<|Rx Y (Zm (ov Y) (ov Y) (ZB XL Y) Y Y Y (nL Y) (Za Y) Y)<|Zb<|K7 1 2 8 9 15 16 17 Y<|Tr<|Rm Y<|Rq Y (Qt (ov Y) Y Y Y XL Y Y)<|Rq Y (Qt (ov Y) Y Y Y XL Y Y)<|bE h fun y h_y h=>Rq Y (ZeS (ov Y) eq_d (eq_h _ _ _ h_y)<|.cons (ov Y) (.aggB Y)<|.cons (ov Y) (.aggB Y) .nil)<|R1 XM Y<|Zb<|K6 1 2 15 16 17 30 Y<|If h Y (fun h=>?_) fun h=>?_
    ·
     refine K0<|Tr<|Rz Y<|?_
     replace h:=lx h▸ho1
     obtain rfl:=rt h
     exact Zk (ZK Y (.one<|rb Y))
    ·
     exact Zg<|K5 1 2 15 16 17 Y<|Zo<|R2 ZI Y<|Rm Y<|Zb<|⟨_,h,ES []<|sd 1 Y Y<|sr 2 Y (rFn<|rld eq_d)<|sd 15 Y Y<|sd 16 Y Y<|sd 17 Y Y sn⟩
   ·
    refine ZA<|?_
    replace h:=lx h▸ho1
    exact⟨(),h,ES []⟩
  ·
   replace h:=elr h
   replace h:=t0i h
   refine Tr<|Rz Y<|?_
   obtain rfl:=rt h
   exact Zk (ZK Y (.one<|rb Y))
theorem Zbw{s1:List (List Int)}{s2:List (List Int)}{eq:(List Int)→(List Int)→Option Bool}{r:Bool}{eq_f:FuncId}{eq_c:List AV}(eq_d:eq_c.all datB=true)(eq_h: ∀ (z0:List Int) (z1:List Int) z,eq z0 z1=some z→CSpec Tryz.prog gl0 eq_f ([.sl 5 (List.map R5 z0),.sl 5 (List.map R5 z1)]++eq_c) (.bool z))(h:Qm s1 s2 eq=some r):
 CSpec Tryz.prog gl0 58 [.sl 22 (List.map R22 s1),.sl 22 (List.map R22 s2),.fn eq_f eq_c] (.bool r):=by
 unfold Qm at h
 replace h:=Qb h
 refine So Tryz.func58 Y fun w0 A=>Tr<|Rz Y<|Zh<|K3 0 1 2 Y<|Tr<|Rm Y<|Rl tZ_22 Q3 Y<|Rm Y<|Rl tZ_22 Q3 Y<|R2 Qy Y<|Zb<|K4 0 1 2 14 Y<|If h Y (fun h=>?_) fun h=>?_
 ·
  refine K0<|Tr<|Rz Y<|?_
  obtain rfl:=rt h
  exact Zk (ZK Y (.one<|rb Y))
 ·
  refine Zg<|J0 (fun j=>(.inr j)) ⟨[],[]⟩ h (fun h=>?_) fun h=>?_
  ·
   refine K3 0 1 2 Y<|Tr<|Rm Y<|Rl tZ_22 Q3 Y<|Rm Y<|Zb<|Zf<|?_
   obtain⟨r1,hl1,ho1⟩:=QC h
   refine L1 (fun i=>⟨[(1,.sl 22 (List.map R22 s2)),(2,.fn eq_f eq_c),(15,.sl 22 (List.map R22 s1)),(16,.int .i64 (s1.length:Int)),(17,.int .i64 i)],[]⟩) hl1 (ES []<|sd 1 Y Y<|sr 2 Y (rFn<|rld eq_d)<|sd 15 Y Y<|sd 16 Y Y<|sd 17 Y Y sn) fun n1 i h=>?_
   unfold Qz at h
   refine Tr<|R2 ZL Y<|Zb<|Zh<|If h Y (fun h=>?_) fun h=>?_
   ·
    refine Zg<|Zh<|Zf<|K5 1 2 15 16 17 Y<|Tr<|Rm Y<|bE h fun x h_x h=>Rq Y (ZP (ov Y) (ov Y) Q3 h_x)<|Rq Y (Zd (ov Y) Zek Y)<|Ra Y<|Rz Y<|K7 1 2 7 8 15 16 17 Y<|Tr<|Rm Y<|Rm Y<|bE h fun x2 h_x2 h=>Rq Y (ZP (ov Y) (ov Y) Q3 h_x2)<|Rq Y (Zd (ov Y) Zek Y)<|Rz Y<|K7 1 2 8 9 15 16 17 Y<|Tr<|Rm Y<|Rm Y<|Rm Y<|bE h fun y h_y h=>Rq Y (ZeS (ov Y) eq_d (eq_h _ _ _ h_y)<|.cons (ov Y) (.b Y)<|.cons (ov Y) (.b Y) .nil)<|R1 XM Y<|Zb<|K6 1 2 15 16 17 30 Y<|If h Y (fun h=>?_) fun h=>?_
    ·
     refine K0<|Tr<|Rz Y<|?_
     replace h:=lx h▸ho1
     obtain rfl:=rt h
     exact Zk (ZK Y (.one<|rb Y))
    ·
     exact Zg<|K5 1 2 15 16 17 Y<|Zo<|R2 ZI Y<|Rm Y<|Zb<|⟨_,h,ES []<|sd 1 Y Y<|sr 2 Y (rFn<|rld eq_d)<|sd 15 Y Y<|sd 16 Y Y<|sd 17 Y Y sn⟩
   ·
    refine ZA<|?_
    replace h:=lx h▸ho1
    exact⟨(),h,ES []⟩
  ·
   replace h:=elr h
   replace h:=t0i h
   refine Tr<|Rz Y<|?_
   obtain rfl:=rt h
   exact Zk (ZK Y (.one<|rb Y))
theorem Zkz{a:List Int}{b:List Int}{r:Bool}(h:Zea a b=some r):
 CSpec Tryz.prog gl0 8 [.sl 5 (List.map R5 a),.sl 5 (List.map R5 b)] (.bool r):=by
 unfold Zea at h
 replace h:=Qb h
 refine So Tryz.func8 Y fun w0 A=>Tr<|Rz Y<|Tr<|Rm Y<|Rq Y (Zkb (f:=R5) (Qr (ov Y) tZ_5) (fun _=>Y) Qi ZlG ZqM)<|Rm Y<|Rq Y (Zkb (f:=R5) (Qr (ov Y) tZ_5) (fun _=>Y) Qi ZlG ZqM)<|R2 Zp9 Y<|Rz Y<|?_
 obtain rfl:=rt h
 exact Zk (ZK Y (.one<|rb Y))
theorem Zgd{s1:List Int}{s2:List Int}{r:Bool}(h:Jp s1 s2=some r):
 CSpec Tryz.prog gl0 59 [.sl 3 (List.map R3 s1),.sl 3 (List.map R3 s2)] (.bool r):=by
 unfold Jp at h
 replace h:=Qb h
 refine So Tryz.func59 Y fun w0 A=>Tr<|Rz Y<|Zh<|K2 0 1 Y<|Tr<|Rm Y<|Rl tZ_3 QA Y<|Rm Y<|Rl tZ_3 QA Y<|R2 Qy Y<|Zb<|K3 0 1 10 Y<|If h Y (fun h=>?_) fun h=>?_
 ·
  refine K0<|Tr<|Rz Y<|?_
  obtain rfl:=rt h
  exact Zk (ZK Y (.one<|rb Y))
 ·
  refine Zg<|J0 (fun j=>(.inr j)) ⟨[],[]⟩ h (fun h=>?_) fun h=>?_
  ·
   refine K2 0 1 Y<|Tr<|Rm Y<|Rl tZ_3 QA Y<|Rm Y<|Zb<|Zf<|?_
   obtain⟨r1,hl1,ho1⟩:=QC h
   refine L1 (fun i=>⟨[(0,.sl 3 (List.map R3 s1)),(1,.sl 3 (List.map R3 s2)),(12,.int .i64 (s1.length:Int)),(13,.int .i64 i)],[]⟩) hl1 (ES []) fun n1 i h=>?_
   unfold Jx at h
   refine Tr<|R2 ZL Y<|Zb<|Zh<|If h Y (fun h=>?_) fun h=>?_
   ·
    refine Zg<|Zh<|Zf<|K4 0 1 12 13 Y<|Tr<|Rm Y<|Rz Y<|Zh<|K5 0 1 5 12 13 Y<|Z5 (cw:=md0) (by kernel_rfl)<|D1 0 Zc Y<|D1 1 Zc Y<|bE h fun x h_x h=>Dq 2 Y (ZP (ov Y) (ov Y) QA h_x)<|Dq 3 Y (Zd (ov Y) tS3 Y)<|D1 4 Zc Y<|D1 5 Zc Y<|bE h fun x2 h_x2 h=>Dq 6 Y (ZP (ov Y) (ov Y) QA h_x2)<|Dq 7 Y (Zd (ov Y) tS3 Y)<|D2 8 Qy Y<|Dd<|K5 0 1 12 13 24 Y<|If h Y (fun h=>?_) fun h=>?_
    ·
     refine K0<|Tr<|Rz Y<|?_
     replace h:=lx h▸ho1
     obtain rfl:=rt h
     exact Zk (ZK Y (.one<|rb Y))
    ·
     exact Zg<|K4 0 1 12 13 Y<|Zo<|R2 ZI Y<|Rm Y<|Zb<|⟨_,h,ES []⟩
   ·
    refine ZA<|?_
    replace h:=lx h▸ho1
    exact⟨(),h,ES []⟩
  ·
   replace h:=elr h
   replace h:=t0i h
   refine Tr<|Rz Y<|?_
   obtain rfl:=rt h
   exact Zk (ZK Y (.one<|rb Y))
theorem Zfv{s1:List Bool}{s2:List Bool}{r:Bool}(h:XW s1 s2=some r):
 CSpec Tryz.prog gl0 60 [.sl 4 (List.map R4 s1),.sl 4 (List.map R4 s2)] (.bool r):=by
 unfold XW at h
 replace h:=Qb h
 refine So Tryz.func60 Y fun w0 A=>Tr<|Rz Y<|Zh<|K2 0 1 Y<|Tr<|Rm Y<|Rl tZ_4 Zgl Y<|Rm Y<|Rl tZ_4 Zgl Y<|R2 Qy Y<|Zb<|K3 0 1 10 Y<|If h Y (fun h=>?_) fun h=>?_
 ·
  refine K0<|Tr<|Rz Y<|?_
  obtain rfl:=rt h
  exact Zk (ZK Y (.one<|rb Y))
 ·
  refine Zg<|J0 (fun j=>(.inr j)) ⟨[],[]⟩ h (fun h=>?_) fun h=>?_
  ·
   refine K2 0 1 Y<|Tr<|Rm Y<|Rl tZ_4 Zgl Y<|Rm Y<|Zb<|Zf<|?_
   obtain⟨r1,hl1,ho1⟩:=QC h
   refine L1 (fun i=>⟨[(0,.sl 4 (List.map R4 s1)),(1,.sl 4 (List.map R4 s2)),(12,.int .i64 (s1.length:Int)),(13,.int .i64 i)],[]⟩) hl1 (ES []) fun n1 i h=>?_
   unfold X6 at h
   refine Tr<|R2 ZL Y<|Zb<|Zh<|If h Y (fun h=>?_) fun h=>?_
   ·
    refine Zg<|Zh<|Zf<|K4 0 1 12 13 Y<|Tr<|Rm Y<|Rz Y<|Zh<|K5 0 1 5 12 13 Y<|Z5 (cw:=md0) (by kernel_rfl)<|D1 0 Zc Y<|D1 1 Zc Y<|bE h fun x h_x h=>Dq 2 Y (ZP (ov Y) (ov Y) Zgl h_x)<|Dq 3 Y (Zd (ov Y) tS4 Y)<|D1 4 Zc Y<|D1 5 Zc Y<|bE h fun x2 h_x2 h=>Dq 6 Y (ZP (ov Y) (ov Y) Zgl h_x2)<|Dq 7 Y (Zd (ov Y) tS4 Y)<|Dq 8 Y (Zit .neq (by simp) (ov Y) (ov Y) tB4)<|Dd<|K5 0 1 12 13 24 Y<|If h Y (fun h=>?_) fun h=>?_
    ·
     refine K0<|Tr<|Rz Y<|?_
     replace h:=lx h▸ho1
     obtain rfl:=rt h
     exact Zk (ZK Y (.one<|rb Y))
    ·
     exact Zg<|K4 0 1 12 13 Y<|Zo<|R2 ZI Y<|Rm Y<|Zb<|⟨_,h,ES []⟩
   ·
    refine ZA<|?_
    replace h:=lx h▸ho1
    exact⟨(),h,ES []⟩
  ·
   replace h:=elr h
   replace h:=t0i h
   refine Tr<|Rz Y<|?_
   obtain rfl:=rt h
   exact Zk (ZK Y (.one<|rb Y))
theorem Zii{a:api_Memory}{b:api_Memory}{r:Bool}(h:JG a b=some r):
 CSpec Tryz.prog gl0 24 [.agg [.int .i64 a.Slots,.int .i64 a.Limit,.sl 22 (List.map R22 a.Sectors),.sl 3 (List.map R3 a.Wear),.sl 4 (List.map R4 a.Bad)],.agg [.int .i64 b.Slots,.int .i64 b.Limit,.sl 22 (List.map R22 b.Sectors),.sl 3 (List.map R3 b.Wear),.sl 4 (List.map R4 b.Bad)]] (.bool r):=by
 unfold JG at h
 replace h:=Qb h
 refine So Tryz.func24 Y fun w0 A=>Tr<|Rq Y (JL (cva<|ov Y) Y tZ_59 Y)<|Rq Y (JL (cva<|ov Y) Y tZ_59 Y)<|Rz Y<|K3 2 3 4 Y<|Tr<|Rq Y (Zv (ov Y) Zfb)<|Rq Y (Zd (ov Y) tS3 Y)<|Rq Y (Zv (ov Y) Zfb)<|Rq Y (Zd (ov Y) tS3 Y)<|R2 Zae Y<|Rm Y<|Rq Y (.guarded ((decide (a.Slots=b.Slots))==true) Y Y Y Y fun h=>Zv (ov Y) Zhg)<|Rq Y (.guarded ((decide (a.Slots=b.Slots))==true) Y Y Y Y fun h=>Zd (ow Y h) tS3 Y)<|Rq Y (.guarded ((decide (a.Slots=b.Slots))==true) Y Y Y Y fun h=>Zv (ov Y) Zhg)<|Rq Y (.guarded ((decide (a.Slots=b.Slots))==true) Y Y Y Y fun h=>Zd (ow Y h) tS3 Y)<|Rq Y (.guarded ((decide (a.Slots=b.Slots))==true) Y Y Y Y fun h=>Zae (ow Y h)<|ow Y h)<|Rq Y (J6 (ov Y) fun hp=>ow Y<|gT hp)<|Rm Y<|Rq Y (.guarded (((decide (a.Slots=b.Slots))&&(decide (a.Limit=b.Limit)))==true) Y Y Y Y fun h=>Zv (ov Y) Z9)<|Rq Y (.guarded (((decide (a.Slots=b.Slots))&&(decide (a.Limit=b.Limit)))==true) Y Y Y Y fun h=>Zd (ow Y h) Q7 Y)<|Rq Y (.guarded (((decide (a.Slots=b.Slots))&&(decide (a.Limit=b.Limit)))==true) Y Y Y Y fun h=>Zv (ov Y) Z9)<|Rq Y (.guarded (((decide (a.Slots=b.Slots))&&(decide (a.Limit=b.Limit)))==true) Y Y Y Y fun h=>Zd (ow Y h) Q7 Y)<|bE h fun y h_y h=>Rq Y (.guarded (((decide (a.Slots=b.Slots))&&(decide (a.Limit=b.Limit)))==true) Y Y Y Y fun h=>Zq (Zbw Y (fun z0 z1 _ hz=>Zkz hz)<|gdT h_y h)<|.cons (ow Y h) (.b Y)<|.cons (ow Y h) (.b Y)<|.cons (ov Y) .fn .nil)<|Rq Y (J6 (ov Y) fun hp=>ow Y<|gT hp)<|Rm Y<|Rq Y (.guarded ((((decide (a.Slots=b.Slots))&&(decide (a.Limit=b.Limit)))&&y)==true) Y Y Y Y fun h=>Zv (ov Y) Zcz)<|Rq Y (.guarded ((((decide (a.Slots=b.Slots))&&(decide (a.Limit=b.Limit)))&&y)==true) Y Y Y Y fun h=>Zd (ow Y h) Zib Y)<|Rq Y (.guarded ((((decide (a.Slots=b.Slots))&&(decide (a.Limit=b.Limit)))&&y)==true) Y Y Y Y fun h=>Zv (ov Y) Zcz)<|Rq Y (.guarded ((((decide (a.Slots=b.Slots))&&(decide (a.Limit=b.Limit)))&&y)==true) Y Y Y Y fun h=>Zd (ow Y h) Zib Y)<|bE h fun y2 h_y2 h=>Rq Y (.guarded ((((decide (a.Slots=b.Slots))&&(decide (a.Limit=b.Limit)))&&y)==true) Y Y Y Y fun h=>Zq (Zgd<|gdT h_y2 h)<|.cons (ow Y h) (.b Y)<|.cons (ow Y h) (.b Y) .nil)<|Rq Y (J6 (ov Y) fun hp=>ow Y<|gT hp)<|Rm Y<|Rq Y (.guarded (((((decide (a.Slots=b.Slots))&&(decide (a.Limit=b.Limit)))&&y)&&y2)==true) Y Y Y Y fun h=>Zv (ov Y) ZdK)<|Rq Y (.guarded (((((decide (a.Slots=b.Slots))&&(decide (a.Limit=b.Limit)))&&y)&&y2)==true) Y Y Y Y fun h=>Zd (ow Y h) ZiA Y)<|Rq Y (.guarded (((((decide (a.Slots=b.Slots))&&(decide (a.Limit=b.Limit)))&&y)&&y2)==true) Y Y Y Y fun h=>Zv (ov Y) ZdK)<|Rq Y (.guarded (((((decide (a.Slots=b.Slots))&&(decide (a.Limit=b.Limit)))&&y)&&y2)==true) Y Y Y Y fun h=>Zd (ow Y h) ZiA Y)<|bE h fun y3 h_y3 h=>Rq Y (.guarded (((((decide (a.Slots=b.Slots))&&(decide (a.Limit=b.Limit)))&&y)&&y2)==true) Y Y Y Y fun h=>Zq (Zfv<|gdT h_y3 h)<|.cons (ow Y h) (.b Y)<|.cons (ow Y h) (.b Y) .nil)<|Rq Y (J6 (ov Y) fun hp=>ow Y<|gT hp)<|Rz Y<|?_
 obtain rfl:=rt h
 exact Zk (ZK Y (.one<|rb Y))
theorem Zdx{l:List api_Memory}{copies:Int}{deeds:List law3_Deed}{r:Bool}(h:Xx l copies deeds=some r):
 CSpec Tryz.prog gl0 4 [.sl 59 (List.map R59 l),.int .i64 copies,.sl 48 (List.map R48 deeds)] (.bool r):=by
 unfold Xx at h
 replace h:=Qb h
 refine So Tryz.func4 Y fun w0 A=>Tr<|Rz Y<|K3 0 1 2 Y<|Tr<|Rm Y<|Rm Y<|bE h fun y h_y h=>?_
 rcases y with y |y
 ·
  replace h:=ell h
  refine Rx Y (Zz [] (Zcd h_y) (.cons (ov Y) (.dat Y)<|.cons (ov Y) (.dat Y) .nil) .nil Y .nil Y Y<|Qq<|rlD Y<|rlD Y rln)<|Rm Y<|Rj Y Y Y<|Rj Y Y Y<|Ra Y<|Rz Y<|K5 0 1 2 7 8 Y<|Tr<|Rm Y<|Rm Y<|bE h fun y2 h_y2 h=>?_
  rcases y2 with y2 |y2
  ·
   replace h:=ell h
   refine Rx Y (Zz [] (ZaG h_y2) (.cons (ov Y) (.dat Y)<|.cons (ov Y) (.dat Y) .nil) .nil Y .nil Y Y<|Qq<|rlD Y<|rlD Y rln)<|Rm Y<|Rj Y Y Y<|Rj Y Y Y<|Ra Y<|Rz Y<|Zh<|K6 1 2 7 8 9 10 Y<|Tr<|Rm Y<|Rm Y<|R2 Qy Y<|Rm Y<|Rq Y (.guarded ((!decide (y=y2))==false) Y Y Y Y fun h=>Zc<|ov Y)<|Rq Y (.guarded ((!decide (y=y2))==false) Y Y Y Y fun h=>Qy (ow Y h)<|ov Y)<|Rq Y (ZaO (ov Y) fun hp=>ow Y<|gF hp)<|Zb<|K7 1 2 7 8 9 10 43 Y<|If h Y (fun h=>?_) fun h=>?_
   ·
    refine K2 8 10 Y<|Tr<|Rm Y<|Rm Y<|R2 Zae Y<|Rm Y<|bE h fun y3 h_y3 h=>Rq Y (.guarded ((decide (y=y2))==true) Y Y Y Y fun h=>Zq (Zdg<|gdT h_y3 h) .nil)<|Rq Y (J6 (ov Y) fun hp=>ow Y<|gT hp)<|Rz Y<|?_
    obtain rfl:=rt h
    exact Zk (ZK Y (.one<|rb Y))
   ·
    exact Zg<|Zh<|K4 1 2 7 9 Y<|Tr<|Rm Y<|Zb<|Zf<|(ZiW h).elim
  ·
   replace h:=elr h
   refine Rx Y (Zz [] (ZaC h_y2) (.cons (ov Y) (.dat Y)<|.cons (ov Y) (.dat Y) .nil) .nil Y (.lent 0 (Wa Y Y) Y (ro1 (by exact tZ_89.symm)<|rlc (.own _<|Wa Y Y)<|rlD Y<|rlc (.own _<|Wa Y Y)<|rlD Y<|rlD Y<|rlD Y<|rlD Y<|rlD Y rln)<|.lent 1 (Wa Y Y) Y (roO Zw)<|.lent 2 (Wa Y Y) Y (roM D92) .nil) Y Y<|Qq<|rlc (.ptr _ _ _<|Wa Y Y)<|rlD Y rln)<|Rm Y<|Rj Y Y Y<|Rj Y Y Y<|Ra Y<|Rz Y<|Zh<|K6 1 2 7 8 9 10 Y<|ZH [some ⟨89,[[.own 1 y2.1.list.length,.int .i64 y2.1.copies,.own 2 y2.1.stands.length,.bool y2.1.frozen,.bool y2.1.stopped,.int .i64 y2.1.last,.bool y2.1.some_,.int .i64 y2.1.power]]⟩,some ⟨59,List.map O59 y2.1.list⟩,some ⟨92,List.map R92 y2.1.stands⟩] Y<|Tr<|Rm Y<|Rm Y<|R2 Qy Y<|Rm Y<|Rq Y (.guarded ((!decide (y=y2.2))==false) Y Y Y Y fun h=>Zc<|ov Y)<|Rq Y (.guarded ((!decide (y=y2.2))==false) Y Y Y Y fun h=>Qy (ow Y h)<|ov Y)<|Rq Y (ZaO (ov Y) fun hp=>ow Y<|gF hp)<|Zb<|K7 1 2 7 8 9 10 43 Y<|If h Y (fun h=>?_) fun h=>?_
   ·
    refine K2 8 10 Y<|Tr<|Rm Y<|Rm Y<|R2 Zae Y<|Rm Y<|bE h fun y4 h_y4 h=>Rq Y (.guarded ((decide (y=y2.2))==true) Y Y Y Y fun h=>Zq (Zdg<|gdT h_y4 h) .nil)<|Rq Y (J6 (ov Y) fun hp=>ow Y<|gT hp)<|Rz Y<|?_
    obtain rfl:=rt h
    exact Zk (ZK Y (.one<|rb Y))
   ·
    exact Zg<|Zh<|K4 1 2 7 9 Y<|Tr<|Rm Y<|Zb<|Zf<|(ZiW h).elim
 ·
  replace h:=elr h
  refine Rx Y (Zz [] (Zb5 h_y) (.cons (ov Y) (.dat Y)<|.cons (ov Y) (.dat Y) .nil) .nil Y (.lent 0 (Wa Y Y) Y (ro1 (by exact tZ_80.symm)<|rlc (.own _<|Wa Y Y)<|rlc (.own _<|Wa Y Y)<|rlD Y<|rlD Y<|rlD Y<|rlD Y<|rlD Y rln)<|.lent 1 (Wa Y Y) Y (roO Zw)<|.lent 2 (Wa Y Y) Y (roM D83) .nil) Y Y<|Qq<|rlc (.ptr _ _ _<|Wa Y Y)<|rlD Y rln)<|Rm Y<|Rj Y Y Y<|Rj Y Y Y<|Ra Y<|Rz Y<|K5 0 1 2 7 8 Y<|ZH [some ⟨80,[[.own 1 y.1.bank.memories.length,.own 2 y.1.bank.spots.length,.int .i64 y.1.copies,.bool y.1.frozen,.bool y.1.stopped,.int .i64 y.1.last,.bool y.1.some_]]⟩,some ⟨59,List.map O59 y.1.bank.memories⟩,some ⟨83,List.map R83 y.1.bank.spots⟩] Y<|Tr<|Rm Y<|Rm Y<|bE h fun y5 h_y5 h=>?_
  rcases y5 with y5 |y5
  ·
   replace h:=ell h
   refine Rx Y (Zz [] (ZaG h_y5) (.cons (ov Y) (.dat Y)<|.cons (ov Y) (.dat Y) .nil) .nil Y (.keep Y Y<|.keep Y Y<|.keep Y Y .nil) Y Y<|Qq<|rlD Y<|rlD Y rln)<|Rm Y<|Rj Y Y Y<|Rj Y Y Y<|Ra Y<|Rz Y<|Zh<|K6 1 2 7 8 9 10 Y<|Tr<|Rm Y<|Rm Y<|R2 Qy Y<|Rm Y<|Rq Y (.guarded ((!decide (y.2=y5))==false) Y Y Y Y fun h=>Zc<|ov Y)<|Rq Y (.guarded ((!decide (y.2=y5))==false) Y Y Y Y fun h=>Qy (ow Y h)<|ov Y)<|Rq Y (ZaO (ov Y) fun hp=>ow Y<|gF hp)<|Zb<|K7 1 2 7 8 9 10 43 Y<|If h Y (fun h=>?_) fun h=>?_
   ·
    refine K2 8 10 Y<|Tr<|Rm Y<|Rm Y<|R2 Zae Y<|Rm Y<|bE h fun y6 h_y6 h=>Rq Y (.guarded ((decide (y.2=y5))==true) Y Y Y Y fun h=>Zq (Zdg<|gdT h_y6 h) .nil)<|Rq Y (J6 (ov Y) fun hp=>ow Y<|gT hp)<|Rz Y<|?_
    obtain rfl:=rt h
    exact Zk (ZK Y (.one<|rb Y))
   ·
    exact Zg<|Zh<|K4 1 2 7 9 Y<|Tr<|Rm Y<|Zb<|Zf<|(ZiW h).elim
  ·
   replace h:=elr h
   refine Rx Y (Zz [] (ZaC h_y5) (.cons (ov Y) (.dat Y)<|.cons (ov Y) (.dat Y) .nil) .nil Y (.keep Y Y<|.keep Y Y<|.keep Y Y<|.lent 0 (Wa Y Y) Y (ro1 (by exact tZ_89.symm)<|rlc (.own _<|Wa Y Y)<|rlD Y<|rlc (.own _<|Wa Y Y)<|rlD Y<|rlD Y<|rlD Y<|rlD Y<|rlD Y rln)<|.lent 1 (Wa Y Y) Y (roO Zw)<|.lent 2 (Wa Y Y) Y (roM D92) .nil) Y Y<|Qq<|rlc (.ptr _ _ _<|Wa Y Y)<|rlD Y rln)<|Rm Y<|Rj Y Y Y<|Rj Y Y Y<|Ra Y<|Rz Y<|Zh<|K6 1 2 7 8 9 10 Y<|ZH [some ⟨80,[[.own 1 y.1.bank.memories.length,.own 2 y.1.bank.spots.length,.int .i64 y.1.copies,.bool y.1.frozen,.bool y.1.stopped,.int .i64 y.1.last,.bool y.1.some_]]⟩,some ⟨59,List.map O59 y.1.bank.memories⟩,some ⟨83,List.map R83 y.1.bank.spots⟩,some ⟨89,[[.own 4 y5.1.list.length,.int .i64 y5.1.copies,.own 5 y5.1.stands.length,.bool y5.1.frozen,.bool y5.1.stopped,.int .i64 y5.1.last,.bool y5.1.some_,.int .i64 y5.1.power]]⟩,some ⟨59,List.map O59 y5.1.list⟩,some ⟨92,List.map R92 y5.1.stands⟩] Y<|Tr<|Rm Y<|Rm Y<|R2 Qy Y<|Rm Y<|Rq Y (.guarded ((!decide (y.2=y5.2))==false) Y Y Y Y fun h=>Zc<|ov Y)<|Rq Y (.guarded ((!decide (y.2=y5.2))==false) Y Y Y Y fun h=>Qy (ow Y h)<|ov Y)<|Rq Y (ZaO (ov Y) fun hp=>ow Y<|gF hp)<|Zb<|K7 1 2 7 8 9 10 43 Y<|If h Y (fun h=>?_) fun h=>?_
   ·
    refine K2 8 10 Y<|Tr<|Rm Y<|Rm Y<|R2 Zae Y<|Rm Y<|bE h fun y7 h_y7 h=>Rq Y (.guarded ((decide (y.2=y5.2))==true) Y Y Y Y fun h=>Zq (Zdg<|gdT h_y7 h) .nil)<|Rq Y (J6 (ov Y) fun hp=>ow Y<|gT hp)<|Rz Y<|?_
    obtain rfl:=rt h
    exact Zk (ZK Y (.one<|rb Y))
   ·
    refine Zg<|J0 (fun j=>(.inr j)) ⟨[],[]⟩ h (fun h=>?_) fun h=>?_
    ·
     refine K4 1 2 7 9 Y<|Tr<|Rm Y<|Zb<|Zf<|?_
     obtain⟨r1,hl1,ho1⟩:=QC h
     refine ZfD _ (t16 fun memories spots copies2 frozen stopped last some_ list copies3 stands frozen2 stopped2 last2 some_2 power i=>⟨[(1,.int .i64 copies),(2,.sl 48 (List.map R48 deeds)),(7,.ptr 0 1 0 0),(9,.ptr 3 1 0 0),(50,.int .i64 i)],[some ⟨80,[[.own 1 memories.length,.own 2 spots.length,.int .i64 copies2,.bool frozen,.bool stopped,.int .i64 last,.bool some_]]⟩,some ⟨59,List.map O59 memories⟩,some ⟨83,List.map R83 spots⟩,some ⟨89,[[.own 4 list.length,.int .i64 copies3,.own 5 stands.length,.bool frozen2,.bool stopped2,.int .i64 last2,.bool some_2,.int .i64 power]]⟩,some ⟨59,List.map O59 list⟩,some ⟨92,List.map R92 stands⟩]⟩) _ hl1 (Ent.sel [some 0,some 1,some 2,some 3,some 4,some 5] (sd 1 Y Y<|sd 2 Y Y<|sr 7 Y (.ptr _ _ _ Y)<|sr 9 Y (.ptr _ _ _ Y)<|sd 50 Y Y sn) (.cons Y (ro1 (by exact tZ_80.symm)<|rlc (.own _ Y)<|rlc (.own _ Y)<|rlD Y<|rlD Y<|rlD Y<|rlD Y<|rlD Y rln)<|.cons Y (roO Zw)<|.cons Y (roM D83)<|.cons Y (ro1 (by exact tZ_89.symm)<|rlc (.own _ Y)<|rlD Y<|rlc (.own _ Y)<|rlD Y<|rlD Y<|rlD Y<|rlD Y<|rlD Y rln)<|.cons Y (roO Zw)<|.cons Y (roM D92) .nil) Y Y) fun n1 s1 h=>?_
     obtain⟨memories,spots,copies2,frozen,stopped,last,some_,list,copies3,stands,frozen2,stopped2,last2,some_2,power,i⟩:=s1
     replace h:=Zs6 h
     refine ZsU<|?_
     unfold Z7 at h
     refine Tr<|R2 ZL Y<|Zb<|Zh<|If h Y (fun h=>?_) fun h=>?_
     ·
      refine Zg<|Zh<|Zf<|Zds (fun j=>.inr j) (t15 fun memories2 spots2 copies4 frozen3 stopped3 last3 some_3 list2 copies5 stands2 frozen4 stopped4 last4 some_4 power2=>⟨[(1,.int .i64 copies),(2,.sl 48 (List.map R48 deeds)),(7,.ptr 0 1 0 0),(9,.ptr 3 1 0 0),(50,.int .i64 i)],[some ⟨80,[[.own 1 memories2.length,.own 2 spots2.length,.int .i64 copies4,.bool frozen3,.bool stopped3,.int .i64 last3,.bool some_3]]⟩,some ⟨59,List.map O59 memories2⟩,some ⟨83,List.map R83 spots2⟩,some ⟨89,[[.own 4 list2.length,.int .i64 copies5,.own 5 stands2.length,.bool frozen4,.bool stopped4,.int .i64 last4,.bool some_4,.int .i64 power2]]⟩,some ⟨59,List.map O59 list2⟩,some ⟨92,List.map R92 stands2⟩]⟩) h (fun h=>?_) fun j h=>?_
      ·
       refine K5 1 2 7 9 50 Y<|Tr<|Rm Y<|Rl tZ_48 ZsV Y<|Rm Y<|Zb<|Zf<|?_
       obtain⟨r2,hl2,ho2⟩:=QC h
       refine ZfD _ (t16 fun memories3 spots3 copies6 frozen5 stopped5 last5 some_5 list3 copies7 stands3 frozen6 stopped6 last6 some_6 power3 i2=>⟨[(1,.int .i64 copies),(2,.sl 48 (List.map R48 deeds)),(7,.ptr 0 1 0 0),(9,.ptr 3 1 0 0),(50,.int .i64 i),(52,.sl 48 (List.map R48 deeds)),(53,.int .i64 (deeds.length:Int)),(54,.int .i64 i2)],[some ⟨80,[[.own 1 memories3.length,.own 2 spots3.length,.int .i64 copies6,.bool frozen5,.bool stopped5,.int .i64 last5,.bool some_5]]⟩,some ⟨59,List.map O59 memories3⟩,some ⟨83,List.map R83 spots3⟩,some ⟨89,[[.own 4 list3.length,.int .i64 copies7,.own 5 stands3.length,.bool frozen6,.bool stopped6,.int .i64 last6,.bool some_6,.int .i64 power3]]⟩,some ⟨59,List.map O59 list3⟩,some ⟨92,List.map R92 stands3⟩]⟩) _ hl2 (Ent.sel [some 0,some 1,some 2,some 3,some 4,some 5] (sd 1 Y Y<|sd 2 Y Y<|sr 7 Y (.ptr _ _ _ Y)<|sr 9 Y (.ptr _ _ _ Y)<|sd 50 Y Y<|sd 52 Y Y<|sd 53 Y Y<|sd 54 Y Y sn) (.cons Y (ro1 (by exact tZ_80.symm)<|rlc (.own _ Y)<|rlc (.own _ Y)<|rlD Y<|rlD Y<|rlD Y<|rlD Y<|rlD Y rln)<|.cons Y (roO Zw)<|.cons Y (roM D83)<|.cons Y (ro1 (by exact tZ_89.symm)<|rlc (.own _ Y)<|rlD Y<|rlc (.own _ Y)<|rlD Y<|rlD Y<|rlD Y<|rlD Y<|rlD Y rln)<|.cons Y (roO Zw)<|.cons Y (roM D92) .nil) Y Y) fun n2 s2 h=>?_
       obtain⟨memories3,spots3,copies6,frozen5,stopped5,last5,some_5,list3,copies7,stands3,frozen6,stopped6,last6,some_6,power3,i2⟩:=s2
       replace h:=Zs6 h
       refine ZsU<|?_
       unfold ZZ at h
       refine Tr<|R2 ZL Y<|Zb<|Zh<|If h Y (fun h=>?_) fun h=>?_
       ·
        refine Zg<|Zh<|Zf<|K8 1 2 7 9 50 52 53 54 Y<|Tr<|bE h fun x h_x h=>Rq Y (ZP (ov Y) (ov Y) ZsV h_x)<|Rq Y (Z3 (ov Y) ZsZ (Qs<|Zu Znf) Znf)<|Rx Y (Qd (row:=(.bool false)::((List.map C44 (Vector.replicate 64 0).toList)++((.int .i64 0):: []))) 6 Y ZtF (by kernel_rfl)<|by exact Eq.symm (Eq.trans (b:=66) Znf tZ_48.symm))<|Rx Y (Zm (ov Y) (ov Y) (ZB ZsZ Znf) Y Y Y (Zb4 (Zu Znf) Znf) (Za ZtG)<|ZaF<|Eq.trans Znf<|Eq.symm Znf)<|Zb<|K9 1 2 7 9 12 50 52 53 54 Y<|ZH [some ⟨80,[[.own 1 memories3.length,.own 2 spots3.length,.int .i64 copies6,.bool frozen5,.bool stopped5,.int .i64 last5,.bool some_5]]⟩,some ⟨59,List.map O59 memories3⟩,some ⟨83,List.map R83 spots3⟩,some ⟨89,[[.own 4 list3.length,.int .i64 copies7,.own 5 stands3.length,.bool frozen6,.bool stopped6,.int .i64 last6,.bool some_6,.int .i64 power3]]⟩,some ⟨59,List.map O59 list3⟩,some ⟨92,List.map R92 stands3⟩,some ⟨48,[(.bool x.Freeze)::((List.map C44 x.Frame.toList)++((.int .i64 x.Power):: []))]⟩] Y<|Tr<|Ra Y<|Ra Y<|Rz Y<|K9 1 2 7 9 12 50 52 53 54 Y<|Tr<|Ra Y<|Ra Y<|Rz Y<|Zds id (t21 fun memories4 spots4 copies8 frozen7 stopped7 last7 some_7 list4 copies9 stands4 frozen8 stopped8 last8 some_8 power4 left ok e rest is f=>⟨[(1,.int .i64 copies),(2,.sl 48 (List.map R48 deeds)),(7,.ptr 0 1 0 0),(9,.ptr 3 1 0 0),(13,.int .i64 left),(14,.bool ok),(15,.int .i64 e),(16,.int .i64 rest),(17,.bool is),(18,.int .i64 f),(50,.int .i64 i),(52,.sl 48 (List.map R48 deeds)),(53,.int .i64 (deeds.length:Int)),(54,.int .i64 i2)],[some ⟨80,[[.own 1 memories4.length,.own 2 spots4.length,.int .i64 copies8,.bool frozen7,.bool stopped7,.int .i64 last7,.bool some_7]]⟩,some ⟨59,List.map O59 memories4⟩,some ⟨83,List.map R83 spots4⟩,some ⟨89,[[.own 4 list4.length,.int .i64 copies9,.own 5 stands4.length,.bool frozen8,.bool stopped8,.int .i64 last8,.bool some_8,.int .i64 power4]]⟩,some ⟨59,List.map O59 list4⟩,some ⟨92,List.map R92 stands4⟩]⟩) h (fun h=>?_) fun j h=>?_
        ·
         refine K9 1 2 7 9 12 50 52 53 54 Y<|Tr<|Rq Y (Ze (ov Y) Y Y Zr2)<|Rq Y (Zl (ov Y) Y Y Y tS4<|Qx Ztk)<|Zb<|K10 1 2 7 9 12 50 52 53 54 59 Y<|If h Y (fun h=>?_) fun h=>?_
         ·
          exact K9 1 2 7 9 12 50 52 53 54 Y<|Tr<|Rm Y<|Rq Y (Ze (ov Y) Y Y Zl0)<|Rq Y (Zl (ov Y) Y Y Y tS3<|Qx ZqW)<|bE h fun y8 h_y8 h=>Rx Y (Zz [0,1,2] (Zfw h_y8) (.cons (ov Y) (.ptr _ _ _ Y)<|.cons (ov Y) (.dat Y) .nil) (.cons Y (ro1 (by exact tZ_80.symm)<|rlc (.own _ Y)<|rlc (.own _ Y)<|rlD Y<|rlD Y<|rlD Y<|rlD Y<|rlD Y rln)<|.cons Y (roO Zw)<|.cons Y (roM D83) .nil) Y (.lent 0 (.inl Y) Y (ro1 (by exact tZ_80.symm)<|rlc (.own _<|Wa Y Y)<|rlc (.own _<|Wa Y Y)<|rlD Y<|rlD Y<|rlD Y<|rlD Y<|rlD Y rln)<|.none<|.none<|.keep Y Y<|.keep Y Y<|.keep Y Y<|.keep Y Y<|.lent 3 (Wa Y Y) Y (roO Zw)<|.lent 4 (Wa Y Y) Y (roM D83) .nil) Y Y<|Qq<|rld Y)<|Rm Y<|Rj Y Y Y<|Rj Y Y Y<|Rj Y Y Y<|Ra Y<|Ra Y<|Rz Y<|K12 1 2 7 9 12 13 14 15 50 52 53 54 Y<|ZH [some ⟨80,[[.own 7 y8.2.2.2.bank.memories.length,.own 8 y8.2.2.2.bank.spots.length,.int .i64 y8.2.2.2.copies,.bool y8.2.2.2.frozen,.bool y8.2.2.2.stopped,.int .i64 y8.2.2.2.last,.bool y8.2.2.2.some_]]⟩,none,none,some ⟨89,[[.own 4 list3.length,.int .i64 copies7,.own 5 stands3.length,.bool frozen6,.bool stopped6,.int .i64 last6,.bool some_6,.int .i64 power3]]⟩,some ⟨59,List.map O59 list3⟩,some ⟨92,List.map R92 stands3⟩,some ⟨48,[(.bool x.Freeze)::((List.map C44 x.Frame.toList)++((.int .i64 x.Power):: []))]⟩,some ⟨59,List.map O59 y8.2.2.2.bank.memories⟩,some ⟨83,List.map R83 y8.2.2.2.bank.spots⟩] Y<|Zo<|Rm Y<|Rq Y (Ze (ov Y) Y Y Zl0)<|Rq Y (Zl (ov Y) Y Y Y tS3<|Qx ZqW)<|bE h fun y9 h_y9 h=>Rx Y (Zz [3,4,5] (Zfx h_y9) (.cons (ov Y) (.ptr _ _ _ Y)<|.cons (ov Y) (.dat Y) .nil) (.cons Y (ro1 (by exact tZ_89.symm)<|rlc (.own _ Y)<|rlD Y<|rlc (.own _ Y)<|rlD Y<|rlD Y<|rlD Y<|rlD Y<|rlD Y rln)<|.cons Y (roO Zw)<|.cons Y (roM D92) .nil) Y (.keep Y Y<|.none<|.none<|.lent 0 (.inl Y) Y (ro1 (by exact tZ_89.symm)<|rlc (.own _<|Wa Y Y)<|rlD Y<|rlc (.own _<|Wa Y Y)<|rlD Y<|rlD Y<|rlD Y<|rlD Y<|rlD Y rln)<|.none<|.none<|.keep Y Y<|.keep Y Y<|.keep Y Y<|.lent 3 (Wa Y Y) Y (roO Zw)<|.lent 4 (Wa Y Y) Y (roM D92) .nil) Y Y<|Qq<|rld Y)<|Rm Y<|Rj Y Y Y<|Rj Y Y Y<|Rj Y Y Y<|Ra Y<|Ra Y<|Rz Y<|⟨_,h,ES [some 0,some 7,some 8,some 3,some 9,some 10] (hhp:= .cons Y (ro1 (by exact tZ_80.symm)<|rlc (.own _ Y)<|rlc (.own _ Y)<|rlD Y<|rlD Y<|rlD Y<|rlD Y<|rlD Y rln)<|.cons Y (roO Zw)<|.cons Y (roM D83)<|.cons Y (ro1 (by exact tZ_89.symm)<|rlc (.own _ Y)<|rlD Y<|rlc (.own _ Y)<|rlD Y<|rlD Y<|rlD Y<|rlD Y<|rlD Y rln)<|.cons Y (roO Zw)<|.cons Y (roM D92) .nil)⟩
         ·
          exact K9 1 2 7 9 12 50 52 53 54 Y<|Tr<|Rm Y<|Rq Y (Ze (ov Y) Y Y ZpZ)<|Rq Y (Qt (ov Y) Y Y Y X3 (Qs Zst) arL (hns:=(nsM fun _=>Y)))<|Rq Y (Ze (ov Y) Y Y Zl0)<|Rq Y (Zl (ov Y) Y Y Y tS3<|Qx ZqW)<|bE h fun y10 h_y10 h=>Rx Y (Zz [0,1,2] (Zb2 h_y10) (.cons (ov Y) (.ptr _ _ _ Y)<|.cons (ov Y) (Zb7<|rld<|arD fun _=>Y)<|.cons (ov Y) (.dat Y) .nil) (.cons Y (ro1 (by exact tZ_80.symm)<|rlc (.own _ Y)<|rlc (.own _ Y)<|rlD Y<|rlD Y<|rlD Y<|rlD Y<|rlD Y rln)<|.cons Y (roO Zw)<|.cons Y (roM D83) .nil) Y (.lent 0 (.inl Y) Y (ro1 (by exact tZ_80.symm)<|rlc (.own _<|Wa Y Y)<|rlc (.own _<|Wa Y Y)<|rlD Y<|rlD Y<|rlD Y<|rlD Y<|rlD Y rln)<|.none<|.none<|.keep Y Y<|.keep Y Y<|.keep Y Y<|.keep Y Y<|.lent 3 (Wa Y Y) Y (roO Zw)<|.lent 4 (Wa Y Y) Y (roM D83) .nil) Y Y<|Qq<|rld Y)<|Rm Y<|Rj Y Y Y<|Rj Y Y Y<|Rj Y Y Y<|Ra Y<|Ra Y<|Rz Y<|K12 1 2 7 9 12 13 14 15 50 52 53 54 Y<|ZH [some ⟨80,[[.own 7 y10.2.2.2.bank.memories.length,.own 8 y10.2.2.2.bank.spots.length,.int .i64 y10.2.2.2.copies,.bool y10.2.2.2.frozen,.bool y10.2.2.2.stopped,.int .i64 y10.2.2.2.last,.bool y10.2.2.2.some_]]⟩,none,none,some ⟨89,[[.own 4 list3.length,.int .i64 copies7,.own 5 stands3.length,.bool frozen6,.bool stopped6,.int .i64 last6,.bool some_6,.int .i64 power3]]⟩,some ⟨59,List.map O59 list3⟩,some ⟨92,List.map R92 stands3⟩,some ⟨48,[(.bool x.Freeze)::((List.map C44 x.Frame.toList)++((.int .i64 x.Power):: []))]⟩,some ⟨59,List.map O59 y10.2.2.2.bank.memories⟩,some ⟨83,List.map R83 y10.2.2.2.bank.spots⟩] Y<|Zo<|Rm Y<|Rq Y (Ze (ov Y) Y Y ZpZ)<|Rq Y (Qt (ov Y) Y Y Y X3 (Qs Zst) arL (hns:=(nsM fun _=>Y)))<|Rq Y (Ze (ov Y) Y Y Zl0)<|Rq Y (Zl (ov Y) Y Y Y tS3<|Qx ZqW)<|bE h fun y11 h_y11 h=>Rx Y (Zz [3,4,5] (Zfu h_y11) (.cons (ov Y) (.ptr _ _ _ Y)<|.cons (ov Y) (Zb7<|rld<|arD fun _=>Y)<|.cons (ov Y) (.dat Y) .nil) (.cons Y (ro1 (by exact tZ_89.symm)<|rlc (.own _ Y)<|rlD Y<|rlc (.own _ Y)<|rlD Y<|rlD Y<|rlD Y<|rlD Y<|rlD Y rln)<|.cons Y (roO Zw)<|.cons Y (roM D92) .nil) Y (.keep Y Y<|.none<|.none<|.lent 0 (.inl Y) Y (ro1 (by exact tZ_89.symm)<|rlc (.own _<|Wa Y Y)<|rlD Y<|rlc (.own _<|Wa Y Y)<|rlD Y<|rlD Y<|rlD Y<|rlD Y<|rlD Y rln)<|.none<|.none<|.keep Y Y<|.keep Y Y<|.keep Y Y<|.lent 3 (Wa Y Y) Y (roO Zw)<|.lent 4 (Wa Y Y) Y (roM D92) .nil) Y Y<|Qq<|rld Y)<|Rm Y<|Rj Y Y Y<|Rj Y Y Y<|Rj Y Y Y<|Ra Y<|Ra Y<|Rz Y<|⟨_,h,ES [some 0,some 7,some 8,some 3,some 9,some 10] (hhp:= .cons Y (ro1 (by exact tZ_80.symm)<|rlc (.own _ Y)<|rlc (.own _ Y)<|rlD Y<|rlD Y<|rlD Y<|rlD Y<|rlD Y rln)<|.cons Y (roO Zw)<|.cons Y (roM D83)<|.cons Y (ro1 (by exact tZ_89.symm)<|rlc (.own _ Y)<|rlD Y<|rlc (.own _ Y)<|rlD Y<|rlD Y<|rlD Y<|rlD Y<|rlD Y rln)<|.cons Y (roO Zw)<|.cons Y (roM D92) .nil)⟩
        ·
         obtain⟨memories4,spots4,copies8,frozen7,stopped7,last7,some_7,list4,copies9,stands4,frozen8,stopped8,last8,some_8,power4,left,ok,e,rest,is,f⟩:=j
         replace h:=ZtJ h
         refine ZtK<|Tr<|Rm Y<|bE h fun y12 h_y12 h=>Rq Y (Jh (ZgY h_y12) (.tuple<|by simp only [List.mem_cons,List.not_mem_nil,or_false,forall_eq_or_imp,forall_eq];exact⟨.int,.bool⟩)<|.cons (ov Y) (View.ptrS (j:=0) (k:=7) Y Y Y (nL Y)<|.cons (View.ownO Y Y Zw (fun x=>(D59 x).1) ZeK)<|.cons (View.ownM Y Y D83)<|.cons (Dat.view<|.b Y)<|.cons (Dat.view<|.b Y)<|.cons (Dat.view<|.b Y)<|.cons (Dat.view<|.b Y)<|.cons (Dat.view<|.b Y) .nil) .nil)<|Rm Y<|Rj Y Y Y<|Rj Y Y Y<|Ra Y<|Rz Y<|JW (kc 1 Y<|kc 2 Y<|kc 7 Y<|kc 9 Y<|kc 13 Y<|kc 14 Y<|kc 15 Y<|kc 16 Y<|kc 17 Y<|kc 18 Y<|kc 19 Y<|kc 20 Y<|kc 50 Y<|kc 52 Y<|kc 53 Y<|kc 54 Y kn) Y<|Tr<|Rm Y<|bE h fun y13 h_y13 h=>Rq Y (Jh (Zg2 h_y13) (.tuple<|by simp only [List.mem_cons,List.not_mem_nil,or_false,forall_eq_or_imp,forall_eq];exact⟨.int,.bool⟩)<|.cons (ov Y) (View.ptrS (j:=0) (k:=8) Y Y Y (nL Y)<|.cons (View.ownO Y Y Zw (fun x=>(D59 x).1) ZeK)<|.cons (Dat.view<|.b Y)<|.cons (View.ownM Y Y D92)<|.cons (Dat.view<|.b Y)<|.cons (Dat.view<|.b Y)<|.cons (Dat.view<|.b Y)<|.cons (Dat.view<|.b Y)<|.cons (Dat.view<|.b Y) .nil) .nil)<|Rm Y<|Rj Y Y Y<|Rj Y Y Y<|Ra Y<|Rz Y<|JW (kc 1 Y<|kc 2 Y<|kc 7 Y<|kc 9 Y<|kc 13 Y<|kc 14 Y<|kc 15 Y<|kc 16 Y<|kc 17 Y<|kc 18 Y<|kc 19 Y<|kc 20 Y<|kc 21 Y<|kc 22 Y<|kc 50 Y<|kc 52 Y<|kc 53 Y<|kc 54 Y kn) Y<|Tr<|Rm Y<|Rm Y<|R2 Qy Y<|Rm Y<|Rq Y (.guarded ((!decide (left=rest))==false) Y Y Y Y fun h=>Zc<|ov Y)<|Rq Y (.guarded ((!decide (left=rest))==false) Y Y Y Y fun h=>Zc<|ov Y)<|Rq Y (.guarded ((!decide (left=rest))==false) Y Y Y Y fun h=>Zit .neq (by simp) (ow Y h) (ow Y h) tB4)<|Rq Y (ZaO (ov Y) fun hp=>ow Y<|gF hp)<|Rm Y<|Rq Y (.guarded (((!decide (left=rest)) || (!(ok==is)))==false) Y Y Y Y fun h=>Zc<|ov Y)<|Rq Y (.guarded (((!decide (left=rest)) || (!(ok==is)))==false) Y Y Y Y fun h=>Zc<|ov Y)<|Rq Y (.guarded (((!decide (left=rest)) || (!(ok==is)))==false) Y Y Y Y fun h=>Qy (ow Y h)<|ow Y h)<|Rq Y (ZaO (ov Y) fun hp=>ow Y<|gF hp)<|Rm Y<|Rq Y (.guarded ((((!decide (left=rest)) || (!(ok==is))) || (!decide (e=f)))==false) Y Y Y Y fun h=>Zc<|ov Y)<|Rq Y (.guarded ((((!decide (left=rest)) || (!(ok==is))) || (!decide (e=f)))==false) Y Y Y Y fun h=>Zc<|ov Y)<|Rq Y (.guarded ((((!decide (left=rest)) || (!(ok==is))) || (!decide (e=f)))==false) Y Y Y Y fun h=>Qy (ow Y h)<|ow Y h)<|Rq Y (ZaO (ov Y) fun hp=>ow Y<|gF hp)<|Rm Y<|Rq Y (.guarded (((((!decide (left=rest)) || (!(ok==is))) || (!decide (e=f))) || (!decide (y12.1=y13.1)))==false) Y Y Y Y fun h=>Zc<|ov Y)<|Rq Y (.guarded (((((!decide (left=rest)) || (!(ok==is))) || (!decide (e=f))) || (!decide (y12.1=y13.1)))==false) Y Y Y Y fun h=>Zc<|ov Y)<|Rq Y (.guarded (((((!decide (left=rest)) || (!(ok==is))) || (!decide (e=f))) || (!decide (y12.1=y13.1)))==false) Y Y Y Y fun h=>Zit .neq (by simp) (ow Y h) (ow Y h) tB4)<|Rq Y (ZaO (ov Y) fun hp=>ow Y<|gF hp)<|Zb<|K9 1 2 7 9 50 52 53 54 128 Y<|If h Y (fun h=>?_) fun h=>?_
         ·
          refine K0<|Tr<|Rz Y<|?_
          replace h:=lx h▸ho2
          replace h:=lx h▸ho1
          obtain rfl:=rt h
          exact Zk (ZK Y (.one<|rb Y))
         ·
          exact Zg<|K8 1 2 7 9 50 52 53 54 Y<|Zo<|R2 ZI Y<|Rm Y<|Zb<|⟨_,h,ES [some 0,some 1,some 2,some 3,some 4,some 5] (hhp:= .cons Y (ro1 (by exact tZ_80.symm)<|rlc (.own _ Y)<|rlc (.own _ Y)<|rlD Y<|rlD Y<|rlD Y<|rlD Y<|rlD Y rln)<|.cons Y (roO Zw)<|.cons Y (roM D83)<|.cons Y (ro1 (by exact tZ_89.symm)<|rlc (.own _ Y)<|rlD Y<|rlc (.own _ Y)<|rlD Y<|rlD Y<|rlD Y<|rlD Y<|rlD Y rln)<|.cons Y (roO Zw)<|.cons Y (roM D92) .nil)⟩
       ·
        refine ZA<|?_
        replace h:=lx h▸ho2
        exact⟨_,h,ES [some 0,some 1,some 2,some 3,some 4,some 5] (hhp:= .cons Y (ro1 (by exact tZ_80.symm)<|rlc (.own _ Y)<|rlc (.own _ Y)<|rlD Y<|rlD Y<|rlD Y<|rlD Y<|rlD Y rln)<|.cons Y (roO Zw)<|.cons Y (roM D83)<|.cons Y (ro1 (by exact tZ_89.symm)<|rlc (.own _ Y)<|rlD Y<|rlc (.own _ Y)<|rlD Y<|rlD Y<|rlD Y<|rlD Y<|rlD Y rln)<|.cons Y (roO Zw)<|.cons Y (roM D92) .nil)⟩
      ·
       replace h:=elr h
       obtain⟨memories2,spots2,copies4,frozen3,stopped3,last3,some_3,list2,copies5,stands2,frozen4,stopped4,last4,some_4,power2⟩:=j
       replace h:=Ztv h
       refine ZtI<|Tr<|Rm Y<|bE h fun y14 h_y14 h=>Rx Y (Zz [0,1,2] (Zes h_y14) (.cons (ov Y) (.ptr _ _ _ Y) .nil) (.cons Y (ro1 (by exact tZ_80.symm)<|rlc (.own _ Y)<|rlc (.own _ Y)<|rlD Y<|rlD Y<|rlD Y<|rlD Y<|rlD Y rln)<|.cons Y (roO Zw)<|.cons Y (roM D83) .nil) Y (.lent 0 (.inl Y) Y (ro1 (by exact tZ_80.symm)<|rlc (.own _<|Wa Y Y)<|rlc (.own _<|Wa Y Y)<|rlD Y<|rlD Y<|rlD Y<|rlD Y<|rlD Y rln)<|.none<|.none<|.keep Y Y<|.keep Y Y<|.keep Y Y<|.lent 3 (Wa Y Y) Y (roO Zw)<|.lent 4 (Wa Y Y) Y (roM D83)<|.lent 5 (Wa Y Y) Y (roO Zw) .nil) Y Y<|.own _<|Wa Y Y)<|Rm Y<|bE h fun y15 h_y15 h=>Rx Y (Zz [3,4,5] (Zep h_y15) (.cons (ov Y) (.ptr _ _ _ Y) .nil) (.cons Y (ro1 (by exact tZ_89.symm)<|rlc (.own _ Y)<|rlD Y<|rlc (.own _ Y)<|rlD Y<|rlD Y<|rlD Y<|rlD Y<|rlD Y rln)<|.cons Y (roO Zw)<|.cons Y (roM D92) .nil) Y (.keep Y Y<|.none<|.none<|.lent 0 (.inl Y) Y (ro1 (by exact tZ_89.symm)<|rlc (.own _<|Wa Y Y)<|rlD Y<|rlc (.own _<|Wa Y Y)<|rlD Y<|rlD Y<|rlD Y<|rlD Y<|rlD Y rln)<|.none<|.none<|.keep Y Y<|.keep Y Y<|.keep Y Y<|.lent 3 (Wa Y Y) Y (roO Zw)<|.lent 4 (Wa Y Y) Y (roM D92)<|.lent 5 (Wa Y Y) Y (roO Zw) .nil) Y Y<|.own _<|Wa Y Y)<|Ra Y<|Rz Y<|Zh<|K5 1 2 23 24 50 Y<|ZH [some ⟨80,[[.own 6 memories2.length,.own 7 spots2.length,.int .i64 copies4,.bool frozen3,.bool stopped3,.int .i64 last3,.bool some_3]]⟩,none,none,some ⟨89,[[.own 9 list2.length,.int .i64 copies5,.own 10 stands2.length,.bool frozen4,.bool stopped4,.int .i64 last4,.bool some_4,.int .i64 power2]]⟩,none,none,some ⟨59,List.map O59 memories2⟩,some ⟨83,List.map R83 spots2⟩,some ⟨59,List.map O59 y14⟩,some ⟨59,List.map O59 list2⟩,some ⟨92,List.map R92 stands2⟩,some ⟨59,List.map O59 y15⟩] Y<|Tr<|Rm Y<|Rm Y<|bE h fun y16 h_y16 h=>Rq Y (Jh (XN Y (fun z0 z1 _ hz=>Zii hz) h_y16) .bool<|.cons (ov Y) (View.ownO Y Y Zw (fun x=>(D59 x).1) ZeK)<|.cons (ov Y) (View.ownO Y Y Zw (fun x=>(D59 x).1) ZeK)<|.cons (ov Y) (Dat.view .fn) .nil)<|R1 XM Y<|Zb<|K6 1 2 23 24 50 137 Y<|If h Y (fun h=>?_) fun h=>?_
       ·
        refine K0<|Tr<|Rz Y<|?_
        replace h:=lx h▸ho1
        obtain rfl:=rt h
        exact Zk (ZK Y (.one<|rb Y))
       ·
        refine Zg<|K5 1 2 23 24 50 Y<|Tr<|Rm Y<|Rm Y<|bE h fun y17 h_y17 h=>Qk (Ent.meltO (r:=8) Y Zw (fun x=>(D59 x).1) ZeK)<|Qk (Ent.sel [some 0,some 1,some 2,some 3,some 4,some 5,some 6,some 7,none,some 9,some 10,some 11] (sd 1 Y Y<|sd 2 Y Y<|sr 23 Y (Zms Y Y Y D59)<|sr 24 Y (.own (r':=11) _ Y)<|sd 50 Y Y<|sr 139 Y (Zms Y Y Y D59)<|sd 140 Y Y sn) (.cons Y (ro1 (by exact tZ_80.symm)<|rlc (.own (r':=6) _ Y)<|rlc (.own (r':=7) _ Y)<|rlD Y<|rlD Y<|rlD Y<|rlD Y<|rlD Y rln)<|.dead<|.dead<|.cons Y (ro1 (by exact tZ_89.symm)<|rlc (.own (r':=9) _ Y)<|rlD Y<|rlc (.own (r':=10) _ Y)<|rlD Y<|rlD Y<|rlD Y<|rlD Y<|rlD Y rln)<|.dead<|.dead<|.cons Y (roO Zw)<|.cons Y (roM D83)<|.row 59<|.cons Y (roO Zw)<|.cons Y (roM D92)<|.cons Y (roO Zw) .nil) Y Y)<|?_
        rcases y17 with y17 |y17
        ·
         replace h:=ell h
         refine Rx Y (Zz [] (Zcd h_y17) (.cons (ov Y) (.dat Y)<|.cons (ov Y) (.dat Y) .nil) .nil Y (.keep Y Y<|.none<|.none<|.keep Y Y<|.none<|.none<|.keep Y Y<|.keep Y Y<|.keep Y Y<|.keep Y Y<|.keep Y Y<|.keep Y Y .nil) Y Y<|Qq<|rlD Y<|rlD Y rln)<|Rm Y<|Rj Y Y Y<|Rj Y Y Y<|Ra Y<|Rz Y<|K6 1 2 7 8 24 50 Y<|ZH [some ⟨80,[[.own 6 memories2.length,.own 7 spots2.length,.int .i64 copies4,.bool frozen3,.bool stopped3,.int .i64 last3,.bool some_3]]⟩,none,none,some ⟨89,[[.own 9 list2.length,.int .i64 copies5,.own 10 stands2.length,.bool frozen4,.bool stopped4,.int .i64 last4,.bool some_4,.int .i64 power2]]⟩,none,none,some ⟨59,List.map O59 memories2⟩,some ⟨83,List.map R83 spots2⟩,some ⟨59,List.map O59 []⟩,some ⟨59,List.map O59 list2⟩,some ⟨92,List.map R92 stands2⟩,some ⟨59,List.map O59 y15⟩] Y<|Tr<|Rm Y<|Rm Y<|bE h fun y18 h_y18 h=>Qk (Ent.meltO (r:=11) Y Zw (fun x=>(D59 x).1) ZeK)<|Qk (Ent.sel [some 0,some 1,some 2,some 3,some 4,some 5,some 6,some 7,some 8,some 9,some 10,none] (sd 1 Y Y<|sd 2 Y Y<|sd 7 Y Y<|sd 8 Y Y<|sr 24 Y (Zms Y Y Y D59)<|sd 50 Y Y<|sr 145 Y (Zms Y Y Y D59)<|sd 146 Y Y sn) (.cons Y (ro1 (by exact tZ_80.symm)<|rlc (.own (r':=6) _ Y)<|rlc (.own (r':=7) _ Y)<|rlD Y<|rlD Y<|rlD Y<|rlD Y<|rlD Y rln)<|.dead<|.dead<|.cons Y (ro1 (by exact tZ_89.symm)<|rlc (.own (r':=9) _ Y)<|rlD Y<|rlc (.own (r':=10) _ Y)<|rlD Y<|rlD Y<|rlD Y<|rlD Y<|rlD Y rln)<|.dead<|.dead<|.cons Y (roO Zw)<|.cons Y (roM D83)<|.cons Y roE<|.cons Y (roO Zw)<|.cons Y (roM D92)<|.row 59 .nil) Y Y)<|?_
         rcases y18 with y18 |y18
         ·
          replace h:=ell h
          refine Rx Y (Zz [] (ZaG h_y18) (.cons (ov Y) (.dat Y)<|.cons (ov Y) (.dat Y) .nil) .nil Y (.keep Y Y<|.none<|.none<|.keep Y Y<|.none<|.none<|.keep Y Y<|.keep Y Y<|.keep Y Y<|.keep Y Y<|.keep Y Y<|.keep Y Y .nil) Y Y<|Qq<|rlD Y<|rlD Y rln)<|Rm Y<|Rj Y Y Y<|Rj Y Y Y<|Ra Y<|Rz Y<|K7 1 2 7 8 9 10 50 Y<|ZH [some ⟨80,[[.own 6 memories2.length,.own 7 spots2.length,.int .i64 copies4,.bool frozen3,.bool stopped3,.int .i64 last3,.bool some_3]]⟩,none,none,some ⟨89,[[.own 9 list2.length,.int .i64 copies5,.own 10 stands2.length,.bool frozen4,.bool stopped4,.int .i64 last4,.bool some_4,.int .i64 power2]]⟩,none,none,some ⟨59,List.map O59 memories2⟩,some ⟨83,List.map R83 spots2⟩,some ⟨59,List.map O59 []⟩,some ⟨59,List.map O59 list2⟩,some ⟨92,List.map R92 stands2⟩,some ⟨59,List.map O59 []⟩] Y<|Tr<|Rm Y<|R2 Qy Y<|Rm Y<|Rq Y (.guarded ((!decide (y17=0))==false) Y Y Y Y fun h=>Zc<|ov Y)<|Rq Y (.guarded ((!decide (y17=0))==false) Y Y Y Y fun h=>Qy (ow Y h)<|ov Y)<|Rq Y (ZaO (ov Y) fun hp=>ow Y<|gF hp)<|Zb<|K6 1 2 7 9 50 155 Y<|If h Y (fun h=>?_) fun h=>?_
          ·
           refine K0<|Tr<|Rz Y<|?_
           replace h:=lx h▸ho1
           obtain rfl:=rt h
           exact Zk (ZK Y (.one<|rb Y))
          ·
           exact Zg<|K5 1 2 7 9 50 Y<|Zo<|R2 ZI Y<|Rm Y<|Zb<|(ZiW h).elim
         ·
          replace h:=elr h
          refine Rx Y (Zz [] (ZaC h_y18) (.cons (ov Y) (.dat Y)<|.cons (ov Y) (.dat Y) .nil) .nil Y (.keep Y Y<|.none<|.none<|.keep Y Y<|.none<|.none<|.keep Y Y<|.keep Y Y<|.keep Y Y<|.keep Y Y<|.keep Y Y<|.keep Y Y<|.lent 0 (Wa Y Y) Y (ro1 (by exact tZ_89.symm)<|rlc (.own _<|Wa Y Y)<|rlD Y<|rlc (.own _<|Wa Y Y)<|rlD Y<|rlD Y<|rlD Y<|rlD Y<|rlD Y rln)<|.lent 1 (Wa Y Y) Y (roO Zw)<|.lent 2 (Wa Y Y) Y (roM D92) .nil) Y Y<|Qq<|rlc (.ptr _ _ _<|Wa Y Y)<|rlD Y rln)<|Rm Y<|Rj Y Y Y<|Rj Y Y Y<|Ra Y<|Rz Y<|K7 1 2 7 8 9 10 50 Y<|ZH [some ⟨80,[[.own 6 memories2.length,.own 7 spots2.length,.int .i64 copies4,.bool frozen3,.bool stopped3,.int .i64 last3,.bool some_3]]⟩,none,none,some ⟨89,[[.own 9 list2.length,.int .i64 copies5,.own 10 stands2.length,.bool frozen4,.bool stopped4,.int .i64 last4,.bool some_4,.int .i64 power2]]⟩,none,none,some ⟨59,List.map O59 memories2⟩,some ⟨83,List.map R83 spots2⟩,some ⟨59,List.map O59 []⟩,some ⟨59,List.map O59 list2⟩,some ⟨92,List.map R92 stands2⟩,some ⟨59,List.map O59 []⟩,some ⟨89,[[.own 13 y18.1.list.length,.int .i64 y18.1.copies,.own 14 y18.1.stands.length,.bool y18.1.frozen,.bool y18.1.stopped,.int .i64 y18.1.last,.bool y18.1.some_,.int .i64 y18.1.power]]⟩,some ⟨59,List.map O59 y18.1.list⟩,some ⟨92,List.map R92 y18.1.stands⟩] Y<|Tr<|Rm Y<|R2 Qy Y<|Rm Y<|Rq Y (.guarded ((!decide (y17=0))==false) Y Y Y Y fun h=>Zc<|ov Y)<|Rq Y (.guarded ((!decide (y17=0))==false) Y Y Y Y fun h=>Qy (ow Y h)<|ov Y)<|Rq Y (ZaO (ov Y) fun hp=>ow Y<|gF hp)<|Zb<|K6 1 2 7 9 50 155 Y<|If h Y (fun h=>?_) fun h=>?_
          ·
           refine K0<|Tr<|Rz Y<|?_
           replace h:=lx h▸ho1
           obtain rfl:=rt h
           exact Zk (ZK Y (.one<|rb Y))
          ·
           exact Zg<|K5 1 2 7 9 50 Y<|Zo<|R2 ZI Y<|Rm Y<|Zb<|(ZiW h).elim
        ·
         replace h:=elr h
         refine Rx Y (Zz [] (Zb5 h_y17) (.cons (ov Y) (.dat Y)<|.cons (ov Y) (.dat Y) .nil) .nil Y (.keep Y Y<|.none<|.none<|.keep Y Y<|.none<|.none<|.keep Y Y<|.keep Y Y<|.keep Y Y<|.keep Y Y<|.keep Y Y<|.keep Y Y<|.lent 0 (Wa Y Y) Y (ro1 (by exact tZ_80.symm)<|rlc (.own _<|Wa Y Y)<|rlc (.own _<|Wa Y Y)<|rlD Y<|rlD Y<|rlD Y<|rlD Y<|rlD Y rln)<|.lent 1 (Wa Y Y) Y (roO Zw)<|.lent 2 (Wa Y Y) Y (roM D83) .nil) Y Y<|Qq<|rlc (.ptr _ _ _<|Wa Y Y)<|rlD Y rln)<|Rm Y<|Rj Y Y Y<|Rj Y Y Y<|Ra Y<|Rz Y<|K6 1 2 7 8 24 50 Y<|ZH [some ⟨80,[[.own 6 memories2.length,.own 7 spots2.length,.int .i64 copies4,.bool frozen3,.bool stopped3,.int .i64 last3,.bool some_3]]⟩,none,none,some ⟨89,[[.own 9 list2.length,.int .i64 copies5,.own 10 stands2.length,.bool frozen4,.bool stopped4,.int .i64 last4,.bool some_4,.int .i64 power2]]⟩,none,none,some ⟨59,List.map O59 memories2⟩,some ⟨83,List.map R83 spots2⟩,some ⟨59,List.map O59 []⟩,some ⟨59,List.map O59 list2⟩,some ⟨92,List.map R92 stands2⟩,some ⟨59,List.map O59 y15⟩,some ⟨80,[[.own 13 y17.1.bank.memories.length,.own 14 y17.1.bank.spots.length,.int .i64 y17.1.copies,.bool y17.1.frozen,.bool y17.1.stopped,.int .i64 y17.1.last,.bool y17.1.some_]]⟩,some ⟨59,List.map O59 y17.1.bank.memories⟩,some ⟨83,List.map R83 y17.1.bank.spots⟩] Y<|Tr<|Rm Y<|Rm Y<|bE h fun y19 h_y19 h=>Qk (Ent.meltO (r:=11) Y Zw (fun x=>(D59 x).1) ZeK)<|Qk (Ent.sel [some 0,some 1,some 2,some 3,some 4,some 5,some 6,some 7,some 8,some 9,some 10,none,some 12,some 13,some 14] (sd 1 Y Y<|sd 2 Y Y<|sr 7 Y (.ptr (r':=12) _ _ _ Y)<|sd 8 Y Y<|sr 24 Y (Zms Y Y Y D59)<|sd 50 Y Y<|sr 145 Y (Zms Y Y Y D59)<|sd 146 Y Y sn) (.cons Y (ro1 (by exact tZ_80.symm)<|rlc (.own (r':=6) _ Y)<|rlc (.own (r':=7) _ Y)<|rlD Y<|rlD Y<|rlD Y<|rlD Y<|rlD Y rln)<|.dead<|.dead<|.cons Y (ro1 (by exact tZ_89.symm)<|rlc (.own (r':=9) _ Y)<|rlD Y<|rlc (.own (r':=10) _ Y)<|rlD Y<|rlD Y<|rlD Y<|rlD Y<|rlD Y rln)<|.dead<|.dead<|.cons Y (roO Zw)<|.cons Y (roM D83)<|.cons Y roE<|.cons Y (roO Zw)<|.cons Y (roM D92)<|.row 59<|.cons Y (ro1 (by exact tZ_80.symm)<|rlc (.own (r':=13) _ Y)<|rlc (.own (r':=14) _ Y)<|rlD Y<|rlD Y<|rlD Y<|rlD Y<|rlD Y rln)<|.cons Y (roO Zw)<|.cons Y (roM D83) .nil) Y Y)<|?_
         rcases y19 with y19 |y19
         ·
          replace h:=ell h
          refine Rx Y (Zz [] (ZaG h_y19) (.cons (ov Y) (.dat Y)<|.cons (ov Y) (.dat Y) .nil) .nil Y (.keep Y Y<|.none<|.none<|.keep Y Y<|.none<|.none<|.keep Y Y<|.keep Y Y<|.keep Y Y<|.keep Y Y<|.keep Y Y<|.keep Y Y<|.keep Y Y<|.keep Y Y<|.keep Y Y .nil) Y Y<|Qq<|rlD Y<|rlD Y rln)<|Rm Y<|Rj Y Y Y<|Rj Y Y Y<|Ra Y<|Rz Y<|K7 1 2 7 8 9 10 50 Y<|ZH [some ⟨80,[[.own 6 memories2.length,.own 7 spots2.length,.int .i64 copies4,.bool frozen3,.bool stopped3,.int .i64 last3,.bool some_3]]⟩,none,none,some ⟨89,[[.own 9 list2.length,.int .i64 copies5,.own 10 stands2.length,.bool frozen4,.bool stopped4,.int .i64 last4,.bool some_4,.int .i64 power2]]⟩,none,none,some ⟨59,List.map O59 memories2⟩,some ⟨83,List.map R83 spots2⟩,some ⟨59,List.map O59 []⟩,some ⟨59,List.map O59 list2⟩,some ⟨92,List.map R92 stands2⟩,some ⟨59,List.map O59 []⟩,some ⟨80,[[.own 13 y17.1.bank.memories.length,.own 14 y17.1.bank.spots.length,.int .i64 y17.1.copies,.bool y17.1.frozen,.bool y17.1.stopped,.int .i64 y17.1.last,.bool y17.1.some_]]⟩,some ⟨59,List.map O59 y17.1.bank.memories⟩,some ⟨83,List.map R83 y17.1.bank.spots⟩] Y<|Tr<|Rm Y<|R2 Qy Y<|Rm Y<|Rq Y (.guarded ((!decide (y17.2=0))==false) Y Y Y Y fun h=>Zc<|ov Y)<|Rq Y (.guarded ((!decide (y17.2=0))==false) Y Y Y Y fun h=>Qy (ow Y h)<|ov Y)<|Rq Y (ZaO (ov Y) fun hp=>ow Y<|gF hp)<|Zb<|K6 1 2 7 9 50 155 Y<|If h Y (fun h=>?_) fun h=>?_
          ·
           refine K0<|Tr<|Rz Y<|?_
           replace h:=lx h▸ho1
           obtain rfl:=rt h
           exact Zk (ZK Y (.one<|rb Y))
          ·
           exact Zg<|K5 1 2 7 9 50 Y<|Zo<|R2 ZI Y<|Rm Y<|Zb<|(ZiW h).elim
         ·
          replace h:=elr h
          refine Rx Y (Zz [] (ZaC h_y19) (.cons (ov Y) (.dat Y)<|.cons (ov Y) (.dat Y) .nil) .nil Y (.keep Y Y<|.none<|.none<|.keep Y Y<|.none<|.none<|.keep Y Y<|.keep Y Y<|.keep Y Y<|.keep Y Y<|.keep Y Y<|.keep Y Y<|.keep Y Y<|.keep Y Y<|.keep Y Y<|.lent 0 (Wa Y Y) Y (ro1 (by exact tZ_89.symm)<|rlc (.own _<|Wa Y Y)<|rlD Y<|rlc (.own _<|Wa Y Y)<|rlD Y<|rlD Y<|rlD Y<|rlD Y<|rlD Y rln)<|.lent 1 (Wa Y Y) Y (roO Zw)<|.lent 2 (Wa Y Y) Y (roM D92) .nil) Y Y<|Qq<|rlc (.ptr _ _ _<|Wa Y Y)<|rlD Y rln)<|Rm Y<|Rj Y Y Y<|Rj Y Y Y<|Ra Y<|Rz Y<|K7 1 2 7 8 9 10 50 Y<|ZH [some ⟨80,[[.own 6 memories2.length,.own 7 spots2.length,.int .i64 copies4,.bool frozen3,.bool stopped3,.int .i64 last3,.bool some_3]]⟩,none,none,some ⟨89,[[.own 9 list2.length,.int .i64 copies5,.own 10 stands2.length,.bool frozen4,.bool stopped4,.int .i64 last4,.bool some_4,.int .i64 power2]]⟩,none,none,some ⟨59,List.map O59 memories2⟩,some ⟨83,List.map R83 spots2⟩,some ⟨59,List.map O59 []⟩,some ⟨59,List.map O59 list2⟩,some ⟨92,List.map R92 stands2⟩,some ⟨59,List.map O59 []⟩,some ⟨80,[[.own 13 y17.1.bank.memories.length,.own 14 y17.1.bank.spots.length,.int .i64 y17.1.copies,.bool y17.1.frozen,.bool y17.1.stopped,.int .i64 y17.1.last,.bool y17.1.some_]]⟩,some ⟨59,List.map O59 y17.1.bank.memories⟩,some ⟨83,List.map R83 y17.1.bank.spots⟩,some ⟨89,[[.own 16 y19.1.list.length,.int .i64 y19.1.copies,.own 17 y19.1.stands.length,.bool y19.1.frozen,.bool y19.1.stopped,.int .i64 y19.1.last,.bool y19.1.some_,.int .i64 y19.1.power]]⟩,some ⟨59,List.map O59 y19.1.list⟩,some ⟨92,List.map R92 y19.1.stands⟩] Y<|Tr<|Rm Y<|R2 Qy Y<|Rm Y<|Rq Y (.guarded ((!decide (y17.2=0))==false) Y Y Y Y fun h=>Zc<|ov Y)<|Rq Y (.guarded ((!decide (y17.2=0))==false) Y Y Y Y fun h=>Qy (ow Y h)<|ov Y)<|Rq Y (ZaO (ov Y) fun hp=>ow Y<|gF hp)<|Zb<|K6 1 2 7 9 50 155 Y<|If h Y (fun h=>?_) fun h=>?_
          ·
           refine K0<|Tr<|Rz Y<|?_
           replace h:=lx h▸ho1
           obtain rfl:=rt h
           exact Zk (ZK Y (.one<|rb Y))
          ·
           exact Zg<|K5 1 2 7 9 50 Y<|Zo<|R2 ZI Y<|Rm Y<|Zb<|⟨_,h,ES [some 12,some 13,some 14,some 15,some 16,some 17] (hhp:= .cons Y (ro1 (by exact tZ_80.symm)<|rlc (.own _ Y)<|rlc (.own _ Y)<|rlD Y<|rlD Y<|rlD Y<|rlD Y<|rlD Y rln)<|.cons Y (roO Zw)<|.cons Y (roM D83)<|.cons Y (ro1 (by exact tZ_89.symm)<|rlc (.own _ Y)<|rlD Y<|rlc (.own _ Y)<|rlD Y<|rlD Y<|rlD Y<|rlD Y<|rlD Y rln)<|.cons Y (roO Zw)<|.cons Y (roM D92) .nil)⟩
     ·
      refine ZA<|?_
      replace h:=lx h▸ho1
      exact⟨(),h,ES []⟩
    ·
     replace h:=elr h
     replace h:=t0i h
     refine Tr<|bE h fun y20 h_y20 h=>Rq Y (Zq (Zdg h_y20) .nil)<|Rz Y<|?_
     obtain rfl:=rt h
     exact Zk (ZK Y (.one<|rb Y))
end Go.Proofs.YtgohgnaapbpggaaGreatDoor
