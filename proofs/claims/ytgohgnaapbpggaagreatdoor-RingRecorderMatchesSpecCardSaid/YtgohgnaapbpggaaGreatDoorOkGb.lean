/- A text of the proof: a verified executor of the program form, or the contracts of the functions that the law reaches. -/
import Derived.Test.YtgohgnaapbpggaaGreatDoorOkGa
set_option linter.all false
namespace Go.Proofs.YtgohgnaapbpggaaGreatDoor
open Go Go.Vx
set_option maxRecDepth 10000
set_option maxHeartbeats 1000000
set_option linter.unusedVariables false
theorem Zcd{l:List api_Memory}{copies:Int}{r:Int}(h:Jy l copies=some (.inl r)):
    GSpec Tryz.prog gl0 13 [.sl 59 (List.map R59 l),.int .i64 copies] [] (.tuple [.lit (.pointer none),.int .i64 r]) []:=ZgS h
theorem Zb5{l:List api_Memory}{copies:Int}{r:ring_Recorder×Int}(h:Jy l copies=some (.inr r)):
    GSpec Tryz.prog gl0 13 [.sl 59 (List.map R59 l),.int .i64 copies] [] (.tuple [.ptr 0 1 0 0,.int .i64 r.2]) [some ⟨80,[[.own 1 r.1.bank.memories.length,.own 2 r.1.bank.spots.length,.int .i64 r.1.copies,.bool r.1.frozen,.bool r.1.stopped,.int .i64 r.1.last,.bool r.1.some_]]⟩,some ⟨59,List.map O59 r.1.bank.memories⟩,some ⟨83,List.map R83 r.1.bank.spots⟩]:=ZgS h
theorem QU{n:Int}{low:Int}{high:Int}{r:Bool}(h:Z8 n low high=some r):
 CSpec Tryz.prog gl0 27 [.int .i64 n,.int .i64 low,.int .i64 high] (.bool r):=by
 unfold Z8 at h
 replace h:=Qb h
 refine So Tryz.func27 Y fun w0 A=>Tr<|Rz Y<|Tr<|Rm Y<|Rm Y<|R2 ZL Y<|Rm Y<|Rq Y (.guarded ((decide (n<low))==false) Y Y Y Y fun h=>Zc<|ov Y)<|Rq Y (.guarded ((decide (n<low))==false) Y Y Y Y fun h=>Zc<|ov Y)<|Rq Y (.guarded ((decide (n<low))==false) Y Y Y Y fun h=>Za9 (ow Y h)<|ow Y h)<|Rq Y (ZaO (ov Y) fun hp=>ow Y<|gF hp)<|Rz Y<|?_
 obtain rfl:=rt h
 exact Zk (ZK Y (.one<|rb Y))
theorem ZhY{m:api_Memory}{r:Int}(h:ZaK m=some r):
 CSpec Tryz.prog gl0 74 [.agg [.int .i64 m.Slots,.int .i64 m.Limit,.sl 22 (List.map R22 m.Sectors),.sl 3 (List.map R3 m.Wear),.sl 4 (List.map R4 m.Bad)]] (.int .i64 r):=by
 unfold ZaK at h
 replace h:=Qb h
 refine So Tryz.func74 Y fun w0 A=>Tr<|Rq Y (JL (cva<|ov Y) Y tZ_59 Y)<|Rz Y<|K1 1 Y<|Tr<|Rq Y (Zv (ov Y) Z9)<|Rq Y (Zd (ov Y) Q7 Y)<|Rl tZ_22 Q3 Y<|Rz Y<|Zh<|K2 1 3 Y<|Tr<|Rq Y (Zv (ov Y) Zfb)<|Rq Y (Zd (ov Y) tS3 Y)<|bE h fun y h_y h=>Rq Y (Zq (QU h_y)<|.cons (ov Y) (.b Y)<|.cons (ov Y) (.b Y)<|.cons (ov Y) (.b Y) .nil)<|Rm Y<|Rq Y (.guarded (y==false) Y Y Y Y fun h=>Zv (ov Y) Zhg)<|Rq Y (.guarded (y==false) Y Y Y Y fun h=>Zd (ow Y h) tS3 Y)<|bE h fun y2 h_y2 h=>Rq Y (.guarded (y==false) Y Y Y Y fun h=>Zq (QU<|gdT h_y2 h)<|.cons (ow Y h) (.b Y)<|.cons (ov Y) (.b Y)<|.cons (ov Y) (.b Y) .nil)<|Rq Y (ZaO (ov Y) fun hp=>ow Y<|gF hp)<|Rm Y<|Rq Y (.guarded ((y || y2)==false) Y Y Y Y fun h=>Zc<|ov Y)<|bE h fun y3 h_y3 h=>Rq Y (.guarded ((y || y2)==false) Y Y Y Y fun h=>Zq (QU<|gdT h_y3 h)<|.cons (ow Y h) (.b Y)<|.cons (ov Y) (.b Y)<|.cons (ov Y) (.b Y) .nil)<|Rq Y (ZaO (ov Y) fun hp=>ow Y<|gF hp)<|Zb<|K3 1 3 20 Y<|If h Y (fun h=>?_) fun h=>?_
 ·
  refine K0<|Tr<|Rz Y<|?_
  obtain rfl:=rt h
  exact Zk (ZK Y (.one<|rb Y))
 ·
  refine Zg<|Zh<|K2 1 3 Y<|Tr<|Rq Y (Zv (ov Y) Zcz)<|Rq Y (Zd (ov Y) Zib Y)<|Rl tZ_3 QA Y<|Rm Y<|R2 Qy Y<|Rm Y<|Rq Y (.guarded ((!decide ((m.Wear.length:Int)=(m.Sectors.length:Int)))==false) Y Y Y Y fun h=>Zv (ov Y) ZdK)<|Rq Y (.guarded ((!decide ((m.Wear.length:Int)=(m.Sectors.length:Int)))==false) Y Y Y Y fun h=>Zd (ow Y h) ZiA Y)<|Rq Y (.guarded ((!decide ((m.Wear.length:Int)=(m.Sectors.length:Int)))==false) Y Y Y Y fun h=>Zk2 (Qr (ow Y h) tZ_4) Zgl<|Zgw _ _)<|Rq Y (.guarded ((!decide ((m.Wear.length:Int)=(m.Sectors.length:Int)))==false) Y Y Y Y fun h=>Zc<|ov Y)<|Rq Y (.guarded ((!decide ((m.Wear.length:Int)=(m.Sectors.length:Int)))==false) Y Y Y Y fun h=>Qy (ow Y h)<|ow Y h)<|Rq Y (ZaO (ov Y) fun hp=>ow Y<|gF hp)<|Zb<|K2 1 32 Y<|If h Y (fun h=>?_) fun h=>?_
  ·
   refine K0<|Tr<|Rz Y<|?_
   obtain rfl:=rt h
   exact Zk (ZK Y (.one<|rb Y))
  ·
   refine Zg<|J0 (fun j=>(.inr j)) ⟨[],[]⟩ h (fun h=>?_) fun h=>?_
   ·
    refine K1 1 Y<|Tr<|Rq Y (Zv (ov Y) Z9)<|Rq Y (Zd (ov Y) Q7 Y)<|Rl tZ_22 Q3 Y<|Rm Y<|Zb<|Zf<|?_
    obtain⟨r1,hl1,ho1⟩:=QC h
    refine L1 (fun i=>⟨[(1,.rp [.int .i64 m.Slots,.int .i64 m.Limit,.sl 22 (List.map R22 m.Sectors),.sl 3 (List.map R3 m.Wear),.sl 4 (List.map R4 m.Bad)] 0),(34,.sl 22 (List.map R22 m.Sectors)),(35,.int .i64 (m.Sectors.length:Int)),(36,.int .i64 i)],[]⟩) hl1 (ES []) fun n1 i h=>?_
    unfold ZaD at h
    refine Tr<|R2 ZL Y<|Zb<|Zh<|If h Y (fun h=>?_) fun h=>?_
    ·
     refine Zg<|Zh<|Zf<|K4 1 34 35 36 Y<|Tr<|Rm Y<|bE h fun x h_x h=>Rq Y (ZP (ov Y) (ov Y) Q3 h_x)<|Rq Y (Zd (ov Y) Zek Y)<|Ra Y<|Rz Y<|Zh<|K6 1 4 5 34 35 36 Y<|Tr<|Rm Y<|Rl tZ_5 Qi Y<|Rq Y (Zv (ov Y) Zfb)<|Rq Y (Zd (ov Y) tS3 Y)<|R2 ZeC Y<|R2 ZI Y<|R2 Qy Y<|Zb<|K6 1 4 34 35 36 47 Y<|If h Y (fun h=>?_) fun h=>?_
     ·
      refine K0<|Tr<|Rz Y<|?_
      replace h:=lx h▸ho1
      obtain rfl:=rt h
      exact Zk (ZK Y (.one<|rb Y))
     ·
      refine Zg<|Zh<|K5 1 4 34 35 36 Y<|Z5 (cw:=md0) (by kernel_rfl)<|Dq 0 Y (Zv (ov Y) Zcz)<|Dq 1 Y (Zd (ov Y) Zib Y)<|D1 2 Zc Y<|bE h fun x2 h_x2 h=>Dq 3 Y (ZP (ov Y) (ov Y) QA h_x2)<|Dq 4 Y (Zd (ov Y) tS3 Y)<|Dq 5 Y (Zv (ov Y) Zhg)<|Dq 6 Y (Zd (ov Y) tS3 Y)<|bE h fun y4 h_y4 h=>Dq 7 Y (Zq (QU h_y4)<|.cons (ov Y) (.b Y)<|.cons (ov Y) (.b Y)<|.cons (ov Y) (.b Y) .nil)<|Dd<|K5 1 34 35 36 55 Y<|If h Y (fun h=>?_) fun h=>?_
      ·
       refine K0<|Tr<|Rz Y<|?_
       replace h:=lx h▸ho1
       obtain rfl:=rt h
       exact Zk (ZK Y (.one<|rb Y))
      ·
       exact Zg<|K4 1 34 35 36 Y<|Zo<|R2 ZI Y<|Rm Y<|Zb<|⟨_,h,ES []⟩
    ·
     refine ZA<|?_
     replace h:=lx h▸ho1
     exact⟨(),h,ES []⟩
   ·
    replace h:=elr h
    replace h:=t0i h
    refine Tr<|Rz Y<|?_
    obtain rfl:=rt h
    exact Zk (ZK Y (.one<|rb Y))
theorem Zll{l:List api_Memory}{r:Int}(h:Ze7 l=some r):
 CSpec Tryz.prog gl0 38 [.sl 59 (List.map R59 l)] (.int .i64 r):=by
 unfold Ze7 at h
 replace h:=Qb h
 refine So Tryz.func38 Y fun w0 A=>Tr<|Rz Y<|Zh<|K1 0 Y<|Tr<|Rm Y<|Rl tZ_59 XC Y<|R2 Zae Y<|Rm Y<|Rq Y (.guarded ((decide ((l.length:Int)=0))==false) Y Y Y Y fun h=>Zc<|ov Y)<|Rq Y (.guarded ((decide ((l.length:Int)=0))==false) Y Y Y Y fun h=>Zk2 (Qr (ow Y h) tZ_59) XC<|Zgw _ _)<|Rq Y (.guarded ((decide ((l.length:Int)=0))==false) Y Y Y Y fun h=>Za9 (ow Y h)<|ov Y)<|Rq Y (ZaO (ov Y) fun hp=>ow Y<|gF hp)<|Zb<|K2 0 13 Y<|If h Y (fun h=>?_) fun h=>?_
 ·
  refine K0<|Tr<|Rz Y<|?_
  obtain rfl:=rt h
  exact Zk (ZK Y (.one<|rb Y))
 ·
  refine Zg<|J0 (fun j=>(.inr j)) ⟨[],[]⟩ h (fun h=>?_) fun h=>?_
  ·
   refine K1 0 Y<|Tr<|Rm Y<|Rl tZ_59 XC Y<|Rm Y<|Zb<|Zf<|?_
   obtain⟨r1,hl1,ho1⟩:=QC h
   refine L1 (fun i=>⟨[(14,.sl 59 (List.map R59 l)),(15,.int .i64 (l.length:Int)),(16,.int .i64 i)],[]⟩) hl1 (ES []) fun n1 i h=>?_
   unfold Zd0 at h
   refine Tr<|R2 ZL Y<|Zb<|Zh<|If h Y (fun h=>?_) fun h=>?_
   ·
    refine Zg<|Zh<|Zf<|K3 14 15 16 Y<|Tr<|bE h fun x h_x h=>Rq Y (ZP (ov Y) (ov Y) XC h_x)<|Rq Y (Z3 (ov Y) XL Y Y)<|Rx Y (Qd (row:= [_,_,_,_,_]) 0 Y Zde Y tZ_59)<|Rx Y (Zm (ov Y) (ov Y) (ZB XL Y) Y Y Y (nL Y) (Za Y) Y)<|Zb<|K4 4 14 15 16 Y<|Tr<|Rq Y (Qt (ov Y) Y Y Y XL Y Y)<|bE h fun y h_y h=>Rq Y (Zq (ZhY h_y)<|.cons (ov Y) (.aggB Y) .nil)<|Rz Y<|K4 5 14 15 16 Y<|Tr<|Rm Y<|R2 Qy Y<|Zb<|K5 5 14 15 16 23 Y<|If h Y (fun h=>?_) fun h=>?_
    ·
     refine K1 5 Y<|Tr<|Rm Y<|Rz Y<|?_
     replace h:=lx h▸ho1
     obtain rfl:=rt h
     exact Zk (ZK Y (.one<|rb Y))
    ·
     exact Zg<|K3 14 15 16 Y<|Zo<|R2 ZI Y<|Rm Y<|Zb<|⟨_,h,ES []⟩
   ·
    refine ZA<|?_
    replace h:=lx h▸ho1
    exact⟨(),h,ES []⟩
  ·
   replace h:=elr h
   replace h:=t0i h
   refine Tr<|Rz Y<|?_
   obtain rfl:=rt h
   exact Zk (ZK Y (.one<|rb Y))
theorem ZbH{m:api_Memory}{r:api_Memory}(h:ZeY m=some r):
 GSpec Tryz.prog gl0 39 [.agg [.int .i64 m.Slots,.int .i64 m.Limit,.sl 22 (List.map R22 m.Sectors),.sl 3 (List.map R3 m.Wear),.sl 4 (List.map R4 m.Bad)]] [] (.agg [.int .i64 r.Slots,.int .i64 r.Limit,.own 0 r.Sectors.length,.own 1 r.Wear.length,.own 2 r.Bad.length]) [some ⟨22,List.map O22 r.Sectors⟩,some ⟨3,List.map R3 r.Wear⟩,some ⟨4,List.map R4 r.Bad⟩]:=by
 unfold ZeY at h
 replace h:=Qb h
 refine Ql (by kernel_rfl) Tryz.func39 Y Y<|?_
 intro w0 A W φ0
 refine Tr<|Rq Y (JL (cva<|ov Y) Y tZ_59 Y)<|Rx Y (Qd (row:= [_,_,_,_,_]) 0 Y Zde Y tZ_59)<|Zb<|K2 1 2 Y<|Tr<|Rq Y (Z3 (ov Y) XL Y Y)<|Rx Y (Qd (row:= [_,_,_,_,_]) 1 Y Zde Y tZ_59)<|Rx Y (Zm (ov Y) (ov Y) (ZB XL Y) Y Y Y (nL Y) (Za Y) Y)<|Zb<|K3 1 2 3 Y<|Tr<|Rq Y (Ze (ov Y) Y Y Z9)<|Rx Y (Zm (ov Y) (ov Y) (Zj Q7) Y Y Y (nL Y) (Za Y) Y)<|Zb<|I1 (fun Sectors=>⟨[(1,.rp [.int .i64 m.Slots,.int .i64 m.Limit,.sl 22 (List.map R22 m.Sectors),.sl 3 (List.map R3 m.Wear),.sl 4 (List.map R4 m.Bad)] 0),(2,.ptr 0 1 0 0),(3,.ptr 1 1 0 0)],[some ⟨59,[[.int .i64 0,.int .i64 0,.nils,.nils,.nils]]⟩,some ⟨59,[[.int .i64 m.Slots,.int .i64 m.Limit,.own 2 Sectors.length,.sl 3 (List.map R3 m.Wear),.sl 4 (List.map R4 m.Bad)]]⟩,some ⟨22,List.map O22 Sectors⟩]⟩) h (fun h=>?_) fun Sectors h=>?_
 ·
  refine K3 1 2 3 Y<|Tr<|Rq Y (Zv (ov Y) Z9)<|Rq Y (Zd (ov Y) Q7 Y)<|Rl tZ_22 Q3 Y<|Rm Y<|Zb<|Zf<|?_
  obtain⟨r1,hl1,ho1⟩:=QC h
  refine L2 (fun Sectors2 i=>⟨[(1,.rp [.int .i64 m.Slots,.int .i64 m.Limit,.sl 22 (List.map R22 m.Sectors),.sl 3 (List.map R3 m.Wear),.sl 4 (List.map R4 m.Bad)] 0),(2,.ptr 0 1 0 0),(3,.ptr 1 1 0 0),(9,.sl 22 (List.map R22 m.Sectors)),(10,.int .i64 (m.Sectors.length:Int)),(11,.int .i64 i)],[some ⟨59,[[.int .i64 0,.int .i64 0,.nils,.nils,.nils]]⟩,some ⟨59,[[.int .i64 m.Slots,.int .i64 m.Limit,.own 2 Sectors2.length,.sl 3 (List.map R3 m.Wear),.sl 4 (List.map R4 m.Bad)]]⟩,some ⟨22,List.map O22 Sectors2⟩]⟩) hl1 (ES [some 0,some 1,none]) fun n1 Sectors2 i h=>?_
  unfold ZcS at h
  refine Tr<|R2 ZL Y<|Zb<|Zh<|If h Y (fun h=>?_) fun h=>?_
  ·
   refine Zg<|I1 (fun Sectors3=>⟨[(1,.rp [.int .i64 m.Slots,.int .i64 m.Limit,.sl 22 (List.map R22 m.Sectors),.sl 3 (List.map R3 m.Wear),.sl 4 (List.map R4 m.Bad)] 0),(2,.ptr 0 1 0 0),(3,.ptr 1 1 0 0),(9,.sl 22 (List.map R22 m.Sectors)),(10,.int .i64 (m.Sectors.length:Int)),(11,.int .i64 i)],[some ⟨59,[[.int .i64 0,.int .i64 0,.nils,.nils,.nils]]⟩,some ⟨59,[[.int .i64 m.Slots,.int .i64 m.Limit,.own 2 Sectors3.length,.sl 3 (List.map R3 m.Wear),.sl 4 (List.map R4 m.Bad)]]⟩,some ⟨22,List.map O22 Sectors3⟩]⟩) h (fun h=>?_) fun Sectors3 h=>?_
   ·
    refine Zf<|K6 1 2 3 9 10 11 Y<|Tr<|bE h fun x h_x h=>Rq Y (ZP (ov Y) (ov Y) Q3 h_x)<|Rq Y (Zd (ov Y) Zek Y)<|Rz Y<|K7 1 2 3 5 9 10 11 Y<|Z5 (cw:=⟨true,false,[],[],[]⟩) (by kernel_rfl)<|ZO 3 _ Y (by kernel_rfl) Y Y (fun hp'=>Zc<|ov Y)<|Dw 0 2 Y (Ze (ov Y) Y Y Z9) (Zfr (r:=3) (xs:=([]:List Int)) (f:=R5) Y Qi .nil Y Y Y) (Dw 1 2 Y (Zl (ov Y) Y Y Y Q7 Y) (Zfr (r:=3) (xs:=([]:List Int)) (f:=R5) Y Qi .nil Y Y Y) ?q0 (bE h fun l h_l h=>Dw 1 4 Y (Zl (ov Y) Y Y Y Q7 Y) (Zaj (ov Y) (Qr (ov Y) tZ_5) Qi Y Y (fun _=>Za Y) Y h_l) ?q1 (Dw 1 5 Y (Zl (ov Y) Y Y Y Q7 Y) (Xs (r:=4) Y Q3 (.cons (cvs (ov Y)<|Zn Y) Y .nil) Y Y) ?q2 ?q3))) (bE h fun l h_l h=>Dw 0 4 Y (Ze (ov Y) Y Y Z9) (Zaj (ov Y) (Qr (ov Y) tZ_5) Qi Y Y (fun _=>Za Y) Y h_l) (Dw 1 4 Y (Zl (ov Y) Y Y Y Q7 Y) (Zaj (ov Y) (Qr (ov Y) tZ_5) Qi Y Y (fun _=>Za Y) Y h_l) ?q4 (Dw 1 5 Y (Zl (ov Y) Y Y Y Q7 Y) (Xs (r:=4) Y Q3 (.cons (cvs (ov Y)<|Zn Y) Y .nil) Y Y) ?q5 ?q6)) (Dw 0 5 Y (Ze (ov Y) Y Y Z9) (Xs (r:=4) Y Q3 (.cons (cvs (ov Y)<|Zn Y) Y .nil) Y Y) (Dw 1 5 Y (Zl (ov Y) Y Y Y Q7 Y) (Xs (r:=4) Y Q3 (.cons (cvs (ov Y)<|Zn Y) Y .nil) Y Y) ?q7 ?q8) ?q9))
    case q0=>exact Do 2 Y (Zfr (r:=3) (xs:=([]:List Int)) (f:=R5) Y Qi .nil Y Y Y)<|bE h fun l h_l h=>Do 4 Y (Zaj (ov Y) (Qr (ov Y) tZ_5) Qi Y Y (fun _=>Za Y) Y h_l)<|Do 5 Y (Xs (r:=4) Y Q3 (.cons (cvs (ov Y)<|Zn Y) Y .nil) Y Y)<|bE h fun l2 h_l2 h=>Do 6 Y (Q8 (f:=O22) (ov Y) (Jv (o:=⟨22,[[.own 3 l.length]]⟩) (ov Y) Y Y tZ_22) Q3 Y Y (Za Y) Y h_l2)<|Dq 7 Y (Ze (ov Y) Y Y Z9)<|Do 8 Y (Zm (ov Y) (ov Y) (Zj Q7) Y Y Y (nL Y) (Za Y) Y)<|Jd (by kernel_rfl) (Ent.trans (Ent.absorbH (r:=2) (j:=0) (q:=3) Y (ZF h_l2) Y Y (List.length_map ..) Y)<|Ent.closeS (r:=2) Y (ZF h_l2) Y)<|⟨_,h,ES [some 0,some 1,some 2] (hhp:= .cons Y (ro1 (by exact tZ_59.symm)<|rld Y)<|.cons Y (ro1 (by exact tZ_59.symm)<|rlD Y<|rlD Y<|rlc (.own _ Y)<|rlD Y<|rlD Y rln)<|.cons Y (roO Zat) .nil)⟩
    case q1 |q4=>exact Do 4 Y (Zaj (ov Y) (Qr (ov Y) tZ_5) Qi Y Y (fun _=>Za Y) Y h_l)<|Do 5 Y (Xs (r:=4) Y Q3 (.cons (cvs (ov Y)<|Zn Y) Y .nil) Y Y)<|bE h fun l2 h_l2 h=>Do 6 Y (Q8 (f:=O22) (ov Y) (Jv (o:=⟨22,[[.own 3 l.length]]⟩) (ov Y) Y Y tZ_22) Q3 Y Y (Za Y) Y h_l2)<|Dq 7 Y (Ze (ov Y) Y Y Z9)<|Do 8 Y (Zm (ov Y) (ov Y) (Zj Q7) Y Y Y (nL Y) (Za Y) Y)<|Jd (by kernel_rfl) (Ent.trans (Ent.absorbH (r:=2) (j:=0) (q:=3) Y (ZF h_l2) Y Y (List.length_map ..) Y)<|Ent.closeS (r:=2) Y (ZF h_l2) Y)<|⟨_,h,ES [some 0,some 1,some 2] (hhp:= .cons Y (ro1 (by exact tZ_59.symm)<|rld Y)<|.cons Y (ro1 (by exact tZ_59.symm)<|rlD Y<|rlD Y<|rlc (.own _ Y)<|rlD Y<|rlD Y rln)<|.cons Y (roO Zat) .nil)⟩
    case q2 |q5 |q7=>exact Do 5 Y (Xs (r:=4) Y Q3 (.cons (cvs (ov Y)<|Zn Y) Y .nil) Y Y)<|bE h fun l2 h_l2 h=>Do 6 Y (Q8 (f:=O22) (ov Y) (Jv (o:=⟨22,[[.own 3 l.length]]⟩) (ov Y) Y Y tZ_22) Q3 Y Y (Za Y) Y h_l2)<|Dq 7 Y (Ze (ov Y) Y Y Z9)<|Do 8 Y (Zm (ov Y) (ov Y) (Zj Q7) Y Y Y (nL Y) (Za Y) Y)<|Jd (by kernel_rfl) (Ent.trans (Ent.absorbH (r:=2) (j:=0) (q:=3) Y (ZF h_l2) Y Y (List.length_map ..) Y)<|Ent.closeS (r:=2) Y (ZF h_l2) Y)<|⟨_,h,ES [some 0,some 1,some 2] (hhp:= .cons Y (ro1 (by exact tZ_59.symm)<|rld Y)<|.cons Y (ro1 (by exact tZ_59.symm)<|rlD Y<|rlD Y<|rlc (.own _ Y)<|rlD Y<|rlD Y rln)<|.cons Y (roO Zat) .nil)⟩
    case q3 |q6 |q8=>exact Dq 1 Y (Zl (ov Y) Y Y Y Q7 Y)<|bE h fun l2 h_l2 h=>Do 6 Y (Q8 (f:=O22) (ov Y) (Jv (o:=⟨22,[[.own 3 l.length]]⟩) (ov Y) Y Y tZ_22) Q3 Y Y (Za Y) Y h_l2)<|Dq 7 Y (Ze (ov Y) Y Y Z9)<|Do 8 Y (Zm (ov Y) (ov Y) (Zj Q7) Y Y Y (nL Y) (Za Y) Y)<|Jd (by kernel_rfl) (Ent.trans (Ent.absorbH (r:=2) (j:=0) (q:=3) Y (ZF h_l2) Y Y (List.length_map ..) Y)<|Ent.closeS (r:=2) Y (ZF h_l2) Y)<|⟨_,h,ES [some 0,some 1,some 2] (hhp:= .cons Y (ro1 (by exact tZ_59.symm)<|rld Y)<|.cons Y (ro1 (by exact tZ_59.symm)<|rlD Y<|rlD Y<|rlc (.own _ Y)<|rlD Y<|rlD Y rln)<|.cons Y (roO Zat) .nil)⟩
    case q9=>exact Dq 0 Y (Ze (ov Y) Y Y Z9)<|Dq 1 Y (Zl (ov Y) Y Y Y Q7 Y)<|bE h fun l2 h_l2 h=>Do 6 Y (Q8 (f:=O22) (ov Y) (Jv (o:=⟨22,[[.own 3 l.length]]⟩) (ov Y) Y Y tZ_22) Q3 Y Y (Za Y) Y h_l2)<|Dq 7 Y (Ze (ov Y) Y Y Z9)<|Do 8 Y (Zm (ov Y) (ov Y) (Zj Q7) Y Y Y (nL Y) (Za Y) Y)<|Jd (by kernel_rfl) (Ent.trans (Ent.absorbH (r:=2) (j:=0) (q:=3) Y (ZF h_l2) Y Y (List.length_map ..) Y)<|Ent.closeS (r:=2) Y (ZF h_l2) Y)<|⟨_,h,ES [some 0,some 1,some 2] (hhp:= .cons Y (ro1 (by exact tZ_59.symm)<|rld Y)<|.cons Y (ro1 (by exact tZ_59.symm)<|rlD Y<|rlD Y<|rlc (.own _ Y)<|rlD Y<|rlD Y rln)<|.cons Y (roO Zat) .nil)⟩
   ·
    exact Zo<|R2 ZI Y<|Rm Y<|Zb<|⟨_,h,ES [some 0,some 1,some 2] (hhp:= .cons Y (ro1 (by exact tZ_59.symm)<|rld Y)<|.cons Y (ro1 (by exact tZ_59.symm)<|rlD Y<|rlD Y<|rlc (.own _ Y)<|rlD Y<|rlD Y rln)<|.cons Y (roO Zat) .nil)⟩
  ·
   refine ZA<|?_
   replace h:=lx h▸ho1
   exact⟨_,h,ES [some 0,some 1,some 2] (hhp:= .cons Y (ro1 (by exact tZ_59.symm)<|rld Y)<|.cons Y (ro1 (by exact tZ_59.symm)<|rlD Y<|rlD Y<|rlc (.own _ Y)<|rlD Y<|rlD Y rln)<|.cons Y (roO Zat) .nil)⟩
 ·
  refine Tr<|Rx Y (Zfr (r:=3) (xs:=([]:List Int)) (f:=R3) Y QA .nil Y Y Y)<|Rq Y (Zv (ov Y) Zcz)<|Rq Y (Zd (ov Y) Zib Y)<|bE h fun l3 h_l3 h=>Rx Y (Zaj (ov Y) (Qr (ov Y) tZ_3) QA Y Y (fun _=>Za Y) Y h_l3)<|Rq Y (Ze (ov Y) Y Y Zcz)<|Rx Y (Zm (ov Y) (ov Y) (Zj Zib) Y Y Y (nL Y) (Za Y) Y)<|Zb<|K3 1 2 3 Y<|ZH [some ⟨59,[[.int .i64 0,.int .i64 0,.nils,.nils,.nils]]⟩,some ⟨59,[[.int .i64 m.Slots,.int .i64 m.Limit,.own 2 Sectors.length,.own 3 l3.length,.sl 4 (List.map R4 m.Bad)]]⟩,some ⟨22,List.map O22 Sectors⟩,some ⟨3,List.map R3 l3⟩] Y<|Tr<|Rx Y (Zfr (r:=4) (xs:=([]:List Bool)) (f:=R4) Y Zgl .nil Y Y Y)<|Rq Y (Zv (ov Y) ZdK)<|Rq Y (Zd (ov Y) ZiA Y)<|bE h fun l4 h_l4 h=>Rx Y (Zaj (ov Y) (Qr (ov Y) tZ_4) Zgl Y Y (fun _=>Za Y) Y h_l4)<|Rq Y (Ze (ov Y) Y Y ZdK)<|Rx Y (Zm (ov Y) (ov Y) (Zj ZiA) Y Y Y (nL Y) (Za Y) Y)<|Zb<|K2 2 3 Y<|ZH [some ⟨59,[[.int .i64 0,.int .i64 0,.nils,.nils,.nils]]⟩,some ⟨59,[[.int .i64 m.Slots,.int .i64 m.Limit,.own 2 Sectors.length,.own 3 l3.length,.own 4 l4.length]]⟩,some ⟨22,List.map O22 Sectors⟩,some ⟨3,List.map R3 l3⟩,some ⟨4,List.map R4 l4⟩] Y<|Tr<|Rq Y (Qt (ov Y) Y Y Y XL Y Y)<|Rx Y (Zm (ov Y) (ov Y) (ZB XL Y) Y Y Y (nL Y) (Za Y) Y)<|Zb<|?_
  obtain rfl:=rt h
  exact Zk<|Xu [some 2,some 3,some 4] Y (.cons (.agg Y Y Y Y XL Y Y) .nil) (.cons Y (roO Zat)<|.cons Y (roM D3)<|.cons Y (roM D4) .nil) Y Y<|Zb7<|rlD Y<|rlD Y<|rlc (.own _ Y)<|rlc (.own _ Y)<|rlc (.own _ Y) rln
theorem Zhv{sequence:Int}{r:(List Int)}(h:ZcL sequence=some r):
 CSpec Tryz.prog gl0 76 [.int .i64 sequence] (.sl 5 (List.map R5 r)):=by
 unfold ZcL at h
 replace h:=Qb h
 refine So Tryz.func76 Y fun w0 A=>Tr<|Rz Y<|K1 0 Y<|Tr<|Rx Y (Zfr (r:=0) (xs:=([79,66]:List Int)) (f:=R5) Y Qi (.cons (cvs (ov Y)<|Zn Y) Y (.cons (.b Y) .nil)<|.cons (cvs (ov Y)<|Zn Y) Y (.cons (.b Y) .nil) .nil) Y Y Y)<|Rz Y<|I1 (fun out=>⟨[(3,.own 0 out.length)],[some ⟨5,List.map R5 out⟩]⟩) h (fun h=>?_) fun out h=>?_
 ·
  refine K2 0 3 Y<|Tr<|Rm Y<|Rq Y (Qh (ov Y) tI3 ZpR Y)<|Rm Y<|Rq Y (Qh (ov Y) tI3 ZpR Y)<|R1 Zl2 Y<|R_q (.sl 158<|List.map ZqR ([(u32 sequence),(Zbv .u32 4294967295 (u32 sequence))]:List Int)) Y (Jc Zqh (.cons (cvs (ov Y)<|Zn Y) Y (.cons (.b Y) .nil)<|.cons (cvs (ov Y)<|Zn Y) Y (.cons (.b Y) .nil) .nil) Y Y)<|Rl tZ_158 Zqh Y<|Rm Y<|Zb<|Zf<|?_
  obtain⟨r1,hl1,ho1⟩:=QC h
  refine L2 (fun out2 i=>⟨[(3,.own 0 out2.length),(13,.sl 158 (List.map ZqR ([(u32 sequence),(Zbv .u32 4294967295 (u32 sequence))]:List Int))),(14,.int .i64 (([(u32 sequence),(Zbv .u32 4294967295 (u32 sequence))]:List Int).length:Int)),(15,.int .i64 i)],[some ⟨5,List.map R5 out2⟩]⟩) hl1 (ES [some 0]) fun n1 out2 i h=>?_
  unfold JT at h
  refine Tr<|R2 ZL Y<|Zb<|Zh<|If h Y (fun h=>?_) fun h=>?_
  ·
   refine Zg<|I1 (fun out3=>⟨[(3,.own 0 out3.length),(13,.sl 158 (List.map ZqR ([(u32 sequence),(Zbv .u32 4294967295 (u32 sequence))]:List Int))),(14,.int .i64 (([(u32 sequence),(Zbv .u32 4294967295 (u32 sequence))]:List Int).length:Int)),(15,.int .i64 i)],[some ⟨5,List.map R5 out3⟩]⟩) h (fun h=>?_) fun out3 h=>?_
   ·
    refine Zf<|K4 3 13 14 15 Y<|Tr<|bE h fun x h_x h=>Rq Y (ZP (ov Y) (ov Y) Zqh h_x)<|Rq Y (Zd (ov Y) ZsL Y)<|Rz Y<|K5 3 5 13 14 15 Y<|Tr<|Rz Y<|Zf<|?_
    obtain⟨r2,hl2,ho2⟩:=QC h
    refine L2 (fun out4 k=>⟨[(3,.own 0 out4.length),(5,.int .u32 x),(6,.int .i64 k),(13,.sl 158 (List.map ZqR ([(u32 sequence),(Zbv .u32 4294967295 (u32 sequence))]:List Int))),(14,.int .i64 (([(u32 sequence),(Zbv .u32 4294967295 (u32 sequence))]:List Int).length:Int)),(15,.int .i64 i)],[some ⟨5,List.map R5 out4⟩]⟩) hl2 (ES [some 0]) fun n2 out4 k h=>?_
    unfold JX at h
    refine Zh<|Tr<|Rm Y<|R2 ZiV Y<|Zb<|K7 3 5 6 13 14 15 20 Y<|If h Y (fun h=>?_) fun h=>?_
    ·
     exact Zg<|Zh<|Zf<|K6 3 5 6 13 14 15 Y<|Zo<|Rm Y<|Rm Y<|Rm Y<|bE h fun q h_q h=>Rq Y (Zbf (ov Y) (ov Y) h_q)<|Rq Y (Qh (ov Y) ZpR tI5 Y)<|R_q (.sl 5<|List.map R5 ([(u8 q)]:List Int)) Y (Jc Qi (.cons (cvs (ov Y)<|Zn Y) Y (.cons (.b Y) .nil) .nil) Y Y)<|bE h fun l h_l h=>Rx Y (QK (ov Y) (Qr (ov Y) tZ_5) Qi Y Y Y (fun _=>Za Y) Y h_l)<|Rz Y<|K6 3 5 6 13 14 15 Y<|Zo<|Rm Y<|R2 ZbR Y<|Rz Y<|⟨_,h,ES [some 0]⟩
    ·
     refine ZA<|?_
     replace h:=lx h▸ho2
     exact⟨_,h,ES [some 0]⟩
   ·
    exact Zo<|R2 ZI Y<|Rm Y<|Zb<|⟨_,h,ES [some 0]⟩
  ·
   refine ZA<|?_
   replace h:=lx h▸ho1
   exact⟨_,h,ES [some 0]⟩
 ·
  refine Tr<|Rm Y<|Rz Y<|?_
  obtain rfl:=rt h
  exact Zk (ZK Y (.one<|.tmp Y<|View.ownM Y Y D5))
theorem ZeQ{s:List Int}{r:Int×Bool×Bool}(h:ZbZ s=some r):
 CSpec Tryz.prog gl0 42 [.sl 5 (List.map R5 s)] (.tuple [.int .i64 r.1,.bool r.2.1,.bool r.2.2]):=by
 unfold ZbZ at h
 replace h:=Qb h
 refine So Tryz.func42 Y fun w0 A=>Tr<|Ra Y<|Ra Y<|Rz Y<|Zh<|K2 0 2 Y<|Tr<|Rm Y<|Rl tZ_5 Qi Y<|R2 ZL Y<|Zb<|K3 0 2 8 Y<|If h Y (fun h=>?_) fun h=>?_
 ·
  refine K1 2 Y<|Tr<|Ra Y<|Ra Y<|Rz Y<|?_
  obtain rfl:=rt h
  exact Zk (ZK Y (.three (rb Y) (rb Y)<|rb Y))
 ·
  refine Zg<|I1 (fun sequence=>⟨[(0,.sl 5 (List.map R5 s)),(2,.int .i64 sequence)],[]⟩) h (fun h=>?_) fun sequence h=>?_
  ·
   refine K2 0 2 Y<|Tr<|Rz Y<|Zf<|?_
   obtain⟨r1,hl1,ho1⟩:=QC h
   refine L2 (fun sequence2 k=>⟨[(0,.sl 5 (List.map R5 s)),(2,.int .i64 sequence2),(5,.int .i64 k)],[]⟩) hl1 (ES []) fun n1 sequence2 k h=>?_
   unfold Za3 at h
   refine Zh<|Tr<|Rm Y<|R2 ZL Y<|Zb<|K4 0 2 5 10 Y<|If h Y (fun h=>?_) fun h=>?_
   ·
    exact Zg<|Zh<|Zf<|K3 0 2 5 Y<|Zo<|Rm Y<|R2 ZeC Y<|Rm Y<|Rm Y<|bE h fun x h_x h=>Rq Y (ZP (ov Y) (ov Y) Qi h_x)<|Rq Y (Zd (ov Y) tS5 Y)<|Rq Y (Qh (ov Y) tI5 tI3 Y)<|R2 ZI Y<|Rz Y<|K3 0 2 5 Y<|Zo<|Rm Y<|R2 ZI Y<|Rz Y<|⟨_,h,ES []⟩
   ·
    refine ZA<|?_
    replace h:=lx h▸ho1
    exact⟨_,h,ES []⟩
  ·
   refine Zh<|Zh<|Z5 (cw:=md0) (by kernel_rfl)<|D1 0 Zc Y<|bE h fun y h_y h=>Dq 1 Y (Zq (QU h_y)<|.cons (ov Y) (.b Y)<|.cons (ov Y) (.b Y)<|.cons (ov Y) (.b Y) .nil)<|D1 2 Zc Y<|Dq 3 Y (.guarded (y==false) Y Y Y Y fun h=>Zc<|ov Y)<|bE h fun y2 h_y2 h=>Dq 4 Y (.guarded (y==false) Y Y Y Y fun h=>Zq (Zhv<|gdT h_y2 h)<|.cons (ow Y h) (.b Y) .nil)<|Dq 5 Y (.guarded (y==false) Y Y Y Y fun h=>Zkb (f:=R5) (Qr (ow Y h) tZ_5) (fun _=>Y) Qi ZlG ZqM)<|Dq 6 Y (.guarded (y==false) Y Y Y Y fun h=>Zc<|ov Y)<|bE h fun l h_l h=>Dq 7 Y (.guarded (y==false) Y Y Y Y fun h=>Zf8 (ow Y h) Qi on (oi<|ov Y)<|gdT h_l h)<|Dq 8 Y (.guarded (y==false) Y Y Y Y fun h=>Zkb (f:=R5) (Qr (ow Y h) tZ_5) (fun _=>Y) Qi ZlG ZqM)<|Dq 9 Y (.guarded (y==false) Y Y Y Y fun h=>Zp7 (ow Y h)<|ow Y h)<|Dq 10 Y (ZaO (ov Y) fun hp=>ow Y<|gF hp)<|Dd<|K3 0 2 31 Y<|If h Y (fun h=>?_) fun h=>?_
   ·
    refine K1 2 Y<|Tr<|Ra Y<|Ra Y<|Rz Y<|?_
    obtain rfl:=rt h
    exact Zk (ZK Y (.three (rb Y) (rb Y)<|rb Y))
   ·
    refine Zg<|Zh<|K2 0 2 Y<|Z5 (cw:=md0) (by kernel_rfl)<|D1 0 Zc Y<|D1 1 Zc Y<|bE h fun x2 h_x2 h=>Dq 2 Y (ZP (ov Y) (ov Y) Qi h_x2)<|Dq 3 Y (Zd (ov Y) tS5 Y)<|D2 4 Qy Y<|D1 5 ZS Y<|D1 6 ZS Y<|D1 7 ZS Y<|Dd<|?_
    obtain rfl:=rt h
    exact Zk (ZK Y (.three (rb Y) (rb Y)<|rb Y))
theorem Zk5{m:api_Memory}{r:(List Int)}(h:ZaT m=some r):
 CSpec Tryz.prog gl0 40 [.agg [.int .i64 m.Slots,.int .i64 m.Limit,.sl 22 (List.map R22 m.Sectors),.sl 3 (List.map R3 m.Wear),.sl 4 (List.map R4 m.Bad)]] (.sl 3 (List.map R3 r)):=by
 unfold ZaT at h
 replace h:=Qb h
 refine So Tryz.func40 Y fun w0 A=>Tr<|Rq Y (JL (cva<|ov Y) Y tZ_59 Y)<|Rz Y<|K1 1 Y<|Tr<|Rz Y<|I1 (fun out=>⟨[(3,.own 0 out.length)],[some ⟨3,List.map R3 out⟩]⟩) h (fun h=>?_) fun out h=>?_
 ·
  refine Tr<|Rq Y (Zv (ov Y) Z9)<|Rq Y (Zd (ov Y) Q7 Y)<|Rl tZ_22 Q3 Y<|Rm Y<|Zb<|Zf<|?_
  obtain⟨r1,hl1,ho1⟩:=QC h
  refine L2 (fun out2 i=>⟨[(1,.rp [.int .i64 m.Slots,.int .i64 m.Limit,.sl 22 (List.map R22 m.Sectors),.sl 3 (List.map R3 m.Wear),.sl 4 (List.map R4 m.Bad)] 0),(3,.own 0 out2.length),(14,.sl 22 (List.map R22 m.Sectors)),(15,.int .i64 (m.Sectors.length:Int)),(16,.int .i64 i)],[some ⟨3,List.map R3 out2⟩]⟩) hl1 (ES [none]) fun n1 out2 i h=>?_
  unfold ZbF at h
  refine Tr<|R2 ZL Y<|Zb<|Zh<|If h Y (fun h=>?_) fun h=>?_
  ·
   refine Zg<|Zh<|Zf<|K5 1 3 14 15 16 Y<|Tr<|Rm Y<|bE h fun x h_x h=>Rq Y (ZP (ov Y) (ov Y) Q3 h_x)<|Rq Y (Zd (ov Y) Zek Y)<|Ra Y<|Rz Y<|K7 1 3 4 5 14 15 16 Y<|Tr<|Rm Y<|bE h fun y h_y h=>Rq Y (Zq (ZeQ h_y)<|.cons (ov Y) (.b Y) .nil)<|Rm Y<|Rj Y Y Y<|Rj Y Y Y<|Rj Y Y Y<|Ra Y<|Ra Y<|Rz Y<|Zh<|K8 1 3 4 6 8 14 15 16 Y<|Tr<|Rm Y<|R1 XM Y<|Rm Y<|Rq Y (.guarded ((!y.2.2)==false) Y Y Y Y fun h=>Zv (ov Y) ZdK)<|Rq Y (.guarded ((!y.2.2)==false) Y Y Y Y fun h=>Zd (ow Y h) ZiA Y)<|Rq Y (.guarded ((!y.2.2)==false) Y Y Y Y fun h=>Zc<|ov Y)<|bE h fun x2 h_x2 h=>Rq Y (.guarded ((!y.2.2)==false) Y Y Y Y fun h=>ZP (ow Y h) (ow Y h) Zgl<|gdT h_x2 h)<|Rq Y (.guarded ((!y.2.2)==false) Y Y Y Y fun h=>Zd (ow Y h) tS4 Y)<|Rq Y (ZaO (ov Y) fun hp=>ow Y<|gF hp)<|Zb<|K8 1 3 4 6 14 15 16 35 Y<|If h Y (fun h=>?_) fun h=>?_
   ·
    exact ZA<|K5 1 3 14 15 16 Y<|Zo<|R2 ZI Y<|Rm Y<|Zb<|⟨_,h,ES [some 0]⟩
   ·
    refine Zg<|K7 1 3 4 6 14 15 16 Y<|Tr<|Rm Y<|Rq Y (Zb9 (ov Y) Y Y QA)<|Rz Y<|I1 (fun at_=>⟨[(1,.rp [.int .i64 m.Slots,.int .i64 m.Limit,.sl 22 (List.map R22 m.Sectors),.sl 3 (List.map R3 m.Wear),.sl 4 (List.map R4 m.Bad)] 0),(3,.own 0 out2.length),(4,.int .i64 i),(9,.int .i64 at_),(14,.sl 22 (List.map R22 m.Sectors)),(15,.int .i64 (m.Sectors.length:Int)),(16,.int .i64 i)],[some ⟨3,List.map R3 out2⟩]⟩) h (fun h=>?_) fun at_ h=>?_
    ·
     refine Zf<|?_
     obtain⟨r2,hl2,ho2⟩:=QC h
     refine L1 (fun at_2=>⟨[(1,.rp [.int .i64 m.Slots,.int .i64 m.Limit,.sl 22 (List.map R22 m.Sectors),.sl 3 (List.map R3 m.Wear),.sl 4 (List.map R4 m.Bad)] 0),(3,.own 0 out2.length),(4,.int .i64 i),(6,.int .i64 y.1),(9,.int .i64 at_2),(14,.sl 22 (List.map R22 m.Sectors)),(15,.int .i64 (m.Sectors.length:Int)),(16,.int .i64 i)],[some ⟨3,List.map R3 out2⟩]⟩) hl2 (ES [some 0]) fun n2 at_2 h=>?_
     unfold ZbB at h
     refine Zh<|Tr<|Rm Y<|R2 Za9 Y<|Zb<|K9 1 3 4 6 9 14 15 16 39 Y<|If h Y (fun h=>?_) fun h=>?_
     ·
      refine Zg<|Zf<|Zh<|Zh<|K8 1 3 4 6 9 14 15 16 Y<|Z5 (cw:=md0) (by kernel_rfl)<|Dq 0 Y (Zv (ov Y) Z9)<|Dq 1 Y (Zd (ov Y) Q7 Y)<|D1 2 Zc Y<|D1 3 Zc Y<|D2 4 ZbR Y<|bE h fun x3 h_x3 h=>Dq 5 Y (Z4 (ov Y) (ov Y) QA Y Y h_x3)<|Dq 6 Y (Qj (ov Y) Y Y h_x3 tS3 Y)<|bE h fun x4 h_x4 h=>Dq 7 Y (ZP (ov Y) (ov Y) Q3 h_x4)<|Dq 8 Y (Zd (ov Y) Zek Y)<|bE h fun y2 h_y2 h=>Dq 9 Y (Zq (ZeQ h_y2)<|.cons (ov Y) (.b Y) .nil)<|D1 10 Zc Y<|Dq 11 Y (Xa (ov Y) Y)<|Dq 12 Y (Xa (ov Y) Y)<|Dq 13 Y (Xa (ov Y) Y)<|D1 14 ZS Y<|D1 15 ZS Y<|D1 16 ZS Y<|Dd<|K9 1 3 4 6 9 10 14 15 16 Y<|Tr<|Rm Y<|Rm Y<|R2 ZiK Y<|Zb<|K9 1 3 4 6 9 14 15 16 56 Y<|If h Y (fun h=>?_) fun h=>?_
      ·
       refine ZA<|?_
       replace h:=lx h▸ho2
       exact⟨_,h,ES [some 0]⟩
      ·
       exact Zg<|K8 1 3 4 6 9 14 15 16 Y<|Zo<|Rm Y<|R2 ZbR Y<|Rz Y<|⟨_,h,ES [some 0]⟩
     ·
      refine ZA<|?_
      replace h:=lx h▸ho2
      exact⟨_,h,ES [some 0]⟩
    ·
     exact Tr<|Rm Y<|R_q (.sl 3<|List.map R3 ([0]:List Int)) Y (Jc QA (.cons (cvs (ov Y)<|Zn Y) Y (.cons (.b Y) .nil) .nil) Y Y)<|bE h fun l h_l h=>Rx Y (QK (ov Y) (Qr (ov Y) tZ_3) QA Y Y Y (fun _=>Za Y) Y h_l)<|Rz Y<|Zh<|K7 1 3 4 9 14 15 16 Y<|Z5 (cw:=md0) (by kernel_rfl)<|D1 0 Zc Y<|D1 1 Zc Y<|D2 2 ZI Y<|bE h fun u h_u h=>Dq 3 Y (ZnN (ov Y) Y Y QA (oi<|ov Y) on h_u)<|D1 4 Zc Y<|D1 5 Zc Y<|bE h fun u2 h_u2 h=>Dq 6 Y (ZnN (ov Y) Y Y QA (oi<|ov Y) on h_u2)<|Do 7 Y (Zom (g:=C3) (ov Y) (ov Y) Y Y (fun _=>Y) (fun _=>Y) (fun _=>Y) QA (Zet h_u)<|Zet h_u2)<|Dd<|K7 1 3 4 9 14 15 16 Y<|Zo<|Rm Y<|Rm Y<|Rm Y<|bE h fun x5 h_x5 h=>Rq Y (Z4 (ov Y) (ov Y) QA Y ((Zd4 (Zet h_u) (Zet h_u2)).trans Y) h_x5)<|Rx Y (Xg (u':=i) (ov Y) (ov Y) (Zj tS3) Y ((Zd4 (Zet h_u) (Zet h_u2)).trans Y) h_x5 Y (Za Y) Y)<|Zb<|K5 1 3 14 15 16 Y<|Zo<|R2 ZI Y<|Rm Y<|Zb<|⟨_,h,ES [some 0]<|sd 1 Y Y<|sr 3 Y (Zbu (Eq.symm<|(List.length_set ..).trans<|(Zd4 (Zet h_u) (Zet h_u2)).trans Y) Y)<|sd 14 Y Y<|sd 15 Y Y<|sd 16 Y Y sn⟩
  ·
   refine ZA<|?_
   replace h:=lx h▸ho1
   exact⟨_,h,ES [some 0]⟩
 ·
  refine Tr<|Rm Y<|Rz Y<|?_
  obtain rfl:=rt h
  exact Zk (ZK Y (.one<|.tmp Y<|View.ownM Y Y D3))
theorem Zmd{s:List Int}{i:Int}{r:(List Int)}(h:Zgh s i=some r):
 CSpec Tryz.prog gl0 75 [.sl 5 (List.map R5 s),.int .i64 i] (.sl 5 (List.map R5 r)):=by
 unfold Zgh at h
 replace h:=Qb h
 refine So Tryz.func75 Y fun w0 A=>Tr<|Rz Y<|Tr<|Rm Y<|Rm Y<|R2 ZeC Y<|R2 ZI Y<|Rm Y<|R2 ZI Y<|R2 ZeC Y<|R2 ZI Y<|bE h fun l h_l h=>Rq Y (Zf8 (ov Y) Qi (oi<|ov Y) (oi<|ov Y) h_l)<|Rz Y<|?_
 obtain rfl:=rt h
 exact Zk (ZK Y (.one<|rb Y))
theorem Zlg{s:List Int}{i:Int}{r:Int}(h:Zfp s i=some r):
 CSpec Tryz.prog gl0 41 [.sl 5 (List.map R5 s),.int .i64 i] (.int .i64 r):=by
 unfold Zfp at h
 replace h:=Qb h
 refine So Tryz.func41 Y fun w0 A=>Tr<|Rz Y<|K2 0 1 Y<|Tr<|Rm Y<|Rm Y<|bE h fun y h_y h=>Rq Y (Zq (Zmd h_y)<|.cons (ov Y) (.b Y)<|.cons (ov Y) (.b Y) .nil)<|Rz Y<|Zh<|K1 5 Y<|Tr<|Rm Y<|bE h fun x h_x h=>Rq Y (ZP (ov Y) (ov Y) Qi h_x)<|Rq Y (Zd (ov Y) tS5 Y)<|R2 Zae Y<|Zb<|K2 5 14 Y<|If h Y (fun h=>?_) fun h=>?_
 ·
  refine K0<|Tr<|Rz Y<|?_
  obtain rfl:=rt h
  exact Zk (ZK Y (.one<|rb Y))
 ·
  refine Zg<|J0 (fun j=>(.inr j)) ⟨[],[]⟩ h (fun h=>?_) fun h=>?_
  ·
   refine K1 5 Y<|Tr<|Rm Y<|Rl tZ_5 Qi Y<|Rm Y<|Zb<|Zf<|?_
   obtain⟨r1,hl1,ho1⟩:=QC h
   refine L1 (fun i2=>⟨[(15,.sl 5 (List.map R5 y)),(16,.int .i64 (y.length:Int)),(17,.int .i64 i2)],[]⟩) hl1 (ES []) fun n1 i2 h=>?_
   unfold Zci at h
   refine Tr<|R2 ZL Y<|Zb<|Zh<|If h Y (fun h=>?_) fun h=>?_
   ·
    refine Zg<|Zh<|Zf<|K3 15 16 17 Y<|Tr<|bE h fun x2 h_x2 h=>Rq Y (ZP (ov Y) (ov Y) Qi h_x2)<|Rq Y (Zd (ov Y) tS5 Y)<|Rz Y<|K4 7 15 16 17 Y<|Tr<|Rm Y<|R2 Qy Y<|Zb<|K4 15 16 17 22 Y<|If h Y (fun h=>?_) fun h=>?_
    ·
     refine K0<|Tr<|Rz Y<|?_
     replace h:=lx h▸ho1
     obtain rfl:=rt h
     exact Zk (ZK Y (.one<|rb Y))
    ·
     exact Zg<|K3 15 16 17 Y<|Zo<|R2 ZI Y<|Rm Y<|Zb<|⟨_,h,ES []⟩
   ·
    refine ZA<|?_
    replace h:=lx h▸ho1
    exact⟨(),h,ES []⟩
  ·
   replace h:=elr h
   replace h:=t0i h
   refine Tr<|Rz Y<|?_
   obtain rfl:=rt h
   exact Zk (ZK Y (.one<|rb Y))
theorem ZgQ{l:List api_Memory}{copies:Int}{r:(Int) ⊕ (ref3_Recorder×Int)}(h:JV l copies=some r):
 GSpec Tryz.prog gl0 14 [.sl 59 (List.map R59 l),.int .i64 copies] [] (Sum.elim (fun r=> .tuple [.lit (.pointer none),.int .i64 r]) (fun r=> .tuple [.ptr 0 1 0 0,.int .i64 r.2]) r) (Sum.elim (fun r=> []) (fun r=> [some ⟨89,[[.own 1 r.1.list.length,.int .i64 r.1.copies,.own 2 r.1.stands.length,.bool r.1.frozen,.bool r.1.stopped,.int .i64 r.1.last,.bool r.1.some_,.int .i64 r.1.power]]⟩,some ⟨59,List.map O59 r.1.list⟩,some ⟨92,List.map R92 r.1.stands⟩]) r):=by
 unfold JV at h
 replace h:=Qb h
 refine Ql (by kernel_rfl) Tryz.func14 Y Y<|?_
 intro w0 A W φ0
 refine Tr<|Ra Y<|Rz Y<|Zh<|K2 0 1 Y<|Tr<|Rm Y<|bE h fun y h_y h=>Rq Y (Zq (Zll h_y)<|.cons (ov Y) (.b Y) .nil)<|Rz Y<|K3 0 1 6 Y<|Tr<|Rm Y<|R2 Qy Y<|Zb<|K4 0 1 6 19 Y<|If h Y (fun h=>?_) fun h=>?_
 ·
  refine K1 6 Y<|Tr<|Rm Y<|Ra Y<|Rz Y<|?_
  obtain rfl:=rt h
  exact Zk<|Xu [] Y (.cons (.tmp Y)<|.cons (.tmp Y) .nil) .nil Y Y<|Qq<|rlD Y<|rlD Y rln
 ·
  refine Zg<|Zh<|K2 0 1 Y<|Tr<|Rm Y<|Rm Y<|Rl tZ_59 XC Y<|bE h fun y2 h_y2 h=>Rq Y (Zq (QU h_y2)<|.cons (ov Y) (.b Y)<|.cons (ov Y) (.b Y)<|.cons (ov Y) (.b Y) .nil)<|Zb<|K3 0 1 24 Y<|If h Y (fun h=>?_) fun h=>?_
  ·
   refine K0<|Tr<|Ra Y<|Rz Y<|?_
   obtain rfl:=rt h
   exact Zk<|Xu [] Y (.cons (.tmp Y)<|.cons (.tmp Y) .nil) .nil Y Y<|Qq<|rlD Y<|rlD Y rln
  ·
   refine Zg<|K2 0 1 Y<|Tr<|Rm Y<|Rq Y (Xw (ys:= [_,_,_,_,_,_,_,_]) Zs0 ZsA Ztq (.cons (cvs (ov Y)<|Zn Y) .nil) Y)<|Rx Y (ZmW 0 Y (ov Y) Ztl Y)<|Rz Y<|I3 (fun list stands frozen=>⟨[(7,.ptr 0 1 0 0)],[some ⟨89,[[.own 1 list.length,.int .i64 copies,.own 2 stands.length,.bool frozen,.bool false,.int .i64 0,.bool false,.int .i64 0]]⟩,some ⟨59,List.map O59 list⟩,some ⟨92,List.map R92 stands⟩]⟩) h (fun h=>?_) fun list stands frozen h=>?_
   ·
    refine K2 0 7 Y<|Tr<|Rm Y<|Rl tZ_59 XC Y<|Rm Y<|Zb<|Zf<|?_
    obtain⟨r1,hl1,ho1⟩:=QC h
    refine L4 (fun list2 stands2 frozen2 i=>⟨[(7,.ptr 0 1 0 0),(28,.sl 59 (List.map R59 l)),(29,.int .i64 (l.length:Int)),(30,.int .i64 i)],[some ⟨89,[[.own 1 list2.length,.int .i64 copies,.own 2 stands2.length,.bool frozen2,.bool false,.int .i64 0,.bool false,.int .i64 0]]⟩,some ⟨59,List.map O59 list2⟩,some ⟨92,List.map R92 stands2⟩]⟩) hl1 (ES [some 0,none,none]) fun n1 list2 stands2 frozen2 i h=>?_
    unfold Zd3 at h
    refine Tr<|R2 ZL Y<|Zb<|Zh<|If h Y (fun h=>?_) fun h=>?_
    ·
     refine Zg<|Zh<|Zf<|K4 7 28 29 30 Y<|Tr<|bE h fun x h_x h=>Rq Y (ZP (ov Y) (ov Y) XC h_x)<|Rq Y (Z3 (ov Y) XL Y Y)<|Rx Y (Qd (row:= [_,_,_,_,_]) 3 Y Zde Y tZ_59)<|Rx Y (Zm (ov Y) (ov Y) (ZB XL Y) Y Y Y (nL Y) (Za Y) Y)<|Zb<|I1 (fun list3=>⟨[(7,.ptr 0 1 0 0),(9,.ptr 3 1 0 0),(28,.sl 59 (List.map R59 l)),(29,.int .i64 (l.length:Int)),(30,.int .i64 i)],[some ⟨89,[[.own 1 list3.length,.int .i64 copies,.own 2 stands2.length,.bool frozen2,.bool false,.int .i64 0,.bool false,.int .i64 0]]⟩,some ⟨59,List.map O59 list3⟩,some ⟨92,List.map R92 stands2⟩,some ⟨59,[[.int .i64 x.Slots,.int .i64 x.Limit,.sl 22 (List.map R22 x.Sectors),.sl 3 (List.map R3 x.Wear),.sl 4 (List.map R4 x.Bad)]]⟩]⟩) h (fun h=>?_) fun list3 h=>?_
     ·
      refine K5 7 9 28 29 30 Y<|ZH [some ⟨89,[[.own 1 list2.length,.int .i64 copies,.own 2 stands2.length,.bool frozen2,.bool false,.int .i64 0,.bool false,.int .i64 0]]⟩,some ⟨59,List.map O59 list2⟩,some ⟨92,List.map R92 stands2⟩,some ⟨59,[[.int .i64 x.Slots,.int .i64 x.Limit,.sl 22 (List.map R22 x.Sectors),.sl 3 (List.map R3 x.Wear),.sl 4 (List.map R4 x.Bad)]]⟩] Y<|Z5 (cw:=⟨true,false,[],[],[]⟩) (by kernel_rfl)<|Dq 5 Y (Qt (ov Y) Y Y Y XL Y Y)<|ZO 0 _ Y (by kernel_rfl) Y Y (fun hp'=>Zc<|ov Y)<|ZO 1 _ Y (by kernel_rfl) Y Y (fun hp'=>Zc<|ov Y)<|bE h fun y3 h_y3 h=>Dw 2 6 Y (Zi (ov Y) Y Y) (Zz [] (ZbH h_y3) (.cons (ov Y) (Zb7<|rld Y) .nil) .nil Y (.keep Y Y<|.keep Y Y<|.keep Y Y<|.keep Y Y<|.lent 0 (Wa Y Y) Y (roO Zat)<|.lent 1 (Wa Y Y) Y (roM D3)<|.lent 2 (Wa Y Y) Y (roM D4) .nil) Y Y<|Zb7<|rlD Y<|rlD Y<|rlc (.own _<|Wa Y Y)<|rlc (.own _<|Wa Y Y)<|rlc (.own _<|Wa Y Y) rln) (Dw 3 6 Y (Ze (ov Y) Y Y ZaI) (Zz [] (ZbH h_y3) (.cons (ov Y) (Zb7<|rld Y) .nil) .nil Y (.keep Y Y<|.keep Y Y<|.keep Y Y<|.keep Y Y<|.lent 0 (Wa Y Y) Y (roO Zat)<|.lent 1 (Wa Y Y) Y (roM D3)<|.lent 2 (Wa Y Y) Y (roM D4) .nil) Y Y<|Zb7<|rlD Y<|rlD Y<|rlc (.own _<|Wa Y Y)<|rlc (.own _<|Wa Y Y)<|rlc (.own _<|Wa Y Y) rln) (Dw 4 6 Y (Zl (ov Y) Y Y Y Zcc Y) (Zz [] (ZbH h_y3) (.cons (ov Y) (Zb7<|rld Y) .nil) .nil Y (.keep Y Y<|.keep Y Y<|.keep Y Y<|.keep Y Y<|.lent 0 (Wa Y Y) Y (roO Zat)<|.lent 1 (Wa Y Y) Y (roM D3)<|.lent 2 (Wa Y Y) Y (roM D4) .nil) Y Y<|Zb7<|rlD Y<|rlD Y<|rlc (.own _<|Wa Y Y)<|rlc (.own _<|Wa Y Y)<|rlc (.own _<|Wa Y Y) rln) ?q0 (Dw 4 7 Y (Zl (ov Y) Y Y Y Zcc Y) (Xs (r:=7) Y XC (.cons (cva<|ov Y) Y .nil) Y Y) ?q1 ?q2)) (Dw 3 7 Y (Ze (ov Y) Y Y ZaI) (Xs (r:=7) Y XC (.cons (cva<|ov Y) Y .nil) Y Y) (Dw 4 7 Y (Zl (ov Y) Y Y Y Zcc Y) (Xs (r:=7) Y XC (.cons (cva<|ov Y) Y .nil) Y Y) ?q3 ?q4) ?q5)) (Dw 2 7 Y (Zi (ov Y) Y Y) (Xs (r:=7) Y XC (.cons (cva<|ov Y) Y .nil) Y Y) (Dw 3 7 Y (Ze (ov Y) Y Y ZaI) (Xs (r:=7) Y XC (.cons (cva<|ov Y) Y .nil) Y Y) (Dw 4 7 Y (Zl (ov Y) Y Y Y Zcc Y) (Xs (r:=7) Y XC (.cons (cva<|ov Y) Y .nil) Y Y) ?q6 ?q7) ?q8) ?q9)
      case q0=>exact Do 6 Y (Zz [] (ZbH h_y3) (.cons (ov Y) (Zb7<|rld Y) .nil) .nil Y (.keep Y Y<|.keep Y Y<|.keep Y Y<|.keep Y Y<|.lent 0 (Wa Y Y) Y (roO Zat)<|.lent 1 (Wa Y Y) Y (roM D3)<|.lent 2 (Wa Y Y) Y (roM D4) .nil) Y Y<|Zb7<|rlD Y<|rlD Y<|rlc (.own _<|Wa Y Y)<|rlc (.own _<|Wa Y Y)<|rlc (.own _<|Wa Y Y) rln)<|Do 7 Y (Xs (r:=7) Y XC (.cons (cva<|ov Y) Y .nil) Y Y)<|bE h fun l2 h_l2 h=>Do 8 Y (Q8 (f:=O59) (ov Y) (Jv (o:=⟨59,[[.int .i64 y3.Slots,.int .i64 y3.Limit,.own 4 y3.Sectors.length,.own 5 y3.Wear.length,.own 6 y3.Bad.length]]⟩) (ov Y) Y Y tZ_59) XC Y Y (Za Y) Y h_l2)<|Dq 9 Y (Zi (ov Y) Y Y)<|Dq 10 Y (Ze (ov Y) Y Y ZaI)<|Do 11 Y (Zm (ov Y) (ov Y) (Zj Zcc) Y Y Y (nL Y) (Za Y) Y)<|Jd (by kernel_rfl) (Ent.trans (Ent.absorbH (r:=1) (j:=2) (q:=4) Y (ZF h_l2) Y Y (List.length_map ..) Y)<|Ent.trans (Ent.absorbH (r:=1) (j:=3) (q:=5) Y (ZF h_l2) Y Y (List.length_map ..) Y)<|Ent.trans (Ent.absorbH (r:=1) (j:=4) (q:=6) Y (ZF h_l2) Y Y (List.length_map ..) Y)<|Ent.closeS (r:=1) Y (ZF h_l2) Y)<|⟨_,h,ES [some 0,some 1,some 2,some 3] (hhp:= .cons Y (ro1 (by exact tZ_89.symm)<|rlc (.own _ Y)<|rlD Y<|rlc (.own _ Y)<|rlD Y<|rlD Y<|rlD Y<|rlD Y<|rlD Y rln)<|.cons Y (roO Zw)<|.cons Y (roM D92)<|.cons Y (ro1 (by exact tZ_59.symm)<|rld Y) .nil)⟩
      case q1 |q3 |q6=>exact Do 7 Y (Xs (r:=7) Y XC (.cons (cva<|ov Y) Y .nil) Y Y)<|bE h fun l2 h_l2 h=>Do 8 Y (Q8 (f:=O59) (ov Y) (Jv (o:=⟨59,[[.int .i64 y3.Slots,.int .i64 y3.Limit,.own 4 y3.Sectors.length,.own 5 y3.Wear.length,.own 6 y3.Bad.length]]⟩) (ov Y) Y Y tZ_59) XC Y Y (Za Y) Y h_l2)<|Dq 9 Y (Zi (ov Y) Y Y)<|Dq 10 Y (Ze (ov Y) Y Y ZaI)<|Do 11 Y (Zm (ov Y) (ov Y) (Zj Zcc) Y Y Y (nL Y) (Za Y) Y)<|Jd (by kernel_rfl) (Ent.trans (Ent.absorbH (r:=1) (j:=2) (q:=4) Y (ZF h_l2) Y Y (List.length_map ..) Y)<|Ent.trans (Ent.absorbH (r:=1) (j:=3) (q:=5) Y (ZF h_l2) Y Y (List.length_map ..) Y)<|Ent.trans (Ent.absorbH (r:=1) (j:=4) (q:=6) Y (ZF h_l2) Y Y (List.length_map ..) Y)<|Ent.closeS (r:=1) Y (ZF h_l2) Y)<|⟨_,h,ES [some 0,some 1,some 2,some 3] (hhp:= .cons Y (ro1 (by exact tZ_89.symm)<|rlc (.own _ Y)<|rlD Y<|rlc (.own _ Y)<|rlD Y<|rlD Y<|rlD Y<|rlD Y<|rlD Y rln)<|.cons Y (roO Zw)<|.cons Y (roM D92)<|.cons Y (ro1 (by exact tZ_59.symm)<|rld Y) .nil)⟩
      case q2 |q4 |q7=>exact Dq 4 Y (Zl (ov Y) Y Y Y Zcc Y)<|bE h fun l2 h_l2 h=>Do 8 Y (Q8 (f:=O59) (ov Y) (Jv (o:=⟨59,[[.int .i64 y3.Slots,.int .i64 y3.Limit,.own 4 y3.Sectors.length,.own 5 y3.Wear.length,.own 6 y3.Bad.length]]⟩) (ov Y) Y Y tZ_59) XC Y Y (Za Y) Y h_l2)<|Dq 9 Y (Zi (ov Y) Y Y)<|Dq 10 Y (Ze (ov Y) Y Y ZaI)<|Do 11 Y (Zm (ov Y) (ov Y) (Zj Zcc) Y Y Y (nL Y) (Za Y) Y)<|Jd (by kernel_rfl) (Ent.trans (Ent.absorbH (r:=1) (j:=2) (q:=4) Y (ZF h_l2) Y Y (List.length_map ..) Y)<|Ent.trans (Ent.absorbH (r:=1) (j:=3) (q:=5) Y (ZF h_l2) Y Y (List.length_map ..) Y)<|Ent.trans (Ent.absorbH (r:=1) (j:=4) (q:=6) Y (ZF h_l2) Y Y (List.length_map ..) Y)<|Ent.closeS (r:=1) Y (ZF h_l2) Y)<|⟨_,h,ES [some 0,some 1,some 2,some 3] (hhp:= .cons Y (ro1 (by exact tZ_89.symm)<|rlc (.own _ Y)<|rlD Y<|rlc (.own _ Y)<|rlD Y<|rlD Y<|rlD Y<|rlD Y<|rlD Y rln)<|.cons Y (roO Zw)<|.cons Y (roM D92)<|.cons Y (ro1 (by exact tZ_59.symm)<|rld Y) .nil)⟩
      case q5 |q8=>exact Dq 3 Y (Ze (ov Y) Y Y ZaI)<|Dq 4 Y (Zl (ov Y) Y Y Y Zcc Y)<|bE h fun l2 h_l2 h=>Do 8 Y (Q8 (f:=O59) (ov Y) (Jv (o:=⟨59,[[.int .i64 y3.Slots,.int .i64 y3.Limit,.own 4 y3.Sectors.length,.own 5 y3.Wear.length,.own 6 y3.Bad.length]]⟩) (ov Y) Y Y tZ_59) XC Y Y (Za Y) Y h_l2)<|Dq 9 Y (Zi (ov Y) Y Y)<|Dq 10 Y (Ze (ov Y) Y Y ZaI)<|Do 11 Y (Zm (ov Y) (ov Y) (Zj Zcc) Y Y Y (nL Y) (Za Y) Y)<|Jd (by kernel_rfl) (Ent.trans (Ent.absorbH (r:=1) (j:=2) (q:=4) Y (ZF h_l2) Y Y (List.length_map ..) Y)<|Ent.trans (Ent.absorbH (r:=1) (j:=3) (q:=5) Y (ZF h_l2) Y Y (List.length_map ..) Y)<|Ent.trans (Ent.absorbH (r:=1) (j:=4) (q:=6) Y (ZF h_l2) Y Y (List.length_map ..) Y)<|Ent.closeS (r:=1) Y (ZF h_l2) Y)<|⟨_,h,ES [some 0,some 1,some 2,some 3] (hhp:= .cons Y (ro1 (by exact tZ_89.symm)<|rlc (.own _ Y)<|rlD Y<|rlc (.own _ Y)<|rlD Y<|rlD Y<|rlD Y<|rlD Y<|rlD Y rln)<|.cons Y (roO Zw)<|.cons Y (roM D92)<|.cons Y (ro1 (by exact tZ_59.symm)<|rld Y) .nil)⟩
      case q9=>exact Dq 2 Y (Zi (ov Y) Y Y)<|Dq 3 Y (Ze (ov Y) Y Y ZaI)<|Dq 4 Y (Zl (ov Y) Y Y Y Zcc Y)<|bE h fun l2 h_l2 h=>Do 8 Y (Q8 (f:=O59) (ov Y) (Jv (o:=⟨59,[[.int .i64 y3.Slots,.int .i64 y3.Limit,.own 4 y3.Sectors.length,.own 5 y3.Wear.length,.own 6 y3.Bad.length]]⟩) (ov Y) Y Y tZ_59) XC Y Y (Za Y) Y h_l2)<|Dq 9 Y (Zi (ov Y) Y Y)<|Dq 10 Y (Ze (ov Y) Y Y ZaI)<|Do 11 Y (Zm (ov Y) (ov Y) (Zj Zcc) Y Y Y (nL Y) (Za Y) Y)<|Jd (by kernel_rfl) (Ent.trans (Ent.absorbH (r:=1) (j:=2) (q:=4) Y (ZF h_l2) Y Y (List.length_map ..) Y)<|Ent.trans (Ent.absorbH (r:=1) (j:=3) (q:=5) Y (ZF h_l2) Y Y (List.length_map ..) Y)<|Ent.trans (Ent.absorbH (r:=1) (j:=4) (q:=6) Y (ZF h_l2) Y Y (List.length_map ..) Y)<|Ent.closeS (r:=1) Y (ZF h_l2) Y)<|⟨_,h,ES [some 0,some 1,some 2,some 3] (hhp:= .cons Y (ro1 (by exact tZ_89.symm)<|rlc (.own _ Y)<|rlD Y<|rlc (.own _ Y)<|rlD Y<|rlD Y<|rlD Y<|rlD Y<|rlD Y rln)<|.cons Y (roO Zw)<|.cons Y (roM D92)<|.cons Y (ro1 (by exact tZ_59.symm)<|rld Y) .nil)⟩
     ·
      refine Tr<|Rq Y (Xw (ys:= [_,_]) Zq9 Zq4 Zqp (.cons (cvs (ov Y)<|Zn Y) .nil) Y)<|Rx Y (Qd (row:= [_,_]) 4 Y Zqp Y tZ_92)<|Rx Y (Zm (ov Y) (ov Y) (ZB Zpm Y) Y Y Y (nL Y) (Za Y) Y)<|Zb<|I2 (fun frozen3 at_=>⟨[(7,.ptr 0 1 0 0),(10,.ptr 3 1 0 0),(28,.sl 59 (List.map R59 l)),(29,.int .i64 (l.length:Int)),(30,.int .i64 i)],[some ⟨89,[[.own 1 list3.length,.int .i64 copies,.own 2 stands2.length,.bool frozen3,.bool false,.int .i64 0,.bool false,.int .i64 0]]⟩,some ⟨59,List.map O59 list3⟩,some ⟨92,List.map R92 stands2⟩,some ⟨92,[[.int .i64 at_.sector,.int .i64 at_.slot]]⟩]⟩) h (fun h=>?_) fun frozen3 at_ h=>?_
      ·
       refine K6 7 9 10 28 29 30 Y<|ZH [some ⟨89,[[.own 1 list3.length,.int .i64 copies,.own 2 stands2.length,.bool frozen2,.bool false,.int .i64 0,.bool false,.int .i64 0]]⟩,some ⟨59,List.map O59 list3⟩,some ⟨92,List.map R92 stands2⟩,some ⟨59,[[.int .i64 x.Slots,.int .i64 x.Limit,.sl 22 (List.map R22 x.Sectors),.sl 3 (List.map R3 x.Wear),.sl 4 (List.map R4 x.Bad)]]⟩,some ⟨92,[[.int .i64 (-1),.int .i64 0]]⟩] Y<|Tr<|Rq Y (Qt (ov Y) Y Y Y XL Y Y)<|bE h fun y4 h_y4 h=>Rq Y (Zq (Zk5 h_y4)<|.cons (ov Y) (.aggB Y) .nil)<|Rz Y<|K7 7 9 10 11 28 29 30 Y<|Tr<|Rm Y<|Rl tZ_3 QA Y<|R2 Za9 Y<|Zb<|K8 7 9 10 11 28 29 30 50 Y<|If h Y (fun h=>?_) fun h=>?_
       ·
        refine K7 7 9 10 11 28 29 30 Y<|Tr<|Rm Y<|Rm Y<|Rl tZ_3 QA Y<|R2 ZbR Y<|bE h fun x2 h_x2 h=>Rq Y (ZP (ov Y) (ov Y) QA h_x2)<|Rq Y (Zd (ov Y) tS3 Y)<|Rq Y (Ze (ov Y) Y Y ZgH)<|Rx Y (Zm (ov Y) (ov Y) (Zj tS3) Y Y Y (nL Y) (Za Y) Y)<|Zb<|I1 (fun slot=>⟨[(7,.ptr 0 1 0 0),(9,.ptr 3 1 0 0),(10,.ptr 4 1 0 0),(28,.sl 59 (List.map R59 l)),(29,.int .i64 (l.length:Int)),(30,.int .i64 i)],[some ⟨89,[[.own 1 list3.length,.int .i64 copies,.own 2 stands2.length,.bool frozen2,.bool false,.int .i64 0,.bool false,.int .i64 0]]⟩,some ⟨59,List.map O59 list3⟩,some ⟨92,List.map R92 stands2⟩,some ⟨59,[[.int .i64 x.Slots,.int .i64 x.Limit,.sl 22 (List.map R22 x.Sectors),.sl 3 (List.map R3 x.Wear),.sl 4 (List.map R4 x.Bad)]]⟩,some ⟨92,[[.int .i64 x2,.int .i64 slot]]⟩]⟩) h (fun h=>?_) fun slot h=>?_
        ·
         refine K6 7 9 10 28 29 30 Y<|ZH [some ⟨89,[[.own 1 list3.length,.int .i64 copies,.own 2 stands2.length,.bool frozen2,.bool false,.int .i64 0,.bool false,.int .i64 0]]⟩,some ⟨59,List.map O59 list3⟩,some ⟨92,List.map R92 stands2⟩,some ⟨59,[[.int .i64 x.Slots,.int .i64 x.Limit,.sl 22 (List.map R22 x.Sectors),.sl 3 (List.map R3 x.Wear),.sl 4 (List.map R4 x.Bad)]]⟩,some ⟨92,[[.int .i64 x2,.int .i64 0]]⟩] Y<|Tr<|Rq Y (Ze (ov Y) Y Y Zfb)<|Rq Y (Zl (ov Y) Y Y Y tS3 Y)<|Rm Y<|Zb<|Zf<|?_
         obtain⟨r2,hl2,ho2⟩:=QC h
         refine L2 (fun slot2 i2=>⟨[(7,.ptr 0 1 0 0),(9,.ptr 3 1 0 0),(10,.ptr 4 1 0 0),(28,.sl 59 (List.map R59 l)),(29,.int .i64 (l.length:Int)),(30,.int .i64 i),(59,.int .i64 x.Slots),(60,.int .i64 i2)],[some ⟨89,[[.own 1 list3.length,.int .i64 copies,.own 2 stands2.length,.bool frozen2,.bool false,.int .i64 0,.bool false,.int .i64 0]]⟩,some ⟨59,List.map O59 list3⟩,some ⟨92,List.map R92 stands2⟩,some ⟨59,[[.int .i64 x.Slots,.int .i64 x.Limit,.sl 22 (List.map R22 x.Sectors),.sl 3 (List.map R3 x.Wear),.sl 4 (List.map R4 x.Bad)]]⟩,some ⟨92,[[.int .i64 x2,.int .i64 slot2]]⟩]⟩) hl2 (ES [some 0,some 1,some 2,some 3,some 4] (hhp:= .cons Y (ro1 (by exact tZ_89.symm)<|rlc (.own _ Y)<|rlD Y<|rlc (.own _ Y)<|rlD Y<|rlD Y<|rlD Y<|rlD Y<|rlD Y rln)<|.cons Y (roO Zw)<|.cons Y (roM D92)<|.cons Y (ro1 (by exact tZ_59.symm)<|rld Y)<|.cons Y (ro1 (by exact tZ_92.symm)<|rld Y) .nil)) fun n2 slot2 i2 h=>?_
         unfold Zcn at h
         refine Tr<|R2 ZL Y<|Zb<|Zh<|If h Y (fun h=>?_) fun h=>?_
         ·
          refine Zg<|Zh<|Zf<|K8 7 9 10 28 29 30 59 60 Y<|Tr<|Rm Y<|Rz Y<|K9 7 9 10 12 28 29 30 59 60 Y<|Tr<|Rq Y (Ze (ov Y) Y Y Z9)<|Rq Y (Zl (ov Y) Y Y Y Q7 Y)<|Rq Y (Ze (ov Y) Y Y ZgH)<|Rq Y (Zl (ov Y) Y Y Y tS3 Y)<|bE h fun x3 h_x3 h=>Rq Y (ZP (ov Y) (ov Y) Q3 h_x3)<|Rq Y (Zd (ov Y) Zek Y)<|Rm Y<|bE h fun y5 h_y5 h=>Rq Y (Zq (Zlg h_y5)<|.cons (ov Y) (.b Y)<|.cons (ov Y) (.b Y) .nil)<|R2 Qy Y<|Zb<|K10 7 9 10 12 28 29 30 59 60 71 Y<|If h Y (fun h=>?_) fun h=>?_
          ·
           exact K9 7 9 10 12 28 29 30 59 60 Y<|Zo<|Rm Y<|R2 ZI Y<|Rq Y (Ze (ov Y) Y Y Zkr)<|Rx Y (Zm (ov Y) (ov Y) (Zj tS3) Y Y Y (nL Y) (Za Y) Y)<|Zb<|K8 7 9 10 28 29 30 59 60 Y<|ZH [some ⟨89,[[.own 1 list3.length,.int .i64 copies,.own 2 stands2.length,.bool frozen2,.bool false,.int .i64 0,.bool false,.int .i64 0]]⟩,some ⟨59,List.map O59 list3⟩,some ⟨92,List.map R92 stands2⟩,some ⟨59,[[.int .i64 x.Slots,.int .i64 x.Limit,.sl 22 (List.map R22 x.Sectors),.sl 3 (List.map R3 x.Wear),.sl 4 (List.map R4 x.Bad)]]⟩,some ⟨92,[[.int .i64 x2,.int .i64 (i64 (i2+1))]]⟩] Y<|Zo<|R2 ZI Y<|Rm Y<|Zb<|⟨_,h,ES [some 0,some 1,some 2,some 3,some 4] (hhp:= .cons Y (ro1 (by exact tZ_89.symm)<|rlc (.own _ Y)<|rlD Y<|rlc (.own _ Y)<|rlD Y<|rlD Y<|rlD Y<|rlD Y<|rlD Y rln)<|.cons Y (roO Zw)<|.cons Y (roM D92)<|.cons Y (ro1 (by exact tZ_59.symm)<|rld Y)<|.cons Y (ro1 (by exact tZ_92.symm)<|rld Y) .nil)⟩
          ·
           exact Zg<|K8 7 9 10 28 29 30 59 60 Y<|Zo<|R2 ZI Y<|Rm Y<|Zb<|⟨_,h,ES [some 0,some 1,some 2,some 3,some 4] (hhp:= .cons Y (ro1 (by exact tZ_89.symm)<|rlc (.own _ Y)<|rlD Y<|rlc (.own _ Y)<|rlD Y<|rlD Y<|rlD Y<|rlD Y<|rlD Y rln)<|.cons Y (roO Zw)<|.cons Y (roM D92)<|.cons Y (ro1 (by exact tZ_59.symm)<|rld Y)<|.cons Y (ro1 (by exact tZ_92.symm)<|rld Y) .nil)⟩
         ·
          refine ZA<|?_
          replace h:=lx h▸ho2
          exact⟨_,h,ES [some 0,some 1,some 2,some 3,some 4] (hhp:= .cons Y (ro1 (by exact tZ_89.symm)<|rlc (.own _ Y)<|rlD Y<|rlc (.own _ Y)<|rlD Y<|rlD Y<|rlD Y<|rlD Y<|rlD Y rln)<|.cons Y (roO Zw)<|.cons Y (roM D92)<|.cons Y (ro1 (by exact tZ_59.symm)<|rld Y)<|.cons Y (ro1 (by exact tZ_92.symm)<|rld Y) .nil)⟩
        ·
         exact Tr<|Rq Y (Ze (ov Y) Y Y Z9)<|Rq Y (Zl (ov Y) Y Y Y Q7 Y)<|Rq Y (Ze (ov Y) Y Y ZgH)<|Rq Y (Zl (ov Y) Y Y Y tS3 Y)<|bE h fun x4 h_x4 h=>Rq Y (ZP (ov Y) (ov Y) Q3 h_x4)<|Rq Y (Zd (ov Y) Zek Y)<|bE h fun y6 h_y6 h=>Rq Y (Zq (ZeQ h_y6)<|.cons (ov Y) (.b Y) .nil)<|Rm Y<|Rj Y Y Y<|Rj Y Y Y<|Rj Y Y Y<|Ra Y<|Ra Y<|Rz Y<|K6 7 10 14 28 29 30 Y<|Zo<|Rm Y<|Rm Y<|Rq Y (Zi (ov Y) Y Y)<|Rq Y (Ze (ov Y) Y Y Zku)<|Rq Y (Zl (ov Y) Y Y Y tS4 Y)<|Rm Y<|Rq Y (.guarded (frozen2==false) Y Y Y Y fun h=>Zc<|ov Y)<|Rq Y (ZaO (ov Y) fun hp=>ow Y<|gF hp)<|Rq Y (Zi (ov Y) Y Y)<|Rq Y (Ze (ov Y) Y Y Zku)<|Rx Y (Zm (ov Y) (ov Y) (Zj tS4) Y Y Y (nL Y) (Za Y) Y)<|Zb<|⟨_,h,ES [some 0,some 1,some 2,some 4] (hhp:= .cons Y (ro1 (by exact tZ_89.symm)<|rlc (.own _ Y)<|rlD Y<|rlc (.own _ Y)<|rlD Y<|rlD Y<|rlD Y<|rlD Y<|rlD Y rln)<|.cons Y (roO Zw)<|.cons Y (roM D92)<|.cons Y (ro1 (by exact tZ_92.symm)<|rld Y) .nil)⟩
       ·
        exact Zg<|⟨_,h,ES [some 0,some 1,some 2,some 4] (hhp:= .cons Y (ro1 (by exact tZ_89.symm)<|rlc (.own _ Y)<|rlD Y<|rlc (.own _ Y)<|rlD Y<|rlD Y<|rlD Y<|rlD Y<|rlD Y rln)<|.cons Y (roO Zw)<|.cons Y (roM D92)<|.cons Y (ro1 (by exact tZ_92.symm)<|rld Y) .nil)⟩
      ·
       exact Z5 (cw:=md0) (by kernel_rfl)<|D1 1 Zc Y<|Dq 2 Y (Zi (ov Y) Y Y)<|Dq 3 Y (Ze (ov Y) Y Y Ze0)<|Dq 4 Y (Zl (ov Y) Y Y Y ZkW Y)<|Dq 5 Y (Qt (ov Y) Y Y Y Zpm Y Y)<|Zpb 6 (.sl 92<|List.map R92 ([at_]:List ref3_stand)) Y (by kernel_rfl) Y Y (Jc ZjA (.cons (cva<|ov Y) Y (pwD Y) .nil) Y Y)<|ZO 0 _ Y (by kernel_rfl) Y Y (fun hp'=>Zc<|ov Y)<|bE h fun l3 h_l3 h=>Do 7 Y (QK (ov Y) (Qr (ov Y) tZ_92) ZjA Y Y Y (fun _=>Za Y) Y h_l3)<|Dq 8 Y (Zi (ov Y) Y Y)<|Dq 9 Y (Ze (ov Y) Y Y Ze0)<|Do 10 Y (Zm (ov Y) (ov Y) (Zj ZkW) Y Y Y (nL Y) (Za Y) Y)<|Dd<|K4 7 28 29 30 Y<|ZH [some ⟨89,[[.own 1 list3.length,.int .i64 copies,.own 2 l3.length,.bool frozen3,.bool false,.int .i64 0,.bool false,.int .i64 0]]⟩,some ⟨59,List.map O59 list3⟩,some ⟨92,List.map R92 l3⟩,some ⟨92,[[.int .i64 at_.sector,.int .i64 at_.slot]]⟩] Y<|Zo<|R2 ZI Y<|Rm Y<|Zb<|⟨_,h,ES [some 0,some 1,some 2] (hhp:= .cons Y (ro1 (by exact tZ_89.symm)<|rlc (.own _ Y)<|rlD Y<|rlc (.own _ Y)<|rlD Y<|rlD Y<|rlD Y<|rlD Y<|rlD Y rln)<|.cons Y (roO Zw)<|.cons Y (roM D92) .nil)⟩
    ·
     refine ZA<|?_
     replace h:=lx h▸ho1
     exact⟨_,h,ES [some 0,some 1,some 2] (hhp:= .cons Y (ro1 (by exact tZ_89.symm)<|rlc (.own _ Y)<|rlD Y<|rlc (.own _ Y)<|rlD Y<|rlD Y<|rlD Y<|rlD Y<|rlD Y rln)<|.cons Y (roO Zw)<|.cons Y (roM D92) .nil)⟩
   ·
    refine Tr<|Rm Y<|Ra Y<|Rz Y<|?_
    obtain rfl:=rt h
    exact Zk<|Xu [some 0,some 1,some 2] Y (.cons (.tmp Y)<|.cons (.tmp Y) .nil) (.cons Y (ro1 (by exact tZ_89.symm)<|rlc (.own _ Y)<|rlD Y<|rlc (.own _ Y)<|rlD Y<|rlD Y<|rlD Y<|rlD Y<|rlD Y rln)<|.cons Y (roO Zw)<|.cons Y (roM D92) .nil) Y Y<|Qq<|rlc (.ptr _ _ _ Y)<|rlD Y rln
theorem ZaG{l:List api_Memory}{copies:Int}{r:Int}(h:JV l copies=some (.inl r)):
    GSpec Tryz.prog gl0 14 [.sl 59 (List.map R59 l),.int .i64 copies] [] (.tuple [.lit (.pointer none),.int .i64 r]) []:=ZgQ h
theorem ZaC{l:List api_Memory}{copies:Int}{r:ref3_Recorder×Int}(h:JV l copies=some (.inr r)):
    GSpec Tryz.prog gl0 14 [.sl 59 (List.map R59 l),.int .i64 copies] [] (.tuple [.ptr 0 1 0 0,.int .i64 r.2]) [some ⟨89,[[.own 1 r.1.list.length,.int .i64 r.1.copies,.own 2 r.1.stands.length,.bool r.1.frozen,.bool r.1.stopped,.int .i64 r.1.last,.bool r.1.some_,.int .i64 r.1.power]]⟩,some ⟨59,List.map O59 r.1.list⟩,some ⟨92,List.map R92 r.1.stands⟩]:=ZgQ h
theorem Zhx{n:Int}{r:Bool}(h:Zdm n=some r):
 CSpec Tryz.prog gl0 110 [.int .i64 n] (.bool r):=by
 unfold Zdm at h
 replace h:=Qb h
 refine So Tryz.func110 Y fun w0 A=>Tr<|Rz Y<|K1 0 Y<|Tr<|Rz Y<|I1 (fun ones=>⟨[(3,.int .i64 ones)],[]⟩) h (fun h=>?_) fun ones h=>?_
 ·
  refine Zf<|?_
  obtain⟨r1,hl1,ho1⟩:=QC h
  refine L2 (fun n2 ones2=>⟨[(0,.int .i64 n2),(3,.int .i64 ones2)],[]⟩) hl1 (ES []) fun n1 n2 ones2 h=>?_
  unfold ZfC at h
  refine Zh<|Tr<|Rm Y<|R2 Za9 Y<|Zb<|K3 0 3 5 Y<|If h Y (fun h=>?_) fun h=>?_
  ·
   exact Zg<|Zh<|Zf<|K2 0 3 Y<|Zo<|Rm Y<|Rm Y<|bE h fun q h_q h=>Rq Y (Zaf (ov Y) (ov Y) h_q)<|R2 ZI Y<|Rz Y<|K2 0 3 Y<|Zo<|Rm Y<|bE h fun q2 h_q2 h=>Rq Y (Zgq (ov Y) (ov Y) h_q2)<|Rz Y<|⟨_,h,ES []⟩
  ·
   refine ZA<|?_
   replace h:=lx h▸ho1
   exact⟨_,h,ES []⟩
 ·
  refine Tr<|Rm Y<|bE h fun q3 h_q3 h=>Rq Y (Zaf (ov Y) (ov Y) h_q3)<|R2 Zae Y<|Rz Y<|?_
  obtain rfl:=rt h
  exact Zk (ZK Y (.one<|rb Y))
theorem ZeO{data:Int}{r:Int}(h:ZcK data=some r):
 CSpec Tryz.prog gl0 92 [.int .i64 data] (.int .i64 r):=by
 unfold ZcK at h
 replace h:=Qb h
 refine So Tryz.func92 Y fun w0 A=>Tr<|Rz Y<|Zh<|K1 0 Y<|Tr<|Rm Y<|bE h fun y h_y h=>Rq Y (Zq (Zhx h_y)<|.cons (ov Y) (.b Y) .nil)<|Zb<|K2 0 4 Y<|If h Y (fun h=>?_) fun h=>?_
 ·
  refine K1 0 Y<|Tr<|Rm Y<|Rz Y<|?_
  obtain rfl:=rt h
  exact Zk (ZK Y (.one<|rb Y))
 ·
  refine Zg<|K1 0 Y<|Tr<|Rm Y<|R2 ZI Y<|Rz Y<|?_
  obtain rfl:=rt h
  exact Zk (ZK Y (.one<|rb Y))
theorem ZdH{f:Vector Int 64}{r:Int}(h:Je f=some r):
 CSpec Tryz.prog gl0 90 [.agg (List.map C44 f.toList)] (.int .i64 r):=by
 unfold Je at h
 replace h:=Qb h
 refine So Tryz.func90 Y fun w0 A=>Tr<|Rq Y (JL (cva<|ov Y) arL tZ_46<|arD fun _=>Y)<|Rz Y<|K2 1 2 Y<|Tr<|bE h fun x h_x h=>Rq Y (Q6 (ov Y) (ov Y) Zaq h_x)<|Rq Y (Zd (ov Y) Za7<|Qx<|XV (o:=0) (o':=((Int.toNat 1)*1)) (Zu arL)<|XR h_x)<|Rq Y (Qh (ov Y) Zdl tI3 Y)<|bE h fun q h_q h=>Rq Y (Zaf (ov Y) (ov Y) h_q)<|bE h fun x2 h_x2 h=>Rq Y (Q6 (ov Y) (ov Y) Zaq h_x2)<|Rq Y (Zd (ov Y) Za7<|Qx<|XV (o:=0) (o':=((Int.toNat 2)*1)) (Zu arL)<|XR h_x2)<|Rq Y (Qh (ov Y) Zdl tI3 Y)<|bE h fun q2 h_q2 h=>Rq Y (Zaf (ov Y) (ov Y) h_q2)<|R2 ZeC Y<|R2 ZI Y<|Rz Y<|?_
 obtain rfl:=rt h
 exact Zk (ZK Y (.one<|rb Y))
theorem Zhz{number:Int}{r:Int}(h:ZaV number=some r):
 CSpec Tryz.prog gl0 93 [.int .i64 number] (.int .i64 r):=by
 unfold ZaV at h
 replace h:=Qb h
 refine So Tryz.func93 Y fun w0 A=>Tr<|Rz Y<|Tr<|R_q (.agg<|List.map C3 (#v[583,1464,2631,3512]:Vector Int 4).toList) Y (Zf9 (ys:= [_,_,_,_]) Zq8 Zsv (.cons (cvs (ov Y)<|Zn Y)<|.cons (cvs (ov Y)<|Zn Y)<|.cons (cvs (ov Y)<|Zn Y)<|.cons (cvs (ov Y)<|Zn Y) .nil) Y)<|Rm Y<|bE h fun q h_q h=>Rq Y (Zaf (ov Y) (ov Y) h_q)<|bE h fun x h_x h=>Rq Y (ZhH (ov Y) (ov Y) Zq8 tS3 h_x)<|Rz Y<|?_
 obtain rfl:=rt h
 exact Zk (ZK Y (.one<|rb Y))
theorem ZjK{f:Vector Int 64}{r:Int}(h:Zel f=some r):
 CSpec Tryz.prog gl0 94 [.agg (List.map C44 f.toList)] (.int .i64 r):=by
 unfold Zel at h
 replace h:=Qb h
 refine So Tryz.func94 Y fun w0 A=>Tr<|Rq Y (JL (cva<|ov Y) arL tZ_46<|arD fun _=>Y)<|Rz Y<|K1 1 Y<|Tr<|Rz Y<|I1 (fun x=>⟨[(3,.int .i64 x)],[]⟩) h (fun h=>?_) fun x h=>?_
 ·
  refine Tr<|Rz Y<|Zf<|?_
  obtain⟨r1,hl1,ho1⟩:=QC h
  refine L2 (fun x2 i=>⟨[(1,.rp (List.map C44 f.toList) 0),(3,.int .i64 x2),(4,.int .i64 i)],[]⟩) hl1 (ES []) fun n1 x2 i h=>?_
  unfold ZbJ at h
  refine Zh<|Tr<|Rm Y<|R2 ZiK Y<|Zb<|K4 1 3 4 6 Y<|If h Y (fun h=>?_) fun h=>?_
  ·
   exact Zg<|Zh<|Zf<|K3 1 3 4 Y<|Zo<|Rm Y<|Rm Y<|bE h fun x3 h_x3 h=>Rq Y (Q6 (ov Y) (ov Y) Zaq h_x3)<|Rq Y (Zd (ov Y) Za7<|Qx<|XV (o:=0) (o':=(i.toNat*1)) (Zu arL)<|XR h_x3)<|Rq Y (Qh (ov Y) Zdl tI3 Y)<|bE h fun q h_q h=>Rq Y (Zaf (ov Y) (ov Y) h_q)<|R2 ZlY Y<|Rz Y<|K3 1 3 4 Y<|Zo<|Rm Y<|R2 ZI Y<|Rz Y<|⟨_,h,ES []⟩
  ·
   refine ZA<|?_
   replace h:=lx h▸ho1
   exact⟨_,h,ES []⟩
 ·
  refine Tr<|Rm Y<|Rz Y<|?_
  obtain rfl:=rt h
  exact Zk (ZK Y (.one<|rb Y))
theorem Zh1{f:Vector Int 64}{r:Int}(h:Zbx f=some r):
 CSpec Tryz.prog gl0 111 [.agg (List.map C44 f.toList)] (.int .i64 r):=by
 unfold Zbx at h
 replace h:=Qb h
 refine So Tryz.func111 Y fun w0 A=>Tr<|Rq Y (JL (cva<|ov Y) arL tZ_46<|arD fun _=>Y)<|Rz Y<|K1 1 Y<|Tr<|Rz Y<|I1 (fun rest=>⟨[(3,.int .i64 rest)],[]⟩) h (fun h=>?_) fun rest h=>?_
 ·
  refine Tr<|Rz Y<|Zf<|?_
  obtain⟨r1,hl1,ho1⟩:=QC h
  refine L2 (fun rest2 i=>⟨[(1,.rp (List.map C44 f.toList) 0),(3,.int .i64 rest2),(4,.int .i64 i)],[]⟩) hl1 (ES []) fun n1 rest2 i h=>?_
  unfold Zaw at h
  refine Zh<|Tr<|Rm Y<|R2 ZL Y<|Zb<|K4 1 3 4 7 Y<|If h Y (fun h=>?_) fun h=>?_
  ·
   refine Zg<|Zh<|Zf<|K3 1 3 4 Y<|Tr<|Rz Y<|I1 (fun bit=>⟨[(1,.rp (List.map C44 f.toList) 0),(3,.int .i64 rest2),(4,.int .i64 i),(5,.int .i64 bit)],[]⟩) h (fun h=>?_) fun bit h=>?_
   ·
    refine Tr<|Rm Y<|R2 ZL Y<|Zb<|K5 1 3 4 5 11 Y<|If h Y (fun h=>?_) fun h=>?_
    ·
     exact K4 1 3 4 5 Y<|Zo<|Rm Y<|bE h fun q h_q h=>Rq Y (Zgq (ov Y) (ov Y) h_q)<|bE h fun x h_x h=>Rq Y (Q6 (ov Y) (ov Y) Zaq h_x)<|Rq Y (Zd (ov Y) Za7<|Qx<|XV (o:=0) (o':=(q.toNat*1)) (Zu arL)<|XR h_x)<|Rq Y (Qh (ov Y) Zdl tI3 Y)<|Rm Y<|bE h fun q2 h_q2 h=>Rq Y (Zaf (ov Y) (ov Y) h_q2)<|R2 ZbR Y<|bE h fun q3 h_q3 h=>Rq Y (Zbf (ov Y) (ov Y) h_q3)<|R2 Zbk Y<|Rz Y<|⟨_,h,ES []⟩
    ·
     exact Zg<|⟨_,h,ES []⟩
   ·
    refine Tr<|Rm Y<|R2 ZeC Y<|Rm Y<|R2 ZI Y<|Rz Y<|K3 1 3 4 Y<|Tr<|Rm Y<|R2 ZiV Y<|Zb<|K4 1 3 4 27 Y<|If h Y (fun h=>?_) fun h=>?_
    ·
     exact K3 1 3 4 Y<|Zo<|Rm Y<|R2 ZlY Y<|Rz Y<|K3 1 3 4 Y<|Zo<|Rm Y<|R2 ZI Y<|Rz Y<|⟨_,h,ES []⟩
    ·
     exact Zg<|K3 1 3 4 Y<|Zo<|Rm Y<|R2 ZI Y<|Rz Y<|⟨_,h,ES []⟩
  ·
   refine ZA<|?_
   replace h:=lx h▸ho1
   exact⟨_,h,ES []⟩
 ·
  refine Tr<|Rm Y<|Rz Y<|?_
  obtain rfl:=rt h
  exact Zk (ZK Y (.one<|rb Y))
theorem ZjZ{f:Vector Int 64}{r:(Vector Int 64)}(h:Zdk f=some r):
 CSpec Tryz.prog gl0 95 [.agg (List.map C44 f.toList)] (.agg (List.map C44 r.toList)):=by
 unfold Zdk at h
 replace h:=Qb h
 refine So Tryz.func95 Y fun w0 A=>Tr<|Rx Y (ZmW 0 Y (ov Y) X3 arL)<|Rx Y (Qd (row:=(List.map C44 (Vector.replicate 64 0).toList)) 1 Y Ziy Y tZ_46)<|Zb<|K2 1 2 Y<|Tr<|Rq Y (Qt (ov Y) Y Y Y X3 (Qs<|Zu arL) arL (hns:=(nsM fun _=>Y)))<|bE h fun y h_y h=>Rq Y (Zq (Zh1 h_y)<|.cons (ov Y) (.aggB<|arD fun _=>Y) .nil)<|Rz Y<|K3 1 2 3 Y<|Tr<|Rm Y<|bE h fun q h_q h=>Rq Y (Zgq (ov Y) (ov Y) h_q)<|bE h fun y2 h_y2 h=>Rq Y (Zq (ZeO h_y2)<|.cons (ov Y) (.b Y) .nil)<|Rq Y (Qh (ov Y) tI3 Zdl Y)<|Rm Y<|bE h fun q2 h_q2 h=>Rq Y (Zaf (ov Y) (ov Y) h_q2)<|bE h fun y3 h_y3 h=>Rq Y (Zq (ZeO h_y3)<|.cons (ov Y) (.b Y) .nil)<|Rq Y (Qh (ov Y) tI3 Zdl Y)<|bE h fun x h_x h=>Rq Y (Zbg (ov Y) (ov Y) Zaq Y Y h_x)<|Rx Y (Zm (ov Y) (ov Y) (Zj Za7) Y Y Y (arB h_x) (Za Y)<|arS h_x)<|bE h fun x2 h_x2 h=>Rq Y (Zbg (ov Y) (ov Y) Zaq Y Y h_x2)<|Rx Y (Zm (ov Y) (ov Y) (Zj Za7) Y Y Y (arB h_x2) (Za Y)<|arS h_x2)<|Zb<|K2 1 2 Y<|Tr<|Rq Y (Qt (ov Y) Y Y Y X3 (Qs<|Zu arL) arL (hns:=(nsM fun _=>Y)))<|Rx Y (Zm (ov Y) (ov Y) (ZB X3 arL) Y Y Y (Zb4 (Zu arL) arL) (Za<|arC fun _=>Y)<|ZaF<|Eq.trans arL<|Eq.symm arL)<|Zb<|?_
 obtain rfl:=rt h
 exact Zk (ZK Y (.one<|.agg Y Y Y Y X3 (Qs<|Zu arL) arL (pwB<|arD fun _=>Y) (hns:=(nsM fun _=>Y))))
theorem ZkO{f:Vector Int 64}{r:(Vector Int 64)}(h:Zec f=some r):
 CSpec Tryz.prog gl0 62 [.agg (List.map C44 f.toList)] (.agg (List.map C44 r.toList)):=by
 unfold Zec at h
 replace h:=Qb h
 refine So Tryz.func62 Y fun w0 A=>Tr<|Rx Y (ZmW 0 Y (ov Y) X3 arL)<|Rx Y (Qd (row:=(List.map C44 (Vector.replicate 64 0).toList)) 1 Y Ziy Y tZ_46)<|Zb<|I1 (fun f2=>⟨[(1,.ptr 0 1 0 0),(2,.ptr 1 1 0 0)],[some ⟨46,[(List.map C44 f2.toList)]⟩,some ⟨46,[(List.map C44 (Vector.replicate 64 0).toList)]⟩]⟩) h (fun h=>?_) fun f2 h=>?_
 ·
  refine K2 1 2 Y<|Tr<|Rz Y<|Zf<|?_
  obtain⟨r1,hl1,ho1⟩:=QC h
  refine L2 (fun f3 i=>⟨[(1,.ptr 0 1 0 0),(2,.ptr 1 1 0 0),(3,.int .i64 i)],[some ⟨46,[(List.map C44 f3.toList)]⟩,some ⟨46,[(List.map C44 (Vector.replicate 64 0).toList)]⟩]⟩) hl1 (ES [some 0,some 1]) fun n1 f3 i h=>?_
  unfold Zdn at h
  refine Zh<|Tr<|Rm Y<|R2 ZiK Y<|Zb<|K4 1 2 3 5 Y<|If h Y (fun h=>?_) fun h=>?_
  ·
   exact Zg<|Zh<|Zf<|K3 1 2 3 Y<|Zo<|Rm Y<|Rm Y<|bE h fun x h_x h=>Rq Y (Zbg (ov Y) (ov Y) Zaq Y Y h_x)<|Rq Y (Zl (ov Y) Y Y Y Za7<|Qx<|XV (o:=0) (o':=(i.toNat*1)) (Zu arL)<|XR h_x)<|Rq Y (Qh (ov Y) Zdl tI3 Y)<|bE h fun q h_q h=>Rq Y (Zaf (ov Y) (ov Y) h_q)<|bE h fun y h_y h=>Rq Y (Zq (ZeO h_y)<|.cons (ov Y) (.b Y) .nil)<|Rq Y (Qh (ov Y) tI3 Zdl Y)<|bE h fun x2 h_x2 h=>Rq Y (Zbg (ov Y) (ov Y) Zaq Y Y h_x2)<|Rx Y (Zm (ov Y) (ov Y) (Zj Za7) Y Y Y (arB h_x2) (Za Y)<|arS h_x2)<|Zb<|K3 1 2 3 Y<|Zo<|Rm Y<|R2 ZI Y<|Rz Y<|⟨_,h,ES [some 0,some 1]⟩
  ·
   refine ZA<|?_
   replace h:=lx h▸ho1
   exact⟨_,h,ES [some 0,some 1]⟩
 ·
  refine Tr<|Rq Y (Qt (ov Y) Y Y Y X3 (Qs<|Zu arL) arL (hns:=(nsM fun _=>Y)))<|bE h fun y2 h_y2 h=>Rq Y (Zq (ZdH h_y2)<|.cons (ov Y) (.aggB<|arD fun _=>Y) .nil)<|bE h fun y3 h_y3 h=>Rq Y (Zq (Zhz h_y3)<|.cons (ov Y) (.b Y) .nil)<|Rq Y (Qh (ov Y) tI3 Zdl Y)<|bE h fun x3 h_x3 h=>Rq Y (Zbg (ov Y) (ov Y) Zaq Y Y h_x3)<|Rx Y (Zm (ov Y) (ov Y) (Zj Za7) Y Y Y (arB h_x3) (Za Y)<|arS h_x3)<|Zb<|K2 1 2 Y<|Tr<|Rq Y (Qt (ov Y) Y Y Y X3 (Qs<|Zu arL) arL (hns:=(nsM fun _=>Y)))<|bE h fun y4 h_y4 h=>Rq Y (Zq (ZjK h_y4)<|.cons (ov Y) (.aggB<|arD fun _=>Y) .nil)<|bE h fun y5 h_y5 h=>Rq Y (Zq (ZeO h_y5)<|.cons (ov Y) (.b Y) .nil)<|Rq Y (Qh (ov Y) tI3 Zdl Y)<|bE h fun x4 h_x4 h=>Rq Y (Zbg (ov Y) (ov Y) Zaq Y Y h_x4)<|Rx Y (Zm (ov Y) (ov Y) (Zj Za7) Y Y Y (arB h_x4) (Za Y)<|arS h_x4)<|Zb<|K2 1 2 Y<|Tr<|Rq Y (Qt (ov Y) Y Y Y X3 (Qs<|Zu arL) arL (hns:=(nsM fun _=>Y)))<|bE h fun y6 h_y6 h=>Rq Y (Zq (ZjZ h_y6)<|.cons (ov Y) (.aggB<|arD fun _=>Y) .nil)<|Rx Y (Zm (ov Y) (ov Y) (ZB X3 arL) Y Y Y (Zb4 (Zu arL) arL) (Za<|arC fun _=>Y)<|ZaF<|Eq.trans arL<|Eq.symm arL)<|Zb<|?_
  obtain rfl:=rt h
  exact Zk (ZK Y (.one<|.agg Y Y Y Y X3 (Qs<|Zu arL) arL (pwB<|arD fun _=>Y) (hns:=(nsM fun _=>Y))))
theorem ZmT{number:Int}{data:List Int}{r:(Vector Int 64)×Int}(h:Zhw number data=some r):
 CSpec Tryz.prog gl0 31 [.int .i64 number,.sl 3 (List.map R3 data)] (.tuple [.agg (List.map C44 r.1.toList),.int .i64 r.2]):=by
 unfold Zhw at h
 replace h:=Qb h
 refine So Tryz.func31 Y fun w0 A=>Tr<|Rx Y (Qd (row:=(List.map C44 (Vector.replicate 64 0).toList)) 0 Y Ziy Y tZ_46)<|Rz Y<|Zh<|K3 0 1 4 Y<|Tr<|Rm Y<|R2 ZL Y<|Rm Y<|Rq Y (.guarded ((decide (number<0))==false) Y Y Y Y fun h=>Zc<|ov Y)<|Rq Y (.guarded ((decide (number<0))==false) Y Y Y Y fun h=>ZiV (ow Y h)<|ov Y)<|Rq Y (ZaO (ov Y) fun hp=>ow Y<|gF hp)<|Zb<|K4 0 1 4 14 Y<|If h Y (fun h=>?_) fun h=>?_
 ·
  refine K1 4 Y<|Tr<|R_q (.agg<|List.map C44 (#v[0,0,0,0,0,0,0,0,0,0,0,0,0,0,0,0,0,0,0,0,0,0,0,0,0,0,0,0,0,0,0,0,0,0,0,0,0,0,0,0,0,0,0,0,0,0,0,0,0,0,0,0,0,0,0,0,0,0,0,0,0,0,0,0]:Vector Int 64).toList) Y (Zf9 (ys:= [_,_,_,_,_,_,_,_,_,_,_,_,_,_,_,_,_,_,_,_,_,_,_,_,_,_,_,_,_,_,_,_,_,_,_,_,_,_,_,_,_,_,_,_,_,_,_,_,_,_,_,_,_,_,_,_,_,_,_,_,_,_,_,_]) Zaq Ziy .nil Y)<|Rx Y (Zm (ov Y) (ov Y) (ZB X3 arL) Y Y Y (Zb4 (Zu arL) arL) (Za<|arC fun _=>Y)<|ZaF<|Eq.trans arL<|Eq.symm arL)<|Rz Y<|?_
  obtain rfl:=rt h
  exact Zk (ZK Y (.two (.agg Y Y Y Y X3 (Qs<|Zu arL) arL (pwB<|arD fun _=>Y) (hns:=(nsM fun _=>Y)))<|rb Y))
 ·
  refine Zg<|Zh<|K3 0 1 4 Y<|Tr<|Rm Y<|Rl tZ_3 QA Y<|R2 Qy Y<|Zb<|K4 0 1 4 18 Y<|If h Y (fun h=>?_) fun h=>?_
  ·
   refine K1 4 Y<|Tr<|R_q (.agg<|List.map C44 (#v[0,0,0,0,0,0,0,0,0,0,0,0,0,0,0,0,0,0,0,0,0,0,0,0,0,0,0,0,0,0,0,0,0,0,0,0,0,0,0,0,0,0,0,0,0,0,0,0,0,0,0,0,0,0,0,0,0,0,0,0,0,0,0,0]:Vector Int 64).toList) Y (Zf9 (ys:= [_,_,_,_,_,_,_,_,_,_,_,_,_,_,_,_,_,_,_,_,_,_,_,_,_,_,_,_,_,_,_,_,_,_,_,_,_,_,_,_,_,_,_,_,_,_,_,_,_,_,_,_,_,_,_,_,_,_,_,_,_,_,_,_]) Zaq Ziy .nil Y)<|Rx Y (Zm (ov Y) (ov Y) (ZB X3 arL) Y Y Y (Zb4 (Zu arL) arL) (Za<|arC fun _=>Y)<|ZaF<|Eq.trans arL<|Eq.symm arL)<|Rz Y<|?_
   obtain rfl:=rt h
   exact Zk (ZK Y (.two (.agg Y Y Y Y X3 (Qs<|Zu arL) arL (pwB<|arD fun _=>Y) (hns:=(nsM fun _=>Y)))<|rb Y))
  ·
   refine Zg<|K3 0 1 4 Y<|Tr<|R_q (.agg<|List.map C44 (#v[0,0,0,0,0,0,0,0,0,0,0,0,0,0,0,0,0,0,0,0,0,0,0,0,0,0,0,0,0,0,0,0,0,0,0,0,0,0,0,0,0,0,0,0,0,0,0,0,0,0,0,0,0,0,0,0,0,0,0,0,0,0,0,0]:Vector Int 64).toList) Y (Zf9 (ys:= [_,_,_,_,_,_,_,_,_,_,_,_,_,_,_,_,_,_,_,_,_,_,_,_,_,_,_,_,_,_,_,_,_,_,_,_,_,_,_,_,_,_,_,_,_,_,_,_,_,_,_,_,_,_,_,_,_,_,_,_,_,_,_,_]) Zaq Ziy .nil Y)<|Rx Y (Qd (row:=(List.map C44 (Vector.replicate 64 0).toList)) 1 Y Ziy Y tZ_46)<|Rx Y (Zm (ov Y) (ov Y) (ZB X3 arL) Y Y Y (Zb4 (Zu arL) arL) (Za<|arC fun _=>Y)<|ZaF<|Eq.trans arL<|Eq.symm arL)<|Zb<|K4 0 1 4 6 Y<|Tr<|Rm Y<|bE h fun q h_q h=>Rq Y (Zaf (ov Y) (ov Y) h_q)<|Rq Y (Qh (ov Y) tI3 Zdl Y)<|Rm Y<|bE h fun q2 h_q2 h=>Rq Y (Zgq (ov Y) (ov Y) h_q2)<|Rq Y (Qh (ov Y) tI3 Zdl Y)<|bE h fun x h_x h=>Rq Y (Zbg (ov Y) (ov Y) Zaq Y Y h_x)<|Rx Y (Zm (ov Y) (ov Y) (Zj Za7) Y Y Y (arB h_x) (Za Y)<|arS h_x)<|bE h fun x2 h_x2 h=>Rq Y (Zbg (ov Y) (ov Y) Zaq Y Y h_x2)<|Rx Y (Zm (ov Y) (ov Y) (Zj Za7) Y Y Y (arB h_x2) (Za Y)<|arS h_x2)<|Zb<|J1 (fun j=>(.inr j)) (fun f=>⟨[(4,.ptr 0 1 0 0),(6,.ptr 1 1 0 0)],[some ⟨46,[(List.map C44 (Vector.replicate 64 0).toList)]⟩,some ⟨46,[(List.map C44 f.toList)]⟩]⟩) h (fun h=>?_) fun f h=>?_
   ·
    refine K3 1 4 6 Y<|Tr<|Rm Y<|Rl tZ_3 QA Y<|Rm Y<|Zb<|Zf<|?_
    obtain⟨r1,hl1,ho1⟩:=QC h
    refine L2 (fun f2 i=>⟨[(4,.ptr 0 1 0 0),(6,.ptr 1 1 0 0),(29,.sl 3 (List.map R3 data)),(30,.int .i64 (data.length:Int)),(31,.int .i64 i)],[some ⟨46,[(List.map C44 (Vector.replicate 64 0).toList)]⟩,some ⟨46,[(List.map C44 f2.toList)]⟩]⟩) hl1 (ES [some 0,some 1]) fun n1 f2 i h=>?_
    unfold ZfG at h
    refine Tr<|R2 ZL Y<|Zb<|Zh<|If h Y (fun h=>?_) fun h=>?_
    ·
     refine Zg<|Zh<|Zf<|K5 4 6 29 30 31 Y<|Tr<|Rm Y<|bE h fun x3 h_x3 h=>Rq Y (ZP (ov Y) (ov Y) QA h_x3)<|Rq Y (Zd (ov Y) tS3 Y)<|Ra Y<|Rz Y<|Zh<|K7 4 6 7 8 29 30 31 Y<|Tr<|Rm Y<|R2 ZL Y<|Rm Y<|Rq Y (.guarded ((decide (x3<0))==false) Y Y Y Y fun h=>Zc<|ov Y)<|Rq Y (.guarded ((decide (x3<0))==false) Y Y Y Y fun h=>Za9 (ow Y h)<|ov Y)<|Rq Y (ZaO (ov Y) fun hp=>ow Y<|gF hp)<|Zb<|K8 4 6 7 8 29 30 31 41 Y<|If h Y (fun h=>?_) fun h=>?_
     ·
      refine K1 4 Y<|Tr<|R_q (.agg<|List.map C44 (#v[0,0,0,0,0,0,0,0,0,0,0,0,0,0,0,0,0,0,0,0,0,0,0,0,0,0,0,0,0,0,0,0,0,0,0,0,0,0,0,0,0,0,0,0,0,0,0,0,0,0,0,0,0,0,0,0,0,0,0,0,0,0,0,0]:Vector Int 64).toList) Y (Zf9 (ys:= [_,_,_,_,_,_,_,_,_,_,_,_,_,_,_,_,_,_,_,_,_,_,_,_,_,_,_,_,_,_,_,_,_,_,_,_,_,_,_,_,_,_,_,_,_,_,_,_,_,_,_,_,_,_,_,_,_,_,_,_,_,_,_,_]) Zaq Ziy .nil Y)<|Rx Y (Zm (ov Y) (ov Y) (ZB X3 arL) Y Y Y (Zb4 (Zu arL) arL) (Za<|arC fun _=>Y)<|ZaF<|Eq.trans arL<|Eq.symm arL)<|Rz Y<|?_
      replace h:=lx h▸ho1
      obtain rfl:=rt h
      exact Zk (ZK Y (.two (.agg Y Y Y Y X3 (Qs<|Zu arL) arL (pwB<|arD fun _=>Y) (hns:=(nsM fun _=>Y)))<|rb Y))
     ·
      exact Zg<|K7 4 6 7 8 29 30 31 Y<|Zo<|Rm Y<|R2 ZI Y<|Rm Y<|Rq Y (Qh (ov Y) tI3 Zdl Y)<|bE h fun x4 h_x4 h=>Rq Y (Zbg (ov Y) (ov Y) Zaq Y Y h_x4)<|Rx Y (Zm (ov Y) (ov Y) (Zj Za7) Y Y Y (arB h_x4) (Za Y)<|arS h_x4)<|Zb<|K5 4 6 29 30 31 Y<|Zo<|R2 ZI Y<|Rm Y<|Zb<|⟨_,h,ES [some 0,some 1]⟩
    ·
     refine ZA<|?_
     replace h:=lx h▸ho1
     exact⟨_,h,ES [some 0,some 1]⟩
   ·
    replace h:=elr h
    replace h:=t1i h
    refine Tr<|Rq Y (Qt (ov Y) Y Y Y X3 (Qs<|Zu arL) arL (hns:=(nsM fun _=>Y)))<|bE h fun y h_y h=>Rq Y (Zq (ZkO h_y)<|.cons (ov Y) (.aggB<|arD fun _=>Y) .nil)<|Rx Y (Zm (ov Y) (ov Y) (ZB X3 arL) Y Y Y (Zb4 (Zu arL) arL) (Za<|arC fun _=>Y)<|ZaF<|Eq.trans arL<|Eq.symm arL)<|Rz Y<|?_
    obtain rfl:=rt h
    exact Zk (ZK Y (.two (.agg Y Y Y Y X3 (Qs<|Zu arL) arL (pwB<|arD fun _=>Y) (hns:=(nsM fun _=>Y)))<|rb Y))
theorem Zlw{x:Int}{y:Int}{r:Int×Int}(h:Ze3 x y=some r):
 CSpec Tryz.prog gl0 115 [.int .u64 x,.int .u64 y] (.tuple [.int .u64 r.1,.int .u64 r.2]):=by
 unfold Ze3 at h
 replace h:=Qb h
 refine So Tryz.func115 Y fun w0 A=>Tr<|Ra Y<|Rz Y<|K2 0 1 Y<|Tr<|Rm Y<|R2 Zbk Y<|Rz Y<|K3 0 1 6 Y<|Tr<|Rm Y<|bE h fun q h_q h=>Rq Y (Zbf (ov Y) (ov Y) h_q)<|Rz Y<|K4 0 1 6 7 Y<|Tr<|Rm Y<|R2 Zbk Y<|Rz Y<|K5 0 1 6 7 8 Y<|Tr<|Rm Y<|bE h fun q2 h_q2 h=>Rq Y (Zbf (ov Y) (ov Y) h_q2)<|Rz Y<|K6 0 1 6 7 8 9 Y<|Tr<|Rm Y<|Rm Y<|R2 ZeC Y<|Rz Y<|K7 0 1 6 7 8 9 10 Y<|Tr<|Rm Y<|Rm Y<|R2 ZeC Y<|Rm Y<|bE h fun q3 h_q3 h=>Rq Y (Zbf (ov Y) (ov Y) h_q3)<|R2 ZI Y<|Rz Y<|K6 0 1 6 7 9 11 Y<|Tr<|Rm Y<|R2 Zbk Y<|Rz Y<|K7 0 1 6 7 9 11 12 Y<|Tr<|Rm Y<|bE h fun q4 h_q4 h=>Rq Y (Zbf (ov Y) (ov Y) h_q4)<|Rz Y<|K7 0 1 6 7 9 12 13 Y<|Tr<|Rm Y<|Rm Y<|Rm Y<|R2 ZeC Y<|R2 ZI Y<|Rz Y<|K6 0 1 7 9 12 13 Y<|Tr<|Rm Y<|Rm Y<|R2 ZeC Y<|Rm Y<|R2 ZI Y<|Rm Y<|bE h fun q5 h_q5 h=>Rq Y (Zbf (ov Y) (ov Y) h_q5)<|R2 ZI Y<|Rz Y<|K3 0 1 4 Y<|Tr<|Rm Y<|Rm Y<|R2 ZeC Y<|Rz Y<|?_
 obtain rfl:=rt h
 exact Zk (ZK Y (.two (rb Y)<|rb Y))
theorem ZmZ{x:Int}{y:Int}{r:Int×Int}(h:Zhc x y=some r):
 CSpec Tryz.prog gl0 96 [.int .u64 x,.int .u64 y] (.tuple [.int .u64 r.1,.int .u64 r.2]):=by
 unfold Zhc at h
 replace h:=Qb h
 refine So Tryz.func96 Y fun w0 A=>Tr<|Ra Y<|Rz Y<|Zh<|ZqH<|Zg<|K2 0 1 Y<|Tr<|Rm Y<|Rm Y<|bE h fun y2 h_y2 h=>Rq Y (Zq (Zlw h_y2)<|.cons (ov Y) (.b Y)<|.cons (ov Y) (.b Y) .nil)<|Rm Y<|Rj Y Y Y<|Rj Y Y Y<|Ra Y<|Rz Y<|K2 8 9 Y<|Tr<|Rm Y<|Rm Y<|Ra Y<|Rz Y<|?_
 obtain rfl:=rt h
 exact Zk (ZK Y (.two (rb Y)<|rb Y))
theorem ZJ{x:List Int}{count:Int}{r:(List Int)}(h:XI x count=some r):
 GSpec Tryz.prog gl0 63 [.sl 5 (List.map R5 x),.int .i64 count] [] (.own 0 r.length) [some ⟨5,List.map R5 r⟩]:=by
 unfold XI at h
 replace h:=Qb h
 refine Ql (by kernel_rfl) Tryz.func63 Y Y<|?_
 intro w0 A W φ0
 refine Tr<|Rz Y<|Zh<|K2 0 1 Y<|Tr<|Rm Y<|R2 ZL Y<|Zb<|K3 0 1 10 Y<|If h Y (fun h=>?_) fun h=>?_
 ·
  exact(ZiW h).elim
 ·
  refine Zg<|K2 0 1 Y<|Tr<|Rm Y<|Rl tZ_5 Qi Y<|Rq Y (Qh (ov Y) tI3 Zg9 Y)<|Rm Y<|Rq Y (Qh (ov Y) tI3 Zg9 Y)<|bE h fun y h_y h=>Rq Y (Zq (ZmZ h_y)<|.cons (ov Y) (.b Y)<|.cons (ov Y) (.b Y) .nil)<|Rm Y<|Rj Y Y Y<|Rj Y Y Y<|Ra Y<|Rz Y<|Zh<|K3 0 5 6 Y<|Tr<|Rm Y<|R2 Za9 Y<|Rm Y<|Rq Y (.guarded ((decide (0<y.1))==false) Y Y Y Y fun h=>Zc<|ov Y)<|Rq Y (.guarded ((decide (0<y.1))==false) Y Y Y Y fun h=>Za9 (ow Y h)<|ov Y)<|Rq Y (ZaO (ov Y) fun hp=>ow Y<|gF hp)<|Zb<|K3 0 6 26 Y<|If h Y (fun h=>?_) fun h=>?_
  ·
   exact(ZiW h).elim
  ·
   refine Zg<|K2 0 6 Y<|Tr<|Rm Y<|Rq Y (Qh (ov Y) Zg9 tI3 Y)<|bE h fun l h_l h=>Rx Y (Zbq [none] (r:=0) (f:=R5) (z0:=0) Y (ov Y) (ov Y) Qi Y tZ5 Y Y h_l)<|Rz Y<|K2 0 7 Y<|Tr<|Rm Y<|Rm Y<|Rx Y (ZqN (f:=R5) (g:=C5) (xs:=l) (ys:=x) (ov Y) (Qr (ov Y) tZ_5) Y Y (fun _=>Y) (fun _=>Y) (fun _=>Y) Qi)<|Rz Y<|I1 (fun newslice=>⟨[(7,.own 0 newslice.length)],[some ⟨5,List.map R5 newslice⟩]⟩) h (fun h=>?_) fun newslice h=>?_
   ·
    refine Zf<|?_
    obtain⟨r1,hl1,ho1⟩:=QC h
    refine L2 (fun newslice2 n=>⟨[(7,.own 0 newslice2.length),(8,.int .i64 n)],[some ⟨5,List.map R5 newslice2⟩]⟩) hl1 (ES [some 0]<|sr 7 Y (Zbu (Eq.symm<|(ZiX ..).trans Y) Y)<|sd 8 Y Y sn) fun n1 newslice2 n h=>?_
    unfold XQ at h
    refine Zh<|Tr<|Rm Y<|Rm Y<|Rq Y (Zb9 (ov Y) Y Y Qi)<|R2 ZL Y<|Zb<|K3 7 8 37 Y<|If h Y (fun h=>?_) fun h=>?_
    ·
     exact Zg<|Zf<|K2 7 8 Y<|Z5 (cw:=md0) (by kernel_rfl)<|D1 1 Zc Y<|D1 2 Zc Y<|bE h fun u h_u h=>Dq 3 Y (ZnN (ov Y) Y Y Qi (oi<|ov Y) on h_u)<|D1 4 Zc Y<|D1 5 Zc Y<|bE h fun u2 h_u2 h=>Dq 6 Y (ZnN (ov Y) Y Y Qi on (oi<|ov Y) h_u2)<|ZO 0 _ Y (by kernel_rfl) Y Y (fun hp'=>Zc<|ov Y)<|Do 7 Y (Zom (g:=C5) (ov Y) (ov Y) Y Y (fun _=>Y) (fun _=>Y) (fun _=>Y) Qi (Zet h_u)<|Zet h_u2)<|D2 8 ZI Y<|D1 9 ZS Y<|Dd<|⟨_,h,ES [some 0]<|sr 7 Y (Zbu (Eq.symm<|(Zd4 (Zet h_u) (Zet h_u2)).trans Y) Y)<|sd 8 Y Y sn⟩
    ·
     refine ZA<|?_
     replace h:=lx h▸ho1
     exact⟨_,h,ES [some 0]⟩
   ·
    refine Tr<|Rm Y<|Rz Y<|?_
    obtain rfl:=rt h
    exact Zk<|Xu [some 0] Y (.cons (.tmp Y) .nil) (.cons Y (roM D5) .nil) Y Y<|.own _ Y
theorem ZiT{sectors:Int}{slots:Int}{limit:Int}{r:api_Memory×Int}(h:Zby sectors slots limit=some r):
 CSpec Tryz.prog gl0 32 [.int .i64 sectors,.int .i64 slots,.int .i64 limit] (.tuple [.agg [.int .i64 r.1.Slots,.int .i64 r.1.Limit,.sl 22 (List.map R22 r.1.Sectors),.sl 3 (List.map R3 r.1.Wear),.sl 4 (List.map R4 r.1.Bad)],.int .i64 r.2]):=by
 unfold Zby at h
 replace h:=Qb h
 refine So Tryz.func32 Y fun w0 A=>Tr<|Rx Y (Qd (row:= [_,_,_,_,_]) 0 Y Zde Y tZ_59)<|Rz Y<|Zh<|K4 0 1 2 6 Y<|Tr<|Rm Y<|bE h fun y h_y h=>Rq Y (Zq (Xf h_y)<|.cons (ov Y) (.b Y)<|.cons (ov Y) (.b Y)<|.cons (ov Y) (.b Y) .nil)<|R1 XM Y<|Rm Y<|Rq Y (.guarded ((!y)==false) Y Y Y Y fun h=>Zc<|ov Y)<|bE h fun y2 h_y2 h=>Rq Y (.guarded ((!y)==false) Y Y Y Y fun h=>Zq (Xf<|gdT h_y2 h)<|.cons (ow Y h) (.b Y)<|.cons (ov Y) (.b Y)<|.cons (ov Y) (.b Y) .nil)<|Rq Y (.guarded ((!y)==false) Y Y Y Y fun h=>XM<|ow Y h)<|Rq Y (ZaO (ov Y) fun hp=>ow Y<|gF hp)<|Rm Y<|Rq Y (.guarded (((!y) || (!y2))==false) Y Y Y Y fun h=>Zc<|ov Y)<|bE h fun y3 h_y3 h=>Rq Y (.guarded (((!y) || (!y2))==false) Y Y Y Y fun h=>Zq (Xf<|gdT h_y3 h)<|.cons (ow Y h) (.b Y)<|.cons (ov Y) (.b Y)<|.cons (ov Y) (.b Y) .nil)<|Rq Y (.guarded (((!y) || (!y2))==false) Y Y Y Y fun h=>XM<|ow Y h)<|Rq Y (ZaO (ov Y) fun hp=>ow Y<|gF hp)<|Zb<|K5 0 1 2 6 21 Y<|If h Y (fun h=>?_) fun h=>?_
 ·
  refine K1 6 Y<|Tr<|Rq Y (Xw (ys:= [_,_,_,_,_]) Zk7 Zkv Zde .nil Y)<|Rx Y (Zm (ov Y) (ov Y) (ZB XL Y) Y Y Y (nL Y) (Za Y) Y)<|Rz Y<|?_
  obtain rfl:=rt h
  exact Zk (ZK Y (.two (.agg Y Y Y Y XL Y Y<|.cons (Dat.view<|.b Y)<|.cons (Dat.view<|.b Y)<|.cons (View.nils 22)<|.cons (View.nils 3)<|.cons (View.nils 4) .nil)<|rb Y))
 ·
  refine Zg<|I2 (fun Wear Bad=>⟨[(0,.int .i64 sectors),(1,.int .i64 slots),(6,.ptr 0 1 0 0),(8,.ptr 1 1 0 0)],[some ⟨59,[[.int .i64 0,.int .i64 0,.nils,.nils,.nils]]⟩,some ⟨59,[[.int .i64 slots,.int .i64 limit,.nils,.own 2 Wear.length,.own 3 Bad.length]]⟩,some ⟨3,List.map R3 Wear⟩,some ⟨4,List.map R4 Bad⟩]⟩) h (fun h=>?_) fun Wear Bad h=>?_
  ·
   refine K4 0 1 2 6 Y<|Z5 (cw:=md0) (by kernel_rfl)<|ZO 0 _ Y (by kernel_rfl) Y Y (fun hp'=>Zc<|ov Y)<|ZO 1 _ Y (by kernel_rfl) Y Y (fun hp'=>Zc<|ov Y)<|ZO 2 _ Y (by kernel_rfl) Y Y (fun hp'=>Zc<|ov Y)<|ZO 4 _ Y (by kernel_rfl) Y Y (fun hp'=>Zc<|ov Y)<|bE h fun l h_l h=>bE h fun l2 h_l2 h=>ZnG [3,5,7] (by kernel_rfl)<|.w Y Y Y (fun _=>Ext.app) (fun h=>by cases h) (Zbq [none] (r:=1) (f:=R3) (z0:=0) Y (ov Y) (ov Y) QA Y tZ3 Y Y h_l) ?_<|.w Y Y Y (fun _=>Ext.app) (fun h=>by cases h) (Zbq [none] (r:=1) (f:=R4) (z0:=false) Y (ov Y) (ov Y) Zgl Y tZ4 Y Y h_l2) ?_<|.w Y Y Y (fun _=>Ext.app) (fun h=>by cases h) (Qd (row:= [_,_,_,_,_]) 1 Y Zde Y tZ_59) ?_ .nil
   ·
    refine Zod 5 7 Y Y (by kernel_rfl) Y Y Y Y (fun _=>Ext.app) (fun _=>Ext.app) (fun h=>by cases h) (fun h=>by cases h) (Zbq [none] (r:=2) (f:=R4) (z0:=false) Y (ov Y) (ov Y) Zgl Y tZ4 Y Y h_l2) (Qd (row:= [_,_,_,_,_]) 2 Y Zde Y tZ_59) ?_ ?_
    ·
     exact ZO 6 _ Y (by kernel_rfl) Y Y (fun hp'=>Xw (ys:= [_,_,_,_,_]) Zk7 Zkv Zde (.cons (cvs (ov Y)<|Zn Y)<|.cons (cvs (ov Y)<|Zn Y)<|.cons (cvs (ov Y)<|Zn Y)<|.cons (cvs (ov Y)<|Zn Y) .nil) Y)<|Zba 7 _ _ Y (by kernel_rfl) Y Y (fun _=>Ext.app) (fun h=>by cases h) (Qd (row:= [_,_,_,_,_]) 3 Y Zde Y tZ_59)<|Do 8 Y (Zm (ov Y) (ov Y) (ZB XL Y) Y Y Y (nL Y) (Za Y) Y)<|Dd<|⟨_,h,ES [some 0,some 3,some 1,some 2]⟩
    ·
     exact Zba 5 _ _ Y (by kernel_rfl) Y Y (fun _=>Ext.app) (fun h=>by cases h) (Zbq [none] (r:=3) (f:=R4) (z0:=false) Y (ov Y) (ov Y) Zgl Y tZ4 Y Y h_l2)<|Dq 6 Y (Xw (ys:= [_,_,_,_,_]) Zk7 Zkv Zde (.cons (cvs (ov Y)<|Zn Y)<|.cons (cvs (ov Y)<|Zn Y)<|.cons (cvs (ov Y)<|Zn Y)<|.cons (cvs (ov Y)<|Zn Y) .nil) Y)<|Do 8 Y (Zm (ov Y) (ov Y) (ZB XL Y) Y Y Y (nL Y) (Za Y) Y)<|Dd<|⟨_,h,ES [some 0,some 2,some 1,some 3]⟩
   ·
    refine Zod 3 7 Y Y (by kernel_rfl) Y Y Y Y (fun _=>Ext.app) (fun _=>Ext.app) (fun h=>by cases h) (fun h=>by cases h) (Zbq [none] (r:=2) (f:=R3) (z0:=0) Y (ov Y) (ov Y) QA Y tZ3 Y Y h_l) (Qd (row:= [_,_,_,_,_]) 2 Y Zde Y tZ_59) ?_ ?_
    ·
     exact ZO 6 _ Y (by kernel_rfl) Y Y (fun hp'=>Xw (ys:= [_,_,_,_,_]) Zk7 Zkv Zde (.cons (cvs (ov Y)<|Zn Y)<|.cons (cvs (ov Y)<|Zn Y)<|.cons (cvs (ov Y)<|Zn Y)<|.cons (cvs (ov Y)<|Zn Y) .nil) Y)<|Zba 7 _ _ Y (by kernel_rfl) Y Y (fun _=>Ext.app) (fun h=>by cases h) (Qd (row:= [_,_,_,_,_]) 3 Y Zde Y tZ_59)<|Do 8 Y (Zm (ov Y) (ov Y) (ZB XL Y) Y Y Y (nL Y) (Za Y) Y)<|Dd<|⟨_,h,ES [some 0,some 3,some 2,some 1]⟩
    ·
     exact Zba 3 _ _ Y (by kernel_rfl) Y Y (fun _=>Ext.app) (fun h=>by cases h) (Zbq [none] (r:=3) (f:=R3) (z0:=0) Y (ov Y) (ov Y) QA Y tZ3 Y Y h_l)<|Dq 6 Y (Xw (ys:= [_,_,_,_,_]) Zk7 Zkv Zde (.cons (cvs (ov Y)<|Zn Y)<|.cons (cvs (ov Y)<|Zn Y)<|.cons (cvs (ov Y)<|Zn Y)<|.cons (cvs (ov Y)<|Zn Y) .nil) Y)<|Do 8 Y (Zm (ov Y) (ov Y) (ZB XL Y) Y Y Y (nL Y) (Za Y) Y)<|Dd<|⟨_,h,ES [some 0,some 2,some 3,some 1]⟩
   ·
    refine Zod 3 5 Y Y (by kernel_rfl) Y Y Y Y (fun _=>Ext.app) (fun _=>Ext.app) (fun h=>by cases h) (fun h=>by cases h) (Zbq [none] (r:=2) (f:=R3) (z0:=0) Y (ov Y) (ov Y) QA Y tZ3 Y Y h_l) (Zbq [none] (r:=2) (f:=R4) (z0:=false) Y (ov Y) (ov Y) Zgl Y tZ4 Y Y h_l2) ?_ ?_
    ·
     exact Zba 5 _ _ Y (by kernel_rfl) Y Y (fun _=>Ext.app) (fun h=>by cases h) (Zbq [none] (r:=3) (f:=R4) (z0:=false) Y (ov Y) (ov Y) Zgl Y tZ4 Y Y h_l2)<|Dq 6 Y (Xw (ys:= [_,_,_,_,_]) Zk7 Zkv Zde (.cons (cvs (ov Y)<|Zn Y)<|.cons (cvs (ov Y)<|Zn Y)<|.cons (cvs (ov Y)<|Zn Y)<|.cons (cvs (ov Y)<|Zn Y) .nil) Y)<|Do 8 Y (Zm (ov Y) (ov Y) (ZB XL Y) Y Y Y (nL Y) (Za Y) Y)<|Dd<|⟨_,h,ES [some 0,some 1,some 2,some 3]⟩
    ·
     exact Zba 3 _ _ Y (by kernel_rfl) Y Y (fun _=>Ext.app) (fun h=>by cases h) (Zbq [none] (r:=3) (f:=R3) (z0:=0) Y (ov Y) (ov Y) QA Y tZ3 Y Y h_l)<|Dq 6 Y (Xw (ys:= [_,_,_,_,_]) Zk7 Zkv Zde (.cons (cvs (ov Y)<|Zn Y)<|.cons (cvs (ov Y)<|Zn Y)<|.cons (cvs (ov Y)<|Zn Y)<|.cons (cvs (ov Y)<|Zn Y) .nil) Y)<|Do 8 Y (Zm (ov Y) (ov Y) (ZB XL Y) Y Y Y (nL Y) (Za Y) Y)<|Dd<|⟨_,h,ES [some 0,some 1,some 3,some 2]⟩
  ·
   refine I1 (fun Sectors=>⟨[(6,.ptr 0 1 0 0),(8,.ptr 1 1 0 0)],[some ⟨59,[[.int .i64 0,.int .i64 0,.nils,.nils,.nils]]⟩,some ⟨59,[[.int .i64 slots,.int .i64 limit,.own 2 Sectors.length,.own 3 Wear.length,.own 4 Bad.length]]⟩,some ⟨22,List.map O22 Sectors⟩,some ⟨3,List.map R3 Wear⟩,some ⟨4,List.map R4 Bad⟩]⟩) h (fun h=>?_) fun Sectors h=>?_
   ·
    refine Tr<|Rm Y<|Rm Y<|Zb<|Zf<|?_
    obtain⟨r1,hl1,ho1⟩:=QC h
    refine L2 (fun Sectors2 i=>⟨[(1,.int .i64 slots),(6,.ptr 0 1 0 0),(8,.ptr 1 1 0 0),(30,.int .i64 sectors),(31,.int .i64 i)],[some ⟨59,[[.int .i64 0,.int .i64 0,.nils,.nils,.nils]]⟩,some ⟨59,[[.int .i64 slots,.int .i64 limit,.own 2 Sectors2.length,.own 3 Wear.length,.own 4 Bad.length]]⟩,some ⟨22,List.map O22 Sectors2⟩,some ⟨3,List.map R3 Wear⟩,some ⟨4,List.map R4 Bad⟩]⟩) hl1 (ES [some 0,some 1,none,some 2,some 3]) fun n1 Sectors2 i h=>?_
    unfold Zbr at h
    refine Tr<|R2 ZL Y<|Zb<|Zh<|If h Y (fun h=>?_) fun h=>?_
    ·
     refine Zg<|I1 (fun Sectors3=>⟨[(1,.int .i64 slots),(6,.ptr 0 1 0 0),(8,.ptr 1 1 0 0),(30,.int .i64 sectors),(31,.int .i64 i)],[some ⟨59,[[.int .i64 0,.int .i64 0,.nils,.nils,.nils]]⟩,some ⟨59,[[.int .i64 slots,.int .i64 limit,.own 2 Sectors3.length,.own 3 Wear.length,.own 4 Bad.length]]⟩,some ⟨22,List.map O22 Sectors3⟩,some ⟨3,List.map R3 Wear⟩,some ⟨4,List.map R4 Bad⟩]⟩) h (fun h=>?_) fun Sectors3 h=>?_
     ·
      refine Zf<|K5 1 6 8 30 31 Y<|Z5 (cw:=⟨true,false,[],[],[]⟩) (by kernel_rfl)<|ZO 3 _ Y (by kernel_rfl) Y Y (fun hp'=>Zc<|ov Y)<|bE h fun y4 h_y4 h=>ZnG [0,2,4] (by kernel_rfl)<|.q Y Y Y (Ze (ov Y) Y Y Z9) (ZnG [1,2,4] (by kernel_rfl)<|.q Y Y Y (Zl (ov Y) Y Y Y Q7 Y) (Zod 2 4 Y Y (by kernel_rfl) Y Y Y Y (fun h=>by cases h) (fun h=>by cases h) (fun h=>by cases h) (fun h=>by cases h) (Zbh<|Jc Qi (.cons (cvs (ov Y)<|Zn Y) Y (.cons (.b Y) .nil) .nil) Y Y) (Zbh<|Zq (Q2 h_y4)<|.cons (ov Y) (.b Y) .nil) ?q0 ?q1)<|.w Y Y Y (fun h=>by cases h) (fun h=>by cases h) (Zbh<|Jc Qi (.cons (cvs (ov Y)<|Zn Y) Y (.cons (.b Y) .nil) .nil) Y Y) (Dw 1 4 Y (Zl (ov Y) Y Y Y Q7 Y) (Zbh<|Zq (Q2 h_y4)<|.cons (ov Y) (.b Y) .nil) ?q2 (bE h fun y5 h_y5 h=>Dw 1 5 Y (Zl (ov Y) Y Y Y Q7 Y) (Zz [] (ZJ h_y5) (.cons (ov Y) (.dat Y)<|.cons (ov Y) (.dat Y) .nil) .nil Y (.keep Y Y<|.keep Y Y<|.keep Y Y<|.keep Y Y<|.keep Y Y<|.lent 0 (Wa Y Y) Y (roM D5) .nil) Y Y<|.own _<|Wa Y Y) ?q3 (Dw 1 6 Y (Zl (ov Y) Y Y Y Q7 Y) (Xs (r:=6) Y Q3 (.cons (cvs (ov Y)<|Zn Y) Y .nil) Y Y) ?q4 ?q5)))<|.w Y Y Y (fun h=>by cases h) (fun h=>by cases h) (Zbh<|Zq (Q2 h_y4)<|.cons (ov Y) (.b Y) .nil) (Dw 1 2 Y (Zl (ov Y) Y Y Y Q7 Y) (Zbh<|Jc Qi (.cons (cvs (ov Y)<|Zn Y) Y (.cons (.b Y) .nil) .nil) Y Y) ?q6 (bE h fun y5 h_y5 h=>Dw 1 5 Y (Zl (ov Y) Y Y Y Q7 Y) (Zz [] (ZJ h_y5) (.cons (ov Y) (.dat Y)<|.cons (ov Y) (.dat Y) .nil) .nil Y (.keep Y Y<|.keep Y Y<|.keep Y Y<|.keep Y Y<|.keep Y Y<|.lent 0 (Wa Y Y) Y (roM D5) .nil) Y Y<|.own _<|Wa Y Y) ?q7 (Dw 1 6 Y (Zl (ov Y) Y Y Y Q7 Y) (Xs (r:=6) Y Q3 (.cons (cvs (ov Y)<|Zn Y) Y .nil) Y Y) ?q8 ?q9))) .nil)<|.w Y Y Y (fun h=>by cases h) (fun h=>by cases h) (Zbh<|Jc Qi (.cons (cvs (ov Y)<|Zn Y) Y (.cons (.b Y) .nil) .nil) Y Y) (Dw 0 4 Y (Ze (ov Y) Y Y Z9) (Zbh<|Zq (Q2 h_y4)<|.cons (ov Y) (.b Y) .nil) (Dw 1 4 Y (Zl (ov Y) Y Y Y Q7 Y) (Zbh<|Zq (Q2 h_y4)<|.cons (ov Y) (.b Y) .nil) ?q10 (bE h fun y5 h_y5 h=>Dw 1 5 Y (Zl (ov Y) Y Y Y Q7 Y) (Zz [] (ZJ h_y5) (.cons (ov Y) (.dat Y)<|.cons (ov Y) (.dat Y) .nil) .nil Y (.keep Y Y<|.keep Y Y<|.keep Y Y<|.keep Y Y<|.keep Y Y<|.lent 0 (Wa Y Y) Y (roM D5) .nil) Y Y<|.own _<|Wa Y Y) ?q11 (Dw 1 6 Y (Zl (ov Y) Y Y Y Q7 Y) (Xs (r:=6) Y Q3 (.cons (cvs (ov Y)<|Zn Y) Y .nil) Y Y) ?q12 ?q13))) (bE h fun y5 h_y5 h=>Dw 0 5 Y (Ze (ov Y) Y Y Z9) (Zz [] (ZJ h_y5) (.cons (ov Y) (.dat Y)<|.cons (ov Y) (.dat Y) .nil) .nil Y (.keep Y Y<|.keep Y Y<|.keep Y Y<|.keep Y Y<|.keep Y Y<|.lent 0 (Wa Y Y) Y (roM D5) .nil) Y Y<|.own _<|Wa Y Y) (Dw 1 5 Y (Zl (ov Y) Y Y Y Q7 Y) (Zz [] (ZJ h_y5) (.cons (ov Y) (.dat Y)<|.cons (ov Y) (.dat Y) .nil) .nil Y (.keep Y Y<|.keep Y Y<|.keep Y Y<|.keep Y Y<|.keep Y Y<|.lent 0 (Wa Y Y) Y (roM D5) .nil) Y Y<|.own _<|Wa Y Y) ?q14 (Dw 1 6 Y (Zl (ov Y) Y Y Y Q7 Y) (Xs (r:=6) Y Q3 (.cons (cvs (ov Y)<|Zn Y) Y .nil) Y Y) ?q15 ?q16)) (Dw 0 6 Y (Ze (ov Y) Y Y Z9) (Xs (r:=6) Y Q3 (.cons (cvs (ov Y)<|Zn Y) Y .nil) Y Y) (Dw 1 6 Y (Zl (ov Y) Y Y Y Q7 Y) (Xs (r:=6) Y Q3 (.cons (cvs (ov Y)<|Zn Y) Y .nil) Y Y) ?q17 ?q18) ?q19)))<|.w Y Y Y (fun h=>by cases h) (fun h=>by cases h) (Zbh<|Zq (Q2 h_y4)<|.cons (ov Y) (.b Y) .nil) (Dw 0 2 Y (Ze (ov Y) Y Y Z9) (Zbh<|Jc Qi (.cons (cvs (ov Y)<|Zn Y) Y (.cons (.b Y) .nil) .nil) Y Y) (Dw 1 2 Y (Zl (ov Y) Y Y Y Q7 Y) (Zbh<|Jc Qi (.cons (cvs (ov Y)<|Zn Y) Y (.cons (.b Y) .nil) .nil) Y Y) ?q20 (bE h fun y5 h_y5 h=>Dw 1 5 Y (Zl (ov Y) Y Y Y Q7 Y) (Zz [] (ZJ h_y5) (.cons (ov Y) (.dat Y)<|.cons (ov Y) (.dat Y) .nil) .nil Y (.keep Y Y<|.keep Y Y<|.keep Y Y<|.keep Y Y<|.keep Y Y<|.lent 0 (Wa Y Y) Y (roM D5) .nil) Y Y<|.own _<|Wa Y Y) ?q21 (Dw 1 6 Y (Zl (ov Y) Y Y Y Q7 Y) (Xs (r:=6) Y Q3 (.cons (cvs (ov Y)<|Zn Y) Y .nil) Y Y) ?q22 ?q23))) (bE h fun y5 h_y5 h=>Dw 0 5 Y (Ze (ov Y) Y Y Z9) (Zz [] (ZJ h_y5) (.cons (ov Y) (.dat Y)<|.cons (ov Y) (.dat Y) .nil) .nil Y (.keep Y Y<|.keep Y Y<|.keep Y Y<|.keep Y Y<|.keep Y Y<|.lent 0 (Wa Y Y) Y (roM D5) .nil) Y Y<|.own _<|Wa Y Y) (Dw 1 5 Y (Zl (ov Y) Y Y Y Q7 Y) (Zz [] (ZJ h_y5) (.cons (ov Y) (.dat Y)<|.cons (ov Y) (.dat Y) .nil) .nil Y (.keep Y Y<|.keep Y Y<|.keep Y Y<|.keep Y Y<|.keep Y Y<|.lent 0 (Wa Y Y) Y (roM D5) .nil) Y Y<|.own _<|Wa Y Y) ?q24 (Dw 1 6 Y (Zl (ov Y) Y Y Y Q7 Y) (Xs (r:=6) Y Q3 (.cons (cvs (ov Y)<|Zn Y) Y .nil) Y Y) ?q25 ?q26)) (Dw 0 6 Y (Ze (ov Y) Y Y Z9) (Xs (r:=6) Y Q3 (.cons (cvs (ov Y)<|Zn Y) Y .nil) Y Y) (Dw 1 6 Y (Zl (ov Y) Y Y Y Q7 Y) (Xs (r:=6) Y Q3 (.cons (cvs (ov Y)<|Zn Y) Y .nil) Y Y) ?q27 ?q28) ?q29))) .nil
      case q0 |q2 |q10=>exact Do 4 Y (Zbh<|Zq (Q2 h_y4)<|.cons (ov Y) (.b Y) .nil)<|bE h fun y5 h_y5 h=>Do 5 Y (Zz [] (ZJ h_y5) (.cons (ov Y) (.dat Y)<|.cons (ov Y) (.dat Y) .nil) .nil Y (.keep Y Y<|.keep Y Y<|.keep Y Y<|.keep Y Y<|.keep Y Y<|.lent 0 (Wa Y Y) Y (roM D5) .nil) Y Y<|.own _<|Wa Y Y)<|Do 6 Y (Xs (r:=6) Y Q3 (.cons (cvs (ov Y)<|Zn Y) Y .nil) Y Y)<|bE h fun l3 h_l3 h=>Do 7 Y (Q8 (f:=O22) (ov Y) (Jv (o:=⟨22,[[.own 5 y5.length]]⟩) (ov Y) Y Y tZ_22) Q3 Y Y (Za Y) Y h_l3)<|Dq 8 Y (Ze (ov Y) Y Y Z9)<|Do 9 Y (Zm (ov Y) (ov Y) (Zj Q7) Y Y Y (nL Y) (Za Y) Y)<|Jd (by kernel_rfl) (Ent.trans (Ent.absorbH (r:=2) (j:=0) (q:=5) Y (ZF h_l3) Y Y (List.length_map ..) Y)<|Ent.closeS (r:=2) Y (ZF h_l3) Y)<|⟨_,h,ES [some 0,some 1,some 2,some 3,some 4] (hhp:= .cons Y (ro1 (by exact tZ_59.symm)<|rld Y)<|.cons Y (ro1 (by exact tZ_59.symm)<|rlD Y<|rlD Y<|rlc (.own _ Y)<|rlc (.own _ Y)<|rlc (.own _ Y) rln)<|.cons Y (roO Zat)<|.cons Y (roM D3)<|.cons Y (roM D4) .nil)⟩
      case q1 |q6 |q20=>exact Zba 2 (.sl 5<|List.map R5 ([255]:List Int)) _ Y (by kernel_rfl) Y Y (fun h=>by cases h) (fun h=>by cases h) (Zbh<|Jc Qi (.cons (cvs (ov Y)<|Zn Y) Y (.cons (.b Y) .nil) .nil) Y Y)<|bE h fun y5 h_y5 h=>Do 5 Y (Zz [] (ZJ h_y5) (.cons (ov Y) (.dat Y)<|.cons (ov Y) (.dat Y) .nil) .nil Y (.keep Y Y<|.keep Y Y<|.keep Y Y<|.keep Y Y<|.keep Y Y<|.lent 0 (Wa Y Y) Y (roM D5) .nil) Y Y<|.own _<|Wa Y Y)<|Do 6 Y (Xs (r:=6) Y Q3 (.cons (cvs (ov Y)<|Zn Y) Y .nil) Y Y)<|bE h fun l3 h_l3 h=>Do 7 Y (Q8 (f:=O22) (ov Y) (Jv (o:=⟨22,[[.own 5 y5.length]]⟩) (ov Y) Y Y tZ_22) Q3 Y Y (Za Y) Y h_l3)<|Dq 8 Y (Ze (ov Y) Y Y Z9)<|Do 9 Y (Zm (ov Y) (ov Y) (Zj Q7) Y Y Y (nL Y) (Za Y) Y)<|Jd (by kernel_rfl) (Ent.trans (Ent.absorbH (r:=2) (j:=0) (q:=5) Y (ZF h_l3) Y Y (List.length_map ..) Y)<|Ent.closeS (r:=2) Y (ZF h_l3) Y)<|⟨_,h,ES [some 0,some 1,some 2,some 3,some 4] (hhp:= .cons Y (ro1 (by exact tZ_59.symm)<|rld Y)<|.cons Y (ro1 (by exact tZ_59.symm)<|rlD Y<|rlD Y<|rlc (.own _ Y)<|rlc (.own _ Y)<|rlc (.own _ Y) rln)<|.cons Y (roO Zat)<|.cons Y (roM D3)<|.cons Y (roM D4) .nil)⟩
      case q3 |q7 |q11 |q14 |q21 |q24=>exact Do 5 Y (Zz [] (ZJ h_y5) (.cons (ov Y) (.dat Y)<|.cons (ov Y) (.dat Y) .nil) .nil Y (.keep Y Y<|.keep Y Y<|.keep Y Y<|.keep Y Y<|.keep Y Y<|.lent 0 (Wa Y Y) Y (roM D5) .nil) Y Y<|.own _<|Wa Y Y)<|Do 6 Y (Xs (r:=6) Y Q3 (.cons (cvs (ov Y)<|Zn Y) Y .nil) Y Y)<|bE h fun l3 h_l3 h=>Do 7 Y (Q8 (f:=O22) (ov Y) (Jv (o:=⟨22,[[.own 5 y5.length]]⟩) (ov Y) Y Y tZ_22) Q3 Y Y (Za Y) Y h_l3)<|Dq 8 Y (Ze (ov Y) Y Y Z9)<|Do 9 Y (Zm (ov Y) (ov Y) (Zj Q7) Y Y Y (nL Y) (Za Y) Y)<|Jd (by kernel_rfl) (Ent.trans (Ent.absorbH (r:=2) (j:=0) (q:=5) Y (ZF h_l3) Y Y (List.length_map ..) Y)<|Ent.closeS (r:=2) Y (ZF h_l3) Y)<|⟨_,h,ES [some 0,some 1,some 2,some 3,some 4] (hhp:= .cons Y (ro1 (by exact tZ_59.symm)<|rld Y)<|.cons Y (ro1 (by exact tZ_59.symm)<|rlD Y<|rlD Y<|rlc (.own _ Y)<|rlc (.own _ Y)<|rlc (.own _ Y) rln)<|.cons Y (roO Zat)<|.cons Y (roM D3)<|.cons Y (roM D4) .nil)⟩
      case q4 |q8 |q12 |q15 |q17 |q22 |q25 |q27=>exact Do 6 Y (Xs (r:=6) Y Q3 (.cons (cvs (ov Y)<|Zn Y) Y .nil) Y Y)<|bE h fun l3 h_l3 h=>Do 7 Y (Q8 (f:=O22) (ov Y) (Jv (o:=⟨22,[[.own 5 y5.length]]⟩) (ov Y) Y Y tZ_22) Q3 Y Y (Za Y) Y h_l3)<|Dq 8 Y (Ze (ov Y) Y Y Z9)<|Do 9 Y (Zm (ov Y) (ov Y) (Zj Q7) Y Y Y (nL Y) (Za Y) Y)<|Jd (by kernel_rfl) (Ent.trans (Ent.absorbH (r:=2) (j:=0) (q:=5) Y (ZF h_l3) Y Y (List.length_map ..) Y)<|Ent.closeS (r:=2) Y (ZF h_l3) Y)<|⟨_,h,ES [some 0,some 1,some 2,some 3,some 4] (hhp:= .cons Y (ro1 (by exact tZ_59.symm)<|rld Y)<|.cons Y (ro1 (by exact tZ_59.symm)<|rlD Y<|rlD Y<|rlc (.own _ Y)<|rlc (.own _ Y)<|rlc (.own _ Y) rln)<|.cons Y (roO Zat)<|.cons Y (roM D3)<|.cons Y (roM D4) .nil)⟩
      case q5 |q9 |q13 |q16 |q18 |q23 |q26 |q28=>exact Dq 1 Y (Zl (ov Y) Y Y Y Q7 Y)<|bE h fun l3 h_l3 h=>Do 7 Y (Q8 (f:=O22) (ov Y) (Jv (o:=⟨22,[[.own 5 y5.length]]⟩) (ov Y) Y Y tZ_22) Q3 Y Y (Za Y) Y h_l3)<|Dq 8 Y (Ze (ov Y) Y Y Z9)<|Do 9 Y (Zm (ov Y) (ov Y) (Zj Q7) Y Y Y (nL Y) (Za Y) Y)<|Jd (by kernel_rfl) (Ent.trans (Ent.absorbH (r:=2) (j:=0) (q:=5) Y (ZF h_l3) Y Y (List.length_map ..) Y)<|Ent.closeS (r:=2) Y (ZF h_l3) Y)<|⟨_,h,ES [some 0,some 1,some 2,some 3,some 4] (hhp:= .cons Y (ro1 (by exact tZ_59.symm)<|rld Y)<|.cons Y (ro1 (by exact tZ_59.symm)<|rlD Y<|rlD Y<|rlc (.own _ Y)<|rlc (.own _ Y)<|rlc (.own _ Y) rln)<|.cons Y (roO Zat)<|.cons Y (roM D3)<|.cons Y (roM D4) .nil)⟩
      case q19 |q29=>exact Dq 0 Y (Ze (ov Y) Y Y Z9)<|Dq 1 Y (Zl (ov Y) Y Y Y Q7 Y)<|bE h fun l3 h_l3 h=>Do 7 Y (Q8 (f:=O22) (ov Y) (Jv (o:=⟨22,[[.own 5 y5.length]]⟩) (ov Y) Y Y tZ_22) Q3 Y Y (Za Y) Y h_l3)<|Dq 8 Y (Ze (ov Y) Y Y Z9)<|Do 9 Y (Zm (ov Y) (ov Y) (Zj Q7) Y Y Y (nL Y) (Za Y) Y)<|Jd (by kernel_rfl) (Ent.trans (Ent.absorbH (r:=2) (j:=0) (q:=5) Y (ZF h_l3) Y Y (List.length_map ..) Y)<|Ent.closeS (r:=2) Y (ZF h_l3) Y)<|⟨_,h,ES [some 0,some 1,some 2,some 3,some 4] (hhp:= .cons Y (ro1 (by exact tZ_59.symm)<|rld Y)<|.cons Y (ro1 (by exact tZ_59.symm)<|rlD Y<|rlD Y<|rlc (.own _ Y)<|rlc (.own _ Y)<|rlc (.own _ Y) rln)<|.cons Y (roO Zat)<|.cons Y (roM D3)<|.cons Y (roM D4) .nil)⟩
     ·
      exact Zo<|R2 ZI Y<|Rm Y<|Zb<|⟨_,h,ES [some 0,some 1,some 2,some 3,some 4] (hhp:= .cons Y (ro1 (by exact tZ_59.symm)<|rld Y)<|.cons Y (ro1 (by exact tZ_59.symm)<|rlD Y<|rlD Y<|rlc (.own _ Y)<|rlc (.own _ Y)<|rlc (.own _ Y) rln)<|.cons Y (roO Zat)<|.cons Y (roM D3)<|.cons Y (roM D4) .nil)⟩
    ·
     refine ZA<|?_
     replace h:=lx h▸ho1
     exact⟨_,h,ES [some 0,some 1,some 2,some 3,some 4] (hhp:= .cons Y (ro1 (by exact tZ_59.symm)<|rld Y)<|.cons Y (ro1 (by exact tZ_59.symm)<|rlD Y<|rlD Y<|rlc (.own _ Y)<|rlc (.own _ Y)<|rlc (.own _ Y) rln)<|.cons Y (roO Zat)<|.cons Y (roM D3)<|.cons Y (roM D4) .nil)⟩
   ·
    refine Tr<|Rq Y (Qt (ov Y) Y Y Y XL Y Y)<|Rx Y (Zm (ov Y) (ov Y) (ZB XL Y) Y Y Y (nL Y) (Za Y) Y)<|Rz Y<|?_
    obtain rfl:=rt h
    exact Zk (ZK Y (.two (.agg Y Y Y Y XL Y Y<|.cons (Dat.view<|.b Y)<|.cons (Dat.view<|.b Y)<|.cons (View.ownO Y Y Zat (fun x=>(D22 x).1) ZqB)<|.cons (View.ownM Y Y D3)<|.cons (View.ownM Y Y D4) .nil)<|rb Y))
end Go.Proofs.YtgohgnaapbpggaaGreatDoor
