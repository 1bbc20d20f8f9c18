/- A text of the proof: a verified executor of the program form, or the contracts of the functions that the law reaches. -/
import Derived.Test.YtailpehcgelmdaaGreatDoorOkSc
set_option linter.all false
namespace Go.Proofs.YtailpehcgelmdaaGreatDoor
open Go Go.Vx
set_option maxRecDepth 10000
set_option maxHeartbeats 1000000
set_option linter.unusedVariables false
theorem ZfG{p:api_Panel}{r:api_PanelState}(h:Xa p=some r):
 GSpec Tryz.prog gl0 40 [.agg [.sl 49 (List.map R49 p.Instruments)]] [] (.agg [.int .i64 r.Frame,.own 0 r.Memos.length]) [some ⟨99,List.map R99 r.Memos⟩]:=by
 unfold Xa at h
 replace h:=Z9 h
 refine XJ (by kernel_rfl) Tryz.func40 Y Y<|?_
 intro w0 A W φ0
 refine Tr<|Rq Y (Qn (cva<|ov Y) Y tZ_24 Y)<|Rx Y (Z8 (row:= [_,_]) 0 Y Zhw Y tZ_44)<|Za<|K2 1 2 Y<|Tr<|Rq Y (Ze (ov Y) Zba)<|Rq Y (Zc (ov Y) Zfq Y)<|Rl tZ_49 Zc1 Y<|bE h fun l h_l h=>Rx Y (ZjJ [none,none,none,none,some 3] (r:=1) (f:=R99) (z0:=(api_Memo.mk false false 0 0 [])) Y (ov Y) (ov Y) Zfm Y Zk7 Y Y h_l)<|Rq Y (ZaC (ys:= [_,_]) ZkY Zk3 Zhw (.cons (cvs (ov Y)<|ZX Y)<|.cons (cvs (ov Y)<|ZX Y) .nil) Y)<|Rx Y (Zq (ov Y) (ov Y) (ZE ZaO Y) Y Y Y (Nat.le_of_ble_eq_true Y) (Zd Y) Y)<|Za<|?_
 obtain rfl:=rt h
 exact Zj<|ZcQ [some 1] Y (.cons (.agg Y Y Y Y ZaO Y Y) .nil) (.cons Y (roM D99) .nil) Y Y<|ZcR<|rlc (.dat Y)<|rlc (.own _ Y) rln
theorem Zeb{s:api_PanelState}{r:api_PanelState}(h:Z5 s=some r):
 GSpec Tryz.prog gl0 42 [.agg [.int .i64 s.Frame,.sl 99 (List.map R99 s.Memos)]] [] (.agg [.int .i64 r.Frame,.own 0 r.Memos.length]) [some ⟨99,List.map R99 r.Memos⟩]:=by
 unfold Z5 at h
 replace h:=Z9 h
 refine XJ (by kernel_rfl) Tryz.func42 Y Y<|?_
 intro w0 A W φ0
 refine Tr<|Rx Y (Zjn 0 Y (ov Y) ZaO Y)<|Rx Y (Z8 (row:= [_,_]) 1 Y Zhw Y tZ_44)<|Za<|K2 1 2 Y<|Tr<|Rq Y (Zb (ov Y) Y Y Za5)<|Rq Y (Zo (ov Y) Y Y Y Zft Y)<|bE h fun y h_y h=>Rx Y (Q0 [] (Zfw h_y) (.cons (ov Y) (.dat Y) .nil) .nil Y (.keep Y Y<|.keep Y Y<|.lent 0 (.inr ⟨Nat.le_of_ble_eq_true Y,Y⟩) Y (roM D99) .nil) Y Y<|.own _<|.inr ⟨Nat.le_of_ble_eq_true Y,Y⟩)<|Rq Y (Zb (ov Y) Y Y Za5)<|Rx Y (Zq (ov Y) (ov Y) (Zv Zft) Y Y Y (Nat.le_of_ble_eq_true Y) (Zd Y) Y)<|Za<|I1 (fun Memos=>⟨[(1,.ptr 0 1 0 0),(2,.ptr 2 1 0 0)],[some ⟨44,[[.int .i64 s.Frame,.own 1 Memos.length]]⟩,some ⟨99,List.map R99 Memos⟩,some ⟨44,[[.int .i64 0,.nils]]⟩]⟩) h (fun h=>?_) fun Memos h=>?_
 ·
  refine K2 1 2 Y<|Tr<|Rq Y (Zb (ov Y) Y Y Za5)<|Rq Y (Zo (ov Y) Y Y Y Zft Y)<|Rq Y (Zef (ov Y) Y Y Zfm)<|Rm Y<|Za<|Zr<|?_
  obtain⟨r1,hl1,ho1⟩:=Zay h
  refine L2 (fun Memos2 i=>⟨[(1,.ptr 0 1 0 0),(2,.ptr 2 1 0 0),(10,.int .i64 (y.length:Int)),(11,.int .i64 i)],[some ⟨44,[[.int .i64 s.Frame,.own 1 Memos2.length]]⟩,some ⟨99,List.map R99 Memos2⟩,some ⟨44,[[.int .i64 0,.nils]]⟩]⟩) hl1 (ES [some 0,some 2,some 1]) fun n1 Memos2 i h=>?_
  unfold Qd at h
  refine Tr<|R2 QE Y<|Za<|Zt<|If h Y (fun h=>?_) fun h=>?_
  ·
   exact Zf<|Zt<|Zr<|K4 1 2 10 11 Y<|Tr<|Rm Y<|Ra Y<|Za<|K5 1 2 3 10 11 Y<|Zc6 (cw:=md0) (by kernel_rfl)<|Dq 0 Y (Zb (ov Y) Y Y Za5)<|Dq 1 Y (Zo (ov Y) Y Y Y Zft Y)<|D1 2 Zg Y<|Dq 3 Y (Zb (ov Y) Y Y Za5)<|Dq 4 Y (Zo (ov Y) Y Y Y Zft Y)<|D1 5 Zg Y<|bE h fun x h_x h=>Dq 6 Y (Zdv (ov Y) (ov Y) Zfm Y Y h_x)<|Dq 7 Y (J2 (ov Y) Y Y Zdy)<|Dq 8 Y (Zd0 (ov Y) Y Y h_x ZhO Y)<|bE h fun y2 h_y2 h=>Dq 9 Y (Zm (ZhC h_y2)<|.cons (ov Y) (.b Y) .nil)<|bE h fun x2 h_x2 h=>Dq 10 Y (Zdv (ov Y) (ov Y) Zfm Y Y h_x2)<|Dq 11 Y (J2 (ov Y) Y Y Zdy)<|Do 12 Y (Zd8 (u':=(api_Memo.mk x2.Lit x2.Some x2.N x2.Count y2)) (ov Y) (ov Y) (Zv ZhO) Y Y h_x2 Y (Zd Y) Y)<|Dd<|K4 1 2 10 11 Y<|ZH<|R2 Jh Y<|Rm Y<|Za<|⟨_,h,ES [some 0,some 1,some 2] (hhp:= .cons Y (ro1 (by exact tZ_44.symm)<|rlc (.dat Y)<|rlc (ZkD (Eq.symm<|(List.length_set ..).trans Y) Y) rln)<|.cons Y (roM D99)<|.cons Y (ro1 (by exact tZ_44.symm)<|rld Y) .nil)⟩
  ·
   refine Z3<|?_
   replace h:=lx h▸ho1
   exact⟨_,h,ES [some 0,some 1,some 2]⟩
 ·
  refine Tr<|Rq Y (Qk (ov Y) Y Y Y ZaO Y Y)<|Rx Y (Zq (ov Y) (ov Y) (ZE ZaO Y) Y Y Y (Nat.le_of_ble_eq_true Y) (Zd Y) Y)<|Za<|?_
  obtain rfl:=rt h
  exact Zj<|ZcQ [some 1] Y (.cons (.agg Y Y Y Y ZaO Y Y) .nil) (.cons Y (roM D99) .nil) Y Y<|ZcR<|rlc (.dat Y)<|rlc (.own _ Y) rln
theorem Zbc{s:api_PanelState}{c0:Int}{c1:api_PanelState}{r:api_PanelState}(h:QD s c0 c1=some r):
 GSpec Tryz.prog gl0 41 [.agg [.int .i64 s.Frame,.sl 99 (List.map R99 s.Memos)],.rp [.int .i64 c0] 0,.ptr 0 1 0 0] [some ⟨44,[[.int .i64 c1.Frame,.own 1 c1.Memos.length]]⟩,some ⟨99,List.map R99 c1.Memos⟩] (.tuple []) [some ⟨44,[[.int .i64 r.Frame,.own 2 r.Memos.length]]⟩,none,some ⟨99,List.map R99 r.Memos⟩]:=by
 unfold QD at h
 replace h:=Z9 h
 refine XJ (by kernel_rfl) Tryz.func41 Y Y<|?_
 intro w0 A W φ0
 refine Zdf (Ent.sel [some 0,some 1,some 1] (sr 0 Y (ZcR<|rld Y)<|sd 1 Y Y<|sr 2 Y (.ptr (r':=0) _ _ _ Y) sn) (.cons Y (ro1 (by exact tZ_44.symm)<|rlc (.dat Y)<|rlc (.own (r':=2) _ Y) rln)<|.dead<|.cons Y (roM D99) .nil) Y Y)<|Tr<|Rq Y (Qn (cva<|ov Y) Y tZ_44 Y)<|Za<|K3 1 2 3 Y<|Tr<|Rq Y (Ze (ov Y) Zbg)<|Rq Y (Zc (ov Y) tS3 Y)<|Rq Y (Zc (ov Y) tS3 Y)<|R2 ZcL Y<|Rm Y<|Rq Y (.guarded ((decide (s.Frame≤c0))==true) Y Y Y Y fun h=>Ze (ov Y) Zbg)<|Rq Y (.guarded ((decide (s.Frame≤c0))==true) Y Y Y Y fun h=>Zc (ow Y h) tS3 Y)<|Rq Y (.guarded ((decide (s.Frame≤c0))==true) Y Y Y Y fun h=>Zb (ov Y) Y Y Zbg)<|Rq Y (.guarded ((decide (s.Frame≤c0))==true) Y Y Y Y fun h=>Zo (ow Y h) Y Y Y tS3 Y)<|Rq Y (.guarded ((decide (s.Frame≤c0))==true) Y Y Y Y fun h=>JC (ow Y h)<|ow Y h)<|Rq Y (XT (ov Y) fun hp=>ow Y<|gT hp)<|Za<|K3 2 3 14 Y<|If h Y (fun h=>?_) fun h=>?_
 ·
  refine K2 2 3 Y<|ZH<|Rq Y (ZB (ov Y) ZaO Y Y)<|bE h fun y h_y h=>Rx Y (Q0 [] (Zeb h_y) (.cons (ov Y) (ZcR<|rld Y) .nil) .nil Y (.keep Y Y<|.none<|.keep Y Y<|.lent 0 (.inr ⟨Nat.le_of_ble_eq_true Y,Y⟩) Y (roM D99) .nil) Y Y<|ZcR<|rlc (.dat Y)<|rlc (.own _<|.inr ⟨Nat.le_of_ble_eq_true Y,Y⟩) rln)<|Rx Y (Zq (ov Y) (ov Y) (ZE ZaO Y) Y Y Y (Nat.le_of_ble_eq_true Y) (Zd Y) Y)<|Za<|?_
  obtain rfl:=rt h
  exact ZjM [some 0,some 1,some 3] Y .nil (.cons Y (ro1 (by exact tZ_44.symm)<|rlc (.dat Y)<|rlc (.own _ Y) rln)<|.dead<|.cons Y (roM D99) .nil) Y Y<|Zb4 rln
 ·
  refine Zf<|?_
  obtain rfl:=rt h
  exact ZjM [some 0,some 1,some 2] Y .nil (.cons Y (ro1 (by exact tZ_44.symm)<|rlc (.dat Y)<|rlc (.own _ Y) rln)<|.dead<|.cons Y (roM D99) .nil) Y Y<|Zb4 rln
theorem ZbM{r_:panel_Replay}{frame:Int}{r:Int×Bool}(h:ZP r_ frame=some r):
 GSpec Tryz.prog gl0 43 [.ptr 0 1 0 0,.int .i64 frame] [some ⟨91,[[.sl 49 (List.map R49 r_.p.Instruments),.sl 54 (List.map R54 r_.l),.int .i64 r_.keep,.int .i64 r_.state.Frame,.sl 99 (List.map R99 r_.state.Memos),.own 1 r_.kept.length,.own 2 r_.marks.length]]⟩,some ⟨44,List.map R44 r_.kept⟩,some ⟨120,List.map R120 r_.marks⟩] (.tuple [.int .i64 r.1,.bool r.2]) [some ⟨91,[[.sl 49 (List.map R49 r_.p.Instruments),.sl 54 (List.map R54 r_.l),.int .i64 r_.keep,.int .i64 r_.state.Frame,.sl 99 (List.map R99 r_.state.Memos),.own 3 r_.kept.length,.own 4 r_.marks.length]]⟩,none,none,some ⟨44,List.map R44 r_.kept⟩,some ⟨120,List.map R120 r_.marks⟩]:=by
 unfold ZP at h
 replace h:=Z9 h
 refine XJ (by kernel_rfl) Tryz.func43 Y Y<|?_
 intro w0 A W φ0
 refine Zdf (Ent.sel [some 0,some 1,some 2,some 1,some 2] (sr 0 Y (.ptr (r':=0) _ _ _ Y)<|sd 1 Y Y sn) (.cons Y (ro1 (by exact tZ_91.symm)<|rlc (.dat Y)<|rlc (.dat Y)<|rlc (.dat Y)<|rlc (.dat Y)<|rlc (.dat Y)<|rlc (.own (r':=3) _ Y)<|rlc (.own (r':=4) _ Y) rln)<|.dead<|.dead<|.cons Y (roM D44)<|.cons Y (roM D120) .nil) Y Y)<|Tr<|Ra Y<|Ra Y<|Za<|Tr<|Rm Y<|Rq Y (Zi (ov Y) Y Y)<|Rq Y (Zb (ov Y) Y Y Qx)<|Rq Y (Zo (ov Y) Y Y Y Jp Y)<|Rm Y<|bE h fun y h_y h=>Rq Y (Zfy (Z2 Y (fun z0 z1 _ hz=>ZaJ hz) h_y) (.tuple<|by simp only [List.mem_cons,List.not_mem_nil,or_false,forall_eq_or_imp,forall_eq];exact⟨.int,.bool⟩)<|.cons (ov Y) (View.ownM Y Y D44)<|.cons (ov Y) (Dat.view<|.b Y)<|.cons (ov Y) (Dat.view .fn) .nil)<|Rq Y (Zx (ov Y) Y)<|Rq Y (Zx (ov Y) Y)<|Ra Y<|Ra Y<|Za<|?_
 obtain rfl:=rt h
 exact Zj<|ZcQ [some 0,some 1,some 2,some 3,some 4] Y (.cons (.tmp Y)<|.cons (.tmp Y) .nil) (.cons Y (ro1 (by exact tZ_91.symm)<|rlc (.dat Y)<|rlc (.dat Y)<|rlc (.dat Y)<|rlc (.dat Y)<|rlc (.dat Y)<|rlc (.own _ Y)<|rlc (.own _ Y) rln)<|.dead<|.dead<|.cons Y (roM D44)<|.cons Y (roM D120) .nil) Y Y<|Zb4<|rlc (.dat Y)<|rlc (.dat Y) rln
theorem Za2{r_:panel_Replay}{n:Int}{r:panel_Replay}(h:QR r_ n=some r):
 GSpec Tryz.prog gl0 44 [.ptr 0 1 0 0,.int .i64 n] [some ⟨91,[[.sl 49 (List.map R49 r_.p.Instruments),.sl 54 (List.map R54 r_.l),.int .i64 r_.keep,.int .i64 r_.state.Frame,.own 1 r_.state.Memos.length,.own 2 r_.kept.length,.own 3 r_.marks.length]]⟩,some ⟨99,List.map R99 r_.state.Memos⟩,some ⟨44,List.map R44 r_.kept⟩,some ⟨120,List.map R120 r_.marks⟩] (.tuple []) [some ⟨91,[[.sl 49 (List.map R49 r.p.Instruments),.sl 54 (List.map R54 r.l),.int .i64 r.keep,.int .i64 r.state.Frame,.sl 99 (List.map R99 r.state.Memos),.own 4 r.kept.length,.own 5 r.marks.length]]⟩,none,none,none,some ⟨44,List.map R44 r.kept⟩,some ⟨120,List.map R120 r.marks⟩]:=by
 unfold QR at h
 replace h:=Z9 h
 refine XJ (by kernel_rfl) Tryz.func44 Y Y<|?_
 intro w0 A W φ0
 refine Zdf (Ent.sel [some 0,some 1,some 2,some 3,some 1,some 2,some 3] (sr 0 Y (.ptr (r':=0) _ _ _ Y)<|sd 1 Y Y sn) (.cons Y (ro1 (by exact tZ_91.symm)<|rlc (.dat Y)<|rlc (.dat Y)<|rlc (.dat Y)<|rlc (.dat Y)<|rlc (.own (r':=4) _ Y)<|rlc (.own (r':=5) _ Y)<|rlc (.own (r':=6) _ Y) rln)<|.dead<|.dead<|.dead<|.cons Y (roM D99)<|.cons Y (roM D44)<|.cons Y (roM D120) .nil) Y Y)<|Tr<|Rm Y<|Rm Y<|Za<|Zr<|?_
 obtain⟨r1,hl1,ho1⟩:=Zay h
 refine L3 (fun state kept i=>⟨[(0,.ptr 0 1 0 0),(6,.int .i64 n),(7,.int .i64 i)],[some ⟨91,[[.sl 49 (List.map R49 r_.p.Instruments),.sl 54 (List.map R54 r_.l),.int .i64 r_.keep,.int .i64 state.Frame,.sl 99 (List.map R99 state.Memos),.own 4 kept.length,.own 5 r_.marks.length]]⟩,none,none,none,some ⟨44,List.map R44 kept⟩,some ⟨120,List.map R120 r_.marks⟩]⟩) hl1 (ES [some 0,some 1,some 2,some 3,some 5,some 6] (hhp:= .cons Y (ro1 (by exact tZ_91.symm)<|rlc (.dat Y)<|rlc (.dat Y)<|rlc (.dat Y)<|rlc (.dat Y)<|rlc (ZgH Y Y Y D99)<|rlc (.own _ Y)<|rlc (.own _ Y) rln)<|.dead<|.dead<|.dead<|.cons Y (roM D44)<|.cons Y (roM D120) .nil)) fun n1 state kept i h=>?_
 unfold Z7 at h
 refine Tr<|R2 QE Y<|Za<|Zt<|If h Y (fun h=>?_) fun h=>?_
 ·
  refine Zf<|I3 (fun Frame2 Memos2 kept2=>⟨[(0,.ptr 0 1 0 0),(6,.int .i64 n),(7,.int .i64 i)],[some ⟨91,[[.sl 49 (List.map R49 r_.p.Instruments),.sl 54 (List.map R54 r_.l),.int .i64 r_.keep,.int .i64 Frame2,.sl 99 (List.map R99 Memos2),.own 4 kept2.length,.own 5 r_.marks.length]]⟩,none,none,none,some ⟨44,List.map R44 kept2⟩,some ⟨120,List.map R120 r_.marks⟩]⟩) h (fun h=>?_) fun Frame2 Memos2 kept2 h=>?_
  ·
   refine Zr<|K3 0 6 7 Y<|Td ⟨true,false,[],[],[]⟩<|D1 1 Zg Y<|Dq 2 Y (Zi (ov Y) Y Y)<|Dq 3 Y (Zb (ov Y) Y Y ZhU)<|Dq 4 Y (Qk (ov Y) Y Y Y ZeY Y Y)<|D1 5 Zg Y<|Dq 6 Y (Zi (ov Y) Y Y)<|Dq 7 Y (Zb (ov Y) Y Y Zi2)<|Dq 8 Y (Zo (ov Y) Y Y Y Zkp Y)<|D1 9 Zg Y<|Dq 10 Y (Zi (ov Y) Y Y)<|Dq 11 Y (Zb (ov Y) Y Y Za7)<|Dq 12 Y (Qk (ov Y) Y Y Y ZaO Y Y)<|ZbH 0 _ Y (by kernel_rfl) Y Y (fun hp'=>Zg<|ov Y)<|bE h fun y h_y h=>Do 13 Y (Q0 [] (Zcy h_y) (.cons (ov Y) (ZcR<|rld Y)<|.cons (ov Y) (.dat Y)<|.cons (ov Y) (ZcR<|rld Y) .nil) .nil Y (.keep Y Y<|.none<|.none<|.none<|.keep Y Y<|.keep Y Y<|.lent 0 (.inr ⟨Nat.le_of_ble_eq_true Y,Y⟩) Y (roM D99) .nil) Y Y<|ZcR<|rlc (.dat Y)<|rlc (.own _<|.inr ⟨Nat.le_of_ble_eq_true Y,Y⟩) rln)<|Dq 14 Y (Zi (ov Y) Y Y)<|Dq 15 Y (Zb (ov Y) Y Y Za7)<|Do 16 Y (Zq (ov Y) (ov Y) (ZE ZaO Y) Y Y Y (Nat.le_of_ble_eq_true Y) (Zd Y) Y)<|Dd<|Zt<|K3 0 6 7 Y<|Td md0<|D1 0 Zg Y<|Dq 1 Y (Zi (ov Y) Y Y)<|Dq 2 Y (Zb (ov Y) Y Y Za7)<|Dq 3 Y (Zb (ov Y) Y Y Zbg)<|Dq 4 Y (Zo (ov Y) Y Y Y tS3 Y)<|D1 5 Zg Y<|Dq 6 Y (Zi (ov Y) Y Y)<|Dq 7 Y (Zb (ov Y) Y Y Zig)<|Dq 8 Y (Zo (ov Y) Y Y Y tS3 Y)<|bE h fun q h_q h=>Dq 9 Y (Zie (ov Y) (ov Y) h_q)<|D1 10 Zg Y<|Dq 11 Y (Zi (ov Y) Y Y)<|Dq 12 Y (Zb (ov Y) Y Y Zig)<|Dq 13 Y (Zo (ov Y) Y Y Y tS3 Y)<|D2 14 Zda Y<|D2 15 Jz Y<|Dd<|K4 0 6 7 40 Y<|If h Y (fun h=>?_) fun h=>?_
   ·
    exact Z3<|⟨_,h,ES [some 0,some 1,some 2,some 3,some 4,some 5] (hhp:= .cons Y (ro1 (by exact tZ_91.symm)<|rlc (.dat Y)<|rlc (.dat Y)<|rlc (.dat Y)<|rlc (.dat Y)<|rlc (ZgH Y Y Y D99)<|rlc (.own _ Y)<|rlc (.own _ Y) rln)<|.dead<|.dead<|.dead<|.cons Y (roM D44)<|.cons Y (roM D120) .nil)⟩
   ·
    refine Zf<|K3 0 6 7 Y<|Tr<|Rm Y<|Rm Y<|Rq Y (Zi (ov Y) Y Y)<|Rq Y (Zb (ov Y) Y Y Za7)<|Rq Y (Zb (ov Y) Y Y Zbg)<|Rq Y (Zo (ov Y) Y Y Y tS3 Y)<|bE h fun y2 h_y2 h=>Rx Y (Q0 [0,6,4,5] (JD h_y2) (.cons (ov Y) (.ptr _ _ _ Y)<|.cons (ov Y) (.dat Y) .nil) (.cons Y (ro1 (by exact tZ_91.symm)<|rlc (.dat Y)<|rlc (.dat Y)<|rlc (.dat Y)<|rlc (.dat Y)<|rlc (.own _ Y)<|rlc (.own _ Y)<|rlc (.own _ Y) rln)<|.cons Y (roM D99)<|.cons Y (roM D44)<|.cons Y (roM D120) .nil) Y (.lent 0 (.inl Y) Y (ro1 (by exact tZ_91.symm)<|rlc (.dat Y)<|rlc (.dat Y)<|rlc (.dat Y)<|rlc (.dat Y)<|rlc (.own _<|.inr ⟨Nat.le_of_ble_eq_true Y,Y⟩)<|rlc (.own _<|.inr ⟨Nat.le_of_ble_eq_true Y,Y⟩)<|rlc (.own _<|.inr ⟨Nat.le_of_ble_eq_true Y,Y⟩) rln)<|.none<|.none<|.none<|.none<|.none<|.none<|.lent 4 (.inr ⟨Nat.le_of_ble_eq_true Y,Y⟩) Y (roM D99)<|.lent 5 (.inr ⟨Nat.le_of_ble_eq_true Y,Y⟩) Y (roM D44)<|.lent 6 (.inr ⟨Nat.le_of_ble_eq_true Y,Y⟩) Y (roM D120) .nil) Y Y<|Zb4<|rld Y)<|Rm Y<|Rq Y (Zx (ov Y) Y)<|Rq Y (Zx (ov Y) Y)<|Ra Y<|Ra Y<|Za<|K5 0 4 5 6 7 Y<|Tr<|Rm Y<|R1 Xt Y<|Za<|K5 0 4 6 7 52 Y<|If h Y (fun h=>?_) fun h=>?_
    ·
     refine K4 0 4 6 7 Y<|Zdf (Ent.sel [some 0,some 1,some 2,some 3,some 4,some 5,some 6,none,some 8,some 9] (sr 0 Y (.ptr (r':=0) _ _ _ Y)<|sd 4 Y Y<|sd 6 Y Y<|sd 7 Y Y sn) (.cons Y (ro1 (by exact tZ_91.symm)<|rlc (.dat Y)<|rlc (.dat Y)<|rlc (.dat Y)<|rlc (.dat Y)<|rlc (ZgH Y Y Y D99)<|rlc (.own (r':=8) _ Y)<|rlc (.own (r':=9) _ Y) rln)<|.dead<|.dead<|.dead<|.dead<|.dead<|.dead<|.row 99<|.cons Y (roM D44)<|.cons Y (roM D120) .nil) Y Y)<|Zc6 (cw:=⟨true,false,[],[],[]⟩) (by kernel_rfl)<|D1 6 Zg Y<|Dq 7 Y (Zi (ov Y) Y Y)<|Dq 8 Y (Zb (ov Y) Y Y Za7)<|Dq 9 Y (Qk (ov Y) Y Y Y ZaO Y Y)<|ZbH 0 _ Y (by kernel_rfl) Y Y (fun hp'=>Zg<|ov Y)<|ZbH 1 _ Y (by kernel_rfl) Y Y (fun hp'=>Zg<|ov Y)<|ZbH 5 _ Y (by kernel_rfl) Y Y (fun hp'=>Zg<|ov Y)<|bE h fun y3 h_y3 h=>Dw 2 10 Y (Zi (ov Y) Y Y) (Zed<|Zm (Qw h_y3)<|.cons (ov Y) (.aggB Y) .nil) ?_ ?_
     ·
      refine Dw 3 10 Y (Zb (ov Y) Y Y Qx) (Zed<|Zm (Qw h_y3)<|.cons (ov Y) (.aggB Y) .nil) ?_ ?_
      ·
       refine Dw 4 10 Y (Zo (ov Y) Y Y Y Jp Y) (Zed<|Zm (Qw h_y3)<|.cons (ov Y) (.aggB Y) .nil) ?_ ?_
       ·
        exact Do 10 Y (Zed<|Zm (Qw h_y3)<|.cons (ov Y) (.aggB Y) .nil)<|Do 11 Y (Xg (r:=10) (xs:=([y3]:List api_PanelState)) (f:=R44) Y Jf (.cons (cva<|ov Y) Y (pwD Y) .nil) Y Y Y)<|bE h fun l h_l h=>Do 12 Y (Jy (f:=R44) QI QP (by kernel_rfl) Y (ov Y) (ov Y) (ov Y) Jf Y Y Y Y Y D44 (fun _=>Y) Y h_l)<|Dq 13 Y (Zi (ov Y) Y Y)<|Dq 14 Y (Zb (ov Y) Y Y Qx)<|Do 15 Y (Zq (ov Y) (ov Y) (Zv Jp) Y Y Y (Nat.le_of_ble_eq_true Y) (Zd Y) Y)<|Dd<|⟨_,h,ES [some 0,some 1,some 2,some 3,some 8,some 9]⟩
       ·
        refine Dw 4 11 Y (Zo (ov Y) Y Y Y Jp Y) (Xg (r:=10) (xs:=([y3]:List api_PanelState)) (f:=R44) Y Jf (.cons (cva<|ov Y) Y (pwD Y) .nil) Y Y Y) ?_ ?_
        ·
         exact Do 11 Y (Xg (r:=10) (xs:=([y3]:List api_PanelState)) (f:=R44) Y Jf (.cons (cva<|ov Y) Y (pwD Y) .nil) Y Y Y)<|bE h fun l h_l h=>Do 12 Y (Jy (f:=R44) QI QP (by kernel_rfl) Y (ov Y) (ov Y) (ov Y) Jf Y Y Y Y Y D44 (fun _=>Y) Y h_l)<|Dq 13 Y (Zi (ov Y) Y Y)<|Dq 14 Y (Zb (ov Y) Y Y Qx)<|Do 15 Y (Zq (ov Y) (ov Y) (Zv Jp) Y Y Y (Nat.le_of_ble_eq_true Y) (Zd Y) Y)<|Dd<|⟨_,h,ES [some 0,some 1,some 2,some 3,some 8,some 9]⟩
        ·
         exact Dq 4 Y (Zo (ov Y) Y Y Y Jp Y)<|bE h fun l h_l h=>Do 12 Y (Jy (f:=R44) QI QP (by kernel_rfl) Y (ov Y) (ov Y) (ov Y) Jf Y Y Y Y Y D44 (fun _=>Y) Y h_l)<|Dq 13 Y (Zi (ov Y) Y Y)<|Dq 14 Y (Zb (ov Y) Y Y Qx)<|Do 15 Y (Zq (ov Y) (ov Y) (Zv Jp) Y Y Y (Nat.le_of_ble_eq_true Y) (Zd Y) Y)<|Dd<|⟨_,h,ES [some 0,some 1,some 2,some 3,some 8,some 9]⟩
      ·
       refine Dw 3 11 Y (Zb (ov Y) Y Y Qx) (Xg (r:=10) (xs:=([y3]:List api_PanelState)) (f:=R44) Y Jf (.cons (cva<|ov Y) Y (pwD Y) .nil) Y Y Y) ?_ ?_
       ·
        refine Dw 4 11 Y (Zo (ov Y) Y Y Y Jp Y) (Xg (r:=10) (xs:=([y3]:List api_PanelState)) (f:=R44) Y Jf (.cons (cva<|ov Y) Y (pwD Y) .nil) Y Y Y) ?_ ?_
        ·
         exact Do 11 Y (Xg (r:=10) (xs:=([y3]:List api_PanelState)) (f:=R44) Y Jf (.cons (cva<|ov Y) Y (pwD Y) .nil) Y Y Y)<|bE h fun l h_l h=>Do 12 Y (Jy (f:=R44) QI QP (by kernel_rfl) Y (ov Y) (ov Y) (ov Y) Jf Y Y Y Y Y D44 (fun _=>Y) Y h_l)<|Dq 13 Y (Zi (ov Y) Y Y)<|Dq 14 Y (Zb (ov Y) Y Y Qx)<|Do 15 Y (Zq (ov Y) (ov Y) (Zv Jp) Y Y Y (Nat.le_of_ble_eq_true Y) (Zd Y) Y)<|Dd<|⟨_,h,ES [some 0,some 1,some 2,some 3,some 8,some 9]⟩
        ·
         exact Dq 4 Y (Zo (ov Y) Y Y Y Jp Y)<|bE h fun l h_l h=>Do 12 Y (Jy (f:=R44) QI QP (by kernel_rfl) Y (ov Y) (ov Y) (ov Y) Jf Y Y Y Y Y D44 (fun _=>Y) Y h_l)<|Dq 13 Y (Zi (ov Y) Y Y)<|Dq 14 Y (Zb (ov Y) Y Y Qx)<|Do 15 Y (Zq (ov Y) (ov Y) (Zv Jp) Y Y Y (Nat.le_of_ble_eq_true Y) (Zd Y) Y)<|Dd<|⟨_,h,ES [some 0,some 1,some 2,some 3,some 8,some 9]⟩
       ·
        exact Dq 3 Y (Zb (ov Y) Y Y Qx)<|Dq 4 Y (Zo (ov Y) Y Y Y Jp Y)<|bE h fun l h_l h=>Do 12 Y (Jy (f:=R44) QI QP (by kernel_rfl) Y (ov Y) (ov Y) (ov Y) Jf Y Y Y Y Y D44 (fun _=>Y) Y h_l)<|Dq 13 Y (Zi (ov Y) Y Y)<|Dq 14 Y (Zb (ov Y) Y Y Qx)<|Do 15 Y (Zq (ov Y) (ov Y) (Zv Jp) Y Y Y (Nat.le_of_ble_eq_true Y) (Zd Y) Y)<|Dd<|⟨_,h,ES [some 0,some 1,some 2,some 3,some 8,some 9]⟩
     ·
      refine Dw 2 11 Y (Zi (ov Y) Y Y) (Xg (r:=10) (xs:=([y3]:List api_PanelState)) (f:=R44) Y Jf (.cons (cva<|ov Y) Y (pwD Y) .nil) Y Y Y) ?_ ?_
      ·
       refine Dw 3 11 Y (Zb (ov Y) Y Y Qx) (Xg (r:=10) (xs:=([y3]:List api_PanelState)) (f:=R44) Y Jf (.cons (cva<|ov Y) Y (pwD Y) .nil) Y Y Y) ?_ ?_
       ·
        refine Dw 4 11 Y (Zo (ov Y) Y Y Y Jp Y) (Xg (r:=10) (xs:=([y3]:List api_PanelState)) (f:=R44) Y Jf (.cons (cva<|ov Y) Y (pwD Y) .nil) Y Y Y) ?_ ?_
        ·
         exact Do 11 Y (Xg (r:=10) (xs:=([y3]:List api_PanelState)) (f:=R44) Y Jf (.cons (cva<|ov Y) Y (pwD Y) .nil) Y Y Y)<|bE h fun l h_l h=>Do 12 Y (Jy (f:=R44) QI QP (by kernel_rfl) Y (ov Y) (ov Y) (ov Y) Jf Y Y Y Y Y D44 (fun _=>Y) Y h_l)<|Dq 13 Y (Zi (ov Y) Y Y)<|Dq 14 Y (Zb (ov Y) Y Y Qx)<|Do 15 Y (Zq (ov Y) (ov Y) (Zv Jp) Y Y Y (Nat.le_of_ble_eq_true Y) (Zd Y) Y)<|Dd<|⟨_,h,ES [some 0,some 1,some 2,some 3,some 8,some 9]⟩
        ·
         exact Dq 4 Y (Zo (ov Y) Y Y Y Jp Y)<|bE h fun l h_l h=>Do 12 Y (Jy (f:=R44) QI QP (by kernel_rfl) Y (ov Y) (ov Y) (ov Y) Jf Y Y Y Y Y D44 (fun _=>Y) Y h_l)<|Dq 13 Y (Zi (ov Y) Y Y)<|Dq 14 Y (Zb (ov Y) Y Y Qx)<|Do 15 Y (Zq (ov Y) (ov Y) (Zv Jp) Y Y Y (Nat.le_of_ble_eq_true Y) (Zd Y) Y)<|Dd<|⟨_,h,ES [some 0,some 1,some 2,some 3,some 8,some 9]⟩
       ·
        exact Dq 3 Y (Zb (ov Y) Y Y Qx)<|Dq 4 Y (Zo (ov Y) Y Y Y Jp Y)<|bE h fun l h_l h=>Do 12 Y (Jy (f:=R44) QI QP (by kernel_rfl) Y (ov Y) (ov Y) (ov Y) Jf Y Y Y Y Y D44 (fun _=>Y) Y h_l)<|Dq 13 Y (Zi (ov Y) Y Y)<|Dq 14 Y (Zb (ov Y) Y Y Qx)<|Do 15 Y (Zq (ov Y) (ov Y) (Zv Jp) Y Y Y (Nat.le_of_ble_eq_true Y) (Zd Y) Y)<|Dd<|⟨_,h,ES [some 0,some 1,some 2,some 3,some 8,some 9]⟩
      ·
       exact Dq 2 Y (Zi (ov Y) Y Y)<|Dq 3 Y (Zb (ov Y) Y Y Qx)<|Dq 4 Y (Zo (ov Y) Y Y Y Jp Y)<|bE h fun l h_l h=>Do 12 Y (Jy (f:=R44) QI QP (by kernel_rfl) Y (ov Y) (ov Y) (ov Y) Jf Y Y Y Y Y D44 (fun _=>Y) Y h_l)<|Dq 13 Y (Zi (ov Y) Y Y)<|Dq 14 Y (Zb (ov Y) Y Y Qx)<|Do 15 Y (Zq (ov Y) (ov Y) (Zv Jp) Y Y Y (Nat.le_of_ble_eq_true Y) (Zd Y) Y)<|Dd<|⟨_,h,ES [some 0,some 1,some 2,some 3,some 8,some 9]⟩
    ·
     exact Zf<|⟨_,h,ES [some 0,some 1,some 2,some 3,some 8,some 9] (hhp:= .cons Y (ro1 (by exact tZ_91.symm)<|rlc (.dat Y)<|rlc (.dat Y)<|rlc (.dat Y)<|rlc (.dat Y)<|rlc (ZgH Y Y Y D99)<|rlc (.own _ Y)<|rlc (.own _ Y) rln)<|.dead<|.dead<|.dead<|.cons Y (roM D44)<|.cons Y (roM D120) .nil)⟩
  ·
   exact ZH<|R2 Jh Y<|Rm Y<|Za<|⟨_,h,ES [some 0,some 1,some 2,some 3,some 4,some 5]⟩
 ·
  refine Z3<|?_
  replace h:=lx h▸ho1
  obtain rfl:=rt h
  exact ZjM [some 0,some 1,some 2,some 3,some 4,some 5] Y .nil (.cons Y (ro1 (by exact tZ_91.symm)<|rlc (.dat Y)<|rlc (.dat Y)<|rlc (.dat Y)<|rlc (.dat Y)<|rlc (.dat Y)<|rlc (.own _ Y)<|rlc (.own _ Y) rln)<|.dead<|.dead<|.dead<|.cons Y (roM D44)<|.cons Y (roM D120) .nil) Y Y<|Zb4 rln
theorem ZbC{r_:panel_Replay}{frame:Int}{r:Int×Int×panel_Replay}(h:Qa r_ frame=some r):
 GSpec Tryz.prog gl0 9 [.ptr 0 1 0 0,.int .i64 frame] [some ⟨91,[[.sl 49 (List.map R49 r_.p.Instruments),.sl 54 (List.map R54 r_.l),.int .i64 r_.keep,.int .i64 r_.state.Frame,.sl 99 (List.map R99 r_.state.Memos),.own 1 r_.kept.length,.own 2 r_.marks.length]]⟩,some ⟨44,List.map R44 r_.kept⟩,some ⟨120,List.map R120 r_.marks⟩] (.tuple [.int .i64 r.1,.int .i64 r.2.1]) [some ⟨91,[[.sl 49 (List.map R49 r.2.2.p.Instruments),.sl 54 (List.map R54 r.2.2.l),.int .i64 r.2.2.keep,.int .i64 r.2.2.state.Frame,.sl 99 (List.map R99 r.2.2.state.Memos),.own 3 r.2.2.kept.length,.own 4 r.2.2.marks.length]]⟩,none,none,some ⟨44,List.map R44 r.2.2.kept⟩,some ⟨120,List.map R120 r.2.2.marks⟩]:=by
 unfold Qa at h
 replace h:=Z9 h
 refine XJ (by kernel_rfl) Tryz.func9 Y Y<|?_
 intro w0 A W φ0
 refine Zdf (Ent.sel [some 0,some 1,some 2,some 1,some 2] (sr 0 Y (.ptr (r':=0) _ _ _ Y)<|sd 1 Y Y sn) (.cons Y (ro1 (by exact tZ_91.symm)<|rlc (.dat Y)<|rlc (.dat Y)<|rlc (.dat Y)<|rlc (.dat Y)<|rlc (.dat Y)<|rlc (.own (r':=3) _ Y)<|rlc (.own (r':=4) _ Y) rln)<|.dead<|.dead<|.cons Y (roM D44)<|.cons Y (roM D120) .nil) Y Y)<|Tr<|Rq Y (Qn (cvs (ov Y)<|ZX Y) Y tZ_3 Y)<|Ra Y<|Ra Y<|Za<|Zt<|K2 0 3 Y<|Tr<|Rq Y (Zc (ov Y) tS3 Y)<|bE h fun y h_y h=>Rq Y (Zm (Qj h_y)<|.cons (ov Y) (.b Y)<|.cons (ov Y) (.b Y)<|.cons (ov Y) (.b Y) .nil)<|R1 Xt Y<|Za<|K3 0 3 13 Y<|If h Y (fun h=>?_) fun h=>?_
 ·
  refine K0<|Tr<|Ra Y<|Ra Y<|Za<|?_
  obtain rfl:=rt h
  exact Zj<|ZcQ [some 0,some 1,some 2,some 3,some 4] Y (.cons (.tmp Y)<|.cons (.tmp Y) .nil) (.cons Y (ro1 (by exact tZ_91.symm)<|rlc (.dat Y)<|rlc (.dat Y)<|rlc (.dat Y)<|rlc (.dat Y)<|rlc (.dat Y)<|rlc (.own _ Y)<|rlc (.own _ Y) rln)<|.dead<|.dead<|.cons Y (roM D44)<|.cons Y (roM D120) .nil) Y Y<|Zb4<|rlc (.dat Y)<|rlc (.dat Y) rln
 ·
  refine Zf<|K2 0 3 Y<|Tr<|Rm Y<|Rq Y (Zi (ov Y) Y Y)<|Rq Y (Zb (ov Y) Y Y ZhU)<|Rq Y (Qk (ov Y) Y Y Y ZeY Y Y)<|bE h fun y2 h_y2 h=>Rx Y (Q0 [] (ZfG h_y2) (.cons (ov Y) (ZcR<|rld Y) .nil) .nil Y (.keep Y Y<|.none<|.none<|.keep Y Y<|.keep Y Y<|.lent 0 (.inr ⟨Nat.le_of_ble_eq_true Y,Y⟩) Y (roM D99) .nil) Y Y<|ZcR<|rlc (.dat Y)<|rlc (.own _<|.inr ⟨Nat.le_of_ble_eq_true Y,Y⟩) rln)<|Rx Y (Z8 (row:= [_,_]) 6 Y Zhw Y tZ_44)<|Rx Y (Zq (ov Y) (ov Y) (ZE ZaO Y) Y Y Y (Nat.le_of_ble_eq_true Y) (Zd Y) Y)<|Za<|K3 0 3 6 Y<|Tr<|Rq Y (Zbq<|.cons (ov Y)<|.cons (ov Y) .nil)<|Ra Y<|Za<|K4 0 3 6 7 Y<|Tr<|Rm Y<|Rq Y (Zc (ov Y) tS3 Y)<|bE h fun y3 h_y3 h=>Rx Y (Q0 [0,3,4] (ZbM h_y3) (.cons (ov Y) (.ptr _ _ _ Y)<|.cons (ov Y) (.dat Y) .nil) (.cons Y (ro1 (by exact tZ_91.symm)<|rlc (.dat Y)<|rlc (.dat Y)<|rlc (.dat Y)<|rlc (.dat Y)<|rlc (.dat Y)<|rlc (.own _ Y)<|rlc (.own _ Y) rln)<|.cons Y (roM D44)<|.cons Y (roM D120) .nil) Y (.lent 0 (.inl Y) Y (ro1 (by exact tZ_91.symm)<|rlc (.dat Y)<|rlc (.dat Y)<|rlc (.dat Y)<|rlc (.dat Y)<|rlc (.dat Y)<|rlc (.own _<|.inr ⟨Nat.le_of_ble_eq_true Y,Y⟩)<|rlc (.own _<|.inr ⟨Nat.le_of_ble_eq_true Y,Y⟩) rln)<|.none<|.none<|.none<|.none<|.keep Y Y<|.keep Y Y<|.lent 3 (.inr ⟨Nat.le_of_ble_eq_true Y,Y⟩) Y (roM D44)<|.lent 4 (.inr ⟨Nat.le_of_ble_eq_true Y,Y⟩) Y (roM D120) .nil) Y Y<|Zb4<|rld Y)<|Rm Y<|Rq Y (Zx (ov Y) Y)<|Rq Y (Zx (ov Y) Y)<|Ra Y<|Ra Y<|Za<|I1 (fun i=>⟨[(0,.ptr 0 1 0 0),(3,.rp [.int .i64 frame] 0),(6,.ptr 5 1 0 0),(7,.fn 41 [.rp [.int .i64 frame] 0,.ptr 5 1 0 0]),(8,.int .i64 i)],[some ⟨91,[[.sl 49 (List.map R49 r_.p.Instruments),.sl 54 (List.map R54 r_.l),.int .i64 r_.keep,.int .i64 r_.state.Frame,.sl 99 (List.map R99 r_.state.Memos),.own 3 r_.kept.length,.own 4 r_.marks.length]]⟩,none,none,some ⟨44,List.map R44 r_.kept⟩,some ⟨120,List.map R120 r_.marks⟩,some ⟨44,[[.int .i64 y2.Frame,.own 6 y2.Memos.length]]⟩,some ⟨99,List.map R99 y2.Memos⟩]⟩) h (fun h=>?_) fun i h=>?_
  ·
   refine K6 0 3 6 7 8 9 Y<|Tr<|Rm Y<|Za<|K6 0 3 6 7 8 26 Y<|If h Y (fun h=>?_) fun h=>?_
   ·
    exact K5 0 3 6 7 8 Y<|ZH<|Rm Y<|R2 Jh Y<|Ra Y<|Za<|⟨_,h,ES [some 0,some 1,some 2,some 7,some 8,some 6,some 5]⟩
   ·
    exact Zf<|⟨_,h,ES [some 0,some 1,some 2,some 7,some 8,some 6,some 5]⟩
  ·
   refine I2 (fun Frame Memos=>⟨[(0,.ptr 0 1 0 0),(3,.rp [.int .i64 frame] 0),(6,.ptr 5 1 0 0),(7,.fn 41 [.rp [.int .i64 frame] 0,.ptr 5 1 0 0])],[some ⟨91,[[.sl 49 (List.map R49 r_.p.Instruments),.sl 54 (List.map R54 r_.l),.int .i64 r_.keep,.int .i64 r_.state.Frame,.sl 99 (List.map R99 r_.state.Memos),.own 3 r_.kept.length,.own 4 r_.marks.length]]⟩,none,none,some ⟨44,List.map R44 r_.kept⟩,some ⟨120,List.map R120 r_.marks⟩,some ⟨44,[[.int .i64 Frame,.own 6 Memos.length]]⟩,some ⟨99,List.map R99 Memos⟩]⟩) h (fun h=>?_) fun Frame Memos h=>?_
   ·
    refine Tr<|Rm Y<|R2 JC Y<|Za<|K6 0 3 6 7 8 30 Y<|If h Y (fun h=>?_) fun h=>?_
    ·
     exact K5 0 3 6 7 8 Y<|ZH<|Rm Y<|Rm Y<|Rq Y (Zi (ov Y) Y Y)<|Rq Y (Zb (ov Y) Y Y Qx)<|Rq Y (Zo (ov Y) Y Y Y Jp Y)<|Rm Y<|R2 Zda Y<|bE h fun x h_x h=>Rq Y (Zdv (ov Y) (ov Y) Jf Y Y h_x)<|Rq Y (Zkv (ov Y) Y Y h_x ZaO Y Y)<|bE h fun y4 h_y4 h=>Rx Y (ZiS [5,6] (ov Y) (rlc (.dat Y)<|rlc (.ptr (r':=0) _ _ _ Y) rln) (.cons (ov Y) (ZcR<|rld Y) .nil) (Zbc h_y4) (.cons Y (ro1 (by exact tZ_44.symm)<|rlc (.dat Y)<|rlc (.own _ Y) rln)<|.cons Y (roM D99) .nil) Y (.keep Y Y<|.none<|.none<|.keep Y Y<|.keep Y Y<|.lent 0 (.inl Y) Y (ro1 (by exact tZ_44.symm)<|rlc (.dat Y)<|rlc (.own _<|.inr ⟨Nat.le_of_ble_eq_true Y,Y⟩) rln)<|.none<|.lent 2 (.inr ⟨Nat.le_of_ble_eq_true Y,Y⟩) Y (roM D99) .nil) Y Y<|Zb4<|rld Y)<|Za<|⟨_,h,ES [some 0,some 1,some 2,some 3,some 4,some 5,some 7]⟩
    ·
     exact Zf<|⟨_,h,ES [some 0,some 1,some 2,some 3,some 4,some 5,some 6]⟩
   ·
    refine Tr<|Rm Y<|Rm Y<|Rq Y (Zi (ov Y) Y Y)<|Rq Y (Zb (ov Y) Y Y Za7)<|Rq Y (Qk (ov Y) Y Y Y ZaO Y Y)<|bE h fun y5 h_y5 h=>Rx Y (ZiS [5,6] (ov Y) (rlc (.dat Y)<|rlc (.ptr (r':=0) _ _ _ Y) rln) (.cons (ov Y) (ZcR<|rld Y) .nil) (Zbc h_y5) (.cons Y (ro1 (by exact tZ_44.symm)<|rlc (.dat Y)<|rlc (.own _ Y) rln)<|.cons Y (roM D99) .nil) Y (.keep Y Y<|.none<|.none<|.keep Y Y<|.keep Y Y<|.lent 0 (.inl Y) Y (ro1 (by exact tZ_44.symm)<|rlc (.dat Y)<|rlc (.own _<|.inr ⟨Nat.le_of_ble_eq_true Y,Y⟩) rln)<|.none<|.lent 2 (.inr ⟨Nat.le_of_ble_eq_true Y,Y⟩) Y (roM D99) .nil) Y Y<|Zb4<|rld Y)<|Za<|K3 0 3 6 Y<|Tr<|Rm Y<|Rq Y (Qk (ov Y) Y Y Y ZaO Y Y)<|Rq Y (Zi (ov Y) Y Y)<|Rq Y (Zb (ov Y) Y Y Za7)<|Rx Y (Zq (ov Y) (ov Y) (ZE ZaO Y) Y Y Y (Nat.le_of_ble_eq_true Y) (Zd Y) Y)<|Za<|K3 0 3 6 Y<|Tr<|Rq Y (Zc (ov Y) tS3 Y)<|Rq Y (Zb (ov Y) Y Y Zbg)<|Rq Y (Zo (ov Y) Y Y Y tS3 Y)<|R2 Zda Y<|Ra Y<|Za<|K2 0 10 Y<|Tr<|Rm Y<|Rm Y<|bE h fun y6 h_y6 h=>Rx Y (Q0 [0,7,3,4] (Za2 h_y6) (.cons (ov Y) (.ptr _ _ _ Y)<|.cons (ov Y) (.dat Y) .nil) (.cons Y (ro1 (by exact tZ_91.symm)<|rlc (.dat Y)<|rlc (.dat Y)<|rlc (.dat Y)<|rlc (.dat Y)<|rlc (.own _ Y)<|rlc (.own _ Y)<|rlc (.own _ Y) rln)<|.cons Y (roM D99)<|.cons Y (roM D44)<|.cons Y (roM D120) .nil) Y (.lent 0 (.inl Y) Y (ro1 (by exact tZ_91.symm)<|rlc (.dat Y)<|rlc (.dat Y)<|rlc (.dat Y)<|rlc (.dat Y)<|rlc (.dat Y)<|rlc (.own _<|.inr ⟨Nat.le_of_ble_eq_true Y,Y⟩)<|rlc (.own _<|.inr ⟨Nat.le_of_ble_eq_true Y,Y⟩) rln)<|.none<|.none<|.none<|.none<|.keep Y Y<|.none<|.none<|.lent 4 (.inr ⟨Nat.le_of_ble_eq_true Y,Y⟩) Y (roM D44)<|.lent 5 (.inr ⟨Nat.le_of_ble_eq_true Y,Y⟩) Y (roM D120) .nil) Y Y<|Zb4<|rld Y)<|Za<|K1 10 Y<|Tr<|Rm Y<|Ra Y<|Ra Y<|Za<|?_
    obtain rfl:=rt h
    exact Zj<|ZcQ [some 0,some 1,some 2,some 8,some 9] Y (.cons (.tmp Y)<|.cons (.tmp Y) .nil) (.cons Y (ro1 (by exact tZ_91.symm)<|rlc (.dat Y)<|rlc (.dat Y)<|rlc (.dat Y)<|rlc (.dat Y)<|rlc (.dat Y)<|rlc (.own _ Y)<|rlc (.own _ Y) rln)<|.dead<|.dead<|.cons Y (roM D44)<|.cons Y (roM D120) .nil) Y Y<|Zb4<|rlc (.dat Y)<|rlc (.dat Y) rln
theorem ZbY{n:Int}{low:Int}{high:Int}{r:Bool}(h:Zax n low high=some r):
 CSpec Tryz.prog gl0 47 [.int .i64 n,.int .i64 low,.int .i64 high] (.bool r):=by
 unfold Zax at h
 replace h:=Z9 h
 refine So Tryz.func47 Y fun w0 A=>Tr<|Ra Y<|Za<|Tr<|Rm Y<|Rm Y<|R2 QE Y<|Rm Y<|Rq Y (.guarded ((decide (n<low))==false) Y Y Y Y fun h=>Zg<|ov Y)<|Rq Y (.guarded ((decide (n<low))==false) Y Y Y Y fun h=>Zg<|ov Y)<|Rq Y (.guarded ((decide (n<low))==false) Y Y Y Y fun h=>JC (ow Y h)<|ow Y h)<|Rq Y (Zab (ov Y) fun hp=>ow Y<|gF hp)<|Ra Y<|Za<|?_
 obtain rfl:=rt h
 exact Zj (ZD Y (.one<|rb Y))
theorem ZgT{n:Int}{den:Int}{places:Int}{r:Str}(h:XR n den places=some r):
 CSpec Tryz.prog gl0 48 [.int .i64 n,.int .i64 den,.int .i64 places] (.str r):=by
 unfold XR at h
 replace h:=Z9 h
 refine So Tryz.func48 Y fun w0 A=>Tr<|Ra Y<|Za<|K3 0 1 2 Y<|Tr<|Rm Y<|Ra Y<|Ra Y<|Za<|I2 (fun size sign=>⟨[(1,.int .i64 den),(2,.int .i64 places),(7,.int .i64 size),(8,.str sign)],[]⟩) h (fun h=>?_) fun size sign h=>?_
 ·
  refine K5 0 1 2 7 8 Y<|Tr<|Rm Y<|R2 QE Y<|Za<|K6 0 1 2 7 8 15 Y<|If h Y (fun h=>?_) fun h=>?_
  ·
   exact K5 0 1 2 7 8 Y<|ZH<|Rm Y<|Rq Y (ZlT (ov Y) Y)<|Ra Y<|Ra Y<|Za<|⟨_,h,ES []⟩
  ·
   exact Zf<|⟨_,h,ES []⟩
 ·
  refine Tr<|Ra Y<|Za<|I1 (fun unit=>⟨[(1,.int .i64 den),(2,.int .i64 places),(7,.int .i64 size),(8,.str sign),(9,.int .i64 unit)],[]⟩) h (fun h=>?_) fun unit h=>?_
  ·
   refine Tr<|Rm Y<|Rm Y<|Za<|Zr<|?_
   obtain⟨r1,hl1,ho1⟩:=Zay h
   refine L2 (fun unit2 i=>⟨[(1,.int .i64 den),(2,.int .i64 places),(7,.int .i64 size),(8,.str sign),(9,.int .i64 unit2),(18,.int .i64 places),(19,.int .i64 i)],[]⟩) hl1 (ES []) fun n1 unit2 i h=>?_
   unfold Zcj at h
   refine Tr<|R2 QE Y<|Za<|Zt<|If h Y (fun h=>?_) fun h=>?_
   ·
    exact Zf<|Zt<|Zr<|K7 1 2 7 8 9 18 19 Y<|ZH<|Rm Y<|R2 Zhr Y<|Ra Y<|Za<|K7 1 2 7 8 9 18 19 Y<|ZH<|R2 Jh Y<|Rm Y<|Za<|⟨_,h,ES []⟩
   ·
    refine Z3<|?_
    replace h:=lx h▸ho1
    exact⟨_,h,ES []⟩
  ·
   refine Td md0<|D1 0 Zg Y<|D1 1 Zg Y<|bE h fun q h_q h=>Dq 2 Y (Zhb (ov Y) (ov Y) h_q)<|D1 3 Zg Y<|D2 4 Zhr Y<|D1 5 Zg Y<|D1 6 Zg Y<|bE h fun q2 h_q2 h=>Dq 7 Y (Zie (ov Y) (ov Y) h_q2)<|D2 8 Zhr Y<|D1 9 Zg Y<|D2 10 Jh Y<|D1 11 Zg Y<|D2 12 Zhr Y<|bE h fun q3 h_q3 h=>Dq 13 Y (Zhb (ov Y) (ov Y) h_q3)<|D1 14 Zaw Y<|D1 15 Zaw Y<|Dd<|I2 (fun whole part=>⟨[(2,.int .i64 places),(8,.str sign),(9,.int .i64 unit),(10,.int .i64 whole),(11,.int .i64 part)],[]⟩) h (fun h=>?_) fun whole part h=>?_
   ·
    refine K5 2 8 9 10 11 Y<|Tr<|Rm Y<|Rm Y<|R2 Xs Y<|Za<|K6 2 8 9 10 11 40 Y<|If h Y (fun h=>?_) fun h=>?_
    ·
     exact K5 2 8 9 10 11 Y<|ZH<|Rm Y<|R2 Jh Y<|Ra Y<|Ra Y<|Za<|⟨_,h,ES []⟩
    ·
     exact Zf<|⟨_,h,ES []⟩
   ·
    refine I1 (fun sign2=>⟨[(2,.int .i64 places),(8,.str sign2),(9,.int .i64 unit),(10,.int .i64 whole),(11,.int .i64 part)],[]⟩) h (fun h=>?_) fun sign2 h=>?_
    ·
     refine Tr<|Rm Y<|R2 Xs Y<|Rm Y<|Rq Y (.guarded ((decide (whole=0))==true) Y Y Y Y fun h=>Zg<|ov Y)<|Rq Y (.guarded ((decide (whole=0))==true) Y Y Y Y fun h=>Xs (ow Y h)<|ov Y)<|Rq Y (XT (ov Y) fun hp=>ow Y<|gT hp)<|Za<|K6 2 8 9 10 11 48 Y<|If h Y (fun h=>?_) fun h=>?_
     ·
      exact K5 2 8 9 10 11 Y<|ZH<|Ra Y<|Za<|⟨_,h,ES []⟩
     ·
      exact Zf<|⟨_,h,ES []⟩
    ·
     refine Tr<|Rm Y<|bE h fun y h_y h=>Rq Y (Zm (ZdW h_y)<|.cons (ov Y) (.b Y) .nil)<|Ra Y<|Za<|I1 (fun s=>⟨[(8,.str sign2),(12,.str s)],[]⟩) h (fun h=>?_) fun s h=>?_
     ·
      refine K5 2 8 9 11 12 Y<|Tr<|Rm Y<|R2 JC Y<|Za<|K5 8 9 11 12 52 Y<|If h Y (fun h=>?_) fun h=>?_
      ·
       exact K4 8 9 11 12 Y<|ZH<|Rm Y<|Rm Y<|Rm Y<|R2 Jh Y<|bE h fun y2 h_y2 h=>Rq Y (Zm (ZdW h_y2)<|.cons (ov Y) (.b Y) .nil)<|bE h fun s2 h_s2 h=>Rq Y (Ja (ov Y) QB (oi<|ov Y) on h_s2)<|bE h fun s3 h_s3 h=>Rq Y (ZfM (ov Y) (ov Y) h_s3)<|bE h fun s4 h_s4 h=>Rq Y (ZfM (ov Y) (ov Y) h_s4)<|Ra Y<|Za<|⟨_,h,ES []⟩
      ·
       exact Zf<|⟨_,h,ES []⟩
     ·
      refine Tr<|Rm Y<|Rm Y<|bE h fun s5 h_s5 h=>Rq Y (ZfM (ov Y) (ov Y) h_s5)<|Ra Y<|Za<|?_
      obtain rfl:=rt h
      exact Zj (ZD Y (.one<|rb Y))
theorem ZgZ{n:Int}{den:Int}{places:Int}{r:Str×Int}(h:ZbP n den places=some r):
 CSpec Tryz.prog gl0 17 [.int .i64 n,.int .i64 den,.int .i64 places] (.tuple [.str r.1,.int .i64 r.2]):=by
 unfold ZbP at h
 replace h:=Z9 h
 refine So Tryz.func17 Y fun w0 A=>Tr<|Ra Y<|Ra Y<|Za<|Zt<|K3 0 1 2 Y<|Tr<|Rm Y<|bE h fun y h_y h=>Rq Y (Zm (ZbY h_y)<|.cons (ov Y) (.b Y)<|.cons (ov Y) (.b Y)<|.cons (ov Y) (.b Y) .nil)<|Rm Y<|Rq Y (.guarded (y==false) Y Y Y Y fun h=>Zg<|ov Y)<|bE h fun y2 h_y2 h=>Rq Y (.guarded (y==false) Y Y Y Y fun h=>Zm (ZbY<|gdT h_y2 h)<|.cons (ow Y h) (.b Y)<|.cons (ov Y) (.b Y)<|.cons (ov Y) (.b Y) .nil)<|Rq Y (Zab (ov Y) fun hp=>ow Y<|gF hp)<|Rm Y<|Rq Y (.guarded ((y || y2)==false) Y Y Y Y fun h=>Zg<|ov Y)<|bE h fun y3 h_y3 h=>Rq Y (.guarded ((y || y2)==false) Y Y Y Y fun h=>Zm (ZbY<|gdT h_y3 h)<|.cons (ow Y h) (.b Y)<|.cons (ov Y) (.b Y)<|.cons (ov Y) (.b Y) .nil)<|Rq Y (Zab (ov Y) fun hp=>ow Y<|gF hp)<|Za<|K4 0 1 2 17 Y<|If h Y (fun h=>?_) fun h=>?_
 ·
  refine K0<|Tr<|Ra Y<|Ra Y<|Za<|?_
  obtain rfl:=rt h
  exact Zj (ZD Y (.two (rb Y)<|rb Y))
 ·
  refine Zf<|K3 0 1 2 Y<|Tr<|Rm Y<|Rm Y<|Rm Y<|bE h fun y4 h_y4 h=>Rq Y (Zm (ZgT h_y4)<|.cons (ov Y) (.b Y)<|.cons (ov Y) (.b Y)<|.cons (ov Y) (.b Y) .nil)<|Ra Y<|Ra Y<|Za<|?_
  obtain rfl:=rt h
  exact Zj (ZD Y (.two (rb Y)<|rb Y))
theorem Zbx{p:api_Panel}{l:List api_Track}{frame:Int}{r:Bool}(h:QU p l frame=some r):
 CSpec Tryz.prog gl0 4 [.agg [.sl 49 (List.map R49 p.Instruments)],.sl 54 (List.map R54 l),.int .i64 frame] (.bool r):=by
 unfold QU at h
 replace h:=Z9 h
 refine So Tryz.func4 Y fun w0 A=>Tr<|Rq Y (Qn (cva<|ov Y) Y tZ_24 Y)<|Ra Y<|Za<|K3 1 2 3 Y<|Tr<|Rq Y (ZB (ov Y) ZeY Y Y)<|Rm Y<|bE h fun y h_y h=>?_
 rcases y with y |y
 ·
  replace h:=ell h
  refine Rx Y (Q0 [] (Zcu h_y) (.cons (ov Y) (ZcR<|rld Y)<|.cons (ov Y) (.dat Y)<|.cons (ov Y) (.dat Y) .nil) .nil Y .nil Y Y<|Zb4<|rlc (.dat Y)<|rlc (.dat Y) rln)<|Rm Y<|Rq Y (Zx (ov Y) Y)<|Rq Y (Zx (ov Y) Y)<|Ra Y<|Ra Y<|Za<|Zt<|K5 1 2 3 7 8 Y<|Tr<|Rm Y<|R2 Jz Y<|Za<|K5 1 2 3 7 28 Y<|If h Y (fun h=>?_) fun h=>?_
  ·
   refine K0<|Tr<|bE h fun y2 h_y2 h=>Rq Y (Zm (ZbI h_y2) .nil)<|Ra Y<|Za<|?_
   obtain rfl:=rt h
   exact Zj (ZD Y (.one<|rb Y))
  ·
   exact Zf<|Zt<|(ZjG h).elim
 ·
  replace h:=elr h
  refine Rx Y (Q0 [] (Zcs h_y) (.cons (ov Y) (ZcR<|rld Y)<|.cons (ov Y) (.dat Y)<|.cons (ov Y) (.dat Y) .nil) .nil Y (.lent 0 (.inr ⟨Nat.le_of_ble_eq_true Y,Y⟩) Y (ro1 (by exact tZ_91.symm)<|rlc (.dat Y)<|rlc (.dat Y)<|rlc (.dat Y)<|rlc (.dat Y)<|rlc (.dat Y)<|rlc (.own _<|.inr ⟨Nat.le_of_ble_eq_true Y,Y⟩)<|rlc (.own _<|.inr ⟨Nat.le_of_ble_eq_true Y,Y⟩) rln)<|.lent 1 (.inr ⟨Nat.le_of_ble_eq_true Y,Y⟩) Y (roM D44)<|.lent 2 (.inr ⟨Nat.le_of_ble_eq_true Y,Y⟩) Y (roM D120) .nil) Y Y<|Zb4<|rlc (.ptr _ _ _<|.inr ⟨Nat.le_of_ble_eq_true Y,Y⟩)<|rlc (.dat Y) rln)<|Rm Y<|Rq Y (Zx (ov Y) Y)<|Rq Y (Zx (ov Y) Y)<|Ra Y<|Ra Y<|Za<|Zt<|K5 1 2 3 7 8 Y<|Tr<|Rm Y<|R2 Jz Y<|Za<|K5 1 2 3 7 28 Y<|If h Y (fun h=>?_) fun h=>?_
  ·
   refine K0<|Tr<|bE h fun y3 h_y3 h=>Rq Y (Zm (ZbI h_y3) .nil)<|Ra Y<|Za<|?_
   obtain rfl:=rt h
   exact Zj (ZD Y (.one<|rb Y))
  ·
   refine Zf<|Zt<|K4 1 2 3 7 Y<|Tr<|Rm Y<|Rm Y<|bE h fun y4 h_y4 h=>Rx Y (Q0 [0,1,2] (ZbC h_y4) (.cons (ov Y) (.ptr _ _ _ Y)<|.cons (ov Y) (.dat Y) .nil) (.cons Y (ro1 (by exact tZ_91.symm)<|rlc (.dat Y)<|rlc (.dat Y)<|rlc (.dat Y)<|rlc (.dat Y)<|rlc (.dat Y)<|rlc (.own _ Y)<|rlc (.own _ Y) rln)<|.cons Y (roM D44)<|.cons Y (roM D120) .nil) Y (.lent 0 (.inl Y) Y (ro1 (by exact tZ_91.symm)<|rlc (.dat Y)<|rlc (.dat Y)<|rlc (.dat Y)<|rlc (.dat Y)<|rlc (.dat Y)<|rlc (.own _<|.inr ⟨Nat.le_of_ble_eq_true Y,Y⟩)<|rlc (.own _<|.inr ⟨Nat.le_of_ble_eq_true Y,Y⟩) rln)<|.none<|.none<|.lent 3 (.inr ⟨Nat.le_of_ble_eq_true Y,Y⟩) Y (roM D44)<|.lent 4 (.inr ⟨Nat.le_of_ble_eq_true Y,Y⟩) Y (roM D120) .nil) Y Y<|Zb4<|rld Y)<|Rm Y<|Rq Y (Zx (ov Y) Y)<|Rq Y (Zx (ov Y) Y)<|Ra Y<|Ra Y<|Za<|K5 1 2 3 7 10 Y<|Tr<|Rm Y<|R2 Jz Y<|Rm Y<|Rq Y (.guarded ((!decide (y4.2.1=0))==false) Y Y Y Y fun h=>Zg<|ov Y)<|Rq Y (.guarded ((!decide (y4.2.1=0))==false) Y Y Y Y fun h=>QE (ow Y h)<|ov Y)<|Rq Y (Zab (ov Y) fun hp=>ow Y<|gF hp)<|Za<|K5 1 2 3 7 41 Y<|If h Y (fun h=>?_) fun h=>?_
   ·
    refine K0<|Tr<|bE h fun y5 h_y5 h=>Rq Y (Zm (ZbI h_y5) .nil)<|Ra Y<|Za<|?_
    obtain rfl:=rt h
    exact Zj (ZD Y (.one<|rb Y))
   ·
    refine Zf<|K4 1 2 3 7 Y<|Tr<|Rm Y<|bE h fun y6 h_y6 h=>Rx Y (Q0 [0,3,4] (JV h_y6) (.cons (ov Y) (.ptr _ _ _ Y) .nil) (.cons Y (ro1 (by exact tZ_91.symm)<|rlc (.dat Y)<|rlc (.dat Y)<|rlc (.dat Y)<|rlc (.dat Y)<|rlc (.dat Y)<|rlc (.own _ Y)<|rlc (.own _ Y) rln)<|.cons Y (roM D44)<|.cons Y (roM D120) .nil) Y (.lent 0 (.inl Y) Y (ro1 (by exact tZ_91.symm)<|rlc (.dat Y)<|rlc (.dat Y)<|rlc (.dat Y)<|rlc (.dat Y)<|rlc (.dat Y)<|rlc (.own _<|.inr ⟨Nat.le_of_ble_eq_true Y,Y⟩)<|rlc (.own _<|.inr ⟨Nat.le_of_ble_eq_true Y,Y⟩) rln)<|.none<|.none<|.none<|.none<|.lent 3 (.inr ⟨Nat.le_of_ble_eq_true Y,Y⟩) Y (roM D44)<|.lent 4 (.inr ⟨Nat.le_of_ble_eq_true Y,Y⟩) Y (roM D120) .nil) Y Y<|.dat Y)<|Ra Y<|Za<|Zt<|K4 1 2 3 11 Y<|Tr<|Rm Y<|Rl tZ_39 Zje Y<|Rq Y (Ze (ov Y) Zba)<|Rq Y (Zc (ov Y) Zfq Y)<|Rl tZ_49 Zc1 Y<|R2 Jz Y<|Za<|K5 1 2 3 11 50 Y<|If h Y (fun h=>?_) fun h=>?_
    ·
     refine K0<|Tr<|Ra Y<|Za<|?_
     obtain rfl:=rt h
     exact Zj (ZD Y (.one<|rb Y))
    ·
     refine Zf<|J0 (fun j=>(.inr j)) ⟨[],[]⟩ h (fun h=>?_) fun h=>?_
     ·
      refine K4 1 2 3 11 Y<|Tr<|Rq Y (Ze (ov Y) Zba)<|Rq Y (Zc (ov Y) Zfq Y)<|Rl tZ_49 Zc1 Y<|Rm Y<|Za<|Zr<|?_
      obtain⟨r1,hl1,ho1⟩:=Zay h
      refine L1 (fun i=>⟨[(1,.sl 54 (List.map R54 l)),(2,.int .i64 frame),(11,.sl 39 (List.map R39 y6)),(52,.sl 49 (List.map R49 p.Instruments)),(53,.int .i64 (p.Instruments.length:Int)),(54,.int .i64 i)],[]⟩) hl1 (ES []) fun n1 i h=>?_
      unfold ZU at h
      refine Tr<|R2 QE Y<|Za<|Zt<|If h Y (fun h=>?_) fun h=>?_
      ·
       refine Zf<|Zt<|Zr<|K6 1 2 11 52 53 54 Y<|Tr<|Rm Y<|bE h fun x h_x h=>Rq Y (QX (ov Y) (ov Y) Zc1 h_x)<|Rq Y (ZB (ov Y) Zds Y Y)<|Rx Y (Z8 (row:= [_,_,_,_,_,_,_,_,_,_,_,_]) 0 Y ZkE Y tZ_49)<|Ra Y<|Rx Y (Zq (ov Y) (ov Y) (ZE Zds Y) Y Y Y (Nat.le_of_ble_eq_true Y) (Zd Y) Y)<|Za<|Zt<|K8 1 2 11 12 13 52 53 54 Y<|Tr<|Rq Y (Zb (ov Y) Y Y Zcp)<|Rq Y (Zo (ov Y) Y Y Y tS3 Y)<|R2 Jz Y<|Rm Y<|Rq Y (.guarded ((!decide (x.Kind=1))==false) Y Y Y Y fun h=>Zg<|ov Y)<|Rq Y (.guarded ((!decide (x.Kind=1))==false) Y Y Y Y fun h=>Zg<|ov Y)<|bE h fun x2 h_x2 h=>Rq Y (.guarded ((!decide (x.Kind=1))==false) Y Y Y Y fun h=>QX (ow Y h) (ow Y h) Zje<|gdT h_x2 h)<|Rq Y (.guarded ((!decide (x.Kind=1))==false) Y Y Y Y fun h=>Ze (ow Y h) Zdz)<|Rq Y (.guarded ((!decide (x.Kind=1))==false) Y Y Y Y fun h=>Zc (ow Y h) tS9 Y)<|Rq Y (.guarded ((!decide (x.Kind=1))==false) Y Y Y Y fun h=>Qg (ow Y h)<|ov Y)<|Rq Y (Zab (ov Y) fun hp=>ow Y<|gF hp)<|Za<|K9 1 2 11 12 13 52 53 54 69 Y<|If h Y (fun h=>?_) fun h=>?_
       ·
        exact Z3<|K6 1 2 11 52 53 54 Y<|ZH<|R2 Jh Y<|Rm Y<|Za<|⟨_,h,ES []⟩
       ·
        refine Zf<|K8 1 2 11 12 13 52 53 54 Y<|Tr<|Ra Y<|Za<|I1 (fun found=>⟨[(1,.sl 54 (List.map R54 l)),(2,.int .i64 frame),(11,.sl 39 (List.map R39 y6)),(14,.bool found),(52,.sl 49 (List.map R49 p.Instruments)),(53,.int .i64 (p.Instruments.length:Int)),(54,.int .i64 i)],[]⟩) h (fun h=>?_) fun found h=>?_
        ·
         refine Tr<|Rm Y<|Rl tZ_54 Zeq Y<|Rm Y<|Za<|Zr<|?_
         obtain⟨r2,hl2,ho2⟩:=Zay h
         refine L2 (fun found2 i2=>⟨[(1,.sl 54 (List.map R54 l)),(2,.int .i64 frame),(11,.sl 39 (List.map R39 y6)),(12,.int .i64 i),(13,.ptr 0 1 0 0),(14,.bool found2),(52,.sl 49 (List.map R49 p.Instruments)),(53,.int .i64 (p.Instruments.length:Int)),(54,.int .i64 i),(70,.sl 54 (List.map R54 l)),(71,.int .i64 (l.length:Int)),(72,.int .i64 i2)],[some ⟨49,[[.int .i64 x.Kind,.str x.Name,.str x.Track,.int .i64 x.Places,.int .i64 x.Low,.int .i64 x.High,.int .i64 x.Steps,.sl 136 (List.map R136 x.Zones),.int .i64 x.Op,.int .i64 x.N,.bool x.Latch,.int .i64 x.Size]]⟩]⟩) hl2 (ES [some 0]) fun n2 found2 i2 h=>?_
         unfold ZT at h
         refine Tr<|R2 QE Y<|Za<|Zt<|If h Y (fun h=>?_) fun h=>?_
         ·
          refine Zf<|I1 (fun found3=>⟨[(1,.sl 54 (List.map R54 l)),(2,.int .i64 frame),(11,.sl 39 (List.map R39 y6)),(12,.int .i64 i),(13,.ptr 0 1 0 0),(14,.bool found3),(52,.sl 49 (List.map R49 p.Instruments)),(53,.int .i64 (p.Instruments.length:Int)),(54,.int .i64 i),(70,.sl 54 (List.map R54 l)),(71,.int .i64 (l.length:Int)),(72,.int .i64 i2)],[some ⟨49,[[.int .i64 x.Kind,.str x.Name,.str x.Track,.int .i64 x.Places,.int .i64 x.Low,.int .i64 x.High,.int .i64 x.Steps,.sl 136 (List.map R136 x.Zones),.int .i64 x.Op,.int .i64 x.N,.bool x.Latch,.int .i64 x.Size]]⟩]⟩) h (fun h=>?_) fun found3 h=>?_
          ·
           refine Zr<|K12 1 2 11 12 13 14 52 53 54 70 71 72 Y<|Tr<|bE h fun x3 h_x3 h=>Rq Y (QX (ov Y) (ov Y) Zeq h_x3)<|Rq Y (ZB (ov Y) Zic Y Y)<|Rx Y (Z8 (row:= [_,_,_,_]) 1 Y Zlz Y tZ_54)<|Rx Y (Zq (ov Y) (ov Y) (ZE Zic Y) Y Y Y (Nat.le_of_ble_eq_true Y) (Zd Y) Y)<|Za<|Jt (kc 1 Y<|kc 2 Y<|kc 11 Y<|kc 12 Y<|kc 13 Y<|kc 14 Y<|kc 16 Y<|kc 52 Y<|kc 53 Y<|kc 54 Y<|kc 70 Y<|kc 71 Y<|kc 72 Y kn) Y<|Tr<|Rq Y (Zb (ov Y) Y Y ZeU)<|Rq Y (Zb (ov Y) Y Y ZcU)<|Rq Y (Zo (ov Y) Y Y Y Zho Y)<|Rl tZ_56 ZeH Y<|Rm Y<|Za<|Zr<|?_
           obtain⟨r3,hl3,ho3⟩:=Zay h
           refine L2 (fun found4 i3=>⟨[(1,.sl 54 (List.map R54 l)),(2,.int .i64 frame),(11,.sl 39 (List.map R39 y6)),(12,.int .i64 i),(13,.ptr 0 1 0 0),(14,.bool found4),(16,.ptr 1 1 0 0),(52,.sl 49 (List.map R49 p.Instruments)),(53,.int .i64 (p.Instruments.length:Int)),(54,.int .i64 i),(70,.sl 54 (List.map R54 l)),(71,.int .i64 (l.length:Int)),(72,.int .i64 i2),(78,.sl 56 (List.map R56 x3.Series.Samples)),(79,.int .i64 (x3.Series.Samples.length:Int)),(80,.int .i64 i3)],[some ⟨49,[[.int .i64 x.Kind,.str x.Name,.str x.Track,.int .i64 x.Places,.int .i64 x.Low,.int .i64 x.High,.int .i64 x.Steps,.sl 136 (List.map R136 x.Zones),.int .i64 x.Op,.int .i64 x.N,.bool x.Latch,.int .i64 x.Size]]⟩,some ⟨54,[[.str x3.Name,.int .i64 x3.Series.Den,.sl 56 (List.map R56 x3.Series.Samples),.int .i64 x3.Long]]⟩]⟩) hl3 (ES [some 0,some 1]) fun n3 found4 i3 h=>?_
           unfold ZV at h
           refine Tr<|R2 QE Y<|Za<|Zt<|If h Y (fun h=>?_) fun h=>?_
           ·
            refine Zf<|Zt<|Zr<|Jt (kc 1 Y<|kc 2 Y<|kc 11 Y<|kc 12 Y<|kc 13 Y<|kc 14 Y<|kc 16 Y<|kc 52 Y<|kc 53 Y<|kc 54 Y<|kc 70 Y<|kc 71 Y<|kc 72 Y<|kc 78 Y<|kc 79 Y<|kc 80 Y kn) Y<|Tr<|bE h fun x4 h_x4 h=>Rq Y (QX (ov Y) (ov Y) ZeH h_x4)<|Rq Y (ZB (ov Y) ZdA Y Y)<|Rx Y (Z8 (row:= [_,_,_]) 2 Y Zio Y tZ_56)<|Rx Y (Zq (ov Y) (ov Y) (ZE ZdA Y) Y Y Y (Nat.le_of_ble_eq_true Y) (Zd Y) Y)<|Za<|Jt (kc 1 Y<|kc 2 Y<|kc 11 Y<|kc 12 Y<|kc 13 Y<|kc 14 Y<|kc 16 Y<|kc 18 Y<|kc 52 Y<|kc 53 Y<|kc 54 Y<|kc 70 Y<|kc 71 Y<|kc 72 Y<|kc 78 Y<|kc 79 Y<|kc 80 Y kn) Y<|Tr<|Rq Y (Zb (ov Y) Y Y ZgM)<|Rq Y (Zo (ov Y) Y Y Y tS9 Y)<|Rq Y (Zb (ov Y) Y Y ZiW)<|Rq Y (Zo (ov Y) Y Y Y tS9 Y)<|R2 Qg Y<|Rm Y<|Rq Y (.guarded ((decide (x3.Name=x.Track))==true) Y Y Y Y fun h=>Zb (ov Y) Y Y ZfH)<|Rq Y (.guarded ((decide (x3.Name=x.Track))==true) Y Y Y Y fun h=>Zo (ow Y h) Y Y Y tS3 Y)<|Rq Y (.guarded ((decide (x3.Name=x.Track))==true) Y Y Y Y fun h=>Zg<|ov Y)<|Rq Y (.guarded ((decide (x3.Name=x.Track))==true) Y Y Y Y fun h=>Zl8 (ov Y) (ow Y h) Y)<|Rq Y (.guarded ((decide (x3.Name=x.Track))==true) Y Y Y Y fun h=>ZlN (ow Y h) (ov Y) Y)<|Rq Y (.guarded ((decide (x3.Name=x.Track))==true) Y Y Y Y fun h=>ZcL (ow Y h)<|ow Y h)<|Rq Y (XT (ov Y) fun hp=>ow Y<|gT hp)<|Rm Y<|Rq Y (.guarded (((decide (x3.Name=x.Track))&&(decide (x4.At≤(i64 ((i64 (64*frame))+63)))))==true) Y Y Y Y fun h=>Zb (ov Y) Y Y ZgI)<|Rq Y (.guarded (((decide (x3.Name=x.Track))&&(decide (x4.At≤(i64 ((i64 (64*frame))+63)))))==true) Y Y Y Y fun h=>Zo (ow Y h) Y Y Y tS3 Y)<|Rq Y (.guarded (((decide (x3.Name=x.Track))&&(decide (x4.At≤(i64 ((i64 (64*frame))+63)))))==true) Y Y Y Y fun h=>ZbN (ow Y h)<|ov Y)<|Rq Y (XT (ov Y) fun hp=>ow Y<|gT hp)<|Za<|Jt (kc 1 Y<|kc 2 Y<|kc 11 Y<|kc 12 Y<|kc 13 Y<|kc 14 Y<|kc 16 Y<|kc 18 Y<|kc 52 Y<|kc 53 Y<|kc 54 Y<|kc 70 Y<|kc 71 Y<|kc 72 Y<|kc 78 Y<|kc 79 Y<|kc 80 Y<|kc 101 Y kn) Y<|If h Y (fun h=>?_) fun h=>?_
            ·
             exact Jt (kc 1 Y<|kc 2 Y<|kc 11 Y<|kc 12 Y<|kc 13 Y<|kc 14 Y<|kc 16 Y<|kc 18 Y<|kc 52 Y<|kc 53 Y<|kc 54 Y<|kc 70 Y<|kc 71 Y<|kc 72 Y<|kc 78 Y<|kc 79 Y<|kc 80 Y kn) Y<|Tr<|Rq Y (Zb (ov Y) Y Y Ze6)<|Rq Y (Zo (ov Y) Y Y Y tS3 Y)<|Rq Y (Zb (ov Y) Y Y ZeU)<|Rq Y (Zb (ov Y) Y Y ZiV)<|Rq Y (Zo (ov Y) Y Y Y tS3 Y)<|Rq Y (Zb (ov Y) Y Y ZfL)<|Rq Y (Zo (ov Y) Y Y Y tS3 Y)<|bE h fun y7 h_y7 h=>Rq Y (Zm (ZgZ h_y7)<|.cons (ov Y) (.b Y)<|.cons (ov Y) (.b Y)<|.cons (ov Y) (.b Y) .nil)<|Rm Y<|Rq Y (Zx (ov Y) Y)<|Rq Y (Zx (ov Y) Y)<|Ra Y<|Ra Y<|Za<|Jt (kc 1 Y<|kc 2 Y<|kc 11 Y<|kc 12 Y<|kc 13 Y<|kc 14 Y<|kc 16 Y<|kc 19 Y<|kc 52 Y<|kc 53 Y<|kc 54 Y<|kc 70 Y<|kc 71 Y<|kc 72 Y<|kc 78 Y<|kc 79 Y<|kc 80 Y kn) Y<|ZH<|Rm Y<|Rm Y<|Rq Y (.guarded (found4==false) Y Y Y Y fun h=>Zg<|ov Y)<|Rq Y (.guarded (found4==false) Y Y Y Y fun h=>Zg<|ov Y)<|Rq Y (.guarded (found4==false) Y Y Y Y fun h=>Zg<|ov Y)<|bE h fun x5 h_x5 h=>Rq Y (.guarded (found4==false) Y Y Y Y fun h=>QX (ow Y h) (ow Y h) Zje<|gdT h_x5 h)<|Rq Y (.guarded (found4==false) Y Y Y Y fun h=>Ze (ow Y h) Zdz)<|Rq Y (.guarded (found4==false) Y Y Y Y fun h=>Zc (ow Y h) tS9 Y)<|Rq Y (.guarded (found4==false) Y Y Y Y fun h=>Qg (ow Y h)<|ow Y h)<|Rq Y (Zab (ov Y) fun hp=>ow Y<|gF hp)<|Ra Y<|Za<|Jt (kc 1 Y<|kc 2 Y<|kc 11 Y<|kc 12 Y<|kc 13 Y<|kc 14 Y<|kc 16 Y<|kc 52 Y<|kc 53 Y<|kc 54 Y<|kc 70 Y<|kc 71 Y<|kc 72 Y<|kc 78 Y<|kc 79 Y<|kc 80 Y kn) Y<|ZH<|R2 Jh Y<|Rm Y<|Za<|⟨_,h,ES [some 0,some 1]⟩
            ·
             exact Zf<|Jt (kc 1 Y<|kc 2 Y<|kc 11 Y<|kc 12 Y<|kc 13 Y<|kc 14 Y<|kc 16 Y<|kc 52 Y<|kc 53 Y<|kc 54 Y<|kc 70 Y<|kc 71 Y<|kc 72 Y<|kc 78 Y<|kc 79 Y<|kc 80 Y kn) Y<|ZH<|R2 Jh Y<|Rm Y<|Za<|⟨_,h,ES [some 0,some 1]⟩
           ·
            refine Z3<|?_
            replace h:=lx h▸ho3
            exact⟨_,h,ES [some 0]⟩
          ·
           exact ZH<|R2 Jh Y<|Rm Y<|Za<|⟨_,h,ES [some 0]⟩
         ·
          refine Z3<|?_
          replace h:=lx h▸ho2
          exact⟨_,h,ES []⟩
        ·
         refine Tr<|Rm Y<|R1 Xt Y<|Za<|K7 1 2 11 52 53 54 126 Y<|If h Y (fun h=>?_) fun h=>?_
         ·
          refine K0<|Tr<|Ra Y<|Za<|?_
          replace h:=lx h▸ho1
          obtain rfl:=rt h
          exact Zj (ZD Y (.one<|rb Y))
         ·
          exact Zf<|K6 1 2 11 52 53 54 Y<|ZH<|R2 Jh Y<|Rm Y<|Za<|⟨_,h,ES []⟩
      ·
       refine Z3<|?_
       replace h:=lx h▸ho1
       exact⟨(),h,ES []⟩
     ·
      replace h:=elr h
      replace h:=t0i h
      refine Tr<|bE h fun y8 h_y8 h=>Rq Y (Zm (ZbI h_y8) .nil)<|Ra Y<|Za<|?_
      obtain rfl:=rt h
      exact Zj (ZD Y (.one<|rb Y))
end Go.Proofs.YtailpehcgelmdaaGreatDoor
