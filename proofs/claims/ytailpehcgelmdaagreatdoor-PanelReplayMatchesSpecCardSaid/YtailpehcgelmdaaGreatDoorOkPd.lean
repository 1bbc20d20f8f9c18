/- A text of the proof: a verified executor of the program form, or the contracts of the functions that the law reaches. -/
import Derived.Test.YtailpehcgelmdaaGreatDoorOkPc
set_option linter.all false
namespace Go.Proofs.YtailpehcgelmdaaGreatDoor
open Go Go.Vx
set_option maxRecDepth 10000
set_option maxHeartbeats 1000000
set_option linter.unusedVariables false
theorem Zhi{s:api_PanelState}{r:api_PanelState}(h:Xf s=some r):
 GSpec Tryz.prog gl0 63 [.agg [.int .i64 s.Frame,.sl 99 (List.map R99 s.Memos)]] [] (.agg [.int .i64 r.Frame,.own 0 r.Memos.length]) [some ⟨99,List.map R99 r.Memos⟩]:=by
 unfold Xf at h
 replace h:=ZO h
 refine Z1 (by kernel_rfl) Tryz.func63 Y Y<|?_
 intro w0 A W φ0
 refine Tr<|Rq Y (ZP (cva<|ov Y) Y tZ_44 Y)<|Rx Y (Zz (row:= [_,_]) 0 Y ZcT Y tZ_44)<|Za<|K2 1 2 Y<|Tr<|Rq Y (Ze (ov Y) Qi)<|Rq Y (Zc (ov Y) tS3 Y)<|Rq Y (QU (ys:= [_,_]) Zid Zil ZcT (.cons (cvs (ov Y)<|ZB Y) .nil) Y)<|Rx Y (Zz (row:= [_,_]) 1 Y ZcT Y tZ_44)<|Rx Y (Zk (ov Y) (ov Y) (Zo QR Y) Y Y Y (Nat.le_of_ble_eq_true Y) (Zd Y) Y)<|Za<|I1 (fun Memos=>⟨[(2,.ptr 0 1 0 0),(3,.ptr 1 1 0 0)],[some ⟨44,[[.int .i64 0,.nils]]⟩,some ⟨44,[[.int .i64 s.Frame,.own 2 Memos.length]]⟩,some ⟨99,List.map R99 Memos⟩]⟩) h (fun h=>?_) fun Memos h=>?_
 ·
  refine K3 1 2 3 Y<|Tr<|Rq Y (Ze (ov Y) Jn)<|Rq Y (Zc (ov Y) ZdM Y)<|Rl tZ_99 ZcA Y<|Rm Y<|Za<|Zl<|?_
  obtain⟨r1,hl1,ho1⟩:=Xa h
  refine L2 (fun Memos2 i=>⟨[(2,.ptr 0 1 0 0),(3,.ptr 1 1 0 0),(10,.sl 99 (List.map R99 s.Memos)),(11,.int .i64 (s.Memos.length:Int)),(12,.int .i64 i)],[some ⟨44,[[.int .i64 0,.nils]]⟩,some ⟨44,[[.int .i64 s.Frame,.own 2 Memos2.length]]⟩,some ⟨99,List.map R99 Memos2⟩]⟩) hl1 (ES [some 0,some 1,none]) fun n1 Memos2 i h=>?_
  unfold XH at h
  refine Tr<|R2 ZV Y<|Za<|Zm<|If h Y (fun h=>?_) fun h=>?_
  ·
   exact Zh<|Zm<|Zl<|K5 2 3 10 11 12 Y<|Tr<|bE h fun x h_x h=>Rq Y (ZU (ov Y) (ov Y) ZcA h_x)<|Rq Y (Zr (ov Y) ZdS Y Y)<|Rx Y (Zz (row:= [_,_,_,_,_]) 3 Y ZkQ Y tZ_99)<|Rx Y (Zk (ov Y) (ov Y) (Zo ZdS Y) Y Y Y (Nat.le_of_ble_eq_true Y) (Zd Y) Y)<|Za<|K6 2 3 5 10 11 12 Y<|Tr<|Rx Y (QW (r:=4) (xs:=([]:List Int)) (f:=R3) Y J3 .nil Y Y Y)<|Rq Y (Zb (ov Y) Y Y JW)<|Rq Y (Zi (ov Y) Y Y Y ZeC Y)<|bE h fun l h_l h=>Rx Y (JR (ov Y) (XW (ov Y) tZ_3) J3 Y Y (fun _=>Zd Y) Y h_l)<|Rq Y (Zb (ov Y) Y Y JW)<|Rx Y (Zk (ov Y) (ov Y) (Zp ZeC) Y Y Y (Nat.le_of_ble_eq_true Y) (Zd Y) Y)<|Za<|K6 2 3 5 10 11 12 Y<|Zw<|Rq Y (Zb (ov Y) Y Y Jn)<|Rq Y (Zi (ov Y) Y Y Y ZdM Y)<|Rq Y (ZG (ov Y) Y Y Y ZdS Y Y)<|Zk3 (Ent.sel [some 0,some 1,some 2,some 3,none] (sr 2 Y (.ptr (r':=0) _ _ _ Y)<|sr 3 Y (.ptr (r':=1) _ _ _ Y)<|sr 5 Y (.ptr (r':=3) _ _ _ Y)<|sd 10 Y Y<|sd 11 Y Y<|sd 12 Y Y<|sr 21 Y (.ptr (r':=1) _ _ _ Y)<|sr 22 Y (.own (r':=2) _ Y)<|sr 23 Y (Zbw<|rlc (.dat Y)<|rlc (.dat Y)<|rlc (.dat Y)<|rlc (.dat Y)<|rlc (Za1 Y Y Y D3) rln) sn) (.cons Y (ro1 (by exact tZ_44.symm)<|rlc (.dat Y)<|rlc (.dat Y) rln)<|.cons Y (ro1 (by exact tZ_44.symm)<|rlc (.dat Y)<|rlc (.own (r':=2) _ Y) rln)<|.cons Y (roM D99)<|.cons Y (ro1 (by exact tZ_99.symm)<|rlc (.dat Y)<|rlc (.dat Y)<|rlc (.dat Y)<|rlc (.dat Y)<|rlc (Za1 Y Y Y D3) rln)<|.row 3 .nil) Y Y)<|R_q (.sl 99<|List.map R99 ([(api_Memo.mk x.Lit x.Some x.N x.Count l)]:List api_Memo)) Y (ZbU ZcA (.cons (cva<|ov Y) Y (pwD Y) .nil) Y Y)<|bE h fun l2 h_l2 h=>Rx Y (Jw (ov Y) (XW (ov Y) tZ_99) ZcA Y Y Y (fun _=>Zd Y) Y h_l2)<|Rq Y (Zb (ov Y) Y Y Jn)<|Rx Y (Zk (ov Y) (ov Y) (Zp ZdM) Y Y Y (Nat.le_of_ble_eq_true Y) (Zd Y) Y)<|Za<|K5 2 3 10 11 12 Y<|Zw<|R2 QB Y<|Rm Y<|Za<|⟨_,h,ES [some 0,some 1,some 2]⟩
  ·
   refine ZL<|?_
   replace h:=lx h▸ho1
   exact⟨_,h,ES [some 0,some 1,some 2]⟩
 ·
  refine Tr<|Rq Y (ZG (ov Y) Y Y Y QR Y Y)<|Rx Y (Zk (ov Y) (ov Y) (Zo QR Y) Y Y Y (Nat.le_of_ble_eq_true Y) (Zd Y) Y)<|Za<|?_
  obtain rfl:=rt h
  exact Zj<|XB [some 2] Y (.cons (.agg Y Y Y Y QR Y Y) .nil) (.cons Y (roM D99) .nil) Y Y<|Zbw<|rlc (.dat Y)<|rlc (.own _ Y) rln
set_option maxHeartbeats 4000000 in
set_option maxRecDepth 100000 in
open Go.Shelf Go.RowKit Go.Lib Go.Proofs in
theorem ZkC(vb voff vc:Nat)(v':Value)(w w':World)
 (hrun:(Builtin.append_ #[89,89] 89 #[.slice none 0 0,.slice (some ⟨vb,voff,none⟩) 1 vc]).run Tryz.prog w= .ok v' w'):
 Calls Tryz.prog 64 #[.slice none 0 0,.int .i64 (0:Nat),.slice (some ⟨vb,voff,none⟩) 1 vc] w fun e W=>e= .returned v'∧W=w':=by
 go_enter Tryz.func64,Tryz.ntmps64
 go_wp2_with (at_builtin;refine Lib.wpList_append_run _ rfl _ _ _ _ rfl _ _ rfl rfl _ _ hrun ?_)
 go_ret
 exact⟨Y,Y⟩
set_option maxHeartbeats 4000000 in
set_option maxRecDepth 100000 in
open Go.Shelf Go.RowKit Go.Lib Go.Proofs in
theorem Zlm(b n c vb voff vc:Nat)(v':Value)(w w':World)(hn:n≤c)(hc63:c≤9223372036854775807)
 (hrun:(Builtin.append_ #[89,89] 89 #[.slice (some ⟨b,0,none⟩) n c,.slice (some ⟨vb,voff,none⟩) 1 vc]).run Tryz.prog w= .ok v' w'):
 Calls Tryz.prog 64 #[.slice (some ⟨b,0,none⟩) n c,.int .i64 n,.slice (some ⟨vb,voff,none⟩) 1 vc] w fun e W=>e= .returned v'∧W=w':=by
 go_enter Tryz.func64,Tryz.ntmps64
 go_wp2_with (at_builtin;refine Lib.wpList_append_run _ rfl _ _ _ _ rfl _ _ rfl rfl _ _ hrun ?_)
 all_goals (go_ret;exact⟨rfl,rfl⟩)
set_option maxHeartbeats 4000000 in
set_option maxRecDepth 100000 in
open Go.Shelf Go.RowKit Go.Lib Go.Proofs in
theorem ZkS(b n c i vb voff vc:Nat)(w w1 w2:World)(hi:i<n)(hroom:n+1≤c)(hc63:c≤9223372036854775807)
 (hov: ∀ lb cb,(callFunc 103 #[.slice (some ⟨vb,voff,none⟩) 1 vc,.slice (some ⟨b,(i+1)*2,none⟩) lb cb]).run Tryz.prog w= .ok (.value (.bool false)) w)
 (hcp1: ∀ ty dc sc,(Builtin.copy_ #[89,89] ty #[.slice (some ⟨b,(i+1)*2,none⟩) (n-i) dc,.slice (some ⟨b,i*2,none⟩) (n+1-i) sc]).run Tryz.prog w.drew= .ok (goInt (n-i:Nat)) w1)
 (hcp2: ∀ ty dc,(Builtin.copy_ #[89,89] ty #[.slice (some ⟨b,i*2,none⟩) (n+1-i) dc,.slice (some ⟨vb,voff,none⟩) 1 vc]).run Tryz.prog w1= .ok (goInt 1) w2):
 Calls Tryz.prog 64 #[.slice (some ⟨b,0,none⟩) n c,.int .i64 i,.slice (some ⟨vb,voff,none⟩) 1 vc] w fun e w'=>
   e= .returned (.slice (some ⟨b,0,none⟩) (n+1) c)∧w'=w2:=by
 have mixed:Tryz.prog.follows .mixedOrders=true:=by kernel_rfl
 have hz2: ¬((i:Int)=(n:Int)):=by omega
 have hw1:IntKind.i64.wrap ((i:Int)+(1:Int))=(i:Int)+(1:Int):=by rw [IntKind.wrap_i64];omega
 have hb1:(0:Int)≤(i:Int)+(1:Int):=by omega
 have hin:i≤n:=by omega
 have htn:((i:Int)+(1:Int)).toNat=i+1:=by omega
 have hb2: ¬(c=i+1):=by omega
 have hb3:(i:Int)≤(n:Int)+(1:Int):=by omega
 have hb4: ¬(c=i):=by omega
 have hr: ¬((n:Int)+1>(c:Int)):=by omega
 go_enter Tryz.func64,Tryz.ntmps64
 go_wp2_with (simp only [hov])
 go_region_law_o (refine step_copy_runI rfl _ _ 89 89 rfl _ _ (by simp [Act.eval,Act.put]) (by simp [Act.eval,Act.put]) (hcp1 _ _ _) ?_)
 go_wp2_with (at_builtin;refine wpList_copy_runI _ rfl _ _ 89 89 rfl _ _ rfl rfl (hcp2 _ _) ?_)
 go_ret
 exact⟨Y,Y⟩
set_option maxHeartbeats 4000000 in
set_option maxRecDepth 100000 in
open Go.Shelf Go.RowKit Go.Lib Go.Proofs in
theorem ZkD(b n c i vb voff vc g c':Nat)(w w1 w2 w3:World)(hi:i<n)(hn:n≤c)(hroom:c<n+1)(hc63:c≤9223372036854775806)(hc1:n+1≤c')(hc2:c'≤9223372036854775807)
 (hap: ∀ ty,(Builtin.append_ #[89,3] ty #[.slice (some ⟨b,0,none⟩) i c,.int .i64 ((n+1-i:Nat):Int)]).run Tryz.prog w= .ok (.slice (some ⟨g,0,none⟩) (n+1) c') w1)
 (hcp1: ∀ ty dc,(Builtin.copy_ #[89,89] ty #[.slice (some ⟨g,i*2,none⟩) (n+1-i) dc,.slice (some ⟨vb,voff,none⟩) 1 vc]).run Tryz.prog w1= .ok (goInt 1) w2)
 (hcp2: ∀ ty dc sc,(Builtin.copy_ #[89,89] ty #[.slice (some ⟨g,(i+1)*2,none⟩) (n-i) dc,.slice (some ⟨b,i*2,none⟩) (n-i) sc]).run Tryz.prog w2.drew= .ok (goInt (n-i:Nat)) w3):
 Calls Tryz.prog 64 #[.slice (some ⟨b,0,none⟩) n c,.int .i64 i,.slice (some ⟨vb,voff,none⟩) 1 vc] w fun e W=>e= .returned (.slice (some ⟨g,0,none⟩) (n+1) c')∧W=w3:=by
 have mixed:Tryz.prog.follows .mixedOrders=true:=by kernel_rfl
 obtain rfl:c=n:=by omega
 have hz2: ¬((i:Int)=(c:Int)):=by omega
 have hsub:IntKind.i64.wrap ((c:Int)+1-(i:Int))=((c+1-i:Nat):Int):=by rw [IntKind.wrap_i64];omega
 have hw1:IntKind.i64.wrap ((i:Int)+(1:Int))=(i:Int)+(1:Int):=by rw [IntKind.wrap_i64];omega
 have hb1:(0:Int)≤(i:Int)+(1:Int):=by omega
 have hin:i≤c:=by omega
 have htn:((i:Int)+(1:Int)).toNat=i+1:=by omega
 have hb2: ¬(c'=i+1):=by omega
 have hb3:(i:Int)≤(c:Int)+(1:Int):=by omega
 have hb4: ¬(c=i):=by omega
 have hb5: ¬(c'=i):=by omega
 go_enter Tryz.func64,Tryz.ntmps64
 go_wp2_with (at_builtin;refine Lib.wpList_append_run _ rfl _ _ _ _ rfl _ _ rfl rfl _ _ (hap _) ?_)
 go_wp2_with (at_builtin;refine wpList_copy_runI _ rfl _ _ 89 89 rfl _ _ rfl rfl (hcp1 _ _) ?_)
 go_region_law_o (refine step_copy_runI rfl _ _ 89 89 rfl _ _ (by simp [Act.eval,Act.put]) (by simp [Act.eval,Act.put]) (hcp2 _ _ _) ?_)
 go_wp2
 go_ret
 exact⟨Y,Y⟩
theorem Zis:InsK Tryz.prog 64 103 89 3 2:=⟨ZkC,Zlm,ZkS,ZkD⟩
open Go.Shelf Go.RowKit Go.Lib Go.Proofs in
theorem Zib:OvK Tryz.prog 103:=fun w a b la ca lb cb hne tA tB kA kB h1 h2 h3 h4 h5=>by
  rw [run_callFunc_extern Tryz.func103 (by kernel_rfl) (by kernel_rfl) (by kernel_rfl) (e:=Extern.SlicesOverlaps.overlaps #[89,89] #[4]) (by kernel_rfl),Lib.run_overlaps_apart w 89 4 120 (by kernel_rfl) 2 (fun w=>by kernel_rfl) a b la ca lb cb hne tA tB kA kB h1 h2 h3 h4 h5]
  rfl
theorem X4{r_:panel_Replay}{text:Str}{r:Int×panel_Replay}(h:QC r_ text=some r):
 GSpec Tryz.prog gl0 30 [.ptr 0 1 0 0,.str text] [some ⟨91,[[.sl 49 (List.map R49 r_.p.Instruments),.sl 54 (List.map R54 r_.l),.int .i64 r_.keep,.int .i64 r_.state.Frame,.sl 99 (List.map R99 r_.state.Memos),.own 1 r_.kept.length,.own 2 r_.marks.length]]⟩,some ⟨44,List.map R44 r_.kept⟩,some ⟨120,List.map R120 r_.marks⟩] (.int .i64 r.1) [some ⟨91,[[.sl 49 (List.map R49 r.2.p.Instruments),.sl 54 (List.map R54 r.2.l),.int .i64 r.2.keep,.int .i64 r.2.state.Frame,.sl 99 (List.map R99 r.2.state.Memos),.own 3 r.2.kept.length,.own 4 r.2.marks.length]]⟩,none,none,some ⟨44,List.map R44 r.2.kept⟩,some ⟨120,List.map R120 r.2.marks⟩]:=by
 unfold QC at h
 replace h:=ZO h
 refine Z1 (by kernel_rfl) Tryz.func30 Y Y<|?_
 intro w0 A W φ0
 refine X0 (Ent.sel [some 0,some 1,some 2,some 1,some 2] (sr 0 Y (.ptr (r':=0) _ _ _ Y)<|sd 1 Y Y sn) (.cons Y (ro1 (by exact tZ_91.symm)<|rlc (.dat Y)<|rlc (.dat Y)<|rlc (.dat Y)<|rlc (.dat Y)<|rlc (.dat Y)<|rlc (.own (r':=3) _ Y)<|rlc (.own (r':=4) _ Y) rln)<|.dead<|.dead<|.cons Y (roM D44)<|.cons Y (roM D120) .nil) Y Y)<|Tr<|Ra Y<|Za<|Zm<|Zl<|K2 0 1 Y<|Tr<|Rm Y<|Rq Y (Zg (ov Y) Y Y)<|Rq Y (Zb (ov Y) Y Y Zax)<|Rq Y (Zb (ov Y) Y Y Qi)<|Rq Y (Zi (ov Y) Y Y Y tS3 Y)<|R2 ZV Y<|Ra Y<|Za<|K3 0 1 6 Y<|If h Y (fun h=>?_) fun h=>?_
 ·
  refine K0<|Tr<|Ra Y<|Za<|?_
  obtain rfl:=rt h
  exact Zj<|XB [some 0,some 1,some 2,some 3,some 4] Y (.cons (.tmp Y) .nil) (.cons Y (ro1 (by exact tZ_91.symm)<|rlc (.dat Y)<|rlc (.dat Y)<|rlc (.dat Y)<|rlc (.dat Y)<|rlc (.dat Y)<|rlc (.own _ Y)<|rlc (.own _ Y) rln)<|.dead<|.dead<|.cons Y (roM D44)<|.cons Y (roM D120) .nil) Y Y<|.dat Y
 ·
  refine K2 0 1 Y<|Tr<|Rm Y<|Rq Y (Qm (ov Y) Qr Y)<|R2 Qq Y<|Rm Y<|Rq Y (.guarded ((decide (100<(text.length:Int)))==false) Y Y Y Y fun h=>Zf<|ov Y)<|Rq Y (.guarded ((decide (100<(text.length:Int)))==false) Y Y Y Y fun h=>Zg (ow Y h) Y Y)<|Rq Y (.guarded ((decide (100<(text.length:Int)))==false) Y Y Y Y fun h=>Zb (ow Y h) Y Y Zd3)<|Rq Y (.guarded ((decide (100<(text.length:Int)))==false) Y Y Y Y fun h=>Zi (ow Y h) Y Y Y ZeM Y)<|Rq Y (.guarded ((decide (100<(text.length:Int)))==false) Y Y Y Y fun h=>Zbs (ow Y h) Y Y Zcp)<|Rq Y (.guarded ((decide (100<(text.length:Int)))==false) Y Y Y Y fun h=>Zaj (ow Y h)<|ov Y)<|Rq Y (Xi (ov Y) fun hp=>ow Y<|gF hp)<|Ra Y<|Za<|K3 0 1 13 Y<|If h Y (fun h=>?_) fun h=>?_
  ·
   refine K0<|Tr<|Ra Y<|Za<|?_
   obtain rfl:=rt h
   exact Zj<|XB [some 0,some 1,some 2,some 3,some 4] Y (.cons (.tmp Y) .nil) (.cons Y (ro1 (by exact tZ_91.symm)<|rlc (.dat Y)<|rlc (.dat Y)<|rlc (.dat Y)<|rlc (.dat Y)<|rlc (.dat Y)<|rlc (.own _ Y)<|rlc (.own _ Y) rln)<|.dead<|.dead<|.cons Y (roM D44)<|.cons Y (roM D120) .nil) Y Y<|.dat Y
  ·
   refine Zh<|K2 0 1 Y<|Tr<|Rm Y<|Rq Y (Zg (ov Y) Y Y)<|Rq Y (Zb (ov Y) Y Y Zd3)<|Rq Y (Zi (ov Y) Y Y Y ZeM Y)<|Rq Y (Zbs (ov Y) Y Y Zcp)<|Ra Y<|Za<|I1 (fun i=>⟨[(0,.ptr 0 1 0 0),(1,.str text),(5,.int .i64 i)],[some ⟨91,[[.sl 49 (List.map R49 r_.p.Instruments),.sl 54 (List.map R54 r_.l),.int .i64 r_.keep,.int .i64 r_.state.Frame,.sl 99 (List.map R99 r_.state.Memos),.own 3 r_.kept.length,.own 4 r_.marks.length]]⟩,none,none,some ⟨44,List.map R44 r_.kept⟩,some ⟨120,List.map R120 r_.marks⟩]⟩) h (fun h=>?_) fun i h=>?_
   ·
    refine Zl<|?_
    obtain⟨r1,hl1,ho1⟩:=Xa h
    refine L1 (fun i2=>⟨[(0,.ptr 0 1 0 0),(1,.str text),(5,.int .i64 i2)],[some ⟨91,[[.sl 49 (List.map R49 r_.p.Instruments),.sl 54 (List.map R54 r_.l),.int .i64 r_.keep,.int .i64 r_.state.Frame,.sl 99 (List.map R99 r_.state.Memos),.own 3 r_.kept.length,.own 4 r_.marks.length]]⟩,none,none,some ⟨44,List.map R44 r_.kept⟩,some ⟨120,List.map R120 r_.marks⟩]⟩) hl1 (ES [some 0,some 1,some 2,some 3,some 4]) fun n1 i2 h=>?_
    unfold ZaG at h
    refine Zm<|Td md0<|D1 0 Zf Y<|D2 1 Qq Y<|D1 2 Zf Y<|Dq 3 Y (.guarded ((decide (0<i2))==true) Y Y Y Y fun h=>Zf<|ov Y)<|Dq 4 Y (.guarded ((decide (0<i2))==true) Y Y Y Y fun h=>Zg (ow Y h) Y Y)<|Dq 5 Y (.guarded ((decide (0<i2))==true) Y Y Y Y fun h=>Zb (ow Y h) Y Y Zd3)<|Dq 6 Y (.guarded ((decide (0<i2))==true) Y Y Y Y fun h=>Zi (ow Y h) Y Y Y ZeM Y)<|Dq 7 Y (.guarded ((decide (0<i2))==true) Y Y Y Y fun h=>Zf<|ov Y)<|Dq 8 Y (.guarded ((decide (0<i2))==true) Y Y Y Y fun h=>Ze9 (ow Y h) (ov Y) Y)<|bE h fun x h_x h=>Dq 9 Y (.guarded ((decide (0<i2))==true) Y Y Y Y fun h=>ZaY (ow Y h) (ow Y h) Zcp Y Y<|gdT h_x h)<|Dq 10 Y (.guarded ((decide (0<i2))==true) Y Y Y Y fun h=>Jt (ow Y h) Y Y ZdG)<|Dq 11 Y (.guarded ((decide (0<i2))==true) Y Y Y Y fun h=>Zc0 (ow Y h) Y Y (gdT h_x h) tS3 Y)<|Dq 12 Y (.guarded ((decide (0<i2))==true) Y Y Y Y fun h=>Zf<|ov Y)<|Dq 13 Y (.guarded ((decide (0<i2))==true) Y Y Y Y fun h=>Zg (ow Y h) Y Y)<|Dq 14 Y (.guarded ((decide (0<i2))==true) Y Y Y Y fun h=>Zb (ow Y h) Y Y Zax)<|Dq 15 Y (.guarded ((decide (0<i2))==true) Y Y Y Y fun h=>Zb (ow Y h) Y Y Qi)<|Dq 16 Y (.guarded ((decide (0<i2))==true) Y Y Y Y fun h=>Zi (ow Y h) Y Y Y tS3 Y)<|Dq 17 Y (.guarded ((decide (0<i2))==true) Y Y Y Y fun h=>Qq (ow Y h)<|ow Y h)<|Dq 18 Y (ZQ (ov Y) fun hp=>ow Y<|gT hp)<|Dd<|K4 0 1 5 48 Y<|If h Y (fun h=>?_) fun h=>?_
    ·
     exact Zh<|Zl<|K3 0 1 5 Y<|Zw<|Rm Y<|R2 Zdi Y<|Ra Y<|Za<|⟨_,h,ES [some 0,some 1,some 2,some 3,some 4]⟩
    ·
     refine ZL<|?_
     replace h:=lx h▸ho1
     exact⟨_,h,ES [some 0,some 1,some 2,some 3,some 4]⟩
   ·
    refine Td ⟨true,false,[],[],[]⟩<|D1 6 Zf Y<|Dq 7 Y (Zg (ov Y) Y Y)<|Dq 8 Y (Zb (ov Y) Y Y Zax)<|Dq 9 Y (Zb (ov Y) Y Y Qi)<|Dq 10 Y (Zi (ov Y) Y Y Y tS3 Y)<|D1 11 Zf Y<|Dq 12 Y (QU (ys:= [_,_]) Zn4 ZnZ Zmk (.cons (cvs (ov Y)<|ZB Y)<|.cons (cvs (ov Y)<|ZB Y) .nil) Y)<|ZaL 0 _ Y (by kernel_rfl) Y Y (fun hp'=>Zf<|ov Y)<|ZaL 1 _ Y (by kernel_rfl) Y Y (fun hp'=>Zf<|ov Y)<|ZaL 5 _ Y (by kernel_rfl) Y Y (fun hp'=>Zf<|ov Y)<|Dw 2 13 Y (Zg (ov Y) Y Y) (QW (r:=5) (xs:=([(api_Bookmark.mk r_.state.Frame text)]:List api_Bookmark)) (f:=R120) Y Zcp (.cons (cva<|ov Y) Y (pwD Y) .nil) Y Y Y) ?_ ?_
    ·
     refine Dw 3 13 Y (Zb (ov Y) Y Y Zd3) (QW (r:=5) (xs:=([(api_Bookmark.mk r_.state.Frame text)]:List api_Bookmark)) (f:=R120) Y Zcp (.cons (cva<|ov Y) Y (pwD Y) .nil) Y Y Y) ?_ ?_
     ·
      refine Dw 4 13 Y (Zi (ov Y) Y Y Y ZeM Y) (QW (r:=5) (xs:=([(api_Bookmark.mk r_.state.Frame text)]:List api_Bookmark)) (f:=R120) Y Zcp (.cons (cva<|ov Y) Y (pwD Y) .nil) Y Y Y) ?_ ?_
      ·
       refine Do 13 Y (QW (r:=5) (xs:=([(api_Bookmark.mk r_.state.Frame text)]:List api_Bookmark)) (f:=R120) Y Zcp (.cons (cva<|ov Y) Y (pwD Y) .nil) Y Y Y)<|bE h fun l h_l h=>Do 14 Y (JM (f:=R120) Zis Zib (by kernel_rfl) Y (ov Y) (ov Y) (ov Y) Zcp Y Y Y Y Y D120 (fun _=>Y) Y h_l)<|Dq 15 Y (Zg (ov Y) Y Y)<|Dq 16 Y (Zb (ov Y) Y Y Zd3)<|Do 17 Y (Zk (ov Y) (ov Y) (Zp ZeM) Y Y Y (Nat.le_of_ble_eq_true Y) (Zd Y) Y)<|Dd<|K0<|Tr<|Ra Y<|Za<|?_
       obtain rfl:=rt h
       exact Zj<|XB [some 0,some 1,some 2,some 3,some 4] Y (.cons (.tmp Y) .nil) (.cons Y (ro1 (by exact tZ_91.symm)<|rlc (.dat Y)<|rlc (.dat Y)<|rlc (.dat Y)<|rlc (.dat Y)<|rlc (.dat Y)<|rlc (.own _ Y)<|rlc (.own _ Y) rln)<|.dead<|.dead<|.cons Y (roM D44)<|.cons Y (roM D120) .nil) Y Y<|.dat Y
      ·
       refine Dq 4 Y (Zi (ov Y) Y Y Y ZeM Y)<|bE h fun l h_l h=>Do 14 Y (JM (f:=R120) Zis Zib (by kernel_rfl) Y (ov Y) (ov Y) (ov Y) Zcp Y Y Y Y Y D120 (fun _=>Y) Y h_l)<|Dq 15 Y (Zg (ov Y) Y Y)<|Dq 16 Y (Zb (ov Y) Y Y Zd3)<|Do 17 Y (Zk (ov Y) (ov Y) (Zp ZeM) Y Y Y (Nat.le_of_ble_eq_true Y) (Zd Y) Y)<|Dd<|K0<|Tr<|Ra Y<|Za<|?_
       obtain rfl:=rt h
       exact Zj<|XB [some 0,some 1,some 2,some 3,some 4] Y (.cons (.tmp Y) .nil) (.cons Y (ro1 (by exact tZ_91.symm)<|rlc (.dat Y)<|rlc (.dat Y)<|rlc (.dat Y)<|rlc (.dat Y)<|rlc (.dat Y)<|rlc (.own _ Y)<|rlc (.own _ Y) rln)<|.dead<|.dead<|.cons Y (roM D44)<|.cons Y (roM D120) .nil) Y Y<|.dat Y
     ·
      refine Dq 3 Y (Zb (ov Y) Y Y Zd3)<|Dq 4 Y (Zi (ov Y) Y Y Y ZeM Y)<|bE h fun l h_l h=>Do 14 Y (JM (f:=R120) Zis Zib (by kernel_rfl) Y (ov Y) (ov Y) (ov Y) Zcp Y Y Y Y Y D120 (fun _=>Y) Y h_l)<|Dq 15 Y (Zg (ov Y) Y Y)<|Dq 16 Y (Zb (ov Y) Y Y Zd3)<|Do 17 Y (Zk (ov Y) (ov Y) (Zp ZeM) Y Y Y (Nat.le_of_ble_eq_true Y) (Zd Y) Y)<|Dd<|K0<|Tr<|Ra Y<|Za<|?_
      obtain rfl:=rt h
      exact Zj<|XB [some 0,some 1,some 2,some 3,some 4] Y (.cons (.tmp Y) .nil) (.cons Y (ro1 (by exact tZ_91.symm)<|rlc (.dat Y)<|rlc (.dat Y)<|rlc (.dat Y)<|rlc (.dat Y)<|rlc (.dat Y)<|rlc (.own _ Y)<|rlc (.own _ Y) rln)<|.dead<|.dead<|.cons Y (roM D44)<|.cons Y (roM D120) .nil) Y Y<|.dat Y
    ·
     refine Dq 2 Y (Zg (ov Y) Y Y)<|Dq 3 Y (Zb (ov Y) Y Y Zd3)<|Dq 4 Y (Zi (ov Y) Y Y Y ZeM Y)<|bE h fun l h_l h=>Do 14 Y (JM (f:=R120) Zis Zib (by kernel_rfl) Y (ov Y) (ov Y) (ov Y) Zcp Y Y Y Y Y D120 (fun _=>Y) Y h_l)<|Dq 15 Y (Zg (ov Y) Y Y)<|Dq 16 Y (Zb (ov Y) Y Y Zd3)<|Do 17 Y (Zk (ov Y) (ov Y) (Zp ZeM) Y Y Y (Nat.le_of_ble_eq_true Y) (Zd Y) Y)<|Dd<|K0<|Tr<|Ra Y<|Za<|?_
     obtain rfl:=rt h
     exact Zj<|XB [some 0,some 1,some 2,some 3,some 4] Y (.cons (.tmp Y) .nil) (.cons Y (ro1 (by exact tZ_91.symm)<|rlc (.dat Y)<|rlc (.dat Y)<|rlc (.dat Y)<|rlc (.dat Y)<|rlc (.dat Y)<|rlc (.own _ Y)<|rlc (.own _ Y) rln)<|.dead<|.dead<|.cons Y (roM D44)<|.cons Y (roM D120) .nil) Y Y<|.dat Y
theorem ZaU{r_:panel_Replay}{back:Bool}{r:Int×Bool×Int×panel_Replay}(h:Q2 r_ back=some r):
 GSpec Tryz.prog gl0 32 [.ptr 0 1 0 0,.bool back] [some ⟨91,[[.sl 49 (List.map R49 r_.p.Instruments),.sl 54 (List.map R54 r_.l),.int .i64 r_.keep,.int .i64 r_.state.Frame,.sl 99 (List.map R99 r_.state.Memos),.own 1 r_.kept.length,.own 2 r_.marks.length]]⟩,some ⟨44,List.map R44 r_.kept⟩,some ⟨120,List.map R120 r_.marks⟩] (.tuple [.int .i64 r.1,.bool r.2.1,.int .i64 r.2.2.1]) [some ⟨91,[[.sl 49 (List.map R49 r.2.2.2.p.Instruments),.sl 54 (List.map R54 r.2.2.2.l),.int .i64 r.2.2.2.keep,.int .i64 r.2.2.2.state.Frame,.sl 99 (List.map R99 r.2.2.2.state.Memos),.own 3 r.2.2.2.kept.length,.own 4 r.2.2.2.marks.length]]⟩,none,none,some ⟨44,List.map R44 r.2.2.2.kept⟩,some ⟨120,List.map R120 r.2.2.2.marks⟩]:=by
 unfold Q2 at h
 replace h:=ZO h
 refine Z1 (by kernel_rfl) Tryz.func32 Y Y<|?_
 intro w0 A W φ0
 refine X0 (Ent.sel [some 0,some 1,some 2,some 1,some 2] (sr 0 Y (.ptr (r':=0) _ _ _ Y)<|sd 1 Y Y sn) (.cons Y (ro1 (by exact tZ_91.symm)<|rlc (.dat Y)<|rlc (.dat Y)<|rlc (.dat Y)<|rlc (.dat Y)<|rlc (.dat Y)<|rlc (.own (r':=3) _ Y)<|rlc (.own (r':=4) _ Y) rln)<|.dead<|.dead<|.cons Y (roM D44)<|.cons Y (roM D120) .nil) Y Y)<|Tr<|Ra Y<|Ra Y<|Ra Y<|Za<|K2 0 1 Y<|Tr<|Ra Y<|Ra Y<|Za<|I2 (fun to found=>⟨[(0,.ptr 0 1 0 0),(7,.int .i64 to),(8,.bool found)],[some ⟨91,[[.sl 49 (List.map R49 r_.p.Instruments),.sl 54 (List.map R54 r_.l),.int .i64 r_.keep,.int .i64 r_.state.Frame,.sl 99 (List.map R99 r_.state.Memos),.own 3 r_.kept.length,.own 4 r_.marks.length]]⟩,none,none,some ⟨44,List.map R44 r_.kept⟩,some ⟨120,List.map R120 r_.marks⟩]⟩) h (fun h=>?_) fun to found h=>?_
 ·
  refine Tr<|Rm Y<|Rq Y (Zg (ov Y) Y Y)<|Rq Y (Zb (ov Y) Y Y Zd3)<|Rq Y (Zi (ov Y) Y Y Y ZeM Y)<|Rq Y (Zbs (ov Y) Y Y Zcp)<|Rm Y<|Za<|Zl<|?_
  obtain⟨r1,hl1,ho1⟩:=Xa h
  refine L3 (fun to2 found2 i=>⟨[(0,.ptr 0 1 0 0),(1,.bool back),(7,.int .i64 to2),(8,.bool found2),(16,.own 4 r_.marks.length),(17,.int .i64 (r_.marks.length:Int)),(18,.int .i64 i)],[some ⟨91,[[.sl 49 (List.map R49 r_.p.Instruments),.sl 54 (List.map R54 r_.l),.int .i64 r_.keep,.int .i64 r_.state.Frame,.sl 99 (List.map R99 r_.state.Memos),.own 3 r_.kept.length,.own 4 r_.marks.length]]⟩,none,none,some ⟨44,List.map R44 r_.kept⟩,some ⟨120,List.map R120 r_.marks⟩]⟩) hl1 (ES [some 0,some 1,some 2,some 3,some 4]) fun n1 to2 found2 i h=>?_
  unfold QZ at h
  refine Tr<|R2 ZV Y<|Za<|Zm<|If h Y (fun h=>?_) fun h=>?_
  ·
   refine Zh<|Zm<|Zl<|K7 0 1 7 8 16 17 18 Y<|Tr<|bE h fun x h_x h=>Rq Y (ZaY (ov Y) (ov Y) Zcp Y Y h_x)<|Rq Y (ZfH (ov Y) Y Y h_x Zht Y Y)<|Rx Y (Zz (row:= [_,_]) 5 Y Zmk Y tZ_120)<|Rx Y (Zk (ov Y) (ov Y) (Zo Zht Y) Y Y Y (Nat.le_of_ble_eq_true Y) (Zd Y) Y)<|Za<|K8 0 1 7 8 10 16 17 18 Y<|Td md0<|D1 0 Zf Y<|D1 1 Zf Y<|Dq 2 Y (.guarded (back==true) Y Y Y Y fun h=>Zb (ov Y) Y Y ZdG)<|Dq 3 Y (.guarded (back==true) Y Y Y Y fun h=>Zi (ow Y h) Y Y Y tS3 Y)<|Dq 4 Y (.guarded (back==true) Y Y Y Y fun h=>Zf<|ov Y)<|Dq 5 Y (.guarded (back==true) Y Y Y Y fun h=>Zg (ow Y h) Y Y)<|Dq 6 Y (.guarded (back==true) Y Y Y Y fun h=>Zb (ow Y h) Y Y Zax)<|Dq 7 Y (.guarded (back==true) Y Y Y Y fun h=>Zb (ow Y h) Y Y Qi)<|Dq 8 Y (.guarded (back==true) Y Y Y Y fun h=>Zi (ow Y h) Y Y Y tS3 Y)<|Dq 9 Y (.guarded (back==true) Y Y Y Y fun h=>ZV (ow Y h)<|ow Y h)<|Dq 10 Y (ZQ (ov Y) fun hp=>ow Y<|gT hp)<|D1 11 Zf Y<|Dq 12 Y (.guarded ((back&&(decide (x.Frame<r_.state.Frame)))==false) Y Y Y Y fun h=>Zf<|ov Y)<|Dq 13 Y (.guarded ((back&&(decide (x.Frame<r_.state.Frame)))==false) Y Y Y Y fun h=>QA<|ow Y h)<|Dq 14 Y (.guarded ((back&&(decide (x.Frame<r_.state.Frame)))==false) Y Y Y Y fun h=>Zf<|ow Y h)<|Dq 15 Y (.guarded2 (((back&&(decide (x.Frame<r_.state.Frame)))==false)&&((!back)==true)) Y Y Y Y fun h=>Zb (ov Y) Y Y ZdG)<|Dq 16 Y (.guarded2 (((back&&(decide (x.Frame<r_.state.Frame)))==false)&&((!back)==true)) Y Y Y Y fun h=>Zi (ow Y h) Y Y Y tS3 Y)<|Dq 17 Y (.guarded2 (((back&&(decide (x.Frame<r_.state.Frame)))==false)&&((!back)==true)) Y Y Y Y fun h=>Zf<|ov Y)<|Dq 18 Y (.guarded2 (((back&&(decide (x.Frame<r_.state.Frame)))==false)&&((!back)==true)) Y Y Y Y fun h=>Zg (ow Y h) Y Y)<|Dq 19 Y (.guarded2 (((back&&(decide (x.Frame<r_.state.Frame)))==false)&&((!back)==true)) Y Y Y Y fun h=>Zb (ow Y h) Y Y Zax)<|Dq 20 Y (.guarded2 (((back&&(decide (x.Frame<r_.state.Frame)))==false)&&((!back)==true)) Y Y Y Y fun h=>Zb (ow Y h) Y Y Qi)<|Dq 21 Y (.guarded2 (((back&&(decide (x.Frame<r_.state.Frame)))==false)&&((!back)==true)) Y Y Y Y fun h=>Zi (ow Y h) Y Y Y tS3 Y)<|Dq 22 Y (.guarded2 (((back&&(decide (x.Frame<r_.state.Frame)))==false)&&((!back)==true)) Y Y Y Y fun h=>Qq (ow Y h)<|ow Y h)<|Dq 23 Y (.guarded ((back&&(decide (x.Frame<r_.state.Frame)))==false) Y Y Y Y fun h=>ZQ (ow Y h) fun hp=>ow Y<|gA h<|gT hp)<|Dq 24 Y (.guarded ((back&&(decide (x.Frame<r_.state.Frame)))==false) Y Y Y Y fun h=>Zf<|ow Y h)<|Dq 25 Y (.guarded2 (((back&&(decide (x.Frame<r_.state.Frame)))==false)&&(((!back)&&(decide (r_.state.Frame<x.Frame)))==true)) Y Y Y Y fun h=>Zf<|ov Y)<|Dq 26 Y (.guarded2 (((back&&(decide (x.Frame<r_.state.Frame)))==false)&&(((!back)&&(decide (r_.state.Frame<x.Frame)))==true)) Y Y Y Y fun h=>QA<|ow Y h)<|Dq 27 Y (.guarded ((back&&(decide (x.Frame<r_.state.Frame)))==false) Y Y Y Y fun h=>ZQ (ow Y h) fun hp=>ow Y<|gA h<|gT hp)<|Dq 28 Y (Xi (ov Y) fun hp=>ow Y<|gF hp)<|Dd<|K9 0 1 7 8 10 16 17 18 50 Y<|If h Y (fun h=>?_) fun h=>?_
   ·
    exact K8 0 1 7 8 10 16 17 18 Y<|Zw<|Rq Y (Zb (ov Y) Y Y ZdG)<|Rq Y (Zi (ov Y) Y Y Y tS3 Y)<|Ra Y<|Ra Y<|Za<|K7 0 1 7 8 16 17 18 Y<|Zw<|R2 QB Y<|Rm Y<|Za<|⟨_,h,ES [some 0,some 1,some 2,some 3,some 4]⟩
   ·
    exact Zh<|K7 0 1 7 8 16 17 18 Y<|Zw<|R2 QB Y<|Rm Y<|Za<|⟨_,h,ES [some 0,some 1,some 2,some 3,some 4]⟩
  ·
   refine ZL<|?_
   replace h:=lx h▸ho1
   exact⟨_,h,ES [some 0,some 1,some 2,some 3,some 4]⟩
 ·
  refine Zm<|Tr<|Rm Y<|R1 QA Y<|Za<|K3 0 7 55 Y<|If h Y (fun h=>?_) fun h=>?_
  ·
   refine K0<|Tr<|Ra Y<|Ra Y<|Ra Y<|Za<|?_
   obtain rfl:=rt h
   exact Zj<|XB [some 0,some 1,some 2,some 3,some 4] Y (.cons (.tmp Y)<|.cons (.tmp Y)<|.cons (.tmp Y) .nil) (.cons Y (ro1 (by exact tZ_91.symm)<|rlc (.dat Y)<|rlc (.dat Y)<|rlc (.dat Y)<|rlc (.dat Y)<|rlc (.dat Y)<|rlc (.own _ Y)<|rlc (.own _ Y) rln)<|.dead<|.dead<|.cons Y (roM D44)<|.cons Y (roM D120) .nil) Y Y<|JO<|rlc (.dat Y)<|rlc (.dat Y)<|rlc (.dat Y) rln
  ·
   refine Zh<|K2 0 7 Y<|Tr<|Rm Y<|Rm Y<|bE h fun y h_y h=>Rx Y (ZK [0,3,4] (X6 h_y) (.cons (ov Y) (.ptr _ _ _ Y)<|.cons (ov Y) (.dat Y) .nil) (.cons Y (ro1 (by exact tZ_91.symm)<|rlc (.dat Y)<|rlc (.dat Y)<|rlc (.dat Y)<|rlc (.dat Y)<|rlc (.dat Y)<|rlc (.own _ Y)<|rlc (.own _ Y) rln)<|.cons Y (roM D44)<|.cons Y (roM D120) .nil) Y (.lent 0 (.inl Y) Y (ro1 (by exact tZ_91.symm)<|rlc (.dat Y)<|rlc (.dat Y)<|rlc (.dat Y)<|rlc (.dat Y)<|rlc (.dat Y)<|rlc (.own _<|.inr ⟨Nat.le_of_ble_eq_true Y,Y⟩)<|rlc (.own _<|.inr ⟨Nat.le_of_ble_eq_true Y,Y⟩) rln)<|.none<|.none<|.none<|.none<|.lent 3 (.inr ⟨Nat.le_of_ble_eq_true Y,Y⟩) Y (roM D44)<|.lent 4 (.inr ⟨Nat.le_of_ble_eq_true Y,Y⟩) Y (roM D120) .nil) Y Y<|JO<|rld Y)<|Rm Y<|Rq Y (Zq (ov Y) Y)<|Rq Y (Zq (ov Y) Y)<|Ra Y<|Ra Y<|Za<|K2 7 12 Y<|Tr<|Rm Y<|Rm Y<|Ra Y<|Ra Y<|Ra Y<|Za<|?_
   obtain rfl:=rt h
   exact Zj<|XB [some 0,some 1,some 2,some 5,some 6] Y (.cons (.tmp Y)<|.cons (.tmp Y)<|.cons (.tmp Y) .nil) (.cons Y (ro1 (by exact tZ_91.symm)<|rlc (.dat Y)<|rlc (.dat Y)<|rlc (.dat Y)<|rlc (.dat Y)<|rlc (.dat Y)<|rlc (.own _ Y)<|rlc (.own _ Y) rln)<|.dead<|.dead<|.cons Y (roM D44)<|.cons Y (roM D120) .nil) Y Y<|JO<|rlc (.dat Y)<|rlc (.dat Y)<|rlc (.dat Y) rln
theorem Ze5{s:api_PanelState}{r:api_PanelState}(h:Xf s=some r):
 CSpec Tryz.prog gl0 63 [.agg [.int .i64 s.Frame,.sl 99 (List.map R99 s.Memos)]] (.agg [.int .i64 r.Frame,.sl 99 (List.map R99 r.Memos)]):=by
 unfold Xf at h
 replace h:=ZO h
 refine So Tryz.func63 Y fun w0 A=>Tr<|Rq Y (ZP (cva<|ov Y) Y tZ_44 Y)<|Rx Y (Zz (row:= [_,_]) 0 Y ZcT Y tZ_44)<|Za<|K2 1 2 Y<|Tr<|Rq Y (Ze (ov Y) Qi)<|Rq Y (Zc (ov Y) tS3 Y)<|Rq Y (QU (ys:= [_,_]) Zid Zil ZcT (.cons (cvs (ov Y)<|ZB Y) .nil) Y)<|Rx Y (Zz (row:= [_,_]) 1 Y ZcT Y tZ_44)<|Rx Y (Zk (ov Y) (ov Y) (Zo QR Y) Y Y Y (Nat.le_of_ble_eq_true Y) (Zd Y) Y)<|Za<|I1 (fun Memos=>⟨[(2,.ptr 0 1 0 0),(3,.ptr 1 1 0 0)],[some ⟨44,[[.int .i64 0,.nils]]⟩,some ⟨44,[[.int .i64 s.Frame,.own 2 Memos.length]]⟩,some ⟨99,List.map R99 Memos⟩]⟩) h (fun h=>?_) fun Memos h=>?_
 ·
  refine K3 1 2 3 Y<|Tr<|Rq Y (Ze (ov Y) Jn)<|Rq Y (Zc (ov Y) ZdM Y)<|Rl tZ_99 ZcA Y<|Rm Y<|Za<|Zl<|?_
  obtain⟨r1,hl1,ho1⟩:=Xa h
  refine L2 (fun Memos2 i=>⟨[(2,.ptr 0 1 0 0),(3,.ptr 1 1 0 0),(10,.sl 99 (List.map R99 s.Memos)),(11,.int .i64 (s.Memos.length:Int)),(12,.int .i64 i)],[some ⟨44,[[.int .i64 0,.nils]]⟩,some ⟨44,[[.int .i64 s.Frame,.own 2 Memos2.length]]⟩,some ⟨99,List.map R99 Memos2⟩]⟩) hl1 (ES [some 0,some 1,none]) fun n1 Memos2 i h=>?_
  unfold XH at h
  refine Tr<|R2 ZV Y<|Za<|Zm<|If h Y (fun h=>?_) fun h=>?_
  ·
   exact Zh<|Zm<|Zl<|K5 2 3 10 11 12 Y<|Tr<|bE h fun x h_x h=>Rq Y (ZU (ov Y) (ov Y) ZcA h_x)<|Rq Y (Zr (ov Y) ZdS Y Y)<|Rx Y (Zz (row:= [_,_,_,_,_]) 3 Y ZkQ Y tZ_99)<|Rx Y (Zk (ov Y) (ov Y) (Zo ZdS Y) Y Y Y (Nat.le_of_ble_eq_true Y) (Zd Y) Y)<|Za<|K6 2 3 5 10 11 12 Y<|Tr<|Rx Y (QW (r:=4) (xs:=([]:List Int)) (f:=R3) Y J3 .nil Y Y Y)<|Rq Y (Zb (ov Y) Y Y JW)<|Rq Y (Zi (ov Y) Y Y Y ZeC Y)<|bE h fun l h_l h=>Rx Y (JR (ov Y) (XW (ov Y) tZ_3) J3 Y Y (fun _=>Zd Y) Y h_l)<|Rq Y (Zb (ov Y) Y Y JW)<|Rx Y (Zk (ov Y) (ov Y) (Zp ZeC) Y Y Y (Nat.le_of_ble_eq_true Y) (Zd Y) Y)<|Za<|K6 2 3 5 10 11 12 Y<|Zw<|Rq Y (Zb (ov Y) Y Y Jn)<|Rq Y (Zi (ov Y) Y Y Y ZdM Y)<|Rq Y (ZG (ov Y) Y Y Y ZdS Y Y)<|Zk3 (Ent.sel [some 0,some 1,some 2,some 3,none] (sr 2 Y (.ptr (r':=0) _ _ _ Y)<|sr 3 Y (.ptr (r':=1) _ _ _ Y)<|sr 5 Y (.ptr (r':=3) _ _ _ Y)<|sd 10 Y Y<|sd 11 Y Y<|sd 12 Y Y<|sr 21 Y (.ptr (r':=1) _ _ _ Y)<|sr 22 Y (.own (r':=2) _ Y)<|sr 23 Y (Zbw<|rlc (.dat Y)<|rlc (.dat Y)<|rlc (.dat Y)<|rlc (.dat Y)<|rlc (Za1 Y Y Y D3) rln) sn) (.cons Y (ro1 (by exact tZ_44.symm)<|rlc (.dat Y)<|rlc (.dat Y) rln)<|.cons Y (ro1 (by exact tZ_44.symm)<|rlc (.dat Y)<|rlc (.own (r':=2) _ Y) rln)<|.cons Y (roM D99)<|.cons Y (ro1 (by exact tZ_99.symm)<|rlc (.dat Y)<|rlc (.dat Y)<|rlc (.dat Y)<|rlc (.dat Y)<|rlc (Za1 Y Y Y D3) rln)<|.row 3 .nil) Y Y)<|R_q (.sl 99<|List.map R99 ([(api_Memo.mk x.Lit x.Some x.N x.Count l)]:List api_Memo)) Y (ZbU ZcA (.cons (cva<|ov Y) Y (pwD Y) .nil) Y Y)<|bE h fun l2 h_l2 h=>Rx Y (Jw (ov Y) (XW (ov Y) tZ_99) ZcA Y Y Y (fun _=>Zd Y) Y h_l2)<|Rq Y (Zb (ov Y) Y Y Jn)<|Rx Y (Zk (ov Y) (ov Y) (Zp ZdM) Y Y Y (Nat.le_of_ble_eq_true Y) (Zd Y) Y)<|Za<|K5 2 3 10 11 12 Y<|Zw<|R2 QB Y<|Rm Y<|Za<|⟨_,h,ES [some 0,some 1,some 2]⟩
  ·
   refine ZL<|?_
   replace h:=lx h▸ho1
   exact⟨_,h,ES [some 0,some 1,some 2]⟩
 ·
  refine Tr<|Rq Y (ZG (ov Y) Y Y Y QR Y Y)<|Rx Y (Zk (ov Y) (ov Y) (Zo QR Y) Y Y Y (Nat.le_of_ble_eq_true Y) (Zd Y) Y)<|Za<|?_
  obtain rfl:=rt h
  exact Zj (Zu Y (.one<|.agg Y Y Y Y QR Y Y<|.cons (Dat.view<|.b Y)<|.cons (View.ownM Y Y D99) .nil))
theorem ZbR{r_:ref8_Replay}{r:ref8_Replay}(h:XO r_=some r):
 GSpec Tryz.prog gl0 62 [.ptr 0 1 0 0] [some ⟨118,[[.sl 49 (List.map R49 r_.p.Instruments),.sl 54 (List.map R54 r_.l),.int .i64 r_.keep,.int .i64 r_.state.Frame,.sl 99 (List.map R99 r_.state.Memos),.own 1 r_.kept.length,.own 2 r_.marks.length]]⟩,some ⟨44,List.map R44 r_.kept⟩,some ⟨120,List.map R120 r_.marks⟩] (.tuple []) [some ⟨118,[[.sl 49 (List.map R49 r.p.Instruments),.sl 54 (List.map R54 r.l),.int .i64 r.keep,.int .i64 r.state.Frame,.sl 99 (List.map R99 r.state.Memos),.own 3 r.kept.length,.own 4 r.marks.length]]⟩,none,none,some ⟨44,List.map R44 r.kept⟩,some ⟨120,List.map R120 r.marks⟩]:=by
 unfold XO at h
 replace h:=ZO h
 refine Z1 (by kernel_rfl) Tryz.func62 Y Y<|?_
 intro w0 A W φ0
 refine X0 (Ent.sel [some 0,some 1,some 2,some 1,some 2] (sr 0 Y (.ptr (r':=0) _ _ _ Y) sn) (.cons Y (ro1 (by exact tZ_118.symm)<|rlc (.dat Y)<|rlc (.dat Y)<|rlc (.dat Y)<|rlc (.dat Y)<|rlc (.dat Y)<|rlc (.own (r':=3) _ Y)<|rlc (.own (r':=4) _ Y) rln)<|.dead<|.dead<|.cons Y (roM D44)<|.cons Y (roM D120) .nil) Y Y)<|Td ⟨true,false,[],[],[]⟩<|D1 1 Zf Y<|Dq 2 Y (Zg (ov Y) Y Y)<|Dq 3 Y (Zb (ov Y) Y Y Zli)<|Dq 4 Y (ZG (ov Y) Y Y Y Zd7 Y Y)<|D1 5 Zf Y<|Dq 6 Y (Zg (ov Y) Y Y)<|Dq 7 Y (Zb (ov Y) Y Y Zng)<|Dq 8 Y (Zi (ov Y) Y Y Y ZmM Y)<|D1 9 Zf Y<|Dq 10 Y (Zg (ov Y) Y Y)<|Dq 11 Y (Zb (ov Y) Y Y ZaE)<|Dq 12 Y (ZG (ov Y) Y Y Y QR Y Y)<|ZaL 0 _ Y (by kernel_rfl) Y Y (fun hp'=>Zf<|ov Y)<|bE h fun y h_y h=>Do 13 Y (ZK [] (Ziw h_y) (.cons (ov Y) (Zbw<|rld Y)<|.cons (ov Y) (.dat Y)<|.cons (ov Y) (Zbw<|rld Y) .nil) .nil Y (.keep Y Y<|.none<|.none<|.keep Y Y<|.keep Y Y<|.lent 0 (.inr ⟨Nat.le_of_ble_eq_true Y,Y⟩) Y (roM D99) .nil) Y Y<|Zbw<|rlc (.dat Y)<|rlc (.own _<|.inr ⟨Nat.le_of_ble_eq_true Y,Y⟩) rln)<|Dq 14 Y (Zg (ov Y) Y Y)<|Dq 15 Y (Zb (ov Y) Y Y ZaE)<|Do 16 Y (Zk (ov Y) (ov Y) (Zo QR Y) Y Y Y (Nat.le_of_ble_eq_true Y) (Zd Y) Y)<|Dd<|K1 0 Y<|Tr<|Rm Y<|Rq Y (Zg (ov Y) Y Y)<|Rq Y (Zb (ov Y) Y Y ZaE)<|Rq Y (Zb (ov Y) Y Y Qi)<|Rq Y (Zi (ov Y) Y Y Y tS3 Y)<|Ra Y<|Za<|Zm<|K2 0 2 Y<|Td md0<|D1 0 Zf Y<|D1 1 Zf Y<|Dq 2 Y (Zg (ov Y) Y Y)<|Dq 3 Y (Zb (ov Y) Y Y ZmW)<|Dq 4 Y (Zi (ov Y) Y Y Y tS3 Y)<|bE h fun q h_q h=>Dq 5 Y (Zj1 (ov Y) (ov Y) h_q)<|D1 6 Zf Y<|Dq 7 Y (Zg (ov Y) Y Y)<|Dq 8 Y (Zb (ov Y) Y Y ZmW)<|Dq 9 Y (Zi (ov Y) Y Y Y tS3 Y)<|D2 10 Zdi Y<|D2 11 Qo Y<|Dd<|K3 0 2 36 Y<|If h Y (fun h=>?_) fun h=>?_
 ·
  obtain rfl:=rt h
  exact X0 (Ent.sel [some 0,some 1,some 2,some 3,some 4,none] (sr 0 Y (.ptr (r':=0) _ _ _ Y)<|sd 2 Y Y<|sd 36 Y Y sn) (.cons Y (ro1 (by exact tZ_118.symm)<|rlc (.dat Y)<|rlc (.dat Y)<|rlc (.dat Y)<|rlc (.dat Y)<|rlc (Za1 Y Y Y D99)<|rlc (.own (r':=3) _ Y)<|rlc (.own (r':=4) _ Y) rln)<|.dead<|.dead<|.cons Y (roM D44)<|.cons Y (roM D120)<|.row 99 .nil) Y Y)<|Zj<|XB [some 0,some 1,some 2,some 3,some 4] Y .nil (.cons Y (ro1 (by exact tZ_118.symm)<|rlc (.dat Y)<|rlc (.dat Y)<|rlc (.dat Y)<|rlc (.dat Y)<|rlc (.dat Y)<|rlc (.own _ Y)<|rlc (.own _ Y) rln)<|.dead<|.dead<|.cons Y (roM D44)<|.cons Y (roM D120) .nil) Y Y<|JO rln
 ·
  refine Zh<|K2 0 2 Y<|Tr<|Rm Y<|Rq Y (Zg (ov Y) Y Y)<|Rq Y (Zb (ov Y) Y Y ZdE)<|Rq Y (Zi (ov Y) Y Y Y Jd Y)<|Rq Y (Zbs (ov Y) Y Y XE)<|Ra Y<|Za<|I1 (fun at_=>⟨[(0,.ptr 0 1 0 0),(2,.int .i64 y.Frame),(3,.int .i64 at_)],[some ⟨118,[[.sl 49 (List.map R49 r_.p.Instruments),.sl 54 (List.map R54 r_.l),.int .i64 r_.keep,.int .i64 y.Frame,.own 3 y.Memos.length,.own 4 r_.kept.length,.own 5 r_.marks.length]]⟩,none,none,some ⟨99,List.map R99 y.Memos⟩,some ⟨44,List.map R44 r_.kept⟩,some ⟨120,List.map R120 r_.marks⟩]⟩) h (fun h=>?_) fun at_ h=>?_
  ·
   refine Zl<|?_
   obtain⟨r1,hl1,ho1⟩:=Xa h
   refine L1 (fun at_2=>⟨[(0,.ptr 0 1 0 0),(2,.int .i64 y.Frame),(3,.int .i64 at_2)],[some ⟨118,[[.sl 49 (List.map R49 r_.p.Instruments),.sl 54 (List.map R54 r_.l),.int .i64 r_.keep,.int .i64 y.Frame,.own 3 y.Memos.length,.own 4 r_.kept.length,.own 5 r_.marks.length]]⟩,none,none,some ⟨99,List.map R99 y.Memos⟩,some ⟨44,List.map R44 r_.kept⟩,some ⟨120,List.map R120 r_.marks⟩]⟩) hl1 (ES [some 0,some 1,some 2,some 5,some 3,some 4]) fun n1 at_2 h=>?_
   unfold Zap at h
   refine Zm<|Tr<|Rm Y<|R2 Qq Y<|Rm Y<|Rq Y (.guarded ((decide (0<at_2))==true) Y Y Y Y fun h=>Zf<|ov Y)<|Rq Y (.guarded ((decide (0<at_2))==true) Y Y Y Y fun h=>Zg (ow Y h) Y Y)<|Rq Y (.guarded ((decide (0<at_2))==true) Y Y Y Y fun h=>Zb (ow Y h) Y Y ZdE)<|Rq Y (.guarded ((decide (0<at_2))==true) Y Y Y Y fun h=>Zi (ow Y h) Y Y Y Jd Y)<|Rq Y (.guarded ((decide (0<at_2))==true) Y Y Y Y fun h=>Zf<|ov Y)<|Rq Y (.guarded ((decide (0<at_2))==true) Y Y Y Y fun h=>Ze9 (ow Y h) (ov Y) Y)<|bE h fun x h_x h=>Rq Y (.guarded ((decide (0<at_2))==true) Y Y Y Y fun h=>ZaY (ow Y h) (ow Y h) XE Y Y<|gdT h_x h)<|Rq Y (.guarded ((decide (0<at_2))==true) Y Y Y Y fun h=>Jt (ow Y h) Y Y Qi)<|Rq Y (.guarded ((decide (0<at_2))==true) Y Y Y Y fun h=>Zc0 (ow Y h) Y Y (gdT h_x h) tS3 Y)<|Rq Y (.guarded ((decide (0<at_2))==true) Y Y Y Y fun h=>Zf<|ov Y)<|Rq Y (.guarded ((decide (0<at_2))==true) Y Y Y Y fun h=>Qq (ow Y h)<|ow Y h)<|Rq Y (ZQ (ov Y) fun hp=>ow Y<|gT hp)<|Za<|K4 0 2 3 56 Y<|If h Y (fun h=>?_) fun h=>?_
   ·
    exact Zh<|Zl<|K3 0 2 3 Y<|Zw<|Rm Y<|R2 Zdi Y<|Ra Y<|Za<|⟨_,h,ES [some 0,some 1,some 2,some 3,some 4,some 5]⟩
   ·
    refine ZL<|?_
    replace h:=lx h▸ho1
    exact⟨_,h,ES [some 0,some 1,some 2,some 3,some 4,some 5]⟩
  ·
   refine Zm<|Tr<|Rm Y<|R2 Qq Y<|Rm Y<|Rq Y (.guarded ((decide (0<at_))==true) Y Y Y Y fun h=>Zf<|ov Y)<|Rq Y (.guarded ((decide (0<at_))==true) Y Y Y Y fun h=>Zg (ow Y h) Y Y)<|Rq Y (.guarded ((decide (0<at_))==true) Y Y Y Y fun h=>Zb (ow Y h) Y Y ZdE)<|Rq Y (.guarded ((decide (0<at_))==true) Y Y Y Y fun h=>Zi (ow Y h) Y Y Y Jd Y)<|Rq Y (.guarded ((decide (0<at_))==true) Y Y Y Y fun h=>Zf<|ov Y)<|Rq Y (.guarded ((decide (0<at_))==true) Y Y Y Y fun h=>Ze9 (ow Y h) (ov Y) Y)<|bE h fun x2 h_x2 h=>Rq Y (.guarded ((decide (0<at_))==true) Y Y Y Y fun h=>ZaY (ow Y h) (ow Y h) XE Y Y<|gdT h_x2 h)<|Rq Y (.guarded ((decide (0<at_))==true) Y Y Y Y fun h=>Jt (ow Y h) Y Y Qi)<|Rq Y (.guarded ((decide (0<at_))==true) Y Y Y Y fun h=>Zc0 (ow Y h) Y Y (gdT h_x2 h) tS3 Y)<|Rq Y (.guarded ((decide (0<at_))==true) Y Y Y Y fun h=>Zf<|ov Y)<|Rq Y (.guarded ((decide (0<at_))==true) Y Y Y Y fun h=>ZT (ow Y h)<|ow Y h)<|Rq Y (ZQ (ov Y) fun hp=>ow Y<|gT hp)<|Za<|K3 0 3 73 Y<|If h Y (fun h=>?_) fun h=>?_
   ·
    obtain rfl:=rt h
    exact X0 (Ent.sel [some 0,some 1,some 2,none,some 4,some 5] (sr 0 Y (.ptr (r':=0) _ _ _ Y)<|sd 3 Y Y<|sd 73 Y Y sn) (.cons Y (ro1 (by exact tZ_118.symm)<|rlc (.dat Y)<|rlc (.dat Y)<|rlc (.dat Y)<|rlc (.dat Y)<|rlc (Za1 Y Y Y D99)<|rlc (.own (r':=4) _ Y)<|rlc (.own (r':=5) _ Y) rln)<|.dead<|.dead<|.row 99<|.cons Y (roM D44)<|.cons Y (roM D120) .nil) Y Y)<|Zj<|XB [some 0,some 1,some 2,some 4,some 5] Y .nil (.cons Y (ro1 (by exact tZ_118.symm)<|rlc (.dat Y)<|rlc (.dat Y)<|rlc (.dat Y)<|rlc (.dat Y)<|rlc (.dat Y)<|rlc (.own _ Y)<|rlc (.own _ Y) rln)<|.dead<|.dead<|.cons Y (roM D44)<|.cons Y (roM D120) .nil) Y Y<|JO rln
   ·
    refine Zh<|K2 0 3 Y<|Tr<|Rm Y<|Rm Y<|Rq Y (Zg (ov Y) Y Y)<|Rq Y (Zb (ov Y) Y Y ZdE)<|Rq Y (Zi (ov Y) Y Y Y Jd Y)<|Rq Y (QU (ys:= [_,_]) Zid Zil ZcT .nil Y)<|R_q (.sl 44<|List.map R44 ([(api_PanelState.mk 0 [])]:List api_PanelState)) Y (ZbU XE (.cons (cva<|ov Y) Y (.cons (.b Y)<|.cons (Dat.nils _) .nil) .nil) Y Y)<|bE h fun l h_l h=>Rx Y (Jw (ov Y) (XW (ov Y) tZ_44) XE Y Y Y (fun _=>Zd Y) Y h_l)<|Rq Y (Zg (ov Y) Y Y)<|Rq Y (Zb (ov Y) Y Y ZdE)<|Rx Y (Zk (ov Y) (ov Y) (Zp Jd) Y Y Y (Nat.le_of_ble_eq_true Y) (Zd Y) Y)<|Za<|K2 0 3 Y<|Td md0<|D1 0 Zf Y<|Dq 1 Y (Zg (ov Y) Y Y)<|Dq 2 Y (Zb (ov Y) Y Y ZdE)<|Dq 3 Y (Zi (ov Y) Y Y Y Jd Y)<|D1 4 Zf Y<|D2 5 QB Y<|bE h fun u h_u h=>Dq 6 Y (Zne (ov Y) Y Y XE (oi<|ov Y) on h_u)<|D1 7 Zf Y<|Dq 8 Y (Zg (ov Y) Y Y)<|Dq 9 Y (Zb (ov Y) Y Y ZdE)<|Dq 10 Y (Zi (ov Y) Y Y Y Jd Y)<|D1 11 Zf Y<|bE h fun u2 h_u2 h=>Dq 12 Y (Zne (ov Y) Y Y XE (oi<|ov Y) on h_u2)<|Do 13 Y (ZmO (ov Y) (ov Y) Y Y D44 (fun _=>Y) XE (Zcr h_u)<|Zcr h_u2)<|Dd<|K2 0 3 Y<|X0 (Ent.sel [some 0,some 1,some 2,none,some 4,some 5] (sr 0 Y (.ptr (r':=0) _ _ _ Y)<|sd 3 Y Y sn) (.cons Y (ro1 (by exact tZ_118.symm)<|rlc (.dat Y)<|rlc (.dat Y)<|rlc (.dat Y)<|rlc (.dat Y)<|rlc (Za1 Y Y Y D99)<|rlc (.own (r':=4) _ Y)<|rlc (.own (r':=5) _ Y) rln)<|.dead<|.dead<|.row 99<|.cons Y (roM D44)<|.cons Y (roM D120) .nil) Y Y)<|ZbM (cw:=md0) (by kernel_rfl)<|D1 0 Zf Y<|Dq 1 Y (Zg (ov Y) Y Y)<|Dq 2 Y (Zb (ov Y) Y Y ZdE)<|Dq 3 Y (Zi (ov Y) Y Y Y Jd Y)<|D1 4 Zf Y<|D1 5 Zf Y<|Dq 6 Y (Zg (ov Y) Y Y)<|Dq 7 Y (Zb (ov Y) Y Y ZaE)<|Dq 8 Y (ZG (ov Y) Y Y Y QR Y Y)<|bE h fun y2 h_y2 h=>Dq 9 Y (Zn (Ze5 h_y2)<|.cons (ov Y) (.aggB Y) .nil)<|bE h fun x3 h_x3 h=>Dq 10 Y (ZaY (ov Y) (ov Y) XE Y ((Zcg (Zcr h_u) (Zcr h_u2)).trans Y) h_x3)<|Do 11 Y (ZeB (u':=y2) (ov Y) (ov Y) (Zo QR Y) Y ((Zcg (Zcr h_u) (Zcr h_u2)).trans Y) h_x3 Y (Zd Y) Y)<|Dd<|?_
    obtain rfl:=rt h
    exact Zmh [some 0,some 1,some 2,some 4,some 5] Y .nil (.cons Y (ro1 (by exact tZ_118.symm)<|rlc (.dat Y)<|rlc (.dat Y)<|rlc (.dat Y)<|rlc (.dat Y)<|rlc (.dat Y)<|rlc (ZmD (Eq.symm<|(List.length_set ..).trans<|(Zcg (Zcr h_u) (Zcr h_u2)).trans Y) Y)<|rlc (.own _ Y) rln)<|.dead<|.dead<|.cons Y (roM D44)<|.cons Y (roM D120) .nil) Y Y<|JO rln
theorem Jk{r_:ref8_Replay}{n:Int}{r:Int×ref8_Replay}(h:Xb r_ n=some r):
 GSpec Tryz.prog gl0 28 [.ptr 0 1 0 0,.int .i64 n] [some ⟨118,[[.sl 49 (List.map R49 r_.p.Instruments),.sl 54 (List.map R54 r_.l),.int .i64 r_.keep,.int .i64 r_.state.Frame,.sl 99 (List.map R99 r_.state.Memos),.own 1 r_.kept.length,.own 2 r_.marks.length]]⟩,some ⟨44,List.map R44 r_.kept⟩,some ⟨120,List.map R120 r_.marks⟩] (.int .i64 r.1) [some ⟨118,[[.sl 49 (List.map R49 r.2.p.Instruments),.sl 54 (List.map R54 r.2.l),.int .i64 r.2.keep,.int .i64 r.2.state.Frame,.sl 99 (List.map R99 r.2.state.Memos),.own 3 r.2.kept.length,.own 4 r.2.marks.length]]⟩,none,none,some ⟨44,List.map R44 r.2.kept⟩,some ⟨120,List.map R120 r.2.marks⟩]:=by
 unfold Xb at h
 replace h:=ZO h
 refine Z1 (by kernel_rfl) Tryz.func28 Y Y<|?_
 intro w0 A W φ0
 refine X0 (Ent.sel [some 0,some 1,some 2,some 1,some 2] (sr 0 Y (.ptr (r':=0) _ _ _ Y)<|sd 1 Y Y sn) (.cons Y (ro1 (by exact tZ_118.symm)<|rlc (.dat Y)<|rlc (.dat Y)<|rlc (.dat Y)<|rlc (.dat Y)<|rlc (.dat Y)<|rlc (.own (r':=3) _ Y)<|rlc (.own (r':=4) _ Y) rln)<|.dead<|.dead<|.cons Y (roM D44)<|.cons Y (roM D120) .nil) Y Y)<|Tr<|Ra Y<|Za<|Zm<|K2 0 1 Y<|Tr<|Rm Y<|R2 ZV Y<|Rm Y<|Rq Y (.guarded ((decide (n<0))==false) Y Y Y Y fun h=>Zf<|ov Y)<|Rq Y (.guarded ((decide (n<0))==false) Y Y Y Y fun h=>Zf<|ov Y)<|Rq Y (.guarded ((decide (n<0))==false) Y Y Y Y fun h=>Zg (ow Y h) Y Y)<|Rq Y (.guarded ((decide (n<0))==false) Y Y Y Y fun h=>Zb (ow Y h) Y Y ZaE)<|Rq Y (.guarded ((decide (n<0))==false) Y Y Y Y fun h=>Zb (ow Y h) Y Y Qi)<|Rq Y (.guarded ((decide (n<0))==false) Y Y Y Y fun h=>Zi (ow Y h) Y Y Y tS3 Y)<|Rq Y (.guarded ((decide (n<0))==false) Y Y Y Y fun h=>Ze9 (ov Y) (ow Y h) Y)<|Rq Y (.guarded ((decide (n<0))==false) Y Y Y Y fun h=>Qq (ow Y h)<|ow Y h)<|Rq Y (Xi (ov Y) fun hp=>ow Y<|gF hp)<|Za<|K3 0 1 16 Y<|If h Y (fun h=>?_) fun h=>?_
 ·
  refine K0<|Tr<|Ra Y<|Za<|?_
  obtain rfl:=rt h
  exact Zj<|XB [some 0,some 1,some 2,some 3,some 4] Y (.cons (.tmp Y) .nil) (.cons Y (ro1 (by exact tZ_118.symm)<|rlc (.dat Y)<|rlc (.dat Y)<|rlc (.dat Y)<|rlc (.dat Y)<|rlc (.dat Y)<|rlc (.own _ Y)<|rlc (.own _ Y) rln)<|.dead<|.dead<|.cons Y (roM D44)<|.cons Y (roM D120) .nil) Y Y<|.dat Y
 ·
  refine Zh<|I6 (fun p l keep state kept marks=>⟨[],[some ⟨118,[[.sl 49 (List.map R49 p.Instruments),.sl 54 (List.map R54 l),.int .i64 keep,.int .i64 state.Frame,.sl 99 (List.map R99 state.Memos),.own 3 kept.length,.own 4 marks.length]]⟩,none,none,some ⟨44,List.map R44 kept⟩,some ⟨120,List.map R120 marks⟩]⟩) h (fun h=>?_) fun p l keep state kept marks h=>?_
  ·
   refine K2 0 1 Y<|Tr<|Rm Y<|Rm Y<|Za<|Zl<|?_
   obtain⟨r1,hl1,ho1⟩:=Xa h
   refine L7 (fun p2 l2 keep2 state2 kept2 marks2 i=>⟨[(0,.ptr 0 1 0 0),(17,.int .i64 n),(18,.int .i64 i)],[some ⟨118,[[.sl 49 (List.map R49 p2.Instruments),.sl 54 (List.map R54 l2),.int .i64 keep2,.int .i64 state2.Frame,.sl 99 (List.map R99 state2.Memos),.own 3 kept2.length,.own 4 marks2.length]]⟩,none,none,some ⟨44,List.map R44 kept2⟩,some ⟨120,List.map R120 marks2⟩]⟩) hl1 (ES [some 0,some 1,some 2,some 3,some 4]) fun n1 p2 l2 keep2 state2 kept2 marks2 i h=>?_
   unfold Zbd at h
   refine Tr<|R2 ZV Y<|Za<|Zm<|If h Y (fun h=>?_) fun h=>?_
   ·
    exact Zh<|Zm<|Zl<|K3 0 17 18 Y<|Zw<|Rm Y<|bE h fun y h_y h=>Rx Y (ZK [0,3,4] (ZbR h_y) (.cons (ov Y) (.ptr _ _ _ Y) .nil) (.cons Y (ro1 (by exact tZ_118.symm)<|rlc (.dat Y)<|rlc (.dat Y)<|rlc (.dat Y)<|rlc (.dat Y)<|rlc (.dat Y)<|rlc (.own _ Y)<|rlc (.own _ Y) rln)<|.cons Y (roM D44)<|.cons Y (roM D120) .nil) Y (.lent 0 (.inl Y) Y (ro1 (by exact tZ_118.symm)<|rlc (.dat Y)<|rlc (.dat Y)<|rlc (.dat Y)<|rlc (.dat Y)<|rlc (.dat Y)<|rlc (.own _<|.inr ⟨Nat.le_of_ble_eq_true Y,Y⟩)<|rlc (.own _<|.inr ⟨Nat.le_of_ble_eq_true Y,Y⟩) rln)<|.none<|.none<|.none<|.none<|.lent 3 (.inr ⟨Nat.le_of_ble_eq_true Y,Y⟩) Y (roM D44)<|.lent 4 (.inr ⟨Nat.le_of_ble_eq_true Y,Y⟩) Y (roM D120) .nil) Y Y<|JO<|rld Y)<|Za<|K3 0 17 18 Y<|Zw<|R2 QB Y<|Rm Y<|Za<|⟨_,h,ES [some 0,some 1,some 2,some 5,some 6]⟩
   ·
    refine ZL<|?_
    replace h:=lx h▸ho1
    exact⟨_,h,ES [some 0,some 1,some 2,some 3,some 4]⟩
  ·
   refine Tr<|Ra Y<|Za<|?_
   obtain rfl:=rt h
   exact Zj<|XB [some 0,some 1,some 2,some 3,some 4] Y (.cons (.tmp Y) .nil) (.cons Y (ro1 (by exact tZ_118.symm)<|rlc (.dat Y)<|rlc (.dat Y)<|rlc (.dat Y)<|rlc (.dat Y)<|rlc (.dat Y)<|rlc (.own _ Y)<|rlc (.own _ Y) rln)<|.dead<|.dead<|.cons Y (roM D44)<|.cons Y (roM D120) .nil) Y Y<|.dat Y
theorem Za5{r_:ref8_Replay}{frame:Int}{r:Int×Int×ref8_Replay}(h:Qt r_ frame=some r):
 GSpec Tryz.prog gl0 29 [.ptr 0 1 0 0,.int .i64 frame] [some ⟨118,[[.sl 49 (List.map R49 r_.p.Instruments),.sl 54 (List.map R54 r_.l),.int .i64 r_.keep,.int .i64 r_.state.Frame,.sl 99 (List.map R99 r_.state.Memos),.own 1 r_.kept.length,.own 2 r_.marks.length]]⟩,some ⟨44,List.map R44 r_.kept⟩,some ⟨120,List.map R120 r_.marks⟩] (.tuple [.int .i64 r.1,.int .i64 r.2.1]) [some ⟨118,[[.sl 49 (List.map R49 r.2.2.p.Instruments),.sl 54 (List.map R54 r.2.2.l),.int .i64 r.2.2.keep,.int .i64 r.2.2.state.Frame,.sl 99 (List.map R99 r.2.2.state.Memos),.own 3 r.2.2.kept.length,.own 4 r.2.2.marks.length]]⟩,none,none,some ⟨44,List.map R44 r.2.2.kept⟩,some ⟨120,List.map R120 r.2.2.marks⟩]:=by
 unfold Qt at h
 replace h:=ZO h
 refine Z1 (by kernel_rfl) Tryz.func29 Y Y<|?_
 intro w0 A W φ0
 refine X0 (Ent.sel [some 0,some 1,some 2,some 1,some 2] (sr 0 Y (.ptr (r':=0) _ _ _ Y)<|sd 1 Y Y sn) (.cons Y (ro1 (by exact tZ_118.symm)<|rlc (.dat Y)<|rlc (.dat Y)<|rlc (.dat Y)<|rlc (.dat Y)<|rlc (.dat Y)<|rlc (.own (r':=3) _ Y)<|rlc (.own (r':=4) _ Y) rln)<|.dead<|.dead<|.cons Y (roM D44)<|.cons Y (roM D120) .nil) Y Y)<|Tr<|Ra Y<|Ra Y<|Za<|Zm<|K2 0 1 Y<|Tr<|Rm Y<|bE h fun y h_y h=>Rq Y (Zn (Q5 h_y)<|.cons (ov Y) (.b Y)<|.cons (ov Y) (.b Y)<|.cons (ov Y) (.b Y) .nil)<|Za<|K3 0 1 12 Y<|If h Y (fun h=>?_) fun h=>?_
 ·
  refine K0<|Tr<|Ra Y<|Ra Y<|Za<|?_
  obtain rfl:=rt h
  exact Zj<|XB [some 0,some 1,some 2,some 3,some 4] Y (.cons (.tmp Y)<|.cons (.tmp Y) .nil) (.cons Y (ro1 (by exact tZ_118.symm)<|rlc (.dat Y)<|rlc (.dat Y)<|rlc (.dat Y)<|rlc (.dat Y)<|rlc (.dat Y)<|rlc (.own _ Y)<|rlc (.own _ Y) rln)<|.dead<|.dead<|.cons Y (roM D44)<|.cons Y (roM D120) .nil) Y Y<|JO<|rlc (.dat Y)<|rlc (.dat Y) rln
 ·
  refine Zh<|K2 0 1 Y<|Tr<|Rm Y<|Rq Y (Zg (ov Y) Y Y)<|Rq Y (Zb (ov Y) Y Y Zli)<|Rq Y (ZG (ov Y) Y Y Y Zd7 Y Y)<|bE h fun y2 h_y2 h=>Rq Y (Zn (Zhu h_y2)<|.cons (ov Y) (.aggB Y) .nil)<|Rm Y<|Rq Y (Zq (ov Y) Y)<|Rq Y (Zq (ov Y) Y)<|Rx Y (Zz (row:= [_,_]) 5 Y ZcT Y tZ_44)<|Rx Y (Zk (ov Y) (ov Y) (Zo QR Y) Y Y Y (Nat.le_of_ble_eq_true Y) (Zd Y) Y)<|Ra Y<|Za<|I1 (fun best=>⟨[(0,.ptr 0 1 0 0),(1,.int .i64 frame),(6,.ptr 5 1 0 0)],[some ⟨118,[[.sl 49 (List.map R49 r_.p.Instruments),.sl 54 (List.map R54 r_.l),.int .i64 r_.keep,.int .i64 r_.state.Frame,.sl 99 (List.map R99 r_.state.Memos),.own 3 r_.kept.length,.own 4 r_.marks.length]]⟩,none,none,some ⟨44,List.map R44 r_.kept⟩,some ⟨120,List.map R120 r_.marks⟩,some ⟨44,[[.int .i64 best.Frame,.sl 99 (List.map R99 best.Memos)]]⟩]⟩) h (fun h=>?_) fun best h=>?_
  ·
   refine K3 0 1 6 Y<|Td md0<|D1 0 Zf Y<|Dq 1 Y (Zg (ov Y) Y Y)<|Dq 2 Y (Zb (ov Y) Y Y ZaE)<|Dq 3 Y (Zb (ov Y) Y Y Qi)<|Dq 4 Y (Zi (ov Y) Y Y Y tS3 Y)<|D1 5 Zf Y<|D2 6 ZaD Y<|D1 7 Zf Y<|Dq 8 Y (.guarded ((decide (r_.state.Frame≤frame))==true) Y Y Y Y fun h=>Zf<|ov Y)<|Dq 9 Y (.guarded ((decide (r_.state.Frame≤frame))==true) Y Y Y Y fun h=>Zg (ow Y h) Y Y)<|Dq 10 Y (.guarded ((decide (r_.state.Frame≤frame))==true) Y Y Y Y fun h=>Zb (ow Y h) Y Y ZaE)<|Dq 11 Y (.guarded ((decide (r_.state.Frame≤frame))==true) Y Y Y Y fun h=>Zb (ow Y h) Y Y Qi)<|Dq 12 Y (.guarded ((decide (r_.state.Frame≤frame))==true) Y Y Y Y fun h=>Zi (ow Y h) Y Y Y tS3 Y)<|Dq 13 Y (.guarded ((decide (r_.state.Frame≤frame))==true) Y Y Y Y fun h=>Zb (ov Y) Y Y Qi)<|Dq 14 Y (.guarded ((decide (r_.state.Frame≤frame))==true) Y Y Y Y fun h=>Zi (ow Y h) Y Y Y tS3 Y)<|Dq 15 Y (.guarded ((decide (r_.state.Frame≤frame))==true) Y Y Y Y fun h=>Qq (ow Y h)<|ow Y h)<|Dq 16 Y (ZQ (ov Y) fun hp=>ow Y<|gT hp)<|Dd<|K4 0 1 6 37 Y<|If h Y (fun h=>?_) fun h=>?_
   ·
    exact K3 0 1 6 Y<|Zw<|Rm Y<|Rq Y (Zg (ov Y) Y Y)<|Rq Y (Zb (ov Y) Y Y ZaE)<|Rq Y (ZG (ov Y) Y Y Y QR Y Y)<|Rx Y (Zk (ov Y) (ov Y) (Zo QR Y) Y Y Y (Nat.le_of_ble_eq_true Y) (Zd Y) Y)<|Za<|⟨_,h,ES [some 0,some 1,some 2,some 3,some 4,some 5]⟩
   ·
    exact Zh<|⟨_,h,ES [some 0,some 1,some 2,some 3,some 4,some 5]⟩
  ·
   refine I1 (fun best2=>⟨[(0,.ptr 0 1 0 0),(1,.int .i64 frame),(6,.ptr 5 1 0 0)],[some ⟨118,[[.sl 49 (List.map R49 r_.p.Instruments),.sl 54 (List.map R54 r_.l),.int .i64 r_.keep,.int .i64 r_.state.Frame,.sl 99 (List.map R99 r_.state.Memos),.own 3 r_.kept.length,.own 4 r_.marks.length]]⟩,none,none,some ⟨44,List.map R44 r_.kept⟩,some ⟨120,List.map R120 r_.marks⟩,some ⟨44,[[.int .i64 best2.Frame,.sl 99 (List.map R99 best2.Memos)]]⟩]⟩) h (fun h=>?_) fun best2 h=>?_
   ·
    refine Tr<|Rm Y<|Rq Y (Zg (ov Y) Y Y)<|Rq Y (Zb (ov Y) Y Y ZdE)<|Rq Y (Zi (ov Y) Y Y Y Jd Y)<|Rq Y (Zbs (ov Y) Y Y XE)<|Rm Y<|Za<|Zl<|?_
    obtain⟨r1,hl1,ho1⟩:=Xa h
    refine L2 (fun best3 i=>⟨[(0,.ptr 0 1 0 0),(1,.int .i64 frame),(6,.ptr 5 1 0 0),(45,.own 3 r_.kept.length),(46,.int .i64 (r_.kept.length:Int)),(47,.int .i64 i)],[some ⟨118,[[.sl 49 (List.map R49 r_.p.Instruments),.sl 54 (List.map R54 r_.l),.int .i64 r_.keep,.int .i64 r_.state.Frame,.sl 99 (List.map R99 r_.state.Memos),.own 3 r_.kept.length,.own 4 r_.marks.length]]⟩,none,none,some ⟨44,List.map R44 r_.kept⟩,some ⟨120,List.map R120 r_.marks⟩,some ⟨44,[[.int .i64 best3.Frame,.sl 99 (List.map R99 best3.Memos)]]⟩]⟩) hl1 (ES [some 0,some 1,some 2,some 3,some 4,some 5]) fun n1 best3 i h=>?_
    unfold Q6 at h
    refine Tr<|R2 ZV Y<|Za<|Zm<|If h Y (fun h=>?_) fun h=>?_
    ·
     refine Zh<|Zm<|Zl<|K6 0 1 6 45 46 47 Y<|Tr<|bE h fun x h_x h=>Rq Y (ZaY (ov Y) (ov Y) XE Y Y h_x)<|Rq Y (ZfH (ov Y) Y Y h_x QR Y Y)<|Rx Y (Zz (row:= [_,_]) 6 Y ZcT Y tZ_44)<|Rx Y (Zk (ov Y) (ov Y) (Zo QR Y) Y Y Y (Nat.le_of_ble_eq_true Y) (Zd Y) Y)<|Za<|K7 0 1 6 9 45 46 47 Y<|Tr<|Rq Y (Zb (ov Y) Y Y Qi)<|Rq Y (Zi (ov Y) Y Y Y tS3 Y)<|Rm Y<|R2 ZaD Y<|Rm Y<|Rq Y (.guarded ((decide (x.Frame≤frame))==true) Y Y Y Y fun h=>Zb (ov Y) Y Y Qi)<|Rq Y (.guarded ((decide (x.Frame≤frame))==true) Y Y Y Y fun h=>Zi (ow Y h) Y Y Y tS3 Y)<|Rq Y (.guarded ((decide (x.Frame≤frame))==true) Y Y Y Y fun h=>Zb (ov Y) Y Y Qi)<|Rq Y (.guarded ((decide (x.Frame≤frame))==true) Y Y Y Y fun h=>Zi (ow Y h) Y Y Y tS3 Y)<|Rq Y (.guarded ((decide (x.Frame≤frame))==true) Y Y Y Y fun h=>Qq (ow Y h)<|ow Y h)<|Rq Y (ZQ (ov Y) fun hp=>ow Y<|gT hp)<|Za<|K8 0 1 6 9 45 46 47 61 Y<|If h Y (fun h=>?_) fun h=>?_
     ·
      exact K7 0 1 6 9 45 46 47 Y<|Zw<|Rq Y (ZG (ov Y) Y Y Y QR Y Y)<|Rx Y (Zk (ov Y) (ov Y) (Zo QR Y) Y Y Y (Nat.le_of_ble_eq_true Y) (Zd Y) Y)<|Za<|K6 0 1 6 45 46 47 Y<|Zw<|R2 QB Y<|Rm Y<|Za<|⟨_,h,ES [some 0,some 1,some 2,some 3,some 4,some 5]⟩
     ·
      exact Zh<|K6 0 1 6 45 46 47 Y<|Zw<|R2 QB Y<|Rm Y<|Za<|⟨_,h,ES [some 0,some 1,some 2,some 3,some 4,some 5]⟩
    ·
     refine ZL<|?_
     replace h:=lx h▸ho1
     exact⟨_,h,ES [some 0,some 1,some 2,some 3,some 4,some 5]⟩
   ·
    refine Tr<|Rm Y<|Rq Y (ZG (ov Y) Y Y Y QR Y Y)<|bE h fun y3 h_y3 h=>Rx Y (ZK [] (Zhi h_y3) (.cons (ov Y) (Zbw<|rld Y) .nil) .nil Y (.keep Y Y<|.none<|.none<|.keep Y Y<|.keep Y Y<|.keep Y Y<|.lent 0 (.inr ⟨Nat.le_of_ble_eq_true Y,Y⟩) Y (roM D99) .nil) Y Y<|Zbw<|rlc (.dat Y)<|rlc (.own _<|.inr ⟨Nat.le_of_ble_eq_true Y,Y⟩) rln)<|Rq Y (Zg (ov Y) Y Y)<|Rq Y (Zb (ov Y) Y Y ZaE)<|Rx Y (Zk (ov Y) (ov Y) (Zo QR Y) Y Y Y (Nat.le_of_ble_eq_true Y) (Zd Y) Y)<|Za<|K3 0 1 6 Y<|Tr<|Rm Y<|Rq Y (Zb (ov Y) Y Y Qi)<|Rq Y (Zi (ov Y) Y Y Y tS3 Y)<|R2 Zdi Y<|Ra Y<|Za<|I6 (fun p l keep state kept marks=>⟨[(10,.int .i64 (i64 (frame-best2.Frame)))],[some ⟨118,[[.sl 49 (List.map R49 p.Instruments),.sl 54 (List.map R54 l),.int .i64 keep,.int .i64 state.Frame,.sl 99 (List.map R99 state.Memos),.own 3 kept.length,.own 4 marks.length]]⟩,none,none,some ⟨44,List.map R44 kept⟩,some ⟨120,List.map R120 marks⟩]⟩) h (fun h=>?_) fun p l keep state kept marks h=>?_
    ·
     refine K2 0 10 Y<|Tr<|Rm Y<|Rm Y<|Za<|Zl<|?_
     obtain⟨r2,hl2,ho2⟩:=Xa h
     refine L7 (fun p2 l2 keep2 state2 kept2 marks2 i2=>⟨[(0,.ptr 0 1 0 0),(10,.int .i64 (i64 (frame-best2.Frame))),(73,.int .i64 (i64 (frame-best2.Frame))),(74,.int .i64 i2)],[some ⟨118,[[.sl 49 (List.map R49 p2.Instruments),.sl 54 (List.map R54 l2),.int .i64 keep2,.int .i64 state2.Frame,.sl 99 (List.map R99 state2.Memos),.own 3 kept2.length,.own 4 marks2.length]]⟩,none,none,some ⟨44,List.map R44 kept2⟩,some ⟨120,List.map R120 marks2⟩]⟩) hl2 (ES [some 0,some 1,some 2,some 3,some 4] (hhp:= .cons Y (ro1 (by exact tZ_118.symm)<|rlc (.dat Y)<|rlc (.dat Y)<|rlc (.dat Y)<|rlc (.dat Y)<|rlc (Za1 Y Y Y D99)<|rlc (.own _ Y)<|rlc (.own _ Y) rln)<|.dead<|.dead<|.cons Y (roM D44)<|.cons Y (roM D120) .nil)) fun n2 p2 l2 keep2 state2 kept2 marks2 i2 h=>?_
     unfold JN at h
     refine Tr<|R2 ZV Y<|Za<|Zm<|If h Y (fun h=>?_) fun h=>?_
     ·
      exact Zh<|Zm<|Zl<|K4 0 10 73 74 Y<|Zw<|Rm Y<|bE h fun y4 h_y4 h=>Rx Y (ZK [0,3,4] (ZbR h_y4) (.cons (ov Y) (.ptr _ _ _ Y) .nil) (.cons Y (ro1 (by exact tZ_118.symm)<|rlc (.dat Y)<|rlc (.dat Y)<|rlc (.dat Y)<|rlc (.dat Y)<|rlc (.dat Y)<|rlc (.own _ Y)<|rlc (.own _ Y) rln)<|.cons Y (roM D44)<|.cons Y (roM D120) .nil) Y (.lent 0 (.inl Y) Y (ro1 (by exact tZ_118.symm)<|rlc (.dat Y)<|rlc (.dat Y)<|rlc (.dat Y)<|rlc (.dat Y)<|rlc (.dat Y)<|rlc (.own _<|.inr ⟨Nat.le_of_ble_eq_true Y,Y⟩)<|rlc (.own _<|.inr ⟨Nat.le_of_ble_eq_true Y,Y⟩) rln)<|.none<|.none<|.none<|.none<|.lent 3 (.inr ⟨Nat.le_of_ble_eq_true Y,Y⟩) Y (roM D44)<|.lent 4 (.inr ⟨Nat.le_of_ble_eq_true Y,Y⟩) Y (roM D120) .nil) Y Y<|JO<|rld Y)<|Za<|K4 0 10 73 74 Y<|Zw<|R2 QB Y<|Rm Y<|Za<|⟨_,h,ES [some 0,some 1,some 2,some 5,some 6]⟩
     ·
      refine ZL<|?_
      replace h:=lx h▸ho2
      exact⟨_,h,ES [some 0,some 1,some 2,some 3,some 4]⟩
    ·
     refine Tr<|Rm Y<|Ra Y<|Ra Y<|Za<|?_
     obtain rfl:=rt h
     exact Zj<|XB [some 0,some 1,some 2,some 3,some 4] Y (.cons (.tmp Y)<|.cons (.tmp Y) .nil) (.cons Y (ro1 (by exact tZ_118.symm)<|rlc (.dat Y)<|rlc (.dat Y)<|rlc (.dat Y)<|rlc (.dat Y)<|rlc (.dat Y)<|rlc (.own _ Y)<|rlc (.own _ Y) rln)<|.dead<|.dead<|.cons Y (roM D44)<|.cons Y (roM D120) .nil) Y Y<|JO<|rlc (.dat Y)<|rlc (.dat Y) rln
theorem Ji{r_:ref8_Replay}{text:Str}{r:Int×ref8_Replay}(h:QM r_ text=some r):
 GSpec Tryz.prog gl0 31 [.ptr 0 1 0 0,.str text] [some ⟨118,[[.sl 49 (List.map R49 r_.p.Instruments),.sl 54 (List.map R54 r_.l),.int .i64 r_.keep,.int .i64 r_.state.Frame,.sl 99 (List.map R99 r_.state.Memos),.own 1 r_.kept.length,.own 2 r_.marks.length]]⟩,some ⟨44,List.map R44 r_.kept⟩,some ⟨120,List.map R120 r_.marks⟩] (.int .i64 r.1) [some ⟨118,[[.sl 49 (List.map R49 r.2.p.Instruments),.sl 54 (List.map R54 r.2.l),.int .i64 r.2.keep,.int .i64 r.2.state.Frame,.sl 99 (List.map R99 r.2.state.Memos),.own 3 r.2.kept.length,.own 4 r.2.marks.length]]⟩,none,none,some ⟨44,List.map R44 r.2.kept⟩,some ⟨120,List.map R120 r.2.marks⟩]:=by
 unfold QM at h
 replace h:=ZO h
 refine Z1 (by kernel_rfl) Tryz.func31 Y Y<|?_
 intro w0 A W φ0
 refine X0 (Ent.sel [some 0,some 1,some 2,some 1,some 2] (sr 0 Y (.ptr (r':=0) _ _ _ Y)<|sd 1 Y Y sn) (.cons Y (ro1 (by exact tZ_118.symm)<|rlc (.dat Y)<|rlc (.dat Y)<|rlc (.dat Y)<|rlc (.dat Y)<|rlc (.dat Y)<|rlc (.own (r':=3) _ Y)<|rlc (.own (r':=4) _ Y) rln)<|.dead<|.dead<|.cons Y (roM D44)<|.cons Y (roM D120) .nil) Y Y)<|Tr<|Ra Y<|Za<|Zm<|K2 0 1 Y<|Tr<|Rm Y<|Rq Y (Zg (ov Y) Y Y)<|Rq Y (Zb (ov Y) Y Y ZaE)<|Rq Y (Zb (ov Y) Y Y Qi)<|Rq Y (Zi (ov Y) Y Y Y tS3 Y)<|R2 ZV Y<|Za<|K3 0 1 12 Y<|If h Y (fun h=>?_) fun h=>?_
 ·
  refine K0<|Tr<|Ra Y<|Za<|?_
  obtain rfl:=rt h
  exact Zj<|XB [some 0,some 1,some 2,some 3,some 4] Y (.cons (.tmp Y) .nil) (.cons Y (ro1 (by exact tZ_118.symm)<|rlc (.dat Y)<|rlc (.dat Y)<|rlc (.dat Y)<|rlc (.dat Y)<|rlc (.dat Y)<|rlc (.own _ Y)<|rlc (.own _ Y) rln)<|.dead<|.dead<|.cons Y (roM D44)<|.cons Y (roM D120) .nil) Y Y<|.dat Y
 ·
  refine Zh<|Zm<|K2 0 1 Y<|Tr<|Rm Y<|Rq Y (Qm (ov Y) Qr Y)<|R2 Qq Y<|Rm Y<|Rq Y (.guarded ((decide (100<(text.length:Int)))==false) Y Y Y Y fun h=>Zf<|ov Y)<|Rq Y (.guarded ((decide (100<(text.length:Int)))==false) Y Y Y Y fun h=>Zg (ow Y h) Y Y)<|Rq Y (.guarded ((decide (100<(text.length:Int)))==false) Y Y Y Y fun h=>Zb (ow Y h) Y Y ZdH)<|Rq Y (.guarded ((decide (100<(text.length:Int)))==false) Y Y Y Y fun h=>Zi (ow Y h) Y Y Y ZeM Y)<|Rq Y (.guarded ((decide (100<(text.length:Int)))==false) Y Y Y Y fun h=>Zbs (ow Y h) Y Y Zcp)<|Rq Y (.guarded ((decide (100<(text.length:Int)))==false) Y Y Y Y fun h=>Zaj (ow Y h)<|ov Y)<|Rq Y (Xi (ov Y) fun hp=>ow Y<|gF hp)<|Za<|K3 0 1 23 Y<|If h Y (fun h=>?_) fun h=>?_
  ·
   refine K0<|Tr<|Ra Y<|Za<|?_
   obtain rfl:=rt h
   exact Zj<|XB [some 0,some 1,some 2,some 3,some 4] Y (.cons (.tmp Y) .nil) (.cons Y (ro1 (by exact tZ_118.symm)<|rlc (.dat Y)<|rlc (.dat Y)<|rlc (.dat Y)<|rlc (.dat Y)<|rlc (.dat Y)<|rlc (.own _ Y)<|rlc (.own _ Y) rln)<|.dead<|.dead<|.cons Y (roM D44)<|.cons Y (roM D120) .nil) Y Y<|.dat Y
  ·
   refine Zh<|K2 0 1 Y<|Tr<|Rm Y<|Rq Y (Zg (ov Y) Y Y)<|Rq Y (Zb (ov Y) Y Y ZaE)<|Rq Y (Zb (ov Y) Y Y Qi)<|Rq Y (Zi (ov Y) Y Y Y tS3 Y)<|Rm Y<|Rq Y (QU (ys:= [_,_]) Zn4 ZnZ Zmk (.cons (cvs (ov Y)<|ZB Y)<|.cons (cvs (ov Y)<|ZB Y) .nil) Y)<|Rx Y (Zz (row:= [_,_]) 5 Y Zmk Y tZ_120)<|Rx Y (Zk (ov Y) (ov Y) (Zo Zht Y) Y Y Y (Nat.le_of_ble_eq_true Y) (Zd Y) Y)<|Za<|K2 0 5 Y<|Tr<|Rm Y<|Rq Y (Zg (ov Y) Y Y)<|Rq Y (Zb (ov Y) Y Y ZdH)<|Rq Y (Zi (ov Y) Y Y Y ZeM Y)<|Rq Y (Zbs (ov Y) Y Y Zcp)<|Ra Y<|Za<|I1 (fun at_=>⟨[(0,.ptr 0 1 0 0),(5,.ptr 5 1 0 0),(6,.int .i64 at_)],[some ⟨118,[[.sl 49 (List.map R49 r_.p.Instruments),.sl 54 (List.map R54 r_.l),.int .i64 r_.keep,.int .i64 r_.state.Frame,.sl 99 (List.map R99 r_.state.Memos),.own 3 r_.kept.length,.own 4 r_.marks.length]]⟩,none,none,some ⟨44,List.map R44 r_.kept⟩,some ⟨120,List.map R120 r_.marks⟩,some ⟨120,[[.int .i64 r_.state.Frame,.str text]]⟩]⟩) h (fun h=>?_) fun at_ h=>?_
   ·
    refine Zl<|?_
    obtain⟨r1,hl1,ho1⟩:=Xa h
    refine L1 (fun at_2=>⟨[(0,.ptr 0 1 0 0),(5,.ptr 5 1 0 0),(6,.int .i64 at_2)],[some ⟨118,[[.sl 49 (List.map R49 r_.p.Instruments),.sl 54 (List.map R54 r_.l),.int .i64 r_.keep,.int .i64 r_.state.Frame,.sl 99 (List.map R99 r_.state.Memos),.own 3 r_.kept.length,.own 4 r_.marks.length]]⟩,none,none,some ⟨44,List.map R44 r_.kept⟩,some ⟨120,List.map R120 r_.marks⟩,some ⟨120,[[.int .i64 r_.state.Frame,.str text]]⟩]⟩) hl1 (ES [some 0,some 1,some 2,some 3,some 4,some 5]) fun n1 at_2 h=>?_
    unfold Zbc at h
    refine Zm<|Td md0<|D1 0 Zf Y<|D2 1 Qq Y<|D1 2 Zf Y<|Dq 3 Y (.guarded ((decide (0<at_2))==true) Y Y Y Y fun h=>Zf<|ov Y)<|Dq 4 Y (.guarded ((decide (0<at_2))==true) Y Y Y Y fun h=>Zg (ow Y h) Y Y)<|Dq 5 Y (.guarded ((decide (0<at_2))==true) Y Y Y Y fun h=>Zb (ow Y h) Y Y ZdH)<|Dq 6 Y (.guarded ((decide (0<at_2))==true) Y Y Y Y fun h=>Zi (ow Y h) Y Y Y ZeM Y)<|Dq 7 Y (.guarded ((decide (0<at_2))==true) Y Y Y Y fun h=>Zf<|ov Y)<|Dq 8 Y (.guarded ((decide (0<at_2))==true) Y Y Y Y fun h=>Ze9 (ow Y h) (ov Y) Y)<|bE h fun x h_x h=>Dq 9 Y (.guarded ((decide (0<at_2))==true) Y Y Y Y fun h=>ZaY (ow Y h) (ow Y h) Zcp Y Y<|gdT h_x h)<|Dq 10 Y (.guarded ((decide (0<at_2))==true) Y Y Y Y fun h=>Jt (ow Y h) Y Y ZdG)<|Dq 11 Y (.guarded ((decide (0<at_2))==true) Y Y Y Y fun h=>Zc0 (ow Y h) Y Y (gdT h_x h) tS3 Y)<|Dq 12 Y (.guarded ((decide (0<at_2))==true) Y Y Y Y fun h=>Zb (ov Y) Y Y ZdG)<|Dq 13 Y (.guarded ((decide (0<at_2))==true) Y Y Y Y fun h=>Zi (ow Y h) Y Y Y tS3 Y)<|Dq 14 Y (.guarded ((decide (0<at_2))==true) Y Y Y Y fun h=>Qq (ow Y h)<|ow Y h)<|Dq 15 Y (ZQ (ov Y) fun hp=>ow Y<|gT hp)<|Dd<|K4 0 5 6 51 Y<|If h Y (fun h=>?_) fun h=>?_
    ·
     exact Zh<|Zl<|K3 0 5 6 Y<|Zw<|Rm Y<|R2 Zdi Y<|Ra Y<|Za<|⟨_,h,ES [some 0,some 1,some 2,some 3,some 4,some 5]⟩
    ·
     refine ZL<|?_
     replace h:=lx h▸ho1
     exact⟨_,h,ES [some 0,some 1,some 2,some 3,some 4,some 5]⟩
   ·
    refine Td md0<|D1 1 Zf Y<|Dq 2 Y (Zg (ov Y) Y Y)<|Dq 3 Y (Zb (ov Y) Y Y ZdH)<|Dq 4 Y (Zi (ov Y) Y Y Y ZeM Y)<|Dq 5 Y (ZG (ov Y) Y Y Y Zht Y Y)<|Zmb 6 (.sl 120<|List.map R120 ([(api_Bookmark.mk r_.state.Frame text)]:List api_Bookmark)) Y (by kernel_rfl) Y Y (ZbU Zcp (.cons (cva<|ov Y) Y (pwD Y) .nil) Y Y)<|ZaL 0 _ Y (by kernel_rfl) Y Y (fun hp'=>Zf<|ov Y)<|bE h fun l h_l h=>Do 7 Y (Jw (ov Y) (XW (ov Y) tZ_120) Zcp Y Y Y (fun _=>Zd Y) Y h_l)<|Dq 8 Y (Zg (ov Y) Y Y)<|Dq 9 Y (Zb (ov Y) Y Y ZdH)<|Do 10 Y (Zk (ov Y) (ov Y) (Zp ZeM) Y Y Y (Nat.le_of_ble_eq_true Y) (Zd Y) Y)<|Dd<|K3 0 5 6 Y<|Td md0<|D1 0 Zf Y<|Dq 1 Y (Zg (ov Y) Y Y)<|Dq 2 Y (Zb (ov Y) Y Y ZdH)<|Dq 3 Y (Zi (ov Y) Y Y Y ZeM Y)<|D1 4 Zf Y<|D2 5 QB Y<|bE h fun u h_u h=>Dq 6 Y (Zne (ov Y) Y Y Zcp (oi<|ov Y) on h_u)<|D1 7 Zf Y<|Dq 8 Y (Zg (ov Y) Y Y)<|Dq 9 Y (Zb (ov Y) Y Y ZdH)<|Dq 10 Y (Zi (ov Y) Y Y Y ZeM Y)<|D1 11 Zf Y<|bE h fun u2 h_u2 h=>Dq 12 Y (Zne (ov Y) Y Y Zcp (oi<|ov Y) on h_u2)<|Do 13 Y (ZmO (ov Y) (ov Y) Y Y D120 (fun _=>Y) Zcp (Zcr h_u)<|Zcr h_u2)<|Dd<|K3 0 5 6 Y<|Td md0<|D1 0 Zf Y<|Dq 1 Y (Zg (ov Y) Y Y)<|Dq 2 Y (Zb (ov Y) Y Y ZdH)<|Dq 3 Y (Zi (ov Y) Y Y Y ZeM Y)<|D1 4 Zf Y<|Dq 5 Y (ZG (ov Y) Y Y Y Zht Y Y)<|bE h fun x2 h_x2 h=>Dq 6 Y (ZaY (ov Y) (ov Y) Zcp Y ((Zcg (Zcr h_u) (Zcr h_u2)).trans Y) h_x2)<|Do 7 Y (ZeB (u':=(api_Bookmark.mk r_.state.Frame text)) (ov Y) (ov Y) (Zo Zht Y) Y ((Zcg (Zcr h_u) (Zcr h_u2)).trans Y) h_x2 Y (Zd Y) Y)<|Dd<|K0<|Tr<|Ra Y<|Za<|?_
    obtain rfl:=rt h
    exact Zj<|XB [some 0,some 1,some 2,some 3,some 4] Y (.cons (.tmp Y) .nil) (.cons Y (ro1 (by exact tZ_118.symm)<|rlc (.dat Y)<|rlc (.dat Y)<|rlc (.dat Y)<|rlc (.dat Y)<|rlc (.dat Y)<|rlc (.own _ Y)<|rlc (ZmD (Eq.symm<|(List.length_set ..).trans<|(Zcg (Zcr h_u) (Zcr h_u2)).trans Y) Y) rln)<|.dead<|.dead<|.cons Y (roM D44)<|.cons Y (roM D120) .nil) Y Y<|.dat Y
theorem ZdO{r_:ref8_Replay}{back:Bool}{r:Int×Bool×Int×ref8_Replay}(h:XP r_ back=some r):
 GSpec Tryz.prog gl0 33 [.ptr 0 1 0 0,.bool back] [some ⟨118,[[.sl 49 (List.map R49 r_.p.Instruments),.sl 54 (List.map R54 r_.l),.int .i64 r_.keep,.int .i64 r_.state.Frame,.sl 99 (List.map R99 r_.state.Memos),.own 1 r_.kept.length,.own 2 r_.marks.length]]⟩,some ⟨44,List.map R44 r_.kept⟩,some ⟨120,List.map R120 r_.marks⟩] (.tuple [.int .i64 r.1,.bool r.2.1,.int .i64 r.2.2.1]) [some ⟨118,[[.sl 49 (List.map R49 r.2.2.2.p.Instruments),.sl 54 (List.map R54 r.2.2.2.l),.int .i64 r.2.2.2.keep,.int .i64 r.2.2.2.state.Frame,.sl 99 (List.map R99 r.2.2.2.state.Memos),.own 3 r.2.2.2.kept.length,.own 4 r.2.2.2.marks.length]]⟩,none,none,some ⟨44,List.map R44 r.2.2.2.kept⟩,some ⟨120,List.map R120 r.2.2.2.marks⟩]:=by
 unfold XP at h
 replace h:=ZO h
 refine Z1 (by kernel_rfl) Tryz.func33 Y Y<|?_
 intro w0 A W φ0
 refine X0 (Ent.sel [some 0,some 1,some 2,some 1,some 2] (sr 0 Y (.ptr (r':=0) _ _ _ Y)<|sd 1 Y Y sn) (.cons Y (ro1 (by exact tZ_118.symm)<|rlc (.dat Y)<|rlc (.dat Y)<|rlc (.dat Y)<|rlc (.dat Y)<|rlc (.dat Y)<|rlc (.own (r':=3) _ Y)<|rlc (.own (r':=4) _ Y) rln)<|.dead<|.dead<|.cons Y (roM D44)<|.cons Y (roM D120) .nil) Y Y)<|Tr<|Ra Y<|Ra Y<|Ra Y<|Za<|K2 0 1 Y<|Tr<|Ra Y<|Za<|I1 (fun best=>⟨[(0,.ptr 0 1 0 0),(7,.int .i64 best)],[some ⟨118,[[.sl 49 (List.map R49 r_.p.Instruments),.sl 54 (List.map R54 r_.l),.int .i64 r_.keep,.int .i64 r_.state.Frame,.sl 99 (List.map R99 r_.state.Memos),.own 3 r_.kept.length,.own 4 r_.marks.length]]⟩,none,none,some ⟨44,List.map R44 r_.kept⟩,some ⟨120,List.map R120 r_.marks⟩]⟩) h (fun h=>?_) fun best h=>?_
 ·
  refine Tr<|Rm Y<|Rq Y (Zg (ov Y) Y Y)<|Rq Y (Zb (ov Y) Y Y ZdH)<|Rq Y (Zi (ov Y) Y Y Y ZeM Y)<|Rq Y (Zbs (ov Y) Y Y Zcp)<|Rm Y<|Za<|Zl<|?_
  obtain⟨r1,hl1,ho1⟩:=Xa h
  refine L2 (fun best2 i=>⟨[(0,.ptr 0 1 0 0),(1,.bool back),(7,.int .i64 best2),(15,.own 4 r_.marks.length),(16,.int .i64 (r_.marks.length:Int)),(17,.int .i64 i)],[some ⟨118,[[.sl 49 (List.map R49 r_.p.Instruments),.sl 54 (List.map R54 r_.l),.int .i64 r_.keep,.int .i64 r_.state.Frame,.sl 99 (List.map R99 r_.state.Memos),.own 3 r_.kept.length,.own 4 r_.marks.length]]⟩,none,none,some ⟨44,List.map R44 r_.kept⟩,some ⟨120,List.map R120 r_.marks⟩]⟩) hl1 (ES [some 0,some 1,some 2,some 3,some 4]) fun n1 best2 i h=>?_
  unfold Q8 at h
  refine Tr<|R2 ZV Y<|Za<|Zm<|If h Y (fun h=>?_) fun h=>?_
  ·
   refine Zh<|Zm<|Zl<|K6 0 1 7 15 16 17 Y<|Tr<|bE h fun x h_x h=>Rq Y (ZaY (ov Y) (ov Y) Zcp Y Y h_x)<|Rq Y (ZfH (ov Y) Y Y h_x Zht Y Y)<|Rx Y (Zz (row:= [_,_]) 5 Y Zmk Y tZ_120)<|Rx Y (Zk (ov Y) (ov Y) (Zo Zht Y) Y Y Y (Nat.le_of_ble_eq_true Y) (Zd Y) Y)<|Za<|I1 (fun best3=>⟨[(0,.ptr 0 1 0 0),(1,.bool back),(7,.int .i64 best3),(9,.ptr 5 1 0 0),(15,.own 4 r_.marks.length),(16,.int .i64 (r_.marks.length:Int)),(17,.int .i64 i)],[some ⟨118,[[.sl 49 (List.map R49 r_.p.Instruments),.sl 54 (List.map R54 r_.l),.int .i64 r_.keep,.int .i64 r_.state.Frame,.sl 99 (List.map R99 r_.state.Memos),.own 3 r_.kept.length,.own 4 r_.marks.length]]⟩,none,none,some ⟨44,List.map R44 r_.kept⟩,some ⟨120,List.map R120 r_.marks⟩,some ⟨120,[[.int .i64 x.Frame,.str x.Text]]⟩]⟩) h (fun h=>?_) fun best3 h=>?_
   ·
    refine K7 0 1 7 9 15 16 17 Y<|Td md0<|D1 0 Zf Y<|D1 1 Zf Y<|Dq 2 Y (.guarded (back==true) Y Y Y Y fun h=>Zb (ov Y) Y Y ZdG)<|Dq 3 Y (.guarded (back==true) Y Y Y Y fun h=>Zi (ow Y h) Y Y Y tS3 Y)<|Dq 4 Y (.guarded (back==true) Y Y Y Y fun h=>Zf<|ov Y)<|Dq 5 Y (.guarded (back==true) Y Y Y Y fun h=>Zg (ow Y h) Y Y)<|Dq 6 Y (.guarded (back==true) Y Y Y Y fun h=>Zb (ow Y h) Y Y ZaE)<|Dq 7 Y (.guarded (back==true) Y Y Y Y fun h=>Zb (ow Y h) Y Y Qi)<|Dq 8 Y (.guarded (back==true) Y Y Y Y fun h=>Zi (ow Y h) Y Y Y tS3 Y)<|Dq 9 Y (.guarded (back==true) Y Y Y Y fun h=>ZV (ow Y h)<|ow Y h)<|Dq 10 Y (ZQ (ov Y) fun hp=>ow Y<|gT hp)<|Dd<|K8 0 1 7 9 15 16 17 31 Y<|If h Y (fun h=>?_) fun h=>?_
    ·
     exact K7 0 1 7 9 15 16 17 Y<|Zw<|Rq Y (Zb (ov Y) Y Y ZdG)<|Rq Y (Zi (ov Y) Y Y Y tS3 Y)<|Ra Y<|Za<|⟨_,h,ES [some 0,some 1,some 2,some 3,some 4,some 5]⟩
    ·
     exact Zh<|⟨_,h,ES [some 0,some 1,some 2,some 3,some 4,some 5]⟩
   ·
    refine Td md0<|D1 0 Zf Y<|D1 1 QA Y<|D1 2 Zf Y<|Dq 3 Y (.guarded ((!back)==true) Y Y Y Y fun h=>Zb (ov Y) Y Y ZdG)<|Dq 4 Y (.guarded ((!back)==true) Y Y Y Y fun h=>Zi (ow Y h) Y Y Y tS3 Y)<|Dq 5 Y (.guarded ((!back)==true) Y Y Y Y fun h=>Zf<|ov Y)<|Dq 6 Y (.guarded ((!back)==true) Y Y Y Y fun h=>Zg (ow Y h) Y Y)<|Dq 7 Y (.guarded ((!back)==true) Y Y Y Y fun h=>Zb (ow Y h) Y Y ZaE)<|Dq 8 Y (.guarded ((!back)==true) Y Y Y Y fun h=>Zb (ow Y h) Y Y Qi)<|Dq 9 Y (.guarded ((!back)==true) Y Y Y Y fun h=>Zi (ow Y h) Y Y Y tS3 Y)<|Dq 10 Y (.guarded ((!back)==true) Y Y Y Y fun h=>Qq (ow Y h)<|ow Y h)<|Dq 11 Y (ZQ (ov Y) fun hp=>ow Y<|gT hp)<|D1 12 Zf Y<|Dq 13 Y (.guarded (((!back)&&(decide (r_.state.Frame<x.Frame)))==true) Y Y Y Y fun h=>Zf<|ov Y)<|Dq 14 Y (.guarded (((!back)&&(decide (r_.state.Frame<x.Frame)))==true) Y Y Y Y fun h=>ZV (ow Y h)<|ov Y)<|Dq 15 Y (ZQ (ov Y) fun hp=>ow Y<|gT hp)<|Dd<|K8 0 1 7 9 15 16 17 49 Y<|If h Y (fun h=>?_) fun h=>?_
    ·
     exact K7 0 1 7 9 15 16 17 Y<|Zw<|Rq Y (Zb (ov Y) Y Y ZdG)<|Rq Y (Zi (ov Y) Y Y Y tS3 Y)<|Ra Y<|Za<|K6 0 1 7 15 16 17 Y<|Zw<|R2 QB Y<|Rm Y<|Za<|⟨_,h,ES [some 0,some 1,some 2,some 3,some 4]⟩
    ·
     exact Zh<|K6 0 1 7 15 16 17 Y<|Zw<|R2 QB Y<|Rm Y<|Za<|⟨_,h,ES [some 0,some 1,some 2,some 3,some 4]⟩
  ·
   refine ZL<|?_
   replace h:=lx h▸ho1
   exact⟨_,h,ES [some 0,some 1,some 2,some 3,some 4]⟩
 ·
  refine Zm<|Tr<|Rm Y<|R2 ZV Y<|Za<|K3 0 7 54 Y<|If h Y (fun h=>?_) fun h=>?_
  ·
   refine K0<|Tr<|Ra Y<|Ra Y<|Ra Y<|Za<|?_
   obtain rfl:=rt h
   exact Zj<|XB [some 0,some 1,some 2,some 3,some 4] Y (.cons (.tmp Y)<|.cons (.tmp Y)<|.cons (.tmp Y) .nil) (.cons Y (ro1 (by exact tZ_118.symm)<|rlc (.dat Y)<|rlc (.dat Y)<|rlc (.dat Y)<|rlc (.dat Y)<|rlc (.dat Y)<|rlc (.own _ Y)<|rlc (.own _ Y) rln)<|.dead<|.dead<|.cons Y (roM D44)<|.cons Y (roM D120) .nil) Y Y<|JO<|rlc (.dat Y)<|rlc (.dat Y)<|rlc (.dat Y) rln
  ·
   refine Zh<|K2 0 7 Y<|Tr<|Rm Y<|Rm Y<|bE h fun y h_y h=>Rx Y (ZK [0,3,4] (Za5 h_y) (.cons (ov Y) (.ptr _ _ _ Y)<|.cons (ov Y) (.dat Y) .nil) (.cons Y (ro1 (by exact tZ_118.symm)<|rlc (.dat Y)<|rlc (.dat Y)<|rlc (.dat Y)<|rlc (.dat Y)<|rlc (.dat Y)<|rlc (.own _ Y)<|rlc (.own _ Y) rln)<|.cons Y (roM D44)<|.cons Y (roM D120) .nil) Y (.lent 0 (.inl Y) Y (ro1 (by exact tZ_118.symm)<|rlc (.dat Y)<|rlc (.dat Y)<|rlc (.dat Y)<|rlc (.dat Y)<|rlc (.dat Y)<|rlc (.own _<|.inr ⟨Nat.le_of_ble_eq_true Y,Y⟩)<|rlc (.own _<|.inr ⟨Nat.le_of_ble_eq_true Y,Y⟩) rln)<|.none<|.none<|.none<|.none<|.lent 3 (.inr ⟨Nat.le_of_ble_eq_true Y,Y⟩) Y (roM D44)<|.lent 4 (.inr ⟨Nat.le_of_ble_eq_true Y,Y⟩) Y (roM D120) .nil) Y Y<|JO<|rld Y)<|Rm Y<|Rq Y (Zq (ov Y) Y)<|Rq Y (Zq (ov Y) Y)<|Ra Y<|Ra Y<|Za<|K2 7 11 Y<|Tr<|Rm Y<|Rm Y<|Ra Y<|Ra Y<|Ra Y<|Za<|?_
   obtain rfl:=rt h
   exact Zj<|XB [some 0,some 1,some 2,some 5,some 6] Y (.cons (.tmp Y)<|.cons (.tmp Y)<|.cons (.tmp Y) .nil) (.cons Y (ro1 (by exact tZ_118.symm)<|rlc (.dat Y)<|rlc (.dat Y)<|rlc (.dat Y)<|rlc (.dat Y)<|rlc (.dat Y)<|rlc (.own _ Y)<|rlc (.own _ Y) rln)<|.dead<|.dead<|.cons Y (roM D44)<|.cons Y (roM D120) .nil) Y Y<|JO<|rlc (.dat Y)<|rlc (.dat Y)<|rlc (.dat Y) rln
theorem Zd2{r_:panel_Replay}{r:Int}(h:Zbp r_=some r):
 GSpec Tryz.prog gl0 11 [.ptr 0 1 0 0] [some ⟨91,[[.sl 49 (List.map R49 r_.p.Instruments),.sl 54 (List.map R54 r_.l),.int .i64 r_.keep,.int .i64 r_.state.Frame,.sl 99 (List.map R99 r_.state.Memos),.own 1 r_.kept.length,.own 2 r_.marks.length]]⟩,some ⟨44,List.map R44 r_.kept⟩,some ⟨120,List.map R120 r_.marks⟩] (.int .i64 r) [some ⟨91,[[.sl 49 (List.map R49 r_.p.Instruments),.sl 54 (List.map R54 r_.l),.int .i64 r_.keep,.int .i64 r_.state.Frame,.sl 99 (List.map R99 r_.state.Memos),.own 3 r_.kept.length,.own 4 r_.marks.length]]⟩,none,none,some ⟨44,List.map R44 r_.kept⟩,some ⟨120,List.map R120 r_.marks⟩]:=by
 unfold Zbp at h
 replace h:=ZO h
 refine Z1 (by kernel_rfl) Tryz.func11 Y Y<|?_
 intro w0 A W φ0
 refine X0 (Ent.sel [some 0,some 1,some 2,some 1,some 2] (sr 0 Y (.ptr (r':=0) _ _ _ Y) sn) (.cons Y (ro1 (by exact tZ_91.symm)<|rlc (.dat Y)<|rlc (.dat Y)<|rlc (.dat Y)<|rlc (.dat Y)<|rlc (.dat Y)<|rlc (.own (r':=3) _ Y)<|rlc (.own (r':=4) _ Y) rln)<|.dead<|.dead<|.cons Y (roM D44)<|.cons Y (roM D120) .nil) Y Y)<|Tr<|Ra Y<|Za<|Tr<|Rm Y<|Rq Y (Zg (ov Y) Y Y)<|Rq Y (Zb (ov Y) Y Y Zax)<|Rq Y (Zb (ov Y) Y Y Qi)<|Rq Y (Zi (ov Y) Y Y Y tS3 Y)<|Ra Y<|Za<|?_
 obtain rfl:=rt h
 exact Zj<|XB [some 0,some 1,some 2,some 3,some 4] Y (.cons (.tmp Y) .nil) (.cons Y (ro1 (by exact tZ_91.symm)<|rlc (.dat Y)<|rlc (.dat Y)<|rlc (.dat Y)<|rlc (.dat Y)<|rlc (.dat Y)<|rlc (.own _ Y)<|rlc (.own _ Y) rln)<|.dead<|.dead<|.cons Y (roM D44)<|.cons Y (roM D120) .nil) Y Y<|.dat Y
theorem Zej{r_:ref8_Replay}{r:Int}(h:ZbT r_=some r):
 GSpec Tryz.prog gl0 65 [.ptr 0 1 0 0] [some ⟨118,[[.sl 49 (List.map R49 r_.p.Instruments),.sl 54 (List.map R54 r_.l),.int .i64 r_.keep,.int .i64 r_.state.Frame,.sl 99 (List.map R99 r_.state.Memos),.own 1 r_.kept.length,.own 2 r_.marks.length]]⟩,some ⟨44,List.map R44 r_.kept⟩,some ⟨120,List.map R120 r_.marks⟩] (.int .i64 r) [some ⟨118,[[.sl 49 (List.map R49 r_.p.Instruments),.sl 54 (List.map R54 r_.l),.int .i64 r_.keep,.int .i64 r_.state.Frame,.sl 99 (List.map R99 r_.state.Memos),.own 3 r_.kept.length,.own 4 r_.marks.length]]⟩,none,none,some ⟨44,List.map R44 r_.kept⟩,some ⟨120,List.map R120 r_.marks⟩]:=by
 unfold ZbT at h
 replace h:=ZO h
 refine Z1 (by kernel_rfl) Tryz.func65 Y Y<|?_
 intro w0 A W φ0
 refine X0 (Ent.sel [some 0,some 1,some 2,some 1,some 2] (sr 0 Y (.ptr (r':=0) _ _ _ Y) sn) (.cons Y (ro1 (by exact tZ_118.symm)<|rlc (.dat Y)<|rlc (.dat Y)<|rlc (.dat Y)<|rlc (.dat Y)<|rlc (.dat Y)<|rlc (.own (r':=3) _ Y)<|rlc (.own (r':=4) _ Y) rln)<|.dead<|.dead<|.cons Y (roM D44)<|.cons Y (roM D120) .nil) Y Y)<|Tr<|Ra Y<|Za<|Tr<|Rm Y<|Rq Y (Zg (ov Y) Y Y)<|Rq Y (Zb (ov Y) Y Y ZaE)<|Rq Y (Zb (ov Y) Y Y Qi)<|Rq Y (Zi (ov Y) Y Y Y tS3 Y)<|Ra Y<|Za<|?_
 obtain rfl:=rt h
 exact Zj<|XB [some 0,some 1,some 2,some 3,some 4] Y (.cons (.tmp Y) .nil) (.cons Y (ro1 (by exact tZ_118.symm)<|rlc (.dat Y)<|rlc (.dat Y)<|rlc (.dat Y)<|rlc (.dat Y)<|rlc (.dat Y)<|rlc (.own _ Y)<|rlc (.own _ Y) rln)<|.dead<|.dead<|.cons Y (roM D44)<|.cons Y (roM D120) .nil) Y Y<|.dat Y
theorem Zd9{r_:panel_Replay}{r:api_PanelState}(h:Zbm r_=some r):
 GSpec Tryz.prog gl0 15 [.ptr 0 1 0 0] [some ⟨91,[[.sl 49 (List.map R49 r_.p.Instruments),.sl 54 (List.map R54 r_.l),.int .i64 r_.keep,.int .i64 r_.state.Frame,.sl 99 (List.map R99 r_.state.Memos),.own 1 r_.kept.length,.own 2 r_.marks.length]]⟩,some ⟨44,List.map R44 r_.kept⟩,some ⟨120,List.map R120 r_.marks⟩] (.agg [.int .i64 r.Frame,.sl 99 (List.map R99 r.Memos)]) [some ⟨91,[[.sl 49 (List.map R49 r_.p.Instruments),.sl 54 (List.map R54 r_.l),.int .i64 r_.keep,.int .i64 r_.state.Frame,.sl 99 (List.map R99 r_.state.Memos),.own 3 r_.kept.length,.own 4 r_.marks.length]]⟩,none,none,some ⟨44,List.map R44 r_.kept⟩,some ⟨120,List.map R120 r_.marks⟩]:=by
 unfold Zbm at h
 replace h:=ZO h
 refine Z1 (by kernel_rfl) Tryz.func15 Y Y<|?_
 intro w0 A W φ0
 refine X0 (Ent.sel [some 0,some 1,some 2,some 1,some 2] (sr 0 Y (.ptr (r':=0) _ _ _ Y) sn) (.cons Y (ro1 (by exact tZ_91.symm)<|rlc (.dat Y)<|rlc (.dat Y)<|rlc (.dat Y)<|rlc (.dat Y)<|rlc (.dat Y)<|rlc (.own (r':=3) _ Y)<|rlc (.own (r':=4) _ Y) rln)<|.dead<|.dead<|.cons Y (roM D44)<|.cons Y (roM D120) .nil) Y Y)<|Tr<|Rx Y (Zz (row:= [_,_]) 5 Y ZcT Y tZ_44)<|Za<|Tr<|Rm Y<|Rq Y (Zg (ov Y) Y Y)<|Rq Y (Zb (ov Y) Y Y Zax)<|Rq Y (ZG (ov Y) Y Y Y QR Y Y)<|bE h fun y h_y h=>Rq Y (Zn (QG h_y)<|.cons (ov Y) (.aggB Y) .nil)<|Rx Y (Zk (ov Y) (ov Y) (Zo QR Y) Y Y Y (Nat.le_of_ble_eq_true Y) (Zd Y) Y)<|Za<|?_
 obtain rfl:=rt h
 exact Zj<|XB [some 0,some 1,some 2,some 3,some 4] Y (.cons (.agg Y Y Y Y QR Y Y) .nil) (.cons Y (ro1 (by exact tZ_91.symm)<|rlc (.dat Y)<|rlc (.dat Y)<|rlc (.dat Y)<|rlc (.dat Y)<|rlc (.dat Y)<|rlc (.own _ Y)<|rlc (.own _ Y) rln)<|.dead<|.dead<|.cons Y (roM D44)<|.cons Y (roM D120) .nil) Y Y<|Zbw<|rld Y
theorem Zef{r_:ref8_Replay}{r:api_PanelState}(h:ZbV r_=some r):
 GSpec Tryz.prog gl0 66 [.ptr 0 1 0 0] [some ⟨118,[[.sl 49 (List.map R49 r_.p.Instruments),.sl 54 (List.map R54 r_.l),.int .i64 r_.keep,.int .i64 r_.state.Frame,.sl 99 (List.map R99 r_.state.Memos),.own 1 r_.kept.length,.own 2 r_.marks.length]]⟩,some ⟨44,List.map R44 r_.kept⟩,some ⟨120,List.map R120 r_.marks⟩] (.agg [.int .i64 r.Frame,.sl 99 (List.map R99 r.Memos)]) [some ⟨118,[[.sl 49 (List.map R49 r_.p.Instruments),.sl 54 (List.map R54 r_.l),.int .i64 r_.keep,.int .i64 r_.state.Frame,.sl 99 (List.map R99 r_.state.Memos),.own 3 r_.kept.length,.own 4 r_.marks.length]]⟩,none,none,some ⟨44,List.map R44 r_.kept⟩,some ⟨120,List.map R120 r_.marks⟩]:=by
 unfold ZbV at h
 replace h:=ZO h
 refine Z1 (by kernel_rfl) Tryz.func66 Y Y<|?_
 intro w0 A W φ0
 refine X0 (Ent.sel [some 0,some 1,some 2,some 1,some 2] (sr 0 Y (.ptr (r':=0) _ _ _ Y) sn) (.cons Y (ro1 (by exact tZ_118.symm)<|rlc (.dat Y)<|rlc (.dat Y)<|rlc (.dat Y)<|rlc (.dat Y)<|rlc (.dat Y)<|rlc (.own (r':=3) _ Y)<|rlc (.own (r':=4) _ Y) rln)<|.dead<|.dead<|.cons Y (roM D44)<|.cons Y (roM D120) .nil) Y Y)<|Tr<|Rx Y (Zz (row:= [_,_]) 5 Y ZcT Y tZ_44)<|Za<|Tr<|Rm Y<|Rq Y (Zg (ov Y) Y Y)<|Rq Y (Zb (ov Y) Y Y ZaE)<|Rq Y (ZG (ov Y) Y Y Y QR Y Y)<|bE h fun y h_y h=>Rq Y (Zn (Ze5 h_y)<|.cons (ov Y) (.aggB Y) .nil)<|Rx Y (Zk (ov Y) (ov Y) (Zo QR Y) Y Y Y (Nat.le_of_ble_eq_true Y) (Zd Y) Y)<|Za<|?_
 obtain rfl:=rt h
 exact Zj<|XB [some 0,some 1,some 2,some 3,some 4] Y (.cons (.agg Y Y Y Y QR Y Y) .nil) (.cons Y (ro1 (by exact tZ_118.symm)<|rlc (.dat Y)<|rlc (.dat Y)<|rlc (.dat Y)<|rlc (.dat Y)<|rlc (.dat Y)<|rlc (.own _ Y)<|rlc (.own _ Y) rln)<|.dead<|.dead<|.cons Y (roM D44)<|.cons Y (roM D120) .nil) Y Y<|Zbw<|rld Y
theorem Jr{s1:List api_Memo}{s2:List api_Memo}{eq:api_Memo→api_Memo→Option Bool}{r:Bool}{eq_f:FuncId}{eq_c:List AV}(eq_d:eq_c.all datB=true)(eq_h: ∀ (z0:api_Memo) (z1:api_Memo) z,eq z0 z1=some z→CSpec Tryz.prog gl0 eq_f ([.agg [.bool z0.Lit,.bool z0.Some,.int .i64 z0.N,.int .i64 z0.Count,.sl 3 (List.map R3 z0.Tape)],.agg [.bool z1.Lit,.bool z1.Some,.int .i64 z1.N,.int .i64 z1.Count,.sl 3 (List.map R3 z1.Tape)]]++eq_c) (.bool z))(h:ZW s1 s2 eq=some r):
 CSpec Tryz.prog gl0 56 [.sl 99 (List.map R99 s1),.sl 99 (List.map R99 s2),.fn eq_f eq_c] (.bool r):=by
 unfold ZW at h
 replace h:=ZO h
 refine So Tryz.func56 Y fun w0 A=>Tr<|Ra Y<|Za<|Zm<|K3 0 1 2 Y<|Tr<|Rm Y<|Rl tZ_99 ZcA Y<|Rm Y<|Rl tZ_99 ZcA Y<|R2 Qo Y<|Za<|K4 0 1 2 14 Y<|If h Y (fun h=>?_) fun h=>?_
 ·
  refine K0<|Tr<|Ra Y<|Za<|?_
  obtain rfl:=rt h
  exact Zj (Zu Y (.one<|rb Y))
 ·
  refine Zh<|J0 (fun j=>(.inr j)) ⟨[],[]⟩ h (fun h=>?_) fun h=>?_
  ·
   refine K3 0 1 2 Y<|Tr<|Rm Y<|Rl tZ_99 ZcA Y<|Rm Y<|Za<|Zl<|?_
   obtain⟨r1,hl1,ho1⟩:=Xa h
   refine L1 (fun i=>⟨[(1,.sl 99 (List.map R99 s2)),(2,.fn eq_f eq_c),(15,.sl 99 (List.map R99 s1)),(16,.int .i64 (s1.length:Int)),(17,.int .i64 i)],[]⟩) hl1 (ES []<|sd 1 Y Y<|sr 2 Y (rFn<|rld eq_d)<|sd 15 Y Y<|sd 16 Y Y<|sd 17 Y Y sn) fun n1 i h=>?_
   unfold ZD at h
   refine Tr<|R2 ZV Y<|Za<|Zm<|If h Y (fun h=>?_) fun h=>?_
   ·
    refine Zh<|Zm<|Zl<|K5 1 2 15 16 17 Y<|Tr<|Rm Y<|bE h fun x h_x h=>Rq Y (ZU (ov Y) (ov Y) ZcA h_x)<|Rq Y (Zr (ov Y) ZdS Y Y)<|Rx Y (Zz (row:= [_,_,_,_,_]) 0 Y ZkQ Y tZ_99)<|Ra Y<|Rx Y (Zk (ov Y) (ov Y) (Zo ZdS Y) Y Y Y (Nat.le_of_ble_eq_true Y) (Zd Y) Y)<|Za<|K7 1 2 7 8 15 16 17 Y<|Tr<|Rm Y<|Rm Y<|bE h fun x2 h_x2 h=>Rq Y (ZU (ov Y) (ov Y) ZcA h_x2)<|Rq Y (Zr (ov Y) ZdS Y Y)<|Rx Y (Zz (row:= [_,_,_,_,_]) 1 Y ZkQ Y tZ_99)<|Rx Y (Zk (ov Y) (ov Y) (Zo ZdS Y) Y Y Y (Nat.le_of_ble_eq_true Y) (Zd Y) Y)<|Za<|K7 1 2 8 9 15 16 17 Y<|Tr<|Rm Y<|Rq Y (ZG (ov Y) Y Y Y ZdS Y Y)<|Rq Y (ZG (ov Y) Y Y Y ZdS Y Y)<|bE h fun y h_y h=>Rq Y (ZcD (ov Y) eq_d (eq_h _ _ _ h_y)<|.cons (ov Y) (.aggB Y)<|.cons (ov Y) (.aggB Y) .nil)<|R1 QA Y<|Za<|K6 1 2 15 16 17 30 Y<|If h Y (fun h=>?_) fun h=>?_
    ·
     refine K0<|Tr<|Ra Y<|Za<|?_
     replace h:=lx h▸ho1
     obtain rfl:=rt h
     exact Zj (Zu Y (.one<|rb Y))
    ·
     exact Zh<|K5 1 2 15 16 17 Y<|Zw<|R2 QB Y<|Rm Y<|Za<|⟨_,h,ES []<|sd 1 Y Y<|sr 2 Y (rFn<|rld eq_d)<|sd 15 Y Y<|sd 16 Y Y<|sd 17 Y Y sn⟩
   ·
    refine ZL<|?_
    replace h:=lx h▸ho1
    exact⟨(),h,ES []⟩
  ·
   replace h:=elr h
   replace h:=t0i h
   refine Tr<|Ra Y<|Za<|?_
   obtain rfl:=rt h
   exact Zj (Zu Y (.one<|rb Y))
theorem ZcN{s1:List Int}{s2:List Int}{r:Bool}(h:Xo s1 s2=some r):
 CSpec Tryz.prog gl0 46 [.sl 3 (List.map R3 s1),.sl 3 (List.map R3 s2)] (.bool r):=by
 unfold Xo at h
 replace h:=ZO h
 refine So Tryz.func46 Y fun w0 A=>Tr<|Ra Y<|Za<|Zm<|K2 0 1 Y<|Tr<|Rm Y<|Rl tZ_3 J3 Y<|Rm Y<|Rl tZ_3 J3 Y<|R2 Qo Y<|Za<|K3 0 1 10 Y<|If h Y (fun h=>?_) fun h=>?_
 ·
  refine K0<|Tr<|Ra Y<|Za<|?_
  obtain rfl:=rt h
  exact Zj (Zu Y (.one<|rb Y))
 ·
  refine Zh<|J0 (fun j=>(.inr j)) ⟨[],[]⟩ h (fun h=>?_) fun h=>?_
  ·
   refine K2 0 1 Y<|Tr<|Rm Y<|Rl tZ_3 J3 Y<|Rm Y<|Za<|Zl<|?_
   obtain⟨r1,hl1,ho1⟩:=Xa h
   refine L1 (fun i=>⟨[(0,.sl 3 (List.map R3 s1)),(1,.sl 3 (List.map R3 s2)),(12,.int .i64 (s1.length:Int)),(13,.int .i64 i)],[]⟩) hl1 (ES []) fun n1 i h=>?_
   unfold QY at h
   refine Tr<|R2 ZV Y<|Za<|Zm<|If h Y (fun h=>?_) fun h=>?_
   ·
    refine Zh<|Zm<|Zl<|K4 0 1 12 13 Y<|Tr<|Rm Y<|Ra Y<|Za<|K5 0 1 5 12 13 Y<|Td md0<|D1 0 Zf Y<|D1 1 Zf Y<|bE h fun x h_x h=>Dq 2 Y (ZU (ov Y) (ov Y) J3 h_x)<|Dq 3 Y (Zc (ov Y) tS3 Y)<|D1 4 Zf Y<|D1 5 Zf Y<|bE h fun x2 h_x2 h=>Dq 6 Y (ZU (ov Y) (ov Y) J3 h_x2)<|Dq 7 Y (Zc (ov Y) tS3 Y)<|D2 8 Qo Y<|Dd<|K5 0 1 12 13 24 Y<|If h Y (fun h=>?_) fun h=>?_
    ·
     refine K0<|Tr<|Ra Y<|Za<|?_
     replace h:=lx h▸ho1
     obtain rfl:=rt h
     exact Zj (Zu Y (.one<|rb Y))
    ·
     exact Zh<|K4 0 1 12 13 Y<|Zw<|R2 QB Y<|Rm Y<|Za<|⟨_,h,ES []⟩
   ·
    refine ZL<|?_
    replace h:=lx h▸ho1
    exact⟨(),h,ES []⟩
  ·
   replace h:=elr h
   replace h:=t0i h
   refine Tr<|Ra Y<|Za<|?_
   obtain rfl:=rt h
   exact Zj (Zu Y (.one<|rb Y))
end Go.Proofs.YtailpehcgelmdaaGreatDoor
