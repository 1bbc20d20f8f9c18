/- A text of the proof: a verified executor of the program form, or the contracts of the functions that the law reaches. -/
import Derived.Test.YtailpehcgelmdaaGreatDoorOkPb
set_option linter.all false
namespace Go.Proofs.YtailpehcgelmdaaGreatDoor
open Go Go.Vx
set_option maxRecDepth 10000
set_option maxHeartbeats 1000000
set_option linter.unusedVariables false
theorem Qn{x:List api_PanelState}{target:Int}{cmp:api_PanelState→Int→Option Int}{r:Int×Bool}{cmp_f:FuncId}{cmp_c:List AV}(cmp_d:cmp_c.all datB=true)(cmp_h: ∀ (z0:api_PanelState) (z1:Int) z,cmp z0 z1=some z→CSpec Tryz.prog gl0 cmp_f ([.agg [.int .i64 z0.Frame,.sl 99 (List.map R99 z0.Memos)],.int .i64 z1]++cmp_c) (.int .i64 z))(h:ZA x target cmp=some r):
 CSpec Tryz.prog gl0 85 [.sl 44 (List.map R44 x),.int .i64 target,.fn cmp_f cmp_c] (.tuple [.int .i64 r.1,.bool r.2]):=by
 unfold ZA at h
 replace h:=ZO h
 refine So Tryz.func85 Y fun w0 A=>Tr<|Ra Y<|Ra Y<|Za<|K3 0 1 2 Y<|Tr<|Rm Y<|Rl tZ_44 XE Y<|Ra Y<|Za<|K4 0 1 2 8 Y<|Tr<|Rm Y<|Ra Y<|Ra Y<|Za<|I1 (fun i=>⟨[(0,.sl 44 (List.map R44 x)),(1,.int .i64 target),(2,.fn cmp_f cmp_c),(8,.int .i64 (x.length:Int)),(9,.int .i64 i)],[]⟩) h (fun h=>?_) fun i h=>?_
 ·
  refine Zl<|?_
  obtain⟨r1,hl1,ho1⟩:=Xa h
  refine L2 (fun i2 j=>⟨[(0,.sl 44 (List.map R44 x)),(1,.int .i64 target),(2,.fn cmp_f cmp_c),(8,.int .i64 (x.length:Int)),(9,.int .i64 i2),(10,.int .i64 j)],[]⟩) hl1 (ES []<|sd 0 Y Y<|sd 1 Y Y<|sr 2 Y (rFn<|rld cmp_d)<|sd 8 Y Y<|sd 9 Y Y<|sd 10 Y Y sn) fun n1 i2 j h=>?_
  unfold Zv at h
  refine Zm<|Tr<|Rm Y<|Rm Y<|R2 ZV Y<|Za<|K7 0 1 2 8 9 10 17 Y<|If h Y (fun h=>?_) fun h=>?_
  ·
   refine Zh<|Zl<|K6 0 1 2 8 9 10 Y<|Tr<|Rm Y<|Rm Y<|R2 QB Y<|Rq Y (ZhR (ov Y) tI3 Zm6 Y)<|bE h fun q h_q h=>Rq Y (ZnO (ov Y) (ov Y) h_q)<|Rq Y (ZhR (ov Y) Zm6 tI3 Y)<|Ra Y<|Za<|K7 0 1 2 8 9 10 11 Y<|Tr<|Rm Y<|Rm Y<|Rm Y<|bE h fun x2 h_x2 h=>Rq Y (ZU (ov Y) (ov Y) XE h_x2)<|Rq Y (Zr (ov Y) QR Y Y)<|Rm Y<|bE h fun y h_y h=>Rq Y (ZcD (ov Y) cmp_d (cmp_h _ _ _ h_y)<|.cons (ov Y) (.aggB Y)<|.cons (ov Y) (.b Y) .nil)<|R2 ZV Y<|Za<|K8 0 1 2 8 9 10 11 31 Y<|If h Y (fun h=>?_) fun h=>?_
   ·
    exact K7 0 1 2 8 9 10 11 Y<|Zw<|Rm Y<|R2 QB Y<|Ra Y<|Za<|⟨_,h,ES []<|sd 0 Y Y<|sd 1 Y Y<|sr 2 Y (rFn<|rld cmp_d)<|sd 8 Y Y<|sd 9 Y Y<|sd 10 Y Y sn⟩
   ·
    exact K7 0 1 2 8 9 10 11 Y<|Zw<|Rm Y<|Ra Y<|Za<|⟨_,h,ES []<|sd 0 Y Y<|sd 1 Y Y<|sr 2 Y (rFn<|rld cmp_d)<|sd 8 Y Y<|sd 9 Y Y<|sd 10 Y Y sn⟩
  ·
   refine ZL<|?_
   replace h:=lx h▸ho1
   exact⟨_,h,ES []<|sd 0 Y Y<|sd 1 Y Y<|sr 2 Y (rFn<|rld cmp_d)<|sd 8 Y Y<|sd 9 Y Y sn⟩
 ·
  refine Tr<|Rm Y<|Rm Y<|Rm Y<|R2 ZV Y<|Rm Y<|Rq Y (.guarded ((decide (i<(x.length:Int)))==true) Y Y Y Y fun h=>Zf<|ov Y)<|Rq Y (.guarded ((decide (i<(x.length:Int)))==true) Y Y Y Y fun h=>Zf<|ov Y)<|Rq Y (.guarded ((decide (i<(x.length:Int)))==true) Y Y Y Y fun h=>Zf<|ov Y)<|bE h fun x3 h_x3 h=>Rq Y (.guarded ((decide (i<(x.length:Int)))==true) Y Y Y Y fun h=>ZU (ow Y h) (ow Y h) XE<|gdT h_x3 h)<|Rq Y (.guarded ((decide (i<(x.length:Int)))==true) Y Y Y Y fun h=>Zr (ow Y h) QR Y Y)<|Rq Y (.guarded ((decide (i<(x.length:Int)))==true) Y Y Y Y fun h=>Zf<|ov Y)<|bE h fun y2 h_y2 h=>Rq Y (.guarded ((decide (i<(x.length:Int)))==true) Y Y Y Y fun h=>ZcD (ow Y h) cmp_d (cmp_h _ _ _<|gdT h_y2 h)<|.cons (ow Y h) (.aggB Y)<|.cons (ow Y h) (.b Y) .nil)<|Rq Y (.guarded ((decide (i<(x.length:Int)))==true) Y Y Y Y fun h=>ZT (ow Y h)<|ov Y)<|Rq Y (ZQ (ov Y) fun hp=>ow Y<|gT hp)<|Ra Y<|Ra Y<|Za<|?_
  obtain rfl:=rt h
  exact Zj (Zu Y (.two (rb Y)<|rb Y))
theorem Zcy{s:api_PanelState}{frame:Int}{r:Int}(h:Qs s frame=some r):
 CSpec Tryz.prog gl0 86 [.agg [.int .i64 s.Frame,.sl 99 (List.map R99 s.Memos)],.int .i64 frame] (.int .i64 r):=by
 unfold Qs at h
 replace h:=ZO h
 refine So Tryz.func86 Y fun w0 A=>Tr<|Rq Y (ZP (cva<|ov Y) Y tZ_44 Y)<|Ra Y<|Za<|K3 1 2 4 Y<|Tr<|Rq Y (Ze (ov Y) Qi)<|Rq Y (Zc (ov Y) tS3 Y)<|Rm Y<|R2 Zdi Y<|Ra Y<|Za<|?_
 obtain rfl:=rt h
 exact Zj (Zu Y (.one<|rb Y))
theorem Za4{r_:panel_Replay}{frame:Int}{r:Int×Bool}(h:Qb r_ frame=some r):
 GSpec Tryz.prog gl0 43 [.ptr 0 1 0 0,.int .i64 frame] [some ⟨91,[[.sl 49 (List.map R49 r_.p.Instruments),.sl 54 (List.map R54 r_.l),.int .i64 r_.keep,.int .i64 r_.state.Frame,.own 1 r_.state.Memos.length,.own 2 r_.kept.length,.own 3 r_.marks.length]]⟩,some ⟨99,List.map R99 r_.state.Memos⟩,some ⟨44,List.map R44 r_.kept⟩,some ⟨120,List.map R120 r_.marks⟩] (.tuple [.int .i64 r.1,.bool r.2]) [some ⟨91,[[.sl 49 (List.map R49 r_.p.Instruments),.sl 54 (List.map R54 r_.l),.int .i64 r_.keep,.int .i64 r_.state.Frame,.own 4 r_.state.Memos.length,.own 5 r_.kept.length,.own 6 r_.marks.length]]⟩,none,none,none,some ⟨99,List.map R99 r_.state.Memos⟩,some ⟨44,List.map R44 r_.kept⟩,some ⟨120,List.map R120 r_.marks⟩]:=by
 unfold Qb at h
 replace h:=ZO h
 refine Z1 (by kernel_rfl) Tryz.func43 Y Y<|?_
 intro w0 A W φ0
 refine X0 (Ent.sel [some 0,some 1,some 2,some 3,some 1,some 2,some 3] (sr 0 Y (.ptr (r':=0) _ _ _ Y)<|sd 1 Y Y sn) (.cons Y (ro1 (by exact tZ_91.symm)<|rlc (.dat Y)<|rlc (.dat Y)<|rlc (.dat Y)<|rlc (.dat Y)<|rlc (.own (r':=4) _ Y)<|rlc (.own (r':=5) _ Y)<|rlc (.own (r':=6) _ Y) rln)<|.dead<|.dead<|.dead<|.cons Y (roM D99)<|.cons Y (roM D44)<|.cons Y (roM D120) .nil) Y Y)<|Tr<|Ra Y<|Ra Y<|Za<|Tr<|Rm Y<|Rq Y (Zg (ov Y) Y Y)<|Rq Y (Zb (ov Y) Y Y QX)<|Rq Y (Zi (ov Y) Y Y Y Jd Y)<|Rm Y<|bE h fun y h_y h=>Rq Y (Zh2 (Qn Y (fun z0 z1 _ hz=>Zcy hz) h_y) (.tuple<|by simp only [List.mem_cons,List.not_mem_nil,or_false,forall_eq_or_imp,forall_eq];exact⟨.int,.bool⟩)<|.cons (ov Y) (View.ownM Y Y D44)<|.cons (ov Y) (Dat.view<|.b Y)<|.cons (ov Y) (Dat.view .fn) .nil)<|Rq Y (Zq (ov Y) Y)<|Rq Y (Zq (ov Y) Y)<|Ra Y<|Ra Y<|Za<|?_
 obtain rfl:=rt h
 exact Zj<|XB [some 0,some 1,some 2,some 3,some 4,some 5,some 6] Y (.cons (.tmp Y)<|.cons (.tmp Y) .nil) (.cons Y (ro1 (by exact tZ_91.symm)<|rlc (.dat Y)<|rlc (.dat Y)<|rlc (.dat Y)<|rlc (.dat Y)<|rlc (.own _ Y)<|rlc (.own _ Y)<|rlc (.own _ Y) rln)<|.dead<|.dead<|.dead<|.cons Y (roM D99)<|.cons Y (roM D44)<|.cons Y (roM D120) .nil) Y Y<|JO<|rlc (.dat Y)<|rlc (.dat Y) rln
theorem Zit{xs r:List api_Memo}(h:ZaX xs=some r):
 GSpec Tryz.prog gl0 83 [.sl 99 (List.map R99 xs)] [] (.own 0 r.length) [some ⟨99,List.map R99 r⟩]:=by
 have h2:app [] xs=some r:=h
 refine Z1 (by kernel_rfl) Tryz.func83 Y Y<|?_
 intro w0 A W φ0
 refine Tr<|Ra Y<|Za<|Zm<|Zm<|Zw<|Rm Y<|Ze4 (ov Y) ZpU Y fun b hb=>?_
 refine Za<|Zf2 Y (fun hb2=>?_) fun hb2=>?_
 ·
  obtain rfl:xs= []:=by simpa using hb hb2
  obtain rfl:r= []:=by simpa [app,apz] using h2.symm
  exact Tr<|Ra Y<|Za<|Zj<|XB [none] Y (.cons (.tmp Y) .nil) (.row 99 .nil) Y Y<|.row Y
 ·
  exact Zh<|Tr<|Rx Y (QW (r:=0) (xs:= []) (f:=R99) Y ZcA .nil Y Y Y)<|Rm Y<|Rx Y (JR (ov Y) (XW (ov Y) tZ_99) ZcA Y Y (fun _=>Zd Y) Y h2)<|Ra Y<|Za<|Zj<|XB [some 0] Y (.cons (.tmp Y) .nil) (.cons Y (roM D99) .nil) Y Y<|.own _ Y
theorem Zle{xs r:List Int}(h:ZaX xs=some r):
 CSpec Tryz.prog gl0 84 [.sl 3 (List.map R3 xs)] (.sl 3 (List.map R3 r)):=by
 have h2:app [] xs=some r:=h
 refine So Tryz.func84 Y fun w0 A=>Tr<|Ra Y<|Za<|Zm<|Zm<|Zw<|Rm Y<|Ze4 (ov Y) ZoD Y fun b hb=>?_
 refine Za<|Zf2 Y (fun hb2=>?_) fun hb2=>?_
 ·
  obtain rfl:xs= []:=by simpa using hb hb2
  obtain rfl:r= []:=by simpa [app,apz] using h2.symm
  refine Tr<|Ra Y<|Za<|Zj<|Zu Y<|.one<|.tmp Y<|View.nils _
 ·
  refine Zh<|Tr<|Rx Y (QW (r:=0) (xs:= []) (f:=R3) Y J3 .nil Y Y Y)<|Rm Y<|Rx Y (JR (ov Y) (XW (ov Y) tZ_3) J3 Y Y (fun _=>Zd Y) Y h2)<|Ra Y<|Za<|Zj<|Zu Y<|.one<|.tmp Y<|View.ownM Y Y D3
theorem QG{s:api_PanelState}{r:api_PanelState}(h:Qk s=some r):
 CSpec Tryz.prog gl0 42 [.agg [.int .i64 s.Frame,.sl 99 (List.map R99 s.Memos)]] (.agg [.int .i64 r.Frame,.sl 99 (List.map R99 r.Memos)]):=by
 unfold Qk at h
 replace h:=ZO h
 refine So Tryz.func42 Y fun w0 A=>Tr<|Rx Y (Zk9 0 Y (ov Y) QR Y)<|Rx Y (Zz (row:= [_,_]) 1 Y ZcT Y tZ_44)<|Za<|K2 1 2 Y<|Tr<|Rq Y (Zb (ov Y) Y Y Jn)<|Rq Y (Zi (ov Y) Y Y Y ZdM Y)<|bE h fun y h_y h=>Rx Y (ZK [] (Zit h_y) (.cons (ov Y) (.dat Y) .nil) .nil Y (.keep Y Y<|.keep Y Y<|.lent 0 (.inr ⟨Nat.le_of_ble_eq_true Y,Y⟩) Y (roM D99) .nil) Y Y<|.own _<|.inr ⟨Nat.le_of_ble_eq_true Y,Y⟩)<|Rq Y (Zb (ov Y) Y Y Jn)<|Rx Y (Zk (ov Y) (ov Y) (Zp ZdM) Y Y Y (Nat.le_of_ble_eq_true Y) (Zd Y) Y)<|Za<|I1 (fun Memos=>⟨[(1,.ptr 0 1 0 0),(2,.ptr 2 1 0 0)],[some ⟨44,[[.int .i64 s.Frame,.own 1 Memos.length]]⟩,some ⟨99,List.map R99 Memos⟩,some ⟨44,[[.int .i64 0,.nils]]⟩]⟩) h (fun h=>?_) fun Memos h=>?_
 ·
  refine K2 1 2 Y<|Tr<|Rq Y (Zb (ov Y) Y Y Jn)<|Rq Y (Zi (ov Y) Y Y Y ZdM Y)<|Rq Y (Zbs (ov Y) Y Y ZcA)<|Rm Y<|Za<|Zl<|?_
  obtain⟨r1,hl1,ho1⟩:=Xa h
  refine L2 (fun Memos2 i=>⟨[(1,.ptr 0 1 0 0),(2,.ptr 2 1 0 0),(10,.int .i64 (y.length:Int)),(11,.int .i64 i)],[some ⟨44,[[.int .i64 s.Frame,.own 1 Memos2.length]]⟩,some ⟨99,List.map R99 Memos2⟩,some ⟨44,[[.int .i64 0,.nils]]⟩]⟩) hl1 (ES [some 0,some 2,some 1]) fun n1 Memos2 i h=>?_
  unfold QF at h
  refine Tr<|R2 ZV Y<|Za<|Zm<|If h Y (fun h=>?_) fun h=>?_
  ·
   exact Zh<|Zm<|Zl<|K4 1 2 10 11 Y<|Tr<|Rm Y<|Ra Y<|Za<|K5 1 2 3 10 11 Y<|ZbM (cw:=md0) (by kernel_rfl)<|Dq 0 Y (Zb (ov Y) Y Y Jn)<|Dq 1 Y (Zi (ov Y) Y Y Y ZdM Y)<|D1 2 Zf Y<|Dq 3 Y (Zb (ov Y) Y Y Jn)<|Dq 4 Y (Zi (ov Y) Y Y Y ZdM Y)<|D1 5 Zf Y<|bE h fun x h_x h=>Dq 6 Y (ZaY (ov Y) (ov Y) ZcA Y Y h_x)<|Dq 7 Y (Jt (ov Y) Y Y JW)<|Dq 8 Y (Zc0 (ov Y) Y Y h_x ZeC Y)<|bE h fun y2 h_y2 h=>Dq 9 Y (Zn (Zle h_y2)<|.cons (ov Y) (.b Y) .nil)<|bE h fun x2 h_x2 h=>Dq 10 Y (ZaY (ov Y) (ov Y) ZcA Y Y h_x2)<|Dq 11 Y (Jt (ov Y) Y Y JW)<|Do 12 Y (ZeB (u':=(api_Memo.mk x2.Lit x2.Some x2.N x2.Count y2)) (ov Y) (ov Y) (Zp ZeC) Y Y h_x2 Y (Zd Y) Y)<|Dd<|K4 1 2 10 11 Y<|Zw<|R2 QB Y<|Rm Y<|Za<|⟨_,h,ES [some 0,some 1,some 2] (hhp:= .cons Y (ro1 (by exact tZ_44.symm)<|rlc (.dat Y)<|rlc (ZmD (Eq.symm<|(List.length_set ..).trans Y) Y) rln)<|.cons Y (roM D99)<|.cons Y (ro1 (by exact tZ_44.symm)<|rld Y) .nil)⟩
  ·
   refine ZL<|?_
   replace h:=lx h▸ho1
   exact⟨_,h,ES [some 0,some 1,some 2]⟩
 ·
  refine Tr<|Rq Y (ZG (ov Y) Y Y Y QR Y Y)<|Rx Y (Zk (ov Y) (ov Y) (Zo QR Y) Y Y Y (Nat.le_of_ble_eq_true Y) (Zd Y) Y)<|Za<|?_
  obtain rfl:=rt h
  exact Zj (Zu Y (.one<|.agg Y Y Y Y QR Y Y<|.cons (Dat.view<|.b Y)<|.cons (View.ownM Y Y D99) .nil))
set_option maxHeartbeats 4000000 in
set_option maxRecDepth 100000 in
open Go.Shelf Go.RowKit Go.Lib Go.Proofs in
theorem ZkT(vb voff vc:Nat)(v':Value)(w w':World)
 (hrun:(Builtin.append_ #[88,88] 88 #[.slice none 0 0,.slice (some ⟨vb,voff,none⟩) 1 vc]).run Tryz.prog w= .ok v' w'):
 Calls Tryz.prog 87 #[.slice none 0 0,.int .i64 (0:Nat),.slice (some ⟨vb,voff,none⟩) 1 vc] w fun e W=>e= .returned v'∧W=w':=by
 go_enter Tryz.func87,Tryz.ntmps87
 go_wp2_with (at_builtin;refine Lib.wpList_append_run _ rfl _ _ _ _ rfl _ _ rfl rfl _ _ hrun ?_)
 go_ret
 exact⟨Y,Y⟩
set_option maxHeartbeats 4000000 in
set_option maxRecDepth 100000 in
open Go.Shelf Go.RowKit Go.Lib Go.Proofs in
theorem ZlB(b n c vb voff vc:Nat)(v':Value)(w w':World)(hn:n≤c)(hc63:c≤9223372036854775807)
 (hrun:(Builtin.append_ #[88,88] 88 #[.slice (some ⟨b,0,none⟩) n c,.slice (some ⟨vb,voff,none⟩) 1 vc]).run Tryz.prog w= .ok v' w'):
 Calls Tryz.prog 87 #[.slice (some ⟨b,0,none⟩) n c,.int .i64 n,.slice (some ⟨vb,voff,none⟩) 1 vc] w fun e W=>e= .returned v'∧W=w':=by
 go_enter Tryz.func87,Tryz.ntmps87
 go_wp2_with (at_builtin;refine Lib.wpList_append_run _ rfl _ _ _ _ rfl _ _ rfl rfl _ _ hrun ?_)
 all_goals (go_ret;exact⟨rfl,rfl⟩)
set_option maxHeartbeats 4000000 in
set_option maxRecDepth 100000 in
open Go.Shelf Go.RowKit Go.Lib Go.Proofs in
theorem ZkP(b n c i vb voff vc:Nat)(w w1 w2:World)(hi:i<n)(hroom:n+1≤c)(hc63:c≤9223372036854775807)
 (hov: ∀ lb cb,(callFunc 118 #[.slice (some ⟨vb,voff,none⟩) 1 vc,.slice (some ⟨b,(i+1)*2,none⟩) lb cb]).run Tryz.prog w= .ok (.value (.bool false)) w)
 (hcp1: ∀ ty dc sc,(Builtin.copy_ #[88,88] ty #[.slice (some ⟨b,(i+1)*2,none⟩) (n-i) dc,.slice (some ⟨b,i*2,none⟩) (n+1-i) sc]).run Tryz.prog w.drew= .ok (goInt (n-i:Nat)) w1)
 (hcp2: ∀ ty dc,(Builtin.copy_ #[88,88] ty #[.slice (some ⟨b,i*2,none⟩) (n+1-i) dc,.slice (some ⟨vb,voff,none⟩) 1 vc]).run Tryz.prog w1= .ok (goInt 1) w2):
 Calls Tryz.prog 87 #[.slice (some ⟨b,0,none⟩) n c,.int .i64 i,.slice (some ⟨vb,voff,none⟩) 1 vc] w fun e w'=>
   e= .returned (.slice (some ⟨b,0,none⟩) (n+1) c)∧w'=w2:=by
 have mixed:Tryz.prog.follows .mixedOrders=true:=by kernel_rfl
 have hz2: ¬((i:Int)=(n:Int)):=by omega
 have hw1:IntKind.i64.wrap ((i:Int)+(1:Int))=(i:Int)+(1:Int):=by rw [IntKind.wrap_i64];omega
 have hb1:(0:Int)≤(i:Int)+(1:Int):=by omega
 have hin:i≤n:=by omega
 have htn:((i:Int)+(1:Int)).toNat=i+1:=by omega
 have hb2: ¬(c=i+1):=by omega
 have hb3:(i:Int)≤(n:Int)+(1:Int):=by omega
 have hb4: ¬(c=i):=by omega
 have hr: ¬((n:Int)+1>(c:Int)):=by omega
 go_enter Tryz.func87,Tryz.ntmps87
 go_wp2_with (simp only [hov])
 go_region_law_o (refine step_copy_runI rfl _ _ 88 88 rfl _ _ (by simp [Act.eval,Act.put]) (by simp [Act.eval,Act.put]) (hcp1 _ _ _) ?_)
 go_wp2_with (at_builtin;refine wpList_copy_runI _ rfl _ _ 88 88 rfl _ _ rfl rfl (hcp2 _ _) ?_)
 go_ret
 exact⟨Y,Y⟩
set_option maxHeartbeats 4000000 in
set_option maxRecDepth 100000 in
open Go.Shelf Go.RowKit Go.Lib Go.Proofs in
theorem ZkI(b n c i vb voff vc g c':Nat)(w w1 w2 w3:World)(hi:i<n)(hn:n≤c)(hroom:c<n+1)(hc63:c≤9223372036854775806)(hc1:n+1≤c')(hc2:c'≤9223372036854775807)
 (hap: ∀ ty,(Builtin.append_ #[88,3] ty #[.slice (some ⟨b,0,none⟩) i c,.int .i64 ((n+1-i:Nat):Int)]).run Tryz.prog w= .ok (.slice (some ⟨g,0,none⟩) (n+1) c') w1)
 (hcp1: ∀ ty dc,(Builtin.copy_ #[88,88] ty #[.slice (some ⟨g,i*2,none⟩) (n+1-i) dc,.slice (some ⟨vb,voff,none⟩) 1 vc]).run Tryz.prog w1= .ok (goInt 1) w2)
 (hcp2: ∀ ty dc sc,(Builtin.copy_ #[88,88] ty #[.slice (some ⟨g,(i+1)*2,none⟩) (n-i) dc,.slice (some ⟨b,i*2,none⟩) (n-i) sc]).run Tryz.prog w2.drew= .ok (goInt (n-i:Nat)) w3):
 Calls Tryz.prog 87 #[.slice (some ⟨b,0,none⟩) n c,.int .i64 i,.slice (some ⟨vb,voff,none⟩) 1 vc] w fun e W=>e= .returned (.slice (some ⟨g,0,none⟩) (n+1) c')∧W=w3:=by
 have mixed:Tryz.prog.follows .mixedOrders=true:=by kernel_rfl
 obtain rfl:c=n:=by omega
 have hz2: ¬((i:Int)=(c:Int)):=by omega
 have hsub:IntKind.i64.wrap ((c:Int)+1-(i:Int))=((c+1-i:Nat):Int):=by rw [IntKind.wrap_i64];omega
 have hw1:IntKind.i64.wrap ((i:Int)+(1:Int))=(i:Int)+(1:Int):=by rw [IntKind.wrap_i64];omega
 have hb1:(0:Int)≤(i:Int)+(1:Int):=by omega
 have hin:i≤c:=by omega
 have htn:((i:Int)+(1:Int)).toNat=i+1:=by omega
 have hb2: ¬(c'=i+1):=by omega
 have hb3:(i:Int)≤(c:Int)+(1:Int):=by omega
 have hb4: ¬(c=i):=by omega
 have hb5: ¬(c'=i):=by omega
 go_enter Tryz.func87,Tryz.ntmps87
 go_wp2_with (at_builtin;refine Lib.wpList_append_run _ rfl _ _ _ _ rfl _ _ rfl rfl _ _ (hap _) ?_)
 go_wp2_with (at_builtin;refine wpList_copy_runI _ rfl _ _ 88 88 rfl _ _ rfl rfl (hcp1 _ _) ?_)
 go_region_law_o (refine step_copy_runI rfl _ _ 88 88 rfl _ _ (by simp [Act.eval,Act.put]) (by simp [Act.eval,Act.put]) (hcp2 _ _ _) ?_)
 go_wp2
 go_ret
 exact⟨Y,Y⟩
theorem Xv:InsK Tryz.prog 87 118 88 3 2:=⟨ZkT,ZlB,ZkP,ZkI⟩
open Go.Shelf Go.RowKit Go.Lib Go.Proofs in
theorem Xt:OvK Tryz.prog 118:=fun w a b la ca lb cb hne tA tB kA kB h1 h2 h3 h4 h5=>by
  rw [run_callFunc_extern Tryz.func118 (by kernel_rfl) (by kernel_rfl) (by kernel_rfl) (e:=Extern.SlicesOverlaps.overlaps #[88,88] #[4]) (by kernel_rfl),Lib.run_overlaps_apart w 88 4 44 (by kernel_rfl) 2 (fun w=>by kernel_rfl) a b la ca lb cb hne tA tB kA kB h1 h2 h3 h4 h5]
  rfl
theorem ZcV{r_:panel_Replay}{n:Int}{r:panel_Replay}(h:Xu r_ n=some r):
 GSpec Tryz.prog gl0 44 [.ptr 0 1 0 0,.int .i64 n] [some ⟨91,[[.sl 49 (List.map R49 r_.p.Instruments),.sl 54 (List.map R54 r_.l),.int .i64 r_.keep,.int .i64 r_.state.Frame,.sl 99 (List.map R99 r_.state.Memos),.own 1 r_.kept.length,.own 2 r_.marks.length]]⟩,some ⟨44,List.map R44 r_.kept⟩,some ⟨120,List.map R120 r_.marks⟩] (.tuple []) [some ⟨91,[[.sl 49 (List.map R49 r.p.Instruments),.sl 54 (List.map R54 r.l),.int .i64 r.keep,.int .i64 r.state.Frame,.sl 99 (List.map R99 r.state.Memos),.own 3 r.kept.length,.own 4 r.marks.length]]⟩,none,none,some ⟨44,List.map R44 r.kept⟩,some ⟨120,List.map R120 r.marks⟩]:=by
 unfold Xu at h
 replace h:=ZO h
 refine Z1 (by kernel_rfl) Tryz.func44 Y Y<|?_
 intro w0 A W φ0
 refine X0 (Ent.sel [some 0,some 1,some 2,some 1,some 2] (sr 0 Y (.ptr (r':=0) _ _ _ Y)<|sd 1 Y Y sn) (.cons Y (ro1 (by exact tZ_91.symm)<|rlc (.dat Y)<|rlc (.dat Y)<|rlc (.dat Y)<|rlc (.dat Y)<|rlc (.dat Y)<|rlc (.own (r':=3) _ Y)<|rlc (.own (r':=4) _ Y) rln)<|.dead<|.dead<|.cons Y (roM D44)<|.cons Y (roM D120) .nil) Y Y)<|Tr<|Rm Y<|Rm Y<|Za<|Zl<|?_
 obtain⟨r1,hl1,ho1⟩:=Xa h
 refine L3 (fun state kept i=>⟨[(0,.ptr 0 1 0 0),(6,.int .i64 n),(7,.int .i64 i)],[some ⟨91,[[.sl 49 (List.map R49 r_.p.Instruments),.sl 54 (List.map R54 r_.l),.int .i64 r_.keep,.int .i64 state.Frame,.sl 99 (List.map R99 state.Memos),.own 3 kept.length,.own 4 r_.marks.length]]⟩,none,none,some ⟨44,List.map R44 kept⟩,some ⟨120,List.map R120 r_.marks⟩]⟩) hl1 (ES [some 0,some 1,some 2,some 3,some 4]) fun n1 state kept i h=>?_
 unfold XG at h
 refine Tr<|R2 ZV Y<|Za<|Zm<|If h Y (fun h=>?_) fun h=>?_
 ·
  refine Zh<|I3 (fun Frame Memos kept2=>⟨[(0,.ptr 0 1 0 0),(6,.int .i64 n),(7,.int .i64 i)],[some ⟨91,[[.sl 49 (List.map R49 r_.p.Instruments),.sl 54 (List.map R54 r_.l),.int .i64 r_.keep,.int .i64 Frame,.sl 99 (List.map R99 Memos),.own 3 kept2.length,.own 4 r_.marks.length]]⟩,none,none,some ⟨44,List.map R44 kept2⟩,some ⟨120,List.map R120 r_.marks⟩]⟩) h (fun h=>?_) fun Frame Memos kept2 h=>?_
  ·
   refine Zl<|K3 0 6 7 Y<|Td ⟨true,false,[],[],[]⟩<|D1 1 Zf Y<|Dq 2 Y (Zg (ov Y) Y Y)<|Dq 3 Y (Zb (ov Y) Y Y Zlt)<|Dq 4 Y (ZG (ov Y) Y Y Y Zd7 Y Y)<|D1 5 Zf Y<|Dq 6 Y (Zg (ov Y) Y Y)<|Dq 7 Y (Zb (ov Y) Y Y ZmL)<|Dq 8 Y (Zi (ov Y) Y Y Y ZmM Y)<|D1 9 Zf Y<|Dq 10 Y (Zg (ov Y) Y Y)<|Dq 11 Y (Zb (ov Y) Y Y Zax)<|Dq 12 Y (ZG (ov Y) Y Y Y QR Y Y)<|ZaL 0 _ Y (by kernel_rfl) Y Y (fun hp'=>Zf<|ov Y)<|bE h fun y h_y h=>Do 13 Y (ZK [] (ZeH h_y) (.cons (ov Y) (Zbw<|rld Y)<|.cons (ov Y) (.dat Y)<|.cons (ov Y) (Zbw<|rld Y) .nil) .nil Y (.keep Y Y<|.none<|.none<|.keep Y Y<|.keep Y Y<|.lent 0 (.inr ⟨Nat.le_of_ble_eq_true Y,Y⟩) Y (roM D99) .nil) Y Y<|Zbw<|rlc (.dat Y)<|rlc (.own _<|.inr ⟨Nat.le_of_ble_eq_true Y,Y⟩) rln)<|Dq 14 Y (Zg (ov Y) Y Y)<|Dq 15 Y (Zb (ov Y) Y Y Zax)<|Do 16 Y (Zk (ov Y) (ov Y) (Zo QR Y) Y Y Y (Nat.le_of_ble_eq_true Y) (Zd Y) Y)<|Dd<|Zm<|K3 0 6 7 Y<|Td md0<|D1 0 Zf Y<|Dq 1 Y (Zg (ov Y) Y Y)<|Dq 2 Y (Zb (ov Y) Y Y Zax)<|Dq 3 Y (Zb (ov Y) Y Y Qi)<|Dq 4 Y (Zi (ov Y) Y Y Y tS3 Y)<|D1 5 Zf Y<|Dq 6 Y (Zg (ov Y) Y Y)<|Dq 7 Y (Zb (ov Y) Y Y ZlK)<|Dq 8 Y (Zi (ov Y) Y Y Y tS3 Y)<|bE h fun q h_q h=>Dq 9 Y (Zj1 (ov Y) (ov Y) h_q)<|D1 10 Zf Y<|Dq 11 Y (Zg (ov Y) Y Y)<|Dq 12 Y (Zb (ov Y) Y Y ZlK)<|Dq 13 Y (Zi (ov Y) Y Y Y tS3 Y)<|D2 14 Zdi Y<|D2 15 Qo Y<|Dd<|K4 0 6 7 40 Y<|If h Y (fun h=>?_) fun h=>?_
   ·
    exact ZL<|⟨_,h,ES [some 0,some 1,some 2,some 3,some 4] (hhp:= .cons Y (ro1 (by exact tZ_91.symm)<|rlc (.dat Y)<|rlc (.dat Y)<|rlc (.dat Y)<|rlc (.dat Y)<|rlc (Za1 Y Y Y D99)<|rlc (.own _ Y)<|rlc (.own _ Y) rln)<|.dead<|.dead<|.cons Y (roM D44)<|.cons Y (roM D120) .nil)⟩
   ·
    refine Zh<|K3 0 6 7 Y<|Tr<|Rm Y<|Rm Y<|Rq Y (Zg (ov Y) Y Y)<|Rq Y (Zb (ov Y) Y Y Zax)<|Rq Y (Zb (ov Y) Y Y Qi)<|Rq Y (Zi (ov Y) Y Y Y tS3 Y)<|bE h fun y2 h_y2 h=>Rx Y (ZK [0,5,3,4] (Za4 h_y2) (.cons (ov Y) (.ptr _ _ _ Y)<|.cons (ov Y) (.dat Y) .nil) (.cons Y (ro1 (by exact tZ_91.symm)<|rlc (.dat Y)<|rlc (.dat Y)<|rlc (.dat Y)<|rlc (.dat Y)<|rlc (.own _ Y)<|rlc (.own _ Y)<|rlc (.own _ Y) rln)<|.cons Y (roM D99)<|.cons Y (roM D44)<|.cons Y (roM D120) .nil) Y (.lent 0 (.inl Y) Y (ro1 (by exact tZ_91.symm)<|rlc (.dat Y)<|rlc (.dat Y)<|rlc (.dat Y)<|rlc (.dat Y)<|rlc (.own _<|.inr ⟨Nat.le_of_ble_eq_true Y,Y⟩)<|rlc (.own _<|.inr ⟨Nat.le_of_ble_eq_true Y,Y⟩)<|rlc (.own _<|.inr ⟨Nat.le_of_ble_eq_true Y,Y⟩) rln)<|.none<|.none<|.none<|.none<|.none<|.lent 4 (.inr ⟨Nat.le_of_ble_eq_true Y,Y⟩) Y (roM D99)<|.lent 5 (.inr ⟨Nat.le_of_ble_eq_true Y,Y⟩) Y (roM D44)<|.lent 6 (.inr ⟨Nat.le_of_ble_eq_true Y,Y⟩) Y (roM D120) .nil) Y Y<|JO<|rld Y)<|Rm Y<|Rq Y (Zq (ov Y) Y)<|Rq Y (Zq (ov Y) Y)<|Ra Y<|Ra Y<|Za<|K5 0 4 5 6 7 Y<|Tr<|Rm Y<|R1 QA Y<|Za<|K5 0 4 6 7 52 Y<|If h Y (fun h=>?_) fun h=>?_
    ·
     refine K4 0 4 6 7 Y<|X0 (Ent.sel [some 0,some 1,some 2,some 3,some 4,some 5,none,some 7,some 8] (sr 0 Y (.ptr (r':=0) _ _ _ Y)<|sd 4 Y Y<|sd 6 Y Y<|sd 7 Y Y sn) (.cons Y (ro1 (by exact tZ_91.symm)<|rlc (.dat Y)<|rlc (.dat Y)<|rlc (.dat Y)<|rlc (.dat Y)<|rlc (Za1 Y Y Y D99)<|rlc (.own (r':=7) _ Y)<|rlc (.own (r':=8) _ Y) rln)<|.dead<|.dead<|.dead<|.dead<|.dead<|.row 99<|.cons Y (roM D44)<|.cons Y (roM D120) .nil) Y Y)<|ZbM (cw:=⟨true,false,[],[],[]⟩) (by kernel_rfl)<|D1 6 Zf Y<|Dq 7 Y (Zg (ov Y) Y Y)<|Dq 8 Y (Zb (ov Y) Y Y Zax)<|Dq 9 Y (ZG (ov Y) Y Y Y QR Y Y)<|ZaL 0 _ Y (by kernel_rfl) Y Y (fun hp'=>Zf<|ov Y)<|ZaL 1 _ Y (by kernel_rfl) Y Y (fun hp'=>Zf<|ov Y)<|ZaL 5 _ Y (by kernel_rfl) Y Y (fun hp'=>Zf<|ov Y)<|bE h fun y3 h_y3 h=>Dw 2 10 Y (Zg (ov Y) Y Y) (ZgT<|Zn (QG h_y3)<|.cons (ov Y) (.aggB Y) .nil) ?_ ?_
     ·
      refine Dw 3 10 Y (Zb (ov Y) Y Y QX) (ZgT<|Zn (QG h_y3)<|.cons (ov Y) (.aggB Y) .nil) ?_ ?_
      ·
       refine Dw 4 10 Y (Zi (ov Y) Y Y Y Jd Y) (ZgT<|Zn (QG h_y3)<|.cons (ov Y) (.aggB Y) .nil) ?_ ?_
       ·
        exact Do 10 Y (ZgT<|Zn (QG h_y3)<|.cons (ov Y) (.aggB Y) .nil)<|Do 11 Y (QW (r:=9) (xs:=([y3]:List api_PanelState)) (f:=R44) Y XE (.cons (cva<|ov Y) Y (pwD Y) .nil) Y Y Y)<|bE h fun l h_l h=>Do 12 Y (JM (f:=R44) Xv Xt (by kernel_rfl) Y (ov Y) (ov Y) (ov Y) XE Y Y Y Y Y D44 (fun _=>Y) Y h_l)<|Dq 13 Y (Zg (ov Y) Y Y)<|Dq 14 Y (Zb (ov Y) Y Y QX)<|Do 15 Y (Zk (ov Y) (ov Y) (Zp Jd) Y Y Y (Nat.le_of_ble_eq_true Y) (Zd Y) Y)<|Dd<|⟨_,h,ES [some 0,some 1,some 2,some 7,some 8]⟩
       ·
        refine Dw 4 11 Y (Zi (ov Y) Y Y Y Jd Y) (QW (r:=9) (xs:=([y3]:List api_PanelState)) (f:=R44) Y XE (.cons (cva<|ov Y) Y (pwD Y) .nil) Y Y Y) ?_ ?_
        ·
         exact Do 11 Y (QW (r:=9) (xs:=([y3]:List api_PanelState)) (f:=R44) Y XE (.cons (cva<|ov Y) Y (pwD Y) .nil) Y Y Y)<|bE h fun l h_l h=>Do 12 Y (JM (f:=R44) Xv Xt (by kernel_rfl) Y (ov Y) (ov Y) (ov Y) XE Y Y Y Y Y D44 (fun _=>Y) Y h_l)<|Dq 13 Y (Zg (ov Y) Y Y)<|Dq 14 Y (Zb (ov Y) Y Y QX)<|Do 15 Y (Zk (ov Y) (ov Y) (Zp Jd) Y Y Y (Nat.le_of_ble_eq_true Y) (Zd Y) Y)<|Dd<|⟨_,h,ES [some 0,some 1,some 2,some 7,some 8]⟩
        ·
         exact Dq 4 Y (Zi (ov Y) Y Y Y Jd Y)<|bE h fun l h_l h=>Do 12 Y (JM (f:=R44) Xv Xt (by kernel_rfl) Y (ov Y) (ov Y) (ov Y) XE Y Y Y Y Y D44 (fun _=>Y) Y h_l)<|Dq 13 Y (Zg (ov Y) Y Y)<|Dq 14 Y (Zb (ov Y) Y Y QX)<|Do 15 Y (Zk (ov Y) (ov Y) (Zp Jd) Y Y Y (Nat.le_of_ble_eq_true Y) (Zd Y) Y)<|Dd<|⟨_,h,ES [some 0,some 1,some 2,some 7,some 8]⟩
      ·
       refine Dw 3 11 Y (Zb (ov Y) Y Y QX) (QW (r:=9) (xs:=([y3]:List api_PanelState)) (f:=R44) Y XE (.cons (cva<|ov Y) Y (pwD Y) .nil) Y Y Y) ?_ ?_
       ·
        refine Dw 4 11 Y (Zi (ov Y) Y Y Y Jd Y) (QW (r:=9) (xs:=([y3]:List api_PanelState)) (f:=R44) Y XE (.cons (cva<|ov Y) Y (pwD Y) .nil) Y Y Y) ?_ ?_
        ·
         exact Do 11 Y (QW (r:=9) (xs:=([y3]:List api_PanelState)) (f:=R44) Y XE (.cons (cva<|ov Y) Y (pwD Y) .nil) Y Y Y)<|bE h fun l h_l h=>Do 12 Y (JM (f:=R44) Xv Xt (by kernel_rfl) Y (ov Y) (ov Y) (ov Y) XE Y Y Y Y Y D44 (fun _=>Y) Y h_l)<|Dq 13 Y (Zg (ov Y) Y Y)<|Dq 14 Y (Zb (ov Y) Y Y QX)<|Do 15 Y (Zk (ov Y) (ov Y) (Zp Jd) Y Y Y (Nat.le_of_ble_eq_true Y) (Zd Y) Y)<|Dd<|⟨_,h,ES [some 0,some 1,some 2,some 7,some 8]⟩
        ·
         exact Dq 4 Y (Zi (ov Y) Y Y Y Jd Y)<|bE h fun l h_l h=>Do 12 Y (JM (f:=R44) Xv Xt (by kernel_rfl) Y (ov Y) (ov Y) (ov Y) XE Y Y Y Y Y D44 (fun _=>Y) Y h_l)<|Dq 13 Y (Zg (ov Y) Y Y)<|Dq 14 Y (Zb (ov Y) Y Y QX)<|Do 15 Y (Zk (ov Y) (ov Y) (Zp Jd) Y Y Y (Nat.le_of_ble_eq_true Y) (Zd Y) Y)<|Dd<|⟨_,h,ES [some 0,some 1,some 2,some 7,some 8]⟩
       ·
        exact Dq 3 Y (Zb (ov Y) Y Y QX)<|Dq 4 Y (Zi (ov Y) Y Y Y Jd Y)<|bE h fun l h_l h=>Do 12 Y (JM (f:=R44) Xv Xt (by kernel_rfl) Y (ov Y) (ov Y) (ov Y) XE Y Y Y Y Y D44 (fun _=>Y) Y h_l)<|Dq 13 Y (Zg (ov Y) Y Y)<|Dq 14 Y (Zb (ov Y) Y Y QX)<|Do 15 Y (Zk (ov Y) (ov Y) (Zp Jd) Y Y Y (Nat.le_of_ble_eq_true Y) (Zd Y) Y)<|Dd<|⟨_,h,ES [some 0,some 1,some 2,some 7,some 8]⟩
     ·
      refine Dw 2 11 Y (Zg (ov Y) Y Y) (QW (r:=9) (xs:=([y3]:List api_PanelState)) (f:=R44) Y XE (.cons (cva<|ov Y) Y (pwD Y) .nil) Y Y Y) ?_ ?_
      ·
       refine Dw 3 11 Y (Zb (ov Y) Y Y QX) (QW (r:=9) (xs:=([y3]:List api_PanelState)) (f:=R44) Y XE (.cons (cva<|ov Y) Y (pwD Y) .nil) Y Y Y) ?_ ?_
       ·
        refine Dw 4 11 Y (Zi (ov Y) Y Y Y Jd Y) (QW (r:=9) (xs:=([y3]:List api_PanelState)) (f:=R44) Y XE (.cons (cva<|ov Y) Y (pwD Y) .nil) Y Y Y) ?_ ?_
        ·
         exact Do 11 Y (QW (r:=9) (xs:=([y3]:List api_PanelState)) (f:=R44) Y XE (.cons (cva<|ov Y) Y (pwD Y) .nil) Y Y Y)<|bE h fun l h_l h=>Do 12 Y (JM (f:=R44) Xv Xt (by kernel_rfl) Y (ov Y) (ov Y) (ov Y) XE Y Y Y Y Y D44 (fun _=>Y) Y h_l)<|Dq 13 Y (Zg (ov Y) Y Y)<|Dq 14 Y (Zb (ov Y) Y Y QX)<|Do 15 Y (Zk (ov Y) (ov Y) (Zp Jd) Y Y Y (Nat.le_of_ble_eq_true Y) (Zd Y) Y)<|Dd<|⟨_,h,ES [some 0,some 1,some 2,some 7,some 8]⟩
        ·
         exact Dq 4 Y (Zi (ov Y) Y Y Y Jd Y)<|bE h fun l h_l h=>Do 12 Y (JM (f:=R44) Xv Xt (by kernel_rfl) Y (ov Y) (ov Y) (ov Y) XE Y Y Y Y Y D44 (fun _=>Y) Y h_l)<|Dq 13 Y (Zg (ov Y) Y Y)<|Dq 14 Y (Zb (ov Y) Y Y QX)<|Do 15 Y (Zk (ov Y) (ov Y) (Zp Jd) Y Y Y (Nat.le_of_ble_eq_true Y) (Zd Y) Y)<|Dd<|⟨_,h,ES [some 0,some 1,some 2,some 7,some 8]⟩
       ·
        exact Dq 3 Y (Zb (ov Y) Y Y QX)<|Dq 4 Y (Zi (ov Y) Y Y Y Jd Y)<|bE h fun l h_l h=>Do 12 Y (JM (f:=R44) Xv Xt (by kernel_rfl) Y (ov Y) (ov Y) (ov Y) XE Y Y Y Y Y D44 (fun _=>Y) Y h_l)<|Dq 13 Y (Zg (ov Y) Y Y)<|Dq 14 Y (Zb (ov Y) Y Y QX)<|Do 15 Y (Zk (ov Y) (ov Y) (Zp Jd) Y Y Y (Nat.le_of_ble_eq_true Y) (Zd Y) Y)<|Dd<|⟨_,h,ES [some 0,some 1,some 2,some 7,some 8]⟩
      ·
       exact Dq 2 Y (Zg (ov Y) Y Y)<|Dq 3 Y (Zb (ov Y) Y Y QX)<|Dq 4 Y (Zi (ov Y) Y Y Y Jd Y)<|bE h fun l h_l h=>Do 12 Y (JM (f:=R44) Xv Xt (by kernel_rfl) Y (ov Y) (ov Y) (ov Y) XE Y Y Y Y Y D44 (fun _=>Y) Y h_l)<|Dq 13 Y (Zg (ov Y) Y Y)<|Dq 14 Y (Zb (ov Y) Y Y QX)<|Do 15 Y (Zk (ov Y) (ov Y) (Zp Jd) Y Y Y (Nat.le_of_ble_eq_true Y) (Zd Y) Y)<|Dd<|⟨_,h,ES [some 0,some 1,some 2,some 7,some 8]⟩
    ·
     exact Zh<|⟨_,h,ES [some 0,some 1,some 2,some 7,some 8] (hhp:= .cons Y (ro1 (by exact tZ_91.symm)<|rlc (.dat Y)<|rlc (.dat Y)<|rlc (.dat Y)<|rlc (.dat Y)<|rlc (Za1 Y Y Y D99)<|rlc (.own _ Y)<|rlc (.own _ Y) rln)<|.dead<|.dead<|.cons Y (roM D44)<|.cons Y (roM D120) .nil)⟩
  ·
   exact Zw<|R2 QB Y<|Rm Y<|Za<|⟨_,h,ES [some 0,some 1,some 2,some 3,some 4]⟩
 ·
  refine ZL<|?_
  replace h:=lx h▸ho1
  obtain rfl:=rt h
  exact Zmh [some 0,some 1,some 2,some 3,some 4] Y .nil (.cons Y (ro1 (by exact tZ_91.symm)<|rlc (.dat Y)<|rlc (.dat Y)<|rlc (.dat Y)<|rlc (.dat Y)<|rlc (.dat Y)<|rlc (.own _ Y)<|rlc (.own _ Y) rln)<|.dead<|.dead<|.cons Y (roM D44)<|.cons Y (roM D120) .nil) Y Y<|JO rln
theorem Q9{r_:panel_Replay}{n:Int}{r:Int×panel_Replay}(h:Qc r_ n=some r):
 GSpec Tryz.prog gl0 10 [.ptr 0 1 0 0,.int .i64 n] [some ⟨91,[[.sl 49 (List.map R49 r_.p.Instruments),.sl 54 (List.map R54 r_.l),.int .i64 r_.keep,.int .i64 r_.state.Frame,.sl 99 (List.map R99 r_.state.Memos),.own 1 r_.kept.length,.own 2 r_.marks.length]]⟩,some ⟨44,List.map R44 r_.kept⟩,some ⟨120,List.map R120 r_.marks⟩] (.int .i64 r.1) [some ⟨91,[[.sl 49 (List.map R49 r.2.p.Instruments),.sl 54 (List.map R54 r.2.l),.int .i64 r.2.keep,.int .i64 r.2.state.Frame,.sl 99 (List.map R99 r.2.state.Memos),.own 3 r.2.kept.length,.own 4 r.2.marks.length]]⟩,none,none,some ⟨44,List.map R44 r.2.kept⟩,some ⟨120,List.map R120 r.2.marks⟩]:=by
 unfold Qc at h
 replace h:=ZO h
 refine Z1 (by kernel_rfl) Tryz.func10 Y Y<|?_
 intro w0 A W φ0
 refine X0 (Ent.sel [some 0,some 1,some 2,some 1,some 2] (sr 0 Y (.ptr (r':=0) _ _ _ Y)<|sd 1 Y Y sn) (.cons Y (ro1 (by exact tZ_91.symm)<|rlc (.dat Y)<|rlc (.dat Y)<|rlc (.dat Y)<|rlc (.dat Y)<|rlc (.dat Y)<|rlc (.own (r':=3) _ Y)<|rlc (.own (r':=4) _ Y) rln)<|.dead<|.dead<|.cons Y (roM D44)<|.cons Y (roM D120) .nil) Y Y)<|Tr<|Ra Y<|Za<|Zm<|K2 0 1 Y<|Tr<|Rm Y<|R2 ZV Y<|Rm Y<|Rq Y (.guarded ((decide (n<0))==false) Y Y Y Y fun h=>Zf<|ov Y)<|Rq Y (.guarded ((decide (n<0))==false) Y Y Y Y fun h=>Zf<|ov Y)<|Rq Y (.guarded ((decide (n<0))==false) Y Y Y Y fun h=>Zg (ow Y h) Y Y)<|Rq Y (.guarded ((decide (n<0))==false) Y Y Y Y fun h=>Zb (ow Y h) Y Y Zax)<|Rq Y (.guarded ((decide (n<0))==false) Y Y Y Y fun h=>Zb (ow Y h) Y Y Qi)<|Rq Y (.guarded ((decide (n<0))==false) Y Y Y Y fun h=>Zi (ow Y h) Y Y Y tS3 Y)<|Rq Y (.guarded ((decide (n<0))==false) Y Y Y Y fun h=>Ze9 (ov Y) (ow Y h) Y)<|Rq Y (.guarded ((decide (n<0))==false) Y Y Y Y fun h=>Qq (ow Y h)<|ow Y h)<|Rq Y (Xi (ov Y) fun hp=>ow Y<|gF hp)<|Za<|K3 0 1 16 Y<|If h Y (fun h=>?_) fun h=>?_
 ·
  refine K0<|Tr<|Ra Y<|Za<|?_
  obtain rfl:=rt h
  exact Zj<|XB [some 0,some 1,some 2,some 3,some 4] Y (.cons (.tmp Y) .nil) (.cons Y (ro1 (by exact tZ_91.symm)<|rlc (.dat Y)<|rlc (.dat Y)<|rlc (.dat Y)<|rlc (.dat Y)<|rlc (.dat Y)<|rlc (.own _ Y)<|rlc (.own _ Y) rln)<|.dead<|.dead<|.cons Y (roM D44)<|.cons Y (roM D120) .nil) Y Y<|.dat Y
 ·
  refine Zh<|K2 0 1 Y<|Tr<|Rm Y<|Rm Y<|bE h fun y h_y h=>Rx Y (ZK [0,3,4] (ZcV h_y) (.cons (ov Y) (.ptr _ _ _ Y)<|.cons (ov Y) (.dat Y) .nil) (.cons Y (ro1 (by exact tZ_91.symm)<|rlc (.dat Y)<|rlc (.dat Y)<|rlc (.dat Y)<|rlc (.dat Y)<|rlc (.dat Y)<|rlc (.own _ Y)<|rlc (.own _ Y) rln)<|.cons Y (roM D44)<|.cons Y (roM D120) .nil) Y (.lent 0 (.inl Y) Y (ro1 (by exact tZ_91.symm)<|rlc (.dat Y)<|rlc (.dat Y)<|rlc (.dat Y)<|rlc (.dat Y)<|rlc (.dat Y)<|rlc (.own _<|.inr ⟨Nat.le_of_ble_eq_true Y,Y⟩)<|rlc (.own _<|.inr ⟨Nat.le_of_ble_eq_true Y,Y⟩) rln)<|.none<|.none<|.none<|.none<|.lent 3 (.inr ⟨Nat.le_of_ble_eq_true Y,Y⟩) Y (roM D44)<|.lent 4 (.inr ⟨Nat.le_of_ble_eq_true Y,Y⟩) Y (roM D120) .nil) Y Y<|JO<|rld Y)<|Za<|K0<|Tr<|Ra Y<|Za<|?_
  obtain rfl:=rt h
  exact Zj<|XB [some 0,some 1,some 2,some 5,some 6] Y (.cons (.tmp Y) .nil) (.cons Y (ro1 (by exact tZ_91.symm)<|rlc (.dat Y)<|rlc (.dat Y)<|rlc (.dat Y)<|rlc (.dat Y)<|rlc (.dat Y)<|rlc (.own _ Y)<|rlc (.own _ Y) rln)<|.dead<|.dead<|.cons Y (roM D44)<|.cons Y (roM D120) .nil) Y Y<|.dat Y
theorem ZbB{r_:panel_Replay}{r:(List api_Face)}(h:Xk r_=some r):
 GSpec Tryz.prog gl0 13 [.ptr 0 1 0 0] [some ⟨91,[[.sl 49 (List.map R49 r_.p.Instruments),.sl 54 (List.map R54 r_.l),.int .i64 r_.keep,.int .i64 r_.state.Frame,.sl 99 (List.map R99 r_.state.Memos),.own 1 r_.kept.length,.own 2 r_.marks.length]]⟩,some ⟨44,List.map R44 r_.kept⟩,some ⟨120,List.map R120 r_.marks⟩] (.sl 39 (List.map R39 r)) [some ⟨91,[[.sl 49 (List.map R49 r_.p.Instruments),.sl 54 (List.map R54 r_.l),.int .i64 r_.keep,.int .i64 r_.state.Frame,.sl 99 (List.map R99 r_.state.Memos),.own 3 r_.kept.length,.own 4 r_.marks.length]]⟩,none,none,some ⟨44,List.map R44 r_.kept⟩,some ⟨120,List.map R120 r_.marks⟩]:=by
 unfold Xk at h
 replace h:=ZO h
 refine Z1 (by kernel_rfl) Tryz.func13 Y Y<|?_
 intro w0 A W φ0
 refine X0 (Ent.sel [some 0,some 1,some 2,some 1,some 2] (sr 0 Y (.ptr (r':=0) _ _ _ Y) sn) (.cons Y (ro1 (by exact tZ_91.symm)<|rlc (.dat Y)<|rlc (.dat Y)<|rlc (.dat Y)<|rlc (.dat Y)<|rlc (.dat Y)<|rlc (.own (r':=3) _ Y)<|rlc (.own (r':=4) _ Y) rln)<|.dead<|.dead<|.cons Y (roM D44)<|.cons Y (roM D120) .nil) Y Y)<|Tr<|Ra Y<|Za<|Td md0<|D1 0 Zf Y<|Dq 1 Y (Zg (ov Y) Y Y)<|Dq 2 Y (Zb (ov Y) Y Y Zlt)<|Dq 3 Y (ZG (ov Y) Y Y Y Zd7 Y Y)<|D1 4 Zf Y<|Dq 5 Y (Zg (ov Y) Y Y)<|Dq 6 Y (Zb (ov Y) Y Y ZmL)<|Dq 7 Y (Zi (ov Y) Y Y Y ZmM Y)<|D1 8 Zf Y<|Dq 9 Y (Zg (ov Y) Y Y)<|Dq 10 Y (Zb (ov Y) Y Y Zax)<|Dq 11 Y (ZG (ov Y) Y Y Y QR Y Y)<|bE h fun y h_y h=>Dq 12 Y (Zn (ZjX h_y)<|.cons (ov Y) (.aggB Y)<|.cons (ov Y) (.b Y)<|.cons (ov Y) (.aggB Y) .nil)<|D1 13 Qp Y<|Dd<|?_
 obtain rfl:=rt h
 exact Zj<|XB [some 0,some 1,some 2,some 3,some 4] Y (.cons (.tmp Y) .nil) (.cons Y (ro1 (by exact tZ_91.symm)<|rlc (.dat Y)<|rlc (.dat Y)<|rlc (.dat Y)<|rlc (.dat Y)<|rlc (.dat Y)<|rlc (.own _ Y)<|rlc (.own _ Y) rln)<|.dead<|.dead<|.cons Y (roM D44)<|.cons Y (roM D120) .nil) Y Y<|.dat Y
theorem JP{r:Bool}(h:X5=some r):
 CSpec Tryz.prog gl0 16 [] (.bool r):=by
 unfold X5 at h
 replace h:=ZO h
 refine So Tryz.func16 Y fun w0 A=>Tr<|Ra Y<|Za<|K0<|Tr<|Rq Y (QU (ys:= [_,_,_,_,_,_,_,_,_,_,_,_]) Zqw ZqK Zlw (.cons (cvs (ov Y)<|ZB Y)<|.cons (cvs (ov Y)<|ZB Y)<|.cons (cvs (ov Y)<|ZB Y)<|.cons (cvs (ov Y)<|ZB Y) .nil) Y)<|R_q (.sl 49<|List.map R49 ([(api_Instrument.mk 1 [97] [116] 1 0 0 0 [] 0 0 false 0)]:List api_Instrument)) Y (ZbU ZcI (.cons (cva<|ov Y) Y (.cons (.b Y)<|.cons (.b Y)<|.cons (.b Y)<|.cons (.b Y)<|.cons (.b Y)<|.cons (.b Y)<|.cons (.b Y)<|.cons (Dat.nils _)<|.cons (.b Y)<|.cons (.b Y)<|.cons (.b Y)<|.cons (.b Y) .nil) .nil) Y Y)<|Rq Y (QU (ys:= [_]) ZpI ZpH Zob (.cons (cvs (ov Y)<|ZB Y) .nil) Y)<|Rx Y (Zz (row:= [_]) 0 Y Zob Y tZ_24)<|Rx Y (Zk (ov Y) (ov Y) (Zo Zd7 Y) Y Y Y (Nat.le_of_ble_eq_true Y) (Zd Y) Y)<|Za<|K1 1 Y<|Tr<|Rq Y (QU (ys:= [_,_,_]) ZjY ZjL Zft (.cons (cvs (ov Y)<|ZB Y)<|.cons (cvs (ov Y)<|ZB Y)<|.cons (cvs (ov Y)<|ZB Y) .nil) Y)<|R_q (.sl 56<|List.map R56 ([(api_Sample.mk 70 (-3) 4)]:List api_Sample)) Y (ZbU Zfh (.cons (cva<|ov Y) Y (pwD Y) .nil) Y Y)<|Rq Y (QU (ys:= [_,_]) Zqy Zq1 Zq9 (.cons (cvs (ov Y)<|ZB Y)<|.cons (cvs (ov Y)<|ZB Y) .nil) Y)<|Rq Y (QU (ys:= [_,_,_,_]) ZpL Zpz Zlo (.cons (cvs (ov Y)<|ZB Y)<|.cons (cva<|ov Y)<|.cons (cvs (ov Y)<|ZB Y) .nil) Y)<|R_q (.sl 54<|List.map R54 ([(api_Track.mk [116] (api_Series.mk 2 ([(api_Sample.mk 70 (-3) 4)]:List api_Sample)) 100)]:List api_Track)) Y (ZbU ZeI (.cons (cva<|ov Y) Y (pwD Y) .nil) Y Y)<|Ra Y<|Za<|K2 1 2 Y<|Tr<|Rq Y (ZG (ov Y) Y Y Y Zd7 Y Y)<|Rm Y<|bE h fun y h_y h=>?_
 rcases y with y |y
 ·
  replace h:=ell h
  refine Rx Y (ZK [] (ZeE h_y) (.cons (ov Y) (Zbw<|rld Y)<|.cons (ov Y) (.dat Y)<|.cons (ov Y) (.dat Y) .nil) .nil Y (.keep Y Y .nil) Y Y<|JO<|rlc (.dat Y)<|rlc (.dat Y) rln)<|Rm Y<|Rq Y (Zq (ov Y) Y)<|Rq Y (Zq (ov Y) Y)<|Ra Y<|Ra Y<|Za<|Zm<|K2 3 4 Y<|Tr<|Rm Y<|R2 Qo Y<|Rm Y<|Rq Y (.guarded ((!decide (y=0))==false) Y Y Y Y fun h=>Zf<|ov Y)<|bE h fun u h_u h=>R_q (.when ((!decide (y=0))==false)<|.int .i64 0) Y (.guarded ((!decide (y=0))==false) Y Y Y Y fun h=>ZfM<|gdT h_u h)<|Rq Y (.guarded ((!decide (y=0))==false) Y Y Y Y fun h=>Qo (ow Y h)<|ov Y)<|Rq Y (Xi (ov Y) fun hp=>ow Y<|gF hp)<|Za<|K2 3 26 Y<|If h Y (fun h=>?_) fun h=>?_
  ·
   refine K0<|Tr<|Ra Y<|Za<|?_
   obtain rfl:=rt h
   exact Zj (Zu Y (.one<|rb Y))
  ·
   exact Zh<|(Zeo h).elim
 ·
  replace h:=elr h
  refine Rx Y (ZK [] (ZeU h_y) (.cons (ov Y) (Zbw<|rld Y)<|.cons (ov Y) (.dat Y)<|.cons (ov Y) (.dat Y) .nil) .nil Y (.keep Y Y<|.lent 0 (.inr ⟨Nat.le_of_ble_eq_true Y,Y⟩) Y (ro1 (by exact tZ_91.symm)<|rlc (.dat Y)<|rlc (.dat Y)<|rlc (.dat Y)<|rlc (.dat Y)<|rlc (.dat Y)<|rlc (.own _<|.inr ⟨Nat.le_of_ble_eq_true Y,Y⟩)<|rlc (.own _<|.inr ⟨Nat.le_of_ble_eq_true Y,Y⟩) rln)<|.lent 1 (.inr ⟨Nat.le_of_ble_eq_true Y,Y⟩) Y (roM D44)<|.lent 2 (.inr ⟨Nat.le_of_ble_eq_true Y,Y⟩) Y (roM D120) .nil) Y Y<|JO<|rlc (.ptr _ _ _<|.inr ⟨Nat.le_of_ble_eq_true Y,Y⟩)<|rlc (.dat Y) rln)<|Rm Y<|Rq Y (Zq (ov Y) Y)<|Rq Y (Zq (ov Y) Y)<|Ra Y<|Ra Y<|Za<|J6 (fun j=>(.inr j)) (fun p l keep state kept marks=>⟨[(3,.ptr 0 1 0 0)],[some ⟨91,[[.sl 49 (List.map R49 p.Instruments),.sl 54 (List.map R54 l),.int .i64 keep,.int .i64 state.Frame,.sl 99 (List.map R99 state.Memos),.own 1 kept.length,.own 2 marks.length]]⟩,some ⟨44,List.map R44 kept⟩,some ⟨120,List.map R120 marks⟩]⟩) h (fun h=>?_) fun p l keep state kept marks h=>?_
  ·
   refine K2 3 4 Y<|Tr<|Rm Y<|R2 Qo Y<|Rm Y<|Rq Y (.guarded ((!decide (y.2=0))==false) Y Y Y Y fun h=>Zf<|ov Y)<|?_
   rcases ifR h with ⟨hg,h⟩ | ⟨hg,h⟩
   ·
    refine Zgi (d:=22) (b':=false) Y (Znn hg)<|bE h fun y2 h_y2 h=>ZkF _ _ Y Y Y Y (ZK [1,2,3] (Q9 h_y2) (.cons (ow Y<|by first |rfl |exact hg |simp_all) (.ptr _ _ _ Y)<|.cons (ov Y) (.dat Y) .nil) (.cons Y (ro1 (by exact tZ_91.symm)<|rlc (.dat Y)<|rlc (.dat Y)<|rlc (.dat Y)<|rlc (.dat Y)<|rlc (.dat Y)<|rlc (.own _ Y)<|rlc (.own _ Y) rln)<|.cons Y (roM D44)<|.cons Y (roM D120) .nil) Y (.keep Y Y<|.lent 0 (.inl Y) Y (ro1 (by exact tZ_91.symm)<|rlc (.dat Y)<|rlc (.dat Y)<|rlc (.dat Y)<|rlc (.dat Y)<|rlc (.dat Y)<|rlc (.own _<|.inr ⟨Nat.le_of_ble_eq_true Y,Y⟩)<|rlc (.own _<|.inr ⟨Nat.le_of_ble_eq_true Y,Y⟩) rln)<|.none<|.none<|.lent 3 (.inr ⟨Nat.le_of_ble_eq_true Y,Y⟩) Y (roM D44)<|.lent 4 (.inr ⟨Nat.le_of_ble_eq_true Y,Y⟩) Y (roM D120) .nil) Y Y<|.dat Y)<|Rq Y (.guarded (false==false) Y Y Y Y fun h=>Qo (ov Y)<|ov Y)<|Rq Y (Xi (ov Y) fun hp=>ow Y<|gF hp)<|Za<|K2 3 26 Y<|If h Y (fun h=>?_) fun h=>?_
    ·
     refine K0<|Tr<|Ra Y<|Za<|?_
     obtain rfl:=rt h
     exact Zj (Zu Y (.one<|rb Y))
    ·
     exact Zh<|⟨_,h,ES [some 1,some 4,some 5]⟩
   ·
    refine Zgi (d:=22) (b':=true) Y (Zny hg)<|XY Y Y Y Y Y<|bE h fun u2 h_u2 h=>R_q (.when (true==false)<|.bool false) Y (.guarded (true==false) Y Y Y Y fun h=>ZfM<|gdT h_u2 h)<|Rq Y (Xi (ov Y) fun hp=>ow Y<|gF hp)<|Za<|K2 3 26 Y<|If h Y (fun h=>?_) fun h=>?_
    ·
     refine K0<|Tr<|Ra Y<|Za<|?_
     obtain rfl:=rt h
     exact Zj (Zu Y (.one<|rb Y))
    ·
     exact Zh<|⟨_,h,ES [some 1,some 2,some 3]⟩
  ·
   replace h:=elr h
   replace h:=t6i h
   refine Tr<|Rm Y<|bE h fun y3 h_y3 h=>Rx Y (ZK [0,1,2] (ZbB h_y3) (.cons (ov Y) (.ptr _ _ _ Y) .nil) (.cons Y (ro1 (by exact tZ_91.symm)<|rlc (.dat Y)<|rlc (.dat Y)<|rlc (.dat Y)<|rlc (.dat Y)<|rlc (.dat Y)<|rlc (.own _ Y)<|rlc (.own _ Y) rln)<|.cons Y (roM D44)<|.cons Y (roM D120) .nil) Y (.lent 0 (.inl Y) Y (ro1 (by exact tZ_91.symm)<|rlc (.dat Y)<|rlc (.dat Y)<|rlc (.dat Y)<|rlc (.dat Y)<|rlc (.dat Y)<|rlc (.own _<|.inr ⟨Nat.le_of_ble_eq_true Y,Y⟩)<|rlc (.own _<|.inr ⟨Nat.le_of_ble_eq_true Y,Y⟩) rln)<|.none<|.none<|.lent 3 (.inr ⟨Nat.le_of_ble_eq_true Y,Y⟩) Y (roM D44)<|.lent 4 (.inr ⟨Nat.le_of_ble_eq_true Y,Y⟩) Y (roM D120) .nil) Y Y<|.dat Y)<|Ra Y<|Za<|K1 5 Y<|Tr<|Rm Y<|Rl tZ_39 Zkh Y<|R2 ZT Y<|Rm Y<|Rq Y (.guarded ((decide ((y3.length:Int)=1))==true) Y Y Y Y fun h=>Zf<|ov Y)<|bE h fun x h_x h=>Rq Y (.guarded ((decide ((y3.length:Int)=1))==true) Y Y Y Y fun h=>ZU (ow Y h) (ov Y) Zkh<|gdT h_x h)<|Rq Y (.guarded ((decide ((y3.length:Int)=1))==true) Y Y Y Y fun h=>Zr (ow Y h) ZkA Y Y)<|Rq Y (.guarded ((decide ((y3.length:Int)=1))==true) Y Y Y Y fun h=>QU (ys:= [_,_,_,_]) ZnS Zoq ZmJ (.cons (cvs (ov Y)<|ZB Y)<|.cons (cvs (ov Y)<|ZB Y) .nil) Y)<|Rq Y (.guarded ((decide ((y3.length:Int)=1))==true) Y Y Y Y fun h=>ZpT ZpB (ow Y h) (ow Y h) (.aggB Y) (.aggB Y) Y Y)<|Rq Y (ZQ (ov Y) fun hp=>ow Y<|gT hp)<|Ra Y<|Za<|?_
   obtain rfl:=rt h
   exact Zj (Zu Y (.one<|rb Y))
theorem ZiN{p:api_Panel}{r:api_PanelState}(h:XS p=some r):
 GSpec Tryz.prog gl0 40 [.agg [.sl 49 (List.map R49 p.Instruments)]] [] (.agg [.int .i64 r.Frame,.own 0 r.Memos.length]) [some ⟨99,List.map R99 r.Memos⟩]:=by
 unfold XS at h
 replace h:=ZO h
 refine Z1 (by kernel_rfl) Tryz.func40 Y Y<|?_
 intro w0 A W φ0
 refine Tr<|Rq Y (ZP (cva<|ov Y) Y tZ_24 Y)<|Rx Y (Zz (row:= [_,_]) 0 Y ZcT Y tZ_44)<|Za<|K2 1 2 Y<|Tr<|Rq Y (Ze (ov Y) Zbj)<|Rq Y (Zc (ov Y) Zf0 Y)<|Rl tZ_49 ZcI Y<|bE h fun l h_l h=>Rx Y (ZlG [none,none,none,none,some 3] (r:=1) (f:=R99) (z0:=(api_Memo.mk false false 0 0 [])) Y (ov Y) (ov Y) ZcA Y ZkQ Y Y h_l)<|Rq Y (QU (ys:= [_,_]) Zid Zil ZcT (.cons (cvs (ov Y)<|ZB Y)<|.cons (cvs (ov Y)<|ZB Y) .nil) Y)<|Rx Y (Zk (ov Y) (ov Y) (Zo QR Y) Y Y Y (Nat.le_of_ble_eq_true Y) (Zd Y) Y)<|Za<|?_
 obtain rfl:=rt h
 exact Zj<|XB [some 1] Y (.cons (.agg Y Y Y Y QR Y Y) .nil) (.cons Y (roM D99) .nil) Y Y<|Zbw<|rlc (.dat Y)<|rlc (.own _ Y) rln
theorem ZgM{s:api_PanelState}{r:api_PanelState}(h:Qk s=some r):
 GSpec Tryz.prog gl0 42 [.agg [.int .i64 s.Frame,.sl 99 (List.map R99 s.Memos)]] [] (.agg [.int .i64 r.Frame,.own 0 r.Memos.length]) [some ⟨99,List.map R99 r.Memos⟩]:=by
 unfold Qk at h
 replace h:=ZO h
 refine Z1 (by kernel_rfl) Tryz.func42 Y Y<|?_
 intro w0 A W φ0
 refine Tr<|Rx Y (Zk9 0 Y (ov Y) QR Y)<|Rx Y (Zz (row:= [_,_]) 1 Y ZcT Y tZ_44)<|Za<|K2 1 2 Y<|Tr<|Rq Y (Zb (ov Y) Y Y Jn)<|Rq Y (Zi (ov Y) Y Y Y ZdM Y)<|bE h fun y h_y h=>Rx Y (ZK [] (Zit h_y) (.cons (ov Y) (.dat Y) .nil) .nil Y (.keep Y Y<|.keep Y Y<|.lent 0 (.inr ⟨Nat.le_of_ble_eq_true Y,Y⟩) Y (roM D99) .nil) Y Y<|.own _<|.inr ⟨Nat.le_of_ble_eq_true Y,Y⟩)<|Rq Y (Zb (ov Y) Y Y Jn)<|Rx Y (Zk (ov Y) (ov Y) (Zp ZdM) Y Y Y (Nat.le_of_ble_eq_true Y) (Zd Y) Y)<|Za<|I1 (fun Memos=>⟨[(1,.ptr 0 1 0 0),(2,.ptr 2 1 0 0)],[some ⟨44,[[.int .i64 s.Frame,.own 1 Memos.length]]⟩,some ⟨99,List.map R99 Memos⟩,some ⟨44,[[.int .i64 0,.nils]]⟩]⟩) h (fun h=>?_) fun Memos h=>?_
 ·
  refine K2 1 2 Y<|Tr<|Rq Y (Zb (ov Y) Y Y Jn)<|Rq Y (Zi (ov Y) Y Y Y ZdM Y)<|Rq Y (Zbs (ov Y) Y Y ZcA)<|Rm Y<|Za<|Zl<|?_
  obtain⟨r1,hl1,ho1⟩:=Xa h
  refine L2 (fun Memos2 i=>⟨[(1,.ptr 0 1 0 0),(2,.ptr 2 1 0 0),(10,.int .i64 (y.length:Int)),(11,.int .i64 i)],[some ⟨44,[[.int .i64 s.Frame,.own 1 Memos2.length]]⟩,some ⟨99,List.map R99 Memos2⟩,some ⟨44,[[.int .i64 0,.nils]]⟩]⟩) hl1 (ES [some 0,some 2,some 1]) fun n1 Memos2 i h=>?_
  unfold QF at h
  refine Tr<|R2 ZV Y<|Za<|Zm<|If h Y (fun h=>?_) fun h=>?_
  ·
   exact Zh<|Zm<|Zl<|K4 1 2 10 11 Y<|Tr<|Rm Y<|Ra Y<|Za<|K5 1 2 3 10 11 Y<|ZbM (cw:=md0) (by kernel_rfl)<|Dq 0 Y (Zb (ov Y) Y Y Jn)<|Dq 1 Y (Zi (ov Y) Y Y Y ZdM Y)<|D1 2 Zf Y<|Dq 3 Y (Zb (ov Y) Y Y Jn)<|Dq 4 Y (Zi (ov Y) Y Y Y ZdM Y)<|D1 5 Zf Y<|bE h fun x h_x h=>Dq 6 Y (ZaY (ov Y) (ov Y) ZcA Y Y h_x)<|Dq 7 Y (Jt (ov Y) Y Y JW)<|Dq 8 Y (Zc0 (ov Y) Y Y h_x ZeC Y)<|bE h fun y2 h_y2 h=>Dq 9 Y (Zn (Zle h_y2)<|.cons (ov Y) (.b Y) .nil)<|bE h fun x2 h_x2 h=>Dq 10 Y (ZaY (ov Y) (ov Y) ZcA Y Y h_x2)<|Dq 11 Y (Jt (ov Y) Y Y JW)<|Do 12 Y (ZeB (u':=(api_Memo.mk x2.Lit x2.Some x2.N x2.Count y2)) (ov Y) (ov Y) (Zp ZeC) Y Y h_x2 Y (Zd Y) Y)<|Dd<|K4 1 2 10 11 Y<|Zw<|R2 QB Y<|Rm Y<|Za<|⟨_,h,ES [some 0,some 1,some 2] (hhp:= .cons Y (ro1 (by exact tZ_44.symm)<|rlc (.dat Y)<|rlc (ZmD (Eq.symm<|(List.length_set ..).trans Y) Y) rln)<|.cons Y (roM D99)<|.cons Y (ro1 (by exact tZ_44.symm)<|rld Y) .nil)⟩
  ·
   refine ZL<|?_
   replace h:=lx h▸ho1
   exact⟨_,h,ES [some 0,some 1,some 2]⟩
 ·
  refine Tr<|Rq Y (ZG (ov Y) Y Y Y QR Y Y)<|Rx Y (Zk (ov Y) (ov Y) (Zo QR Y) Y Y Y (Nat.le_of_ble_eq_true Y) (Zd Y) Y)<|Za<|?_
  obtain rfl:=rt h
  exact Zj<|XB [some 1] Y (.cons (.agg Y Y Y Y QR Y Y) .nil) (.cons Y (roM D99) .nil) Y Y<|Zbw<|rlc (.dat Y)<|rlc (.own _ Y) rln
theorem ZcY{s:api_PanelState}{c0:Int}{c1:api_PanelState}{r:api_PanelState}(h:Xd s c0 c1=some r):
 GSpec Tryz.prog gl0 41 [.agg [.int .i64 s.Frame,.sl 99 (List.map R99 s.Memos)],.rp [.int .i64 c0] 0,.ptr 0 1 0 0] [some ⟨44,[[.int .i64 c1.Frame,.own 1 c1.Memos.length]]⟩,some ⟨99,List.map R99 c1.Memos⟩] (.tuple []) [some ⟨44,[[.int .i64 r.Frame,.own 2 r.Memos.length]]⟩,none,some ⟨99,List.map R99 r.Memos⟩]:=by
 unfold Xd at h
 replace h:=ZO h
 refine Z1 (by kernel_rfl) Tryz.func41 Y Y<|?_
 intro w0 A W φ0
 refine X0 (Ent.sel [some 0,some 1,some 1] (sr 0 Y (Zbw<|rld Y)<|sd 1 Y Y<|sr 2 Y (.ptr (r':=0) _ _ _ Y) sn) (.cons Y (ro1 (by exact tZ_44.symm)<|rlc (.dat Y)<|rlc (.own (r':=2) _ Y) rln)<|.dead<|.cons Y (roM D99) .nil) Y Y)<|Tr<|Rq Y (ZP (cva<|ov Y) Y tZ_44 Y)<|Za<|K3 1 2 3 Y<|Tr<|Rq Y (Ze (ov Y) Qi)<|Rq Y (Zc (ov Y) tS3 Y)<|Rq Y (Zc (ov Y) tS3 Y)<|R2 ZaD Y<|Rm Y<|Rq Y (.guarded ((decide (s.Frame≤c0))==true) Y Y Y Y fun h=>Ze (ov Y) Qi)<|Rq Y (.guarded ((decide (s.Frame≤c0))==true) Y Y Y Y fun h=>Zc (ow Y h) tS3 Y)<|Rq Y (.guarded ((decide (s.Frame≤c0))==true) Y Y Y Y fun h=>Zb (ov Y) Y Y Qi)<|Rq Y (.guarded ((decide (s.Frame≤c0))==true) Y Y Y Y fun h=>Zi (ow Y h) Y Y Y tS3 Y)<|Rq Y (.guarded ((decide (s.Frame≤c0))==true) Y Y Y Y fun h=>Qq (ow Y h)<|ow Y h)<|Rq Y (ZQ (ov Y) fun hp=>ow Y<|gT hp)<|Za<|K3 2 3 14 Y<|If h Y (fun h=>?_) fun h=>?_
 ·
  refine K2 2 3 Y<|Zw<|Rq Y (Zr (ov Y) QR Y Y)<|bE h fun y h_y h=>Rx Y (ZK [] (ZgM h_y) (.cons (ov Y) (Zbw<|rld Y) .nil) .nil Y (.keep Y Y<|.none<|.keep Y Y<|.lent 0 (.inr ⟨Nat.le_of_ble_eq_true Y,Y⟩) Y (roM D99) .nil) Y Y<|Zbw<|rlc (.dat Y)<|rlc (.own _<|.inr ⟨Nat.le_of_ble_eq_true Y,Y⟩) rln)<|Rx Y (Zk (ov Y) (ov Y) (Zo QR Y) Y Y Y (Nat.le_of_ble_eq_true Y) (Zd Y) Y)<|Za<|?_
  obtain rfl:=rt h
  exact Zmh [some 0,some 1,some 3] Y .nil (.cons Y (ro1 (by exact tZ_44.symm)<|rlc (.dat Y)<|rlc (.own _ Y) rln)<|.dead<|.cons Y (roM D99) .nil) Y Y<|JO rln
 ·
  refine Zh<|?_
  obtain rfl:=rt h
  exact Zmh [some 0,some 1,some 2] Y .nil (.cons Y (ro1 (by exact tZ_44.symm)<|rlc (.dat Y)<|rlc (.own _ Y) rln)<|.dead<|.cons Y (roM D99) .nil) Y Y<|JO rln
theorem ZkJ{mark:Int}{r:Bool}(h:ZfZ mark=some r):
 CSpec Tryz.prog gl0 175 [.int .i64 mark] (.bool r):=by
 unfold ZfZ at h
 replace h:=ZO h
 refine So Tryz.func175 Y fun w0 A=>Tr<|Ra Y<|Za<|Tr<|Rm Y<|R2 Zaj Y<|Ra Y<|Za<|?_
 obtain rfl:=rt h
 exact Zj (Zu Y (.one<|rb Y))
theorem Zlq{s:api_Series}{at_:Int}{long:Int}{r:api_Sample×Bool}(h:ZfF s at_ long=some r):
 CSpec Tryz.prog gl0 159 [.agg [.int .i64 s.Den,.sl 56 (List.map R56 s.Samples)],.int .i64 at_,.int .i64 long] (.tuple [.agg [.int .i64 r.1.At,.int .i64 r.1.N,.int .i64 r.1.Mark],.bool r.2]):=by
 unfold ZfF at h
 replace h:=ZO h
 refine So Tryz.func159 Y fun w0 A=>Tr<|Rq Y (ZP (cva<|ov Y) Y tZ_52 Y)<|Rx Y (Zz (row:= [_,_,_]) 0 Y Zft Y tZ_56)<|Ra Y<|Za<|K4 1 2 3 6 Y<|Td md0<|Dq 0 Y (Ze (ov Y) Zb1)<|Dq 1 Y (Zc (ov Y) Zgw Y)<|Dq 2 Y (Zni (XW (ov Y) tZ_56) Zfh<|ZjH _ _)<|D1 3 Qp Y<|D1 4 Qp Y<|Dd<|I1 (fun low=>⟨[(1,.int .i64 at_),(2,.int .i64 long),(3,.rp [.int .i64 s.Den,.sl 56 (List.map R56 s.Samples)] 0),(6,.ptr 0 1 0 0),(8,.int .i64 low)],[some ⟨56,[[.int .i64 0,.int .i64 0,.int .i64 0]]⟩]⟩) h (fun h=>?_) fun low h=>?_
 ·
  refine Zl<|?_
  obtain⟨r1,hl1,ho1⟩:=Xa h
  refine L2 (fun low2 high=>⟨[(1,.int .i64 at_),(2,.int .i64 long),(3,.rp [.int .i64 s.Den,.sl 56 (List.map R56 s.Samples)] 0),(6,.ptr 0 1 0 0),(8,.int .i64 low2),(9,.int .i64 high)],[some ⟨56,[[.int .i64 0,.int .i64 0,.int .i64 0]]⟩]⟩) hl1 (ES [some 0]) fun n1 low2 high h=>?_
  unfold Zdg at h
  refine Zm<|Tr<|Rm Y<|Rm Y<|R2 ZV Y<|Za<|K7 1 2 3 6 8 9 17 Y<|If h Y (fun h=>?_) fun h=>?_
  ·
   refine Zh<|Zl<|K6 1 2 3 6 8 9 Y<|Tr<|Rm Y<|Rm Y<|R2 QB Y<|bE h fun q h_q h=>Rq Y (ZhF (ov Y) (ov Y) h_q)<|Ra Y<|Za<|K7 1 2 3 6 8 9 10 Y<|Tr<|Rq Y (Ze (ov Y) Zb1)<|Rq Y (Zc (ov Y) Zgw Y)<|Rm Y<|bE h fun x h_x h=>Rq Y (ZU (ov Y) (ov Y) Zfh h_x)<|Rq Y (Ze (ov Y) Zfk)<|Rq Y (Zc (ov Y) tS3 Y)<|Rm Y<|R2 ZaD Y<|Za<|K8 1 2 3 6 8 9 10 29 Y<|If h Y (fun h=>?_) fun h=>?_
   ·
    exact K7 1 2 3 6 8 9 10 Y<|Zw<|Rm Y<|R2 QB Y<|Ra Y<|Za<|⟨_,h,ES [some 0]⟩
   ·
    exact K7 1 2 3 6 8 9 10 Y<|Zw<|Rm Y<|Ra Y<|Za<|⟨_,h,ES [some 0]⟩
  ·
   refine ZL<|?_
   replace h:=lx h▸ho1
   exact⟨_,h,ES [some 0]⟩
 ·
  refine Zm<|Tr<|Rm Y<|R2 ZT Y<|Za<|K6 1 2 3 6 8 34 Y<|If h Y (fun h=>?_) fun h=>?_
  ·
   refine K1 6 Y<|Tr<|Rq Y (QU (ys:= [_,_,_]) ZjY ZjL Zft .nil Y)<|Rx Y (Zk (ov Y) (ov Y) (Zo Zai Y) Y Y Y (Nat.le_of_ble_eq_true Y) (Zd Y) Y)<|Ra Y<|Za<|?_
   obtain rfl:=rt h
   exact Zj (Zu Y (.two (.agg Y Y Y Y Zai Y Y<|pwB Y)<|rb Y))
  ·
   refine Zh<|K5 1 2 3 6 8 Y<|Tr<|Rq Y (Ze (ov Y) Zb1)<|Rq Y (Zc (ov Y) Zgw Y)<|Rm Y<|R2 Zdi Y<|bE h fun x2 h_x2 h=>Rq Y (ZU (ov Y) (ov Y) Zfh h_x2)<|Rq Y (Zr (ov Y) Zai Y Y)<|Rx Y (Zz (row:= [_,_,_]) 1 Y Zft Y tZ_56)<|Rx Y (Zk (ov Y) (ov Y) (Zo Zai Y) Y Y Y (Nat.le_of_ble_eq_true Y) (Zd Y) Y)<|Za<|Zm<|K4 1 2 6 11 Y<|Tr<|Rq Y (Zb (ov Y) Y Y ZgV)<|Rq Y (Zi (ov Y) Y Y Y tS3 Y)<|bE h fun y h_y h=>Rq Y (Zn (ZkJ h_y)<|.cons (ov Y) (.b Y) .nil)<|R1 QA Y<|Rm Y<|Rq Y (.guarded ((!y)==false) Y Y Y Y fun h=>Zf<|ov Y)<|Rq Y (.guarded ((!y)==false) Y Y Y Y fun h=>Zb (ov Y) Y Y Zfk)<|Rq Y (.guarded ((!y)==false) Y Y Y Y fun h=>Zi (ow Y h) Y Y Y tS3 Y)<|Rq Y (.guarded ((!y)==false) Y Y Y Y fun h=>Ze9 (ow Y h) (ow Y h) Y)<|Rq Y (.guarded ((!y)==false) Y Y Y Y fun h=>Zf<|ov Y)<|Rq Y (.guarded ((!y)==false) Y Y Y Y fun h=>Qq (ow Y h)<|ow Y h)<|Rq Y (Xi (ov Y) fun hp=>ow Y<|gF hp)<|Za<|K3 6 11 53 Y<|If h Y (fun h=>?_) fun h=>?_
   ·
    refine K1 6 Y<|Tr<|Rq Y (QU (ys:= [_,_,_]) ZjY ZjL Zft .nil Y)<|Rx Y (Zk (ov Y) (ov Y) (Zo Zai Y) Y Y Y (Nat.le_of_ble_eq_true Y) (Zd Y) Y)<|Ra Y<|Za<|?_
    obtain rfl:=rt h
    exact Zj (Zu Y (.two (.agg Y Y Y Y Zai Y Y<|pwB Y)<|rb Y))
   ·
    refine Zh<|K2 6 11 Y<|Tr<|Rq Y (ZG (ov Y) Y Y Y Zai Y Y)<|Rx Y (Zk (ov Y) (ov Y) (Zo Zai Y) Y Y Y (Nat.le_of_ble_eq_true Y) (Zd Y) Y)<|Ra Y<|Za<|?_
    obtain rfl:=rt h
    exact Zj (Zu Y (.two (.agg Y Y Y Y Zai Y Y<|pwB Y)<|rb Y))
theorem Zlv{s:api_Series}{at_:Int}{long:Int}{r:api_Sample×Bool×Int}(h:ZfP s at_ long=some r):
 CSpec Tryz.prog gl0 134 [.agg [.int .i64 s.Den,.sl 56 (List.map R56 s.Samples)],.int .i64 at_,.int .i64 long] (.tuple [.agg [.int .i64 r.1.At,.int .i64 r.1.N,.int .i64 r.1.Mark],.bool r.2.1,.int .i64 r.2.2]):=by
 unfold ZfP at h
 replace h:=ZO h
 refine So Tryz.func134 Y fun w0 A=>Tr<|Rq Y (ZP (cva<|ov Y) Y tZ_52 Y)<|Rx Y (Zz (row:= [_,_,_]) 0 Y Zft Y tZ_56)<|Ra Y<|Ra Y<|Za<|Zm<|K4 1 2 3 6 Y<|Tr<|Rq Y (Zr (ov Y) ZkM Y Y)<|bE h fun y h_y h=>Rq Y (Zn (Zhp h_y)<|.cons (ov Y) (.aggB Y) .nil)<|Ra Y<|Za<|K5 1 2 3 6 9 Y<|Tr<|Rm Y<|R2 Qo Y<|Za<|K6 1 2 3 6 9 15 Y<|If h Y (fun h=>?_) fun h=>?_
 ·
  refine K2 6 9 Y<|Tr<|Rq Y (QU (ys:= [_,_,_]) ZjY ZjL Zft .nil Y)<|Rm Y<|Rx Y (Zk (ov Y) (ov Y) (Zo Zai Y) Y Y Y (Nat.le_of_ble_eq_true Y) (Zd Y) Y)<|Ra Y<|Ra Y<|Za<|?_
  obtain rfl:=rt h
  exact Zj (Zu Y (.three (.agg Y Y Y Y Zai Y Y<|pwB Y) (rb Y)<|rb Y))
 ·
  refine Zh<|Zm<|K4 1 2 3 6 Y<|Tr<|Rm Y<|bE h fun y2 h_y2 h=>Rq Y (Zn (Zaf h_y2)<|.cons (ov Y) (.b Y)<|.cons (ov Y) (.b Y)<|.cons (ov Y) (.b Y) .nil)<|Rm Y<|Rq Y (.guarded (y2==false) Y Y Y Y fun h=>Zf<|ov Y)<|bE h fun y3 h_y3 h=>Rq Y (.guarded (y2==false) Y Y Y Y fun h=>Zn (Zaf<|gdT h_y3 h)<|.cons (ow Y h) (.b Y)<|.cons (ov Y) (.b Y)<|.cons (ov Y) (.b Y) .nil)<|Rq Y (Xi (ov Y) fun hp=>ow Y<|gF hp)<|Za<|K5 1 2 3 6 23 Y<|If h Y (fun h=>?_) fun h=>?_
  ·
   refine K1 6 Y<|Tr<|Rq Y (QU (ys:= [_,_,_]) ZjY ZjL Zft .nil Y)<|Rx Y (Zk (ov Y) (ov Y) (Zo Zai Y) Y Y Y (Nat.le_of_ble_eq_true Y) (Zd Y) Y)<|Ra Y<|Ra Y<|Za<|?_
   obtain rfl:=rt h
   exact Zj (Zu Y (.three (.agg Y Y Y Y Zai Y Y<|pwB Y) (rb Y)<|rb Y))
  ·
   refine Zh<|K4 1 2 3 6 Y<|Tr<|Rq Y (Zr (ov Y) ZkM Y Y)<|Rm Y<|Rm Y<|bE h fun y4 h_y4 h=>Rq Y (Zn (Zlq h_y4)<|.cons (ov Y) (.aggB Y)<|.cons (ov Y) (.b Y)<|.cons (ov Y) (.b Y) .nil)<|Rm Y<|Rq Y (Zq (ov Y) Y)<|Rq Y (Zq (ov Y) Y)<|Rx Y (Zz (row:= [_,_,_]) 1 Y Zft Y tZ_56)<|Rx Y (Zk (ov Y) (ov Y) (Zo Zai Y) Y Y Y (Nat.le_of_ble_eq_true Y) (Zd Y) Y)<|Ra Y<|Za<|K3 6 10 11 Y<|Tr<|Rq Y (ZG (ov Y) Y Y Y Zai Y Y)<|Rm Y<|Rx Y (Zk (ov Y) (ov Y) (Zo Zai Y) Y Y Y (Nat.le_of_ble_eq_true Y) (Zd Y) Y)<|Ra Y<|Ra Y<|Za<|?_
   obtain rfl:=rt h
   exact Zj (Zu Y (.three (.agg Y Y Y Y Zai Y Y<|pwB Y) (rb Y)<|rb Y))
theorem Zgf{t:api_Track}{frame:Int}{r:api_Sample×Bool}(h:Zbo t frame=some r):
 CSpec Tryz.prog gl0 95 [.agg [.str t.Name,.int .i64 t.Series.Den,.sl 56 (List.map R56 t.Series.Samples),.int .i64 t.Long],.int .i64 frame] (.tuple [.agg [.int .i64 r.1.At,.int .i64 r.1.N,.int .i64 r.1.Mark],.bool r.2]):=by
 unfold Zbo at h
 replace h:=ZO h
 refine So Tryz.func95 Y fun w0 A=>Tr<|Rq Y (ZP (cva<|ov Y) Y tZ_54 Y)<|Rx Y (Zz (row:= [_,_,_]) 0 Y Zft Y tZ_56)<|Ra Y<|Za<|K3 1 2 4 Y<|Tr<|Rq Y (Ze (ov Y) ZgJ)<|Rq Y (Zr (ov Y) ZkM Y Y)<|Rm Y<|R2 Zjz Y<|R2 QB Y<|Rq Y (Ze (ov Y) Zlz)<|Rq Y (Zc (ov Y) tS3 Y)<|bE h fun y h_y h=>Rq Y (Zn (Zlv h_y)<|.cons (ov Y) (.aggB Y)<|.cons (ov Y) (.b Y)<|.cons (ov Y) (.b Y) .nil)<|Rm Y<|Rq Y (Zq (ov Y) Y)<|Rq Y (Zq (ov Y) Y)<|Rq Y (Zq (ov Y) Y)<|Rx Y (Zz (row:= [_,_,_]) 1 Y Zft Y tZ_56)<|Rx Y (Zk (ov Y) (ov Y) (Zo Zai Y) Y Y Y (Nat.le_of_ble_eq_true Y) (Zd Y) Y)<|Ra Y<|Ra Y<|Za<|K3 4 6 7 Y<|Tr<|Rq Y (ZG (ov Y) Y Y Y Zai Y Y)<|Rm Y<|Rx Y (Zk (ov Y) (ov Y) (Zo Zai Y) Y Y Y (Nat.le_of_ble_eq_true Y) (Zd Y) Y)<|Ra Y<|Za<|?_
 obtain rfl:=rt h
 exact Zj (Zu Y (.two (.agg Y Y Y Y Zai Y Y<|pwB Y)<|rb Y))
theorem Zhr{op:Int}{a:Int}{b:Int}{r:Bool}(h:Zdv op a b=some r):
 CSpec Tryz.prog gl0 135 [.int .i64 op,.int .i64 a,.int .i64 b] (.bool r):=by
 unfold Zdv at h
 replace h:=ZO h
 refine So Tryz.func135 Y fun w0 A=>Tr<|Ra Y<|Za<|Zm<|K3 0 1 2 Y<|Tr<|Rm Y<|Za<|Zl<|K3 1 2 7 Y<|Tr<|R2 ZT Y<|Ra Y<|Za<|K4 1 2 7 8 Y<|If h Y (fun h=>?_) fun h=>?_
 ·
  refine K2 1 2 Y<|Tr<|Rm Y<|Rm Y<|R2 ZV Y<|Ra Y<|Za<|?_
  obtain rfl:=rt h
  exact Zj (Zu Y (.one<|rb Y))
 ·
  refine K3 1 2 7 Y<|Tr<|R2 ZT Y<|Ra Y<|Za<|K4 1 2 7 13 Y<|If h Y (fun h=>?_) fun h=>?_
  ·
   refine K2 1 2 Y<|Tr<|Rm Y<|Rm Y<|R2 ZaD Y<|Ra Y<|Za<|?_
   obtain rfl:=rt h
   exact Zj (Zu Y (.one<|rb Y))
  ·
   refine K3 1 2 7 Y<|Tr<|R2 ZT Y<|Ra Y<|Za<|K4 1 2 7 18 Y<|If h Y (fun h=>?_) fun h=>?_
   ·
    refine K2 1 2 Y<|Tr<|Rm Y<|Rm Y<|R2 ZT Y<|Ra Y<|Za<|?_
    obtain rfl:=rt h
    exact Zj (Zu Y (.one<|rb Y))
   ·
    refine K3 1 2 7 Y<|Tr<|R2 ZT Y<|Ra Y<|Za<|K4 1 2 7 23 Y<|If h Y (fun h=>?_) fun h=>?_
    ·
     refine K2 1 2 Y<|Tr<|Rm Y<|Rm Y<|R2 Qo Y<|Ra Y<|Za<|?_
     obtain rfl:=rt h
     exact Zj (Zu Y (.one<|rb Y))
    ·
     refine K3 1 2 7 Y<|Tr<|R2 ZT Y<|Ra Y<|Za<|K3 1 2 28 Y<|If h Y (fun h=>?_) fun h=>?_
     ·
      refine K2 1 2 Y<|Tr<|Rm Y<|Rm Y<|R2 Zaj Y<|Ra Y<|Za<|?_
      obtain rfl:=rt h
      exact Zj (Zu Y (.one<|rb Y))
     ·
      refine Zh<|K2 1 2 Y<|Tr<|Rm Y<|Rm Y<|R2 Qq Y<|Ra Y<|Za<|?_
      obtain rfl:=rt h
      exact Zj (Zu Y (.one<|rb Y))
theorem ZiF{i:api_Instrument}{m:api_Memo}{s:api_Sample}{known:Bool}{r:api_Memo}(h:Zcz i m s known=some r):
 CSpec Tryz.prog gl0 96 [.agg [.int .i64 i.Kind,.str i.Name,.str i.Track,.int .i64 i.Places,.int .i64 i.Low,.int .i64 i.High,.int .i64 i.Steps,.sl 136 (List.map R136 i.Zones),.int .i64 i.Op,.int .i64 i.N,.bool i.Latch,.int .i64 i.Size],.agg [.bool m.Lit,.bool m.Some,.int .i64 m.N,.int .i64 m.Count,.sl 3 (List.map R3 m.Tape)],.agg [.int .i64 s.At,.int .i64 s.N,.int .i64 s.Mark],.bool known] (.agg [.bool r.Lit,.bool r.Some,.int .i64 r.N,.int .i64 r.Count,.sl 3 (List.map R3 r.Tape)]):=by
 unfold Zcz at h
 replace h:=ZO h
 refine So Tryz.func96 Y fun w0 A=>Tr<|Rq Y (ZP (cva<|ov Y) Y tZ_49 Y)<|Rx Y (Zk9 0 Y (ov Y) ZdS Y)<|Rq Y (ZP (cva<|ov Y) Y tZ_56 Y)<|Rx Y (Zz (row:= [_,_,_,_,_]) 1 Y ZkQ Y tZ_99)<|Za<|K5 3 4 5 6 8 Y<|Tr<|Rx Y (QW (r:=2) (xs:=([]:List Int)) (f:=R3) Y J3 .nil Y Y Y)<|Rq Y (Zb (ov Y) Y Y JW)<|Rq Y (Zi (ov Y) Y Y Y ZeC Y)<|bE h fun l h_l h=>Rx Y (JR (ov Y) (XW (ov Y) tZ_3) J3 Y Y (fun _=>Zd Y) Y h_l)<|Rq Y (Zb (ov Y) Y Y JW)<|Rx Y (Zk (ov Y) (ov Y) (Zp ZeC) Y Y Y (Nat.le_of_ble_eq_true Y) (Zd Y) Y)<|Za<|I5 (fun Lit Some N Count Tape=>⟨[(5,.ptr 0 1 0 0),(8,.ptr 1 1 0 0)],[some ⟨99,[[.bool Lit,.bool Some,.int .i64 N,.int .i64 Count,.sl 3 (List.map R3 Tape)]]⟩,some ⟨99,[[.bool false,.bool false,.int .i64 0,.int .i64 0,.nils]]⟩]⟩) h (fun h=>?_) fun Lit Some N Count Tape h=>?_
 ·
  refine Zl<|K5 3 4 5 6 8 Y<|Tr<|Rq Y (Ze (ov Y) JK)<|Rq Y (Zc (ov Y) tS3 Y)<|R2 ZT Y<|Rm Y<|Rq Y (.guarded ((decide (i.Kind=3))==true) Y Y Y Y fun h=>Zf<|ov Y)<|Rq Y (ZQ (ov Y) fun hp=>ow Y<|gT hp)<|Ra Y<|Za<|K6 3 4 5 6 8 15 Y<|If h Y (fun h=>?_) fun h=>?_
  ·
   exact K4 4 5 6 8 Y<|Zw<|Rq Y (Ze (ov Y) Zhy)<|Rq Y (Zc (ov Y) tS3 Y)<|Rq Y (Ze (ov Y) Zcq)<|Rq Y (Zc (ov Y) tS3 Y)<|Rq Y (Ze (ov Y) ZhI)<|Rq Y (Zc (ov Y) tS3 Y)<|bE h fun y h_y h=>Rq Y (Zn (Zhr h_y)<|.cons (ov Y) (.b Y)<|.cons (ov Y) (.b Y)<|.cons (ov Y) (.b Y) .nil)<|Rm Y<|Rq Y (.guarded (y==false) Y Y Y Y fun h=>Ze (ov Y) Zh1)<|Rq Y (.guarded (y==false) Y Y Y Y fun h=>Zc (ow Y h) tS4 Y)<|Rq Y (.guarded (y==false) Y Y Y Y fun h=>Zf<|ow Y h)<|Rq Y (.guarded2 ((y==false)&&(i.Latch==true)) Y Y Y Y fun h=>Zb (ov Y) Y Y ZaF)<|Rq Y (.guarded2 ((y==false)&&(i.Latch==true)) Y Y Y Y fun h=>Zi (ow Y h) Y Y Y tS4 Y)<|Rq Y (.guarded (y==false) Y Y Y Y fun h=>ZQ (ow Y h) fun hp=>ow Y<|gA h<|gT hp)<|Rq Y (Xi (ov Y) fun hp=>ow Y<|gF hp)<|Rq Y (Zb (ov Y) Y Y ZaF)<|Rx Y (Zk (ov Y) (ov Y) (Zp tS4) Y Y Y (Nat.le_of_ble_eq_true Y) (Zd Y) Y)<|Za<|⟨_,h,ES [some 0,some 1] (hhp:= .cons Y (ro1 (by exact tZ_99.symm)<|rlc (.dat Y)<|rlc (.dat Y)<|rlc (.dat Y)<|rlc (.dat Y)<|rlc (Za1 Y Y Y D3) rln)<|.cons Y (ro1 (by exact tZ_99.symm)<|rld Y) .nil)⟩
  ·
   refine K5 3 4 5 6 8 Y<|Tr<|Rq Y (Ze (ov Y) JK)<|Rq Y (Zc (ov Y) tS3 Y)<|R2 ZT Y<|Ra Y<|Za<|K6 3 4 5 6 8 38 Y<|If h Y (fun h=>?_) fun h=>?_
   ·
    exact K3 4 5 8 Y<|Zw<|Rq Y (Zb (ov Y) Y Y ZaF)<|Rq Y (Zi (ov Y) Y Y Y tS4 Y)<|Rm Y<|Rq Y (.guarded (m.Lit==true) Y Y Y Y fun h=>Ze (ov Y) Zh1)<|Rq Y (.guarded (m.Lit==true) Y Y Y Y fun h=>Zc (ow Y h) tS4 Y)<|Rq Y (ZQ (ov Y) fun hp=>ow Y<|gT hp)<|Rq Y (Zb (ov Y) Y Y ZaF)<|Rx Y (Zk (ov Y) (ov Y) (Zp tS4) Y Y Y (Nat.le_of_ble_eq_true Y) (Zd Y) Y)<|Za<|⟨_,h,ES [some 0,some 1] (hhp:= .cons Y (ro1 (by exact tZ_99.symm)<|rlc (.dat Y)<|rlc (.dat Y)<|rlc (.dat Y)<|rlc (.dat Y)<|rlc (Za1 Y Y Y D3) rln)<|.cons Y (ro1 (by exact tZ_99.symm)<|rld Y) .nil)⟩
   ·
    refine K5 3 4 5 6 8 Y<|Tr<|Rq Y (Ze (ov Y) JK)<|Rq Y (Zc (ov Y) tS3 Y)<|R2 ZT Y<|Rm Y<|Rq Y (.guarded ((decide (i.Kind=5))==true) Y Y Y Y fun h=>Zf<|ov Y)<|Rq Y (ZQ (ov Y) fun hp=>ow Y<|gT hp)<|Ra Y<|Za<|K6 3 4 5 6 8 49 Y<|If h Y (fun h=>?_) fun h=>?_
    ·
     refine K4 4 5 6 8 Y<|Tr<|Rq Y (Ze (ov Y) Zhy)<|Rq Y (Zc (ov Y) tS3 Y)<|Rq Y (Ze (ov Y) Zcq)<|Rq Y (Zc (ov Y) tS3 Y)<|Rq Y (Ze (ov Y) ZhI)<|Rq Y (Zc (ov Y) tS3 Y)<|bE h fun y2 h_y2 h=>Rq Y (Zn (Zhr h_y2)<|.cons (ov Y) (.b Y)<|.cons (ov Y) (.b Y)<|.cons (ov Y) (.b Y) .nil)<|Ra Y<|Za<|Zm<|K3 5 8 9 Y<|Tr<|Rm Y<|Rm Y<|Rq Y (.guarded (y2==true) Y Y Y Y fun h=>Zb (ov Y) Y Y ZaF)<|Rq Y (.guarded (y2==true) Y Y Y Y fun h=>Zi (ow Y h) Y Y Y tS4 Y)<|Rq Y (.guarded (y2==true) Y Y Y Y fun h=>QA<|ow Y h)<|Rq Y (ZQ (ov Y) fun hp=>ow Y<|gT hp)<|Za<|K4 5 8 9 68 Y<|If h Y (fun h=>?_) fun h=>?_
     ·
      exact K3 5 8 9 Y<|Zw<|Rq Y (Zb (ov Y) Y Y ZgP)<|Rq Y (Zi (ov Y) Y Y Y tS3 Y)<|R2 QB Y<|Rq Y (Zb (ov Y) Y Y ZgP)<|Rx Y (Zk (ov Y) (ov Y) (Zp tS3) Y Y Y (Nat.le_of_ble_eq_true Y) (Zd Y) Y)<|Za<|K3 5 8 9 Y<|Zw<|Rm Y<|Rq Y (Zb (ov Y) Y Y ZaF)<|Rx Y (Zk (ov Y) (ov Y) (Zp tS4) Y Y Y (Nat.le_of_ble_eq_true Y) (Zd Y) Y)<|Za<|⟨_,h,ES [some 0,some 1] (hhp:= .cons Y (ro1 (by exact tZ_99.symm)<|rlc (.dat Y)<|rlc (.dat Y)<|rlc (.dat Y)<|rlc (.dat Y)<|rlc (Za1 Y Y Y D3) rln)<|.cons Y (ro1 (by exact tZ_99.symm)<|rld Y) .nil)⟩
     ·
      exact Zh<|K3 5 8 9 Y<|Zw<|Rm Y<|Rq Y (Zb (ov Y) Y Y ZaF)<|Rx Y (Zk (ov Y) (ov Y) (Zp tS4) Y Y Y (Nat.le_of_ble_eq_true Y) (Zd Y) Y)<|Za<|⟨_,h,ES [some 0,some 1] (hhp:= .cons Y (ro1 (by exact tZ_99.symm)<|rlc (.dat Y)<|rlc (.dat Y)<|rlc (.dat Y)<|rlc (.dat Y)<|rlc (Za1 Y Y Y D3) rln)<|.cons Y (ro1 (by exact tZ_99.symm)<|rld Y) .nil)⟩
    ·
     refine K5 3 4 5 6 8 Y<|Tr<|Rq Y (Ze (ov Y) JK)<|Rq Y (Zc (ov Y) tS3 Y)<|R2 ZT Y<|Ra Y<|Za<|K6 3 4 5 6 8 75 Y<|If h Y (fun h=>?_) fun h=>?_
     ·
      exact K2 5 8 Y<|Zw<|Rq Y (Zb (ov Y) Y Y ZaF)<|Rx Y (Zk (ov Y) (ov Y) (Zp tS4) Y Y Y (Nat.le_of_ble_eq_true Y) (Zd Y) Y)<|Za<|⟨_,h,ES [some 0,some 1] (hhp:= .cons Y (ro1 (by exact tZ_99.symm)<|rlc (.dat Y)<|rlc (.dat Y)<|rlc (.dat Y)<|rlc (.dat Y)<|rlc (Za1 Y Y Y D3) rln)<|.cons Y (ro1 (by exact tZ_99.symm)<|rld Y) .nil)⟩
     ·
      refine K5 3 4 5 6 8 Y<|Tr<|Rq Y (Ze (ov Y) JK)<|Rq Y (Zc (ov Y) tS3 Y)<|R2 ZT Y<|Rm Y<|Rq Y (.guarded ((decide (i.Kind=4))==true) Y Y Y Y fun h=>Zf<|ov Y)<|Rq Y (ZQ (ov Y) fun hp=>ow Y<|gT hp)<|Ra Y<|Za<|K6 3 4 5 6 8 80 Y<|If h Y (fun h=>?_) fun h=>?_
      ·
       refine Zm<|K3 5 6 8 Y<|Tr<|Rq Y (Zb (ov Y) Y Y Zf1)<|Rq Y (Zi (ov Y) Y Y Y tS4 Y)<|R1 QA Y<|Rm Y<|Rq Y (.guarded ((!m.Some)==false) Y Y Y Y fun h=>Ze (ov Y) Zcq)<|Rq Y (.guarded ((!m.Some)==false) Y Y Y Y fun h=>Zc (ow Y h) tS3 Y)<|Rq Y (.guarded ((!m.Some)==false) Y Y Y Y fun h=>Zb (ov Y) Y Y ZgI)<|Rq Y (.guarded ((!m.Some)==false) Y Y Y Y fun h=>Zi (ow Y h) Y Y Y tS3 Y)<|Rq Y (.guarded ((!m.Some)==false) Y Y Y Y fun h=>Qq (ow Y h)<|ow Y h)<|Rq Y (Xi (ov Y) fun hp=>ow Y<|gF hp)<|Za<|K4 5 6 8 96 Y<|If h Y (fun h=>?_) fun h=>?_
       ·
        exact K3 5 6 8 Y<|Zw<|Rq Y (Ze (ov Y) Zcq)<|Rq Y (Zc (ov Y) tS3 Y)<|Rq Y (Zb (ov Y) Y Y ZgI)<|Rx Y (Zk (ov Y) (ov Y) (Zp tS3) Y Y Y (Nat.le_of_ble_eq_true Y) (Zd Y) Y)<|Za<|K2 5 8 Y<|Zw<|Rq Y (Zb (ov Y) Y Y Zf1)<|Rx Y (Zk (ov Y) (ov Y) (Zp tS4) Y Y Y (Nat.le_of_ble_eq_true Y) (Zd Y) Y)<|Za<|⟨_,h,ES [some 0,some 1] (hhp:= .cons Y (ro1 (by exact tZ_99.symm)<|rlc (.dat Y)<|rlc (.dat Y)<|rlc (.dat Y)<|rlc (.dat Y)<|rlc (Za1 Y Y Y D3) rln)<|.cons Y (ro1 (by exact tZ_99.symm)<|rld Y) .nil)⟩
       ·
        exact Zh<|K2 5 8 Y<|Zw<|Rq Y (Zb (ov Y) Y Y Zf1)<|Rx Y (Zk (ov Y) (ov Y) (Zp tS4) Y Y Y (Nat.le_of_ble_eq_true Y) (Zd Y) Y)<|Za<|⟨_,h,ES [some 0,some 1] (hhp:= .cons Y (ro1 (by exact tZ_99.symm)<|rlc (.dat Y)<|rlc (.dat Y)<|rlc (.dat Y)<|rlc (.dat Y)<|rlc (Za1 Y Y Y D3) rln)<|.cons Y (ro1 (by exact tZ_99.symm)<|rld Y) .nil)⟩
      ·
       refine K5 3 4 5 6 8 Y<|Tr<|Rq Y (Ze (ov Y) JK)<|Rq Y (Zc (ov Y) tS3 Y)<|R2 ZT Y<|Rm Y<|Rq Y (.guarded ((decide (i.Kind=6))==true) Y Y Y Y fun h=>Zf<|ov Y)<|Rq Y (ZQ (ov Y) fun hp=>ow Y<|gT hp)<|Ra Y<|Za<|K5 4 5 6 8 101 Y<|If h Y (fun h=>?_) fun h=>?_
       ·
        refine K4 4 5 6 8 Y<|Tr<|Rq Y (Zb (ov Y) Y Y JW)<|Rq Y (Zi (ov Y) Y Y Y ZeC Y)<|Rq Y (Ze (ov Y) Zcq)<|Rq Y (Zc (ov Y) tS3 Y)<|R_q (.sl 3<|List.map R3 ([s.N]:List Int)) Y (ZbU J3 (.cons (cvs (ov Y)<|ZB Y) Y (.cons (.b Y) .nil) .nil) Y Y)<|bE h fun l2 h_l2 h=>Rx Y (Jw (ov Y) (XW (ov Y) tZ_3) J3 Y Y Y (fun _=>Zd Y) Y h_l2)<|Rq Y (Zb (ov Y) Y Y JW)<|Rx Y (Zk (ov Y) (ov Y) (Zp ZeC) Y Y Y (Nat.le_of_ble_eq_true Y) (Zd Y) Y)<|Za<|K3 4 5 8 Y<|Tr<|Rq Y (Zb (ov Y) Y Y JW)<|Rq Y (Zi (ov Y) Y Y Y ZeC Y)<|Rq Y (Zbs (ov Y) Y Y J3)<|Rq Y (Ze (ov Y) Zg9)<|Rq Y (Zc (ov Y) tS3 Y)<|R2 Qq Y<|Za<|K3 5 8 120 Y<|If h Y (fun h=>?_) fun h=>?_
        ·
         exact K2 5 8 Y<|Zw<|Rq Y (Zb (ov Y) Y Y JW)<|Rq Y (Zi (ov Y) Y Y Y ZeC Y)<|bE h fun l3 h_l3 h=>Zk3 (Ent.sel [some 0,some 1,none] (sr 5 Y (.ptr (r':=0) _ _ _ Y)<|sr 8 Y (.ptr (r':=1) _ _ _ Y)<|sr 121 Y (.ptr (r':=0) _ _ _ Y)<|sr 122 Y (Za1 Y Y Y D3) sn) (.cons Y (ro1 (by exact tZ_99.symm)<|rlc (.dat Y)<|rlc (.dat Y)<|rlc (.dat Y)<|rlc (.dat Y)<|rlc (Za1 Y Y Y D3) rln)<|.cons Y (ro1 (by exact tZ_99.symm)<|rlc (.dat Y)<|rlc (.dat Y)<|rlc (.dat Y)<|rlc (.dat Y)<|rlc (.dat Y) rln)<|.row 3 .nil) Y Y)<|Rq Y (ZgG (ov Y) J3 (oi<|ov Y) on h_l3)<|Rq Y (Zb (ov Y) Y Y JW)<|Rx Y (Zk (ov Y) (ov Y) (Zp ZeC) Y Y Y (Nat.le_of_ble_eq_true Y) (Zd Y) Y)<|Za<|⟨_,h,ES [some 0,some 1]⟩
        ·
         exact Zh<|⟨_,h,ES [some 0,some 1] (hhp:= .cons Y (ro1 (by exact tZ_99.symm)<|rlc (.dat Y)<|rlc (.dat Y)<|rlc (.dat Y)<|rlc (.dat Y)<|rlc (Za1 Y Y Y D3) rln)<|.cons Y (ro1 (by exact tZ_99.symm)<|rld Y) .nil)⟩
       ·
        exact Zh<|⟨_,h,ES [some 0,some 1] (hhp:= .cons Y (ro1 (by exact tZ_99.symm)<|rlc (.dat Y)<|rlc (.dat Y)<|rlc (.dat Y)<|rlc (.dat Y)<|rlc (Za1 Y Y Y D3) rln)<|.cons Y (ro1 (by exact tZ_99.symm)<|rld Y) .nil)⟩
 ·
  refine Tr<|Rq Y (ZG (ov Y) Y Y Y ZdS Y Y)<|Rx Y (Zk (ov Y) (ov Y) (Zo ZdS Y) Y Y Y (Nat.le_of_ble_eq_true Y) (Zd Y) Y)<|Za<|?_
  obtain rfl:=rt h
  exact Zj (Zu Y (.one<|.agg Y Y Y Y ZdS Y Y<|pwB Y))
theorem Ziw{p:api_Panel}{l:List api_Track}{s:api_PanelState}{r:api_PanelState}(h:Zck p l s=some r):
 GSpec Tryz.prog gl0 52 [.agg [.sl 49 (List.map R49 p.Instruments)],.sl 54 (List.map R54 l),.agg [.int .i64 s.Frame,.sl 99 (List.map R99 s.Memos)]] [] (.agg [.int .i64 r.Frame,.own 0 r.Memos.length]) [some ⟨99,List.map R99 r.Memos⟩]:=by
 unfold Zck at h
 replace h:=ZO h
 refine Z1 (by kernel_rfl) Tryz.func52 Y Y<|?_
 intro w0 A W φ0
 refine Tr<|Rq Y (ZP (cva<|ov Y) Y tZ_24 Y)<|Rq Y (ZP (cva<|ov Y) Y tZ_44 Y)<|Rx Y (Zz (row:= [_,_]) 0 Y ZcT Y tZ_44)<|Za<|K4 1 3 5 6 Y<|Tr<|Rq Y (Ze (ov Y) Qi)<|Rq Y (Zc (ov Y) tS3 Y)<|R2 QB Y<|Rq Y (QU (ys:= [_,_]) Zid Zil ZcT (.cons (cvs (ov Y)<|ZB Y) .nil) Y)<|Rx Y (Zz (row:= [_,_]) 1 Y ZcT Y tZ_44)<|Rx Y (Zk (ov Y) (ov Y) (Zo QR Y) Y Y Y (Nat.le_of_ble_eq_true Y) (Zd Y) Y)<|Za<|I1 (fun Memos=>⟨[(6,.ptr 0 1 0 0),(7,.ptr 1 1 0 0)],[some ⟨44,[[.int .i64 0,.nils]]⟩,some ⟨44,[[.int .i64 (i64 (s.Frame+1)),.own 2 Memos.length]]⟩,some ⟨99,List.map R99 Memos⟩]⟩) h (fun h=>?_) fun Memos h=>?_
 ·
  refine K5 1 3 5 6 7 Y<|Tr<|Rq Y (Ze (ov Y) Zbj)<|Rq Y (Zc (ov Y) Zf0 Y)<|Rl tZ_49 ZcI Y<|Rm Y<|Za<|Zl<|?_
  obtain⟨r1,hl1,ho1⟩:=Xa h
  refine L2 (fun Memos2 i=>⟨[(1,.sl 54 (List.map R54 l)),(5,.rp [.int .i64 s.Frame,.sl 99 (List.map R99 s.Memos)] 0),(6,.ptr 0 1 0 0),(7,.ptr 1 1 0 0),(19,.sl 49 (List.map R49 p.Instruments)),(20,.int .i64 (p.Instruments.length:Int)),(21,.int .i64 i)],[some ⟨44,[[.int .i64 0,.nils]]⟩,some ⟨44,[[.int .i64 (i64 (s.Frame+1)),.own 2 Memos2.length]]⟩,some ⟨99,List.map R99 Memos2⟩]⟩) hl1 (ES [some 0,some 1,none]) fun n1 Memos2 i h=>?_
  unfold Zag at h
  refine Tr<|R2 ZV Y<|Za<|Zm<|If h Y (fun h=>?_) fun h=>?_
  ·
   exact Zh<|Zm<|Zl<|K7 1 5 6 7 19 20 21 Y<|Tr<|Rm Y<|bE h fun x h_x h=>Rq Y (ZU (ov Y) (ov Y) ZcI h_x)<|Rq Y (Zr (ov Y) Zcj Y Y)<|Rx Y (Zz (row:= [_,_,_,_,_,_,_,_,_,_,_,_]) 3 Y Zlw Y tZ_49)<|Ra Y<|Rx Y (Zk (ov Y) (ov Y) (Zo Zcj Y) Y Y Y (Nat.le_of_ble_eq_true Y) (Zd Y) Y)<|Za<|K9 1 5 6 7 8 9 19 20 21 Y<|Tr<|Rm Y<|Rq Y (Zb (ov Y) Y Y ZhO)<|Rq Y (Zi (ov Y) Y Y Y tS9 Y)<|bE h fun y h_y h=>Rq Y (Zn (Zfp h_y)<|.cons (ov Y) (.b Y)<|.cons (ov Y) (.b Y) .nil)<|Rm Y<|Rq Y (Zq (ov Y) Y)<|Rq Y (Zq (ov Y) Y)<|Rx Y (Zz (row:= [_,_,_,_]) 4 Y Zlo Y tZ_54)<|Rx Y (Zk (ov Y) (ov Y) (Zo Zf7 Y) Y Y Y (Nat.le_of_ble_eq_true Y) (Zd Y) Y)<|Ra Y<|Za<|K10 1 5 6 7 8 9 10 19 20 21 Y<|Tr<|Rq Y (ZG (ov Y) Y Y Y Zf7 Y Y)<|Rq Y (Zb (ov Y) Y Y Qi)<|Rq Y (Zi (ov Y) Y Y Y tS3 Y)<|bE h fun y2 h_y2 h=>Rq Y (Zn (Zgf h_y2)<|.cons (ov Y) (.aggB Y)<|.cons (ov Y) (.b Y) .nil)<|Rm Y<|Rq Y (Zq (ov Y) Y)<|Rq Y (Zq (ov Y) Y)<|Rx Y (Zz (row:= [_,_,_]) 5 Y Zft Y tZ_56)<|Rx Y (Zk (ov Y) (ov Y) (Zo Zai Y) Y Y Y (Nat.le_of_ble_eq_true Y) (Zd Y) Y)<|Ra Y<|Za<|K11 1 5 6 7 8 9 12 13 19 20 21 Y<|ZbM (cw:=md0) (by kernel_rfl)<|Dq 0 Y (Zb (ov Y) Y Y Jn)<|Dq 1 Y (Zi (ov Y) Y Y Y ZdM Y)<|Dq 2 Y (ZG (ov Y) Y Y Y Zcj Y Y)<|Dq 3 Y (Ze (ov Y) Jn)<|Dq 4 Y (Zc (ov Y) ZdM Y)<|D1 5 Zf Y<|bE h fun x2 h_x2 h=>Dq 6 Y (ZU (ov Y) (ov Y) ZcA h_x2)<|Dq 7 Y (Zr (ov Y) ZdS Y Y)<|Dq 8 Y (ZG (ov Y) Y Y Y Zai Y Y)<|D1 9 Zf Y<|bE h fun y3 h_y3 h=>Dq 10 Y (Zn (ZiF h_y3)<|.cons (ov Y) (.aggB Y)<|.cons (ov Y) (.aggB Y)<|.cons (ov Y) (.aggB Y)<|.cons (ov Y) (.b Y) .nil)<|Zmb 11 (.sl 99<|List.map R99 ([y3]:List api_Memo)) Y (by kernel_rfl) Y Y (ZbU ZcA (.cons (cva<|ov Y) Y (pwD Y) .nil) Y Y)<|bE h fun l2 h_l2 h=>Do 12 Y (Jw (ov Y) (XW (ov Y) tZ_99) ZcA Y Y Y (fun _=>Zd Y) Y h_l2)<|Dq 13 Y (Zb (ov Y) Y Y Jn)<|Do 14 Y (Zk (ov Y) (ov Y) (Zp ZdM) Y Y Y (Nat.le_of_ble_eq_true Y) (Zd Y) Y)<|Dd<|K7 1 5 6 7 19 20 21 Y<|Zw<|R2 QB Y<|Rm Y<|Za<|⟨_,h,ES [some 0,some 1,some 2]⟩
  ·
   refine ZL<|?_
   replace h:=lx h▸ho1
   exact⟨_,h,ES [some 0,some 1,some 2]⟩
 ·
  refine Tr<|Rq Y (ZG (ov Y) Y Y Y QR Y Y)<|Rx Y (Zk (ov Y) (ov Y) (Zo QR Y) Y Y Y (Nat.le_of_ble_eq_true Y) (Zd Y) Y)<|Za<|?_
  obtain rfl:=rt h
  exact Zj<|XB [some 2] Y (.cons (.agg Y Y Y Y QR Y Y) .nil) (.cons Y (roM D99) .nil) Y Y<|Zbw<|rlc (.dat Y)<|rlc (.own _ Y) rln
theorem ZdK{r_:panel_Replay}{frame:Int}{r:Int×Bool}(h:Qb r_ frame=some r):
 GSpec Tryz.prog gl0 43 [.ptr 0 1 0 0,.int .i64 frame] [some ⟨91,[[.sl 49 (List.map R49 r_.p.Instruments),.sl 54 (List.map R54 r_.l),.int .i64 r_.keep,.int .i64 r_.state.Frame,.sl 99 (List.map R99 r_.state.Memos),.own 1 r_.kept.length,.own 2 r_.marks.length]]⟩,some ⟨44,List.map R44 r_.kept⟩,some ⟨120,List.map R120 r_.marks⟩] (.tuple [.int .i64 r.1,.bool r.2]) [some ⟨91,[[.sl 49 (List.map R49 r_.p.Instruments),.sl 54 (List.map R54 r_.l),.int .i64 r_.keep,.int .i64 r_.state.Frame,.sl 99 (List.map R99 r_.state.Memos),.own 3 r_.kept.length,.own 4 r_.marks.length]]⟩,none,none,some ⟨44,List.map R44 r_.kept⟩,some ⟨120,List.map R120 r_.marks⟩]:=by
 unfold Qb at h
 replace h:=ZO h
 refine Z1 (by kernel_rfl) Tryz.func43 Y Y<|?_
 intro w0 A W φ0
 refine X0 (Ent.sel [some 0,some 1,some 2,some 1,some 2] (sr 0 Y (.ptr (r':=0) _ _ _ Y)<|sd 1 Y Y sn) (.cons Y (ro1 (by exact tZ_91.symm)<|rlc (.dat Y)<|rlc (.dat Y)<|rlc (.dat Y)<|rlc (.dat Y)<|rlc (.dat Y)<|rlc (.own (r':=3) _ Y)<|rlc (.own (r':=4) _ Y) rln)<|.dead<|.dead<|.cons Y (roM D44)<|.cons Y (roM D120) .nil) Y Y)<|Tr<|Ra Y<|Ra Y<|Za<|Tr<|Rm Y<|Rq Y (Zg (ov Y) Y Y)<|Rq Y (Zb (ov Y) Y Y QX)<|Rq Y (Zi (ov Y) Y Y Y Jd Y)<|Rm Y<|bE h fun y h_y h=>Rq Y (Zh2 (Qn Y (fun z0 z1 _ hz=>Zcy hz) h_y) (.tuple<|by simp only [List.mem_cons,List.not_mem_nil,or_false,forall_eq_or_imp,forall_eq];exact⟨.int,.bool⟩)<|.cons (ov Y) (View.ownM Y Y D44)<|.cons (ov Y) (Dat.view<|.b Y)<|.cons (ov Y) (Dat.view .fn) .nil)<|Rq Y (Zq (ov Y) Y)<|Rq Y (Zq (ov Y) Y)<|Ra Y<|Ra Y<|Za<|?_
 obtain rfl:=rt h
 exact Zj<|XB [some 0,some 1,some 2,some 3,some 4] Y (.cons (.tmp Y)<|.cons (.tmp Y) .nil) (.cons Y (ro1 (by exact tZ_91.symm)<|rlc (.dat Y)<|rlc (.dat Y)<|rlc (.dat Y)<|rlc (.dat Y)<|rlc (.dat Y)<|rlc (.own _ Y)<|rlc (.own _ Y) rln)<|.dead<|.dead<|.cons Y (roM D44)<|.cons Y (roM D120) .nil) Y Y<|JO<|rlc (.dat Y)<|rlc (.dat Y) rln
theorem ZcW{r_:panel_Replay}{n:Int}{r:panel_Replay}(h:Qy r_ n=some r):
 GSpec Tryz.prog gl0 44 [.ptr 0 1 0 0,.int .i64 n] [some ⟨91,[[.sl 49 (List.map R49 r_.p.Instruments),.sl 54 (List.map R54 r_.l),.int .i64 r_.keep,.int .i64 r_.state.Frame,.own 1 r_.state.Memos.length,.own 2 r_.kept.length,.own 3 r_.marks.length]]⟩,some ⟨99,List.map R99 r_.state.Memos⟩,some ⟨44,List.map R44 r_.kept⟩,some ⟨120,List.map R120 r_.marks⟩] (.tuple []) [some ⟨91,[[.sl 49 (List.map R49 r.p.Instruments),.sl 54 (List.map R54 r.l),.int .i64 r.keep,.int .i64 r.state.Frame,.sl 99 (List.map R99 r.state.Memos),.own 4 r.kept.length,.own 5 r.marks.length]]⟩,none,none,none,some ⟨44,List.map R44 r.kept⟩,some ⟨120,List.map R120 r.marks⟩]:=by
 unfold Qy at h
 replace h:=ZO h
 refine Z1 (by kernel_rfl) Tryz.func44 Y Y<|?_
 intro w0 A W φ0
 refine X0 (Ent.sel [some 0,some 1,some 2,some 3,some 1,some 2,some 3] (sr 0 Y (.ptr (r':=0) _ _ _ Y)<|sd 1 Y Y sn) (.cons Y (ro1 (by exact tZ_91.symm)<|rlc (.dat Y)<|rlc (.dat Y)<|rlc (.dat Y)<|rlc (.dat Y)<|rlc (.own (r':=4) _ Y)<|rlc (.own (r':=5) _ Y)<|rlc (.own (r':=6) _ Y) rln)<|.dead<|.dead<|.dead<|.cons Y (roM D99)<|.cons Y (roM D44)<|.cons Y (roM D120) .nil) Y Y)<|Tr<|Rm Y<|Rm Y<|Za<|Zl<|?_
 obtain⟨r1,hl1,ho1⟩:=Xa h
 refine L3 (fun state kept i=>⟨[(0,.ptr 0 1 0 0),(6,.int .i64 n),(7,.int .i64 i)],[some ⟨91,[[.sl 49 (List.map R49 r_.p.Instruments),.sl 54 (List.map R54 r_.l),.int .i64 r_.keep,.int .i64 state.Frame,.sl 99 (List.map R99 state.Memos),.own 4 kept.length,.own 5 r_.marks.length]]⟩,none,none,none,some ⟨44,List.map R44 kept⟩,some ⟨120,List.map R120 r_.marks⟩]⟩) hl1 (ES [some 0,some 1,some 2,some 3,some 5,some 6] (hhp:= .cons Y (ro1 (by exact tZ_91.symm)<|rlc (.dat Y)<|rlc (.dat Y)<|rlc (.dat Y)<|rlc (.dat Y)<|rlc (Za1 Y Y Y D99)<|rlc (.own _ Y)<|rlc (.own _ Y) rln)<|.dead<|.dead<|.dead<|.cons Y (roM D44)<|.cons Y (roM D120) .nil)) fun n1 state kept i h=>?_
 unfold Qu at h
 refine Tr<|R2 ZV Y<|Za<|Zm<|If h Y (fun h=>?_) fun h=>?_
 ·
  refine Zh<|I3 (fun Frame2 Memos2 kept2=>⟨[(0,.ptr 0 1 0 0),(6,.int .i64 n),(7,.int .i64 i)],[some ⟨91,[[.sl 49 (List.map R49 r_.p.Instruments),.sl 54 (List.map R54 r_.l),.int .i64 r_.keep,.int .i64 Frame2,.sl 99 (List.map R99 Memos2),.own 4 kept2.length,.own 5 r_.marks.length]]⟩,none,none,none,some ⟨44,List.map R44 kept2⟩,some ⟨120,List.map R120 r_.marks⟩]⟩) h (fun h=>?_) fun Frame2 Memos2 kept2 h=>?_
  ·
   refine Zl<|K3 0 6 7 Y<|Td ⟨true,false,[],[],[]⟩<|D1 1 Zf Y<|Dq 2 Y (Zg (ov Y) Y Y)<|Dq 3 Y (Zb (ov Y) Y Y Zlt)<|Dq 4 Y (ZG (ov Y) Y Y Y Zd7 Y Y)<|D1 5 Zf Y<|Dq 6 Y (Zg (ov Y) Y Y)<|Dq 7 Y (Zb (ov Y) Y Y ZmL)<|Dq 8 Y (Zi (ov Y) Y Y Y ZmM Y)<|D1 9 Zf Y<|Dq 10 Y (Zg (ov Y) Y Y)<|Dq 11 Y (Zb (ov Y) Y Y Zax)<|Dq 12 Y (ZG (ov Y) Y Y Y QR Y Y)<|ZaL 0 _ Y (by kernel_rfl) Y Y (fun hp'=>Zf<|ov Y)<|bE h fun y h_y h=>Do 13 Y (ZK [] (ZeH h_y) (.cons (ov Y) (Zbw<|rld Y)<|.cons (ov Y) (.dat Y)<|.cons (ov Y) (Zbw<|rld Y) .nil) .nil Y (.keep Y Y<|.none<|.none<|.none<|.keep Y Y<|.keep Y Y<|.lent 0 (.inr ⟨Nat.le_of_ble_eq_true Y,Y⟩) Y (roM D99) .nil) Y Y<|Zbw<|rlc (.dat Y)<|rlc (.own _<|.inr ⟨Nat.le_of_ble_eq_true Y,Y⟩) rln)<|Dq 14 Y (Zg (ov Y) Y Y)<|Dq 15 Y (Zb (ov Y) Y Y Zax)<|Do 16 Y (Zk (ov Y) (ov Y) (Zo QR Y) Y Y Y (Nat.le_of_ble_eq_true Y) (Zd Y) Y)<|Dd<|Zm<|K3 0 6 7 Y<|Td md0<|D1 0 Zf Y<|Dq 1 Y (Zg (ov Y) Y Y)<|Dq 2 Y (Zb (ov Y) Y Y Zax)<|Dq 3 Y (Zb (ov Y) Y Y Qi)<|Dq 4 Y (Zi (ov Y) Y Y Y tS3 Y)<|D1 5 Zf Y<|Dq 6 Y (Zg (ov Y) Y Y)<|Dq 7 Y (Zb (ov Y) Y Y ZlK)<|Dq 8 Y (Zi (ov Y) Y Y Y tS3 Y)<|bE h fun q h_q h=>Dq 9 Y (Zj1 (ov Y) (ov Y) h_q)<|D1 10 Zf Y<|Dq 11 Y (Zg (ov Y) Y Y)<|Dq 12 Y (Zb (ov Y) Y Y ZlK)<|Dq 13 Y (Zi (ov Y) Y Y Y tS3 Y)<|D2 14 Zdi Y<|D2 15 Qo Y<|Dd<|K4 0 6 7 40 Y<|If h Y (fun h=>?_) fun h=>?_
   ·
    exact ZL<|⟨_,h,ES [some 0,some 1,some 2,some 3,some 4,some 5] (hhp:= .cons Y (ro1 (by exact tZ_91.symm)<|rlc (.dat Y)<|rlc (.dat Y)<|rlc (.dat Y)<|rlc (.dat Y)<|rlc (Za1 Y Y Y D99)<|rlc (.own _ Y)<|rlc (.own _ Y) rln)<|.dead<|.dead<|.dead<|.cons Y (roM D44)<|.cons Y (roM D120) .nil)⟩
   ·
    refine Zh<|K3 0 6 7 Y<|Tr<|Rm Y<|Rm Y<|Rq Y (Zg (ov Y) Y Y)<|Rq Y (Zb (ov Y) Y Y Zax)<|Rq Y (Zb (ov Y) Y Y Qi)<|Rq Y (Zi (ov Y) Y Y Y tS3 Y)<|bE h fun y2 h_y2 h=>Rx Y (ZK [0,6,4,5] (Za4 h_y2) (.cons (ov Y) (.ptr _ _ _ Y)<|.cons (ov Y) (.dat Y) .nil) (.cons Y (ro1 (by exact tZ_91.symm)<|rlc (.dat Y)<|rlc (.dat Y)<|rlc (.dat Y)<|rlc (.dat Y)<|rlc (.own _ Y)<|rlc (.own _ Y)<|rlc (.own _ Y) rln)<|.cons Y (roM D99)<|.cons Y (roM D44)<|.cons Y (roM D120) .nil) Y (.lent 0 (.inl Y) Y (ro1 (by exact tZ_91.symm)<|rlc (.dat Y)<|rlc (.dat Y)<|rlc (.dat Y)<|rlc (.dat Y)<|rlc (.own _<|.inr ⟨Nat.le_of_ble_eq_true Y,Y⟩)<|rlc (.own _<|.inr ⟨Nat.le_of_ble_eq_true Y,Y⟩)<|rlc (.own _<|.inr ⟨Nat.le_of_ble_eq_true Y,Y⟩) rln)<|.none<|.none<|.none<|.none<|.none<|.none<|.lent 4 (.inr ⟨Nat.le_of_ble_eq_true Y,Y⟩) Y (roM D99)<|.lent 5 (.inr ⟨Nat.le_of_ble_eq_true Y,Y⟩) Y (roM D44)<|.lent 6 (.inr ⟨Nat.le_of_ble_eq_true Y,Y⟩) Y (roM D120) .nil) Y Y<|JO<|rld Y)<|Rm Y<|Rq Y (Zq (ov Y) Y)<|Rq Y (Zq (ov Y) Y)<|Ra Y<|Ra Y<|Za<|K5 0 4 5 6 7 Y<|Tr<|Rm Y<|R1 QA Y<|Za<|K5 0 4 6 7 52 Y<|If h Y (fun h=>?_) fun h=>?_
    ·
     refine K4 0 4 6 7 Y<|X0 (Ent.sel [some 0,some 1,some 2,some 3,some 4,some 5,some 6,none,some 8,some 9] (sr 0 Y (.ptr (r':=0) _ _ _ Y)<|sd 4 Y Y<|sd 6 Y Y<|sd 7 Y Y sn) (.cons Y (ro1 (by exact tZ_91.symm)<|rlc (.dat Y)<|rlc (.dat Y)<|rlc (.dat Y)<|rlc (.dat Y)<|rlc (Za1 Y Y Y D99)<|rlc (.own (r':=8) _ Y)<|rlc (.own (r':=9) _ Y) rln)<|.dead<|.dead<|.dead<|.dead<|.dead<|.dead<|.row 99<|.cons Y (roM D44)<|.cons Y (roM D120) .nil) Y Y)<|ZbM (cw:=⟨true,false,[],[],[]⟩) (by kernel_rfl)<|D1 6 Zf Y<|Dq 7 Y (Zg (ov Y) Y Y)<|Dq 8 Y (Zb (ov Y) Y Y Zax)<|Dq 9 Y (ZG (ov Y) Y Y Y QR Y Y)<|ZaL 0 _ Y (by kernel_rfl) Y Y (fun hp'=>Zf<|ov Y)<|ZaL 1 _ Y (by kernel_rfl) Y Y (fun hp'=>Zf<|ov Y)<|ZaL 5 _ Y (by kernel_rfl) Y Y (fun hp'=>Zf<|ov Y)<|bE h fun y3 h_y3 h=>Dw 2 10 Y (Zg (ov Y) Y Y) (ZgT<|Zn (QG h_y3)<|.cons (ov Y) (.aggB Y) .nil) ?_ ?_
     ·
      refine Dw 3 10 Y (Zb (ov Y) Y Y QX) (ZgT<|Zn (QG h_y3)<|.cons (ov Y) (.aggB Y) .nil) ?_ ?_
      ·
       refine Dw 4 10 Y (Zi (ov Y) Y Y Y Jd Y) (ZgT<|Zn (QG h_y3)<|.cons (ov Y) (.aggB Y) .nil) ?_ ?_
       ·
        exact Do 10 Y (ZgT<|Zn (QG h_y3)<|.cons (ov Y) (.aggB Y) .nil)<|Do 11 Y (QW (r:=10) (xs:=([y3]:List api_PanelState)) (f:=R44) Y XE (.cons (cva<|ov Y) Y (pwD Y) .nil) Y Y Y)<|bE h fun l h_l h=>Do 12 Y (JM (f:=R44) Xv Xt (by kernel_rfl) Y (ov Y) (ov Y) (ov Y) XE Y Y Y Y Y D44 (fun _=>Y) Y h_l)<|Dq 13 Y (Zg (ov Y) Y Y)<|Dq 14 Y (Zb (ov Y) Y Y QX)<|Do 15 Y (Zk (ov Y) (ov Y) (Zp Jd) Y Y Y (Nat.le_of_ble_eq_true Y) (Zd Y) Y)<|Dd<|⟨_,h,ES [some 0,some 1,some 2,some 3,some 8,some 9]⟩
       ·
        refine Dw 4 11 Y (Zi (ov Y) Y Y Y Jd Y) (QW (r:=10) (xs:=([y3]:List api_PanelState)) (f:=R44) Y XE (.cons (cva<|ov Y) Y (pwD Y) .nil) Y Y Y) ?_ ?_
        ·
         exact Do 11 Y (QW (r:=10) (xs:=([y3]:List api_PanelState)) (f:=R44) Y XE (.cons (cva<|ov Y) Y (pwD Y) .nil) Y Y Y)<|bE h fun l h_l h=>Do 12 Y (JM (f:=R44) Xv Xt (by kernel_rfl) Y (ov Y) (ov Y) (ov Y) XE Y Y Y Y Y D44 (fun _=>Y) Y h_l)<|Dq 13 Y (Zg (ov Y) Y Y)<|Dq 14 Y (Zb (ov Y) Y Y QX)<|Do 15 Y (Zk (ov Y) (ov Y) (Zp Jd) Y Y Y (Nat.le_of_ble_eq_true Y) (Zd Y) Y)<|Dd<|⟨_,h,ES [some 0,some 1,some 2,some 3,some 8,some 9]⟩
        ·
         exact Dq 4 Y (Zi (ov Y) Y Y Y Jd Y)<|bE h fun l h_l h=>Do 12 Y (JM (f:=R44) Xv Xt (by kernel_rfl) Y (ov Y) (ov Y) (ov Y) XE Y Y Y Y Y D44 (fun _=>Y) Y h_l)<|Dq 13 Y (Zg (ov Y) Y Y)<|Dq 14 Y (Zb (ov Y) Y Y QX)<|Do 15 Y (Zk (ov Y) (ov Y) (Zp Jd) Y Y Y (Nat.le_of_ble_eq_true Y) (Zd Y) Y)<|Dd<|⟨_,h,ES [some 0,some 1,some 2,some 3,some 8,some 9]⟩
      ·
       refine Dw 3 11 Y (Zb (ov Y) Y Y QX) (QW (r:=10) (xs:=([y3]:List api_PanelState)) (f:=R44) Y XE (.cons (cva<|ov Y) Y (pwD Y) .nil) Y Y Y) ?_ ?_
       ·
        refine Dw 4 11 Y (Zi (ov Y) Y Y Y Jd Y) (QW (r:=10) (xs:=([y3]:List api_PanelState)) (f:=R44) Y XE (.cons (cva<|ov Y) Y (pwD Y) .nil) Y Y Y) ?_ ?_
        ·
         exact Do 11 Y (QW (r:=10) (xs:=([y3]:List api_PanelState)) (f:=R44) Y XE (.cons (cva<|ov Y) Y (pwD Y) .nil) Y Y Y)<|bE h fun l h_l h=>Do 12 Y (JM (f:=R44) Xv Xt (by kernel_rfl) Y (ov Y) (ov Y) (ov Y) XE Y Y Y Y Y D44 (fun _=>Y) Y h_l)<|Dq 13 Y (Zg (ov Y) Y Y)<|Dq 14 Y (Zb (ov Y) Y Y QX)<|Do 15 Y (Zk (ov Y) (ov Y) (Zp Jd) Y Y Y (Nat.le_of_ble_eq_true Y) (Zd Y) Y)<|Dd<|⟨_,h,ES [some 0,some 1,some 2,some 3,some 8,some 9]⟩
        ·
         exact Dq 4 Y (Zi (ov Y) Y Y Y Jd Y)<|bE h fun l h_l h=>Do 12 Y (JM (f:=R44) Xv Xt (by kernel_rfl) Y (ov Y) (ov Y) (ov Y) XE Y Y Y Y Y D44 (fun _=>Y) Y h_l)<|Dq 13 Y (Zg (ov Y) Y Y)<|Dq 14 Y (Zb (ov Y) Y Y QX)<|Do 15 Y (Zk (ov Y) (ov Y) (Zp Jd) Y Y Y (Nat.le_of_ble_eq_true Y) (Zd Y) Y)<|Dd<|⟨_,h,ES [some 0,some 1,some 2,some 3,some 8,some 9]⟩
       ·
        exact Dq 3 Y (Zb (ov Y) Y Y QX)<|Dq 4 Y (Zi (ov Y) Y Y Y Jd Y)<|bE h fun l h_l h=>Do 12 Y (JM (f:=R44) Xv Xt (by kernel_rfl) Y (ov Y) (ov Y) (ov Y) XE Y Y Y Y Y D44 (fun _=>Y) Y h_l)<|Dq 13 Y (Zg (ov Y) Y Y)<|Dq 14 Y (Zb (ov Y) Y Y QX)<|Do 15 Y (Zk (ov Y) (ov Y) (Zp Jd) Y Y Y (Nat.le_of_ble_eq_true Y) (Zd Y) Y)<|Dd<|⟨_,h,ES [some 0,some 1,some 2,some 3,some 8,some 9]⟩
     ·
      refine Dw 2 11 Y (Zg (ov Y) Y Y) (QW (r:=10) (xs:=([y3]:List api_PanelState)) (f:=R44) Y XE (.cons (cva<|ov Y) Y (pwD Y) .nil) Y Y Y) ?_ ?_
      ·
       refine Dw 3 11 Y (Zb (ov Y) Y Y QX) (QW (r:=10) (xs:=([y3]:List api_PanelState)) (f:=R44) Y XE (.cons (cva<|ov Y) Y (pwD Y) .nil) Y Y Y) ?_ ?_
       ·
        refine Dw 4 11 Y (Zi (ov Y) Y Y Y Jd Y) (QW (r:=10) (xs:=([y3]:List api_PanelState)) (f:=R44) Y XE (.cons (cva<|ov Y) Y (pwD Y) .nil) Y Y Y) ?_ ?_
        ·
         exact Do 11 Y (QW (r:=10) (xs:=([y3]:List api_PanelState)) (f:=R44) Y XE (.cons (cva<|ov Y) Y (pwD Y) .nil) Y Y Y)<|bE h fun l h_l h=>Do 12 Y (JM (f:=R44) Xv Xt (by kernel_rfl) Y (ov Y) (ov Y) (ov Y) XE Y Y Y Y Y D44 (fun _=>Y) Y h_l)<|Dq 13 Y (Zg (ov Y) Y Y)<|Dq 14 Y (Zb (ov Y) Y Y QX)<|Do 15 Y (Zk (ov Y) (ov Y) (Zp Jd) Y Y Y (Nat.le_of_ble_eq_true Y) (Zd Y) Y)<|Dd<|⟨_,h,ES [some 0,some 1,some 2,some 3,some 8,some 9]⟩
        ·
         exact Dq 4 Y (Zi (ov Y) Y Y Y Jd Y)<|bE h fun l h_l h=>Do 12 Y (JM (f:=R44) Xv Xt (by kernel_rfl) Y (ov Y) (ov Y) (ov Y) XE Y Y Y Y Y D44 (fun _=>Y) Y h_l)<|Dq 13 Y (Zg (ov Y) Y Y)<|Dq 14 Y (Zb (ov Y) Y Y QX)<|Do 15 Y (Zk (ov Y) (ov Y) (Zp Jd) Y Y Y (Nat.le_of_ble_eq_true Y) (Zd Y) Y)<|Dd<|⟨_,h,ES [some 0,some 1,some 2,some 3,some 8,some 9]⟩
       ·
        exact Dq 3 Y (Zb (ov Y) Y Y QX)<|Dq 4 Y (Zi (ov Y) Y Y Y Jd Y)<|bE h fun l h_l h=>Do 12 Y (JM (f:=R44) Xv Xt (by kernel_rfl) Y (ov Y) (ov Y) (ov Y) XE Y Y Y Y Y D44 (fun _=>Y) Y h_l)<|Dq 13 Y (Zg (ov Y) Y Y)<|Dq 14 Y (Zb (ov Y) Y Y QX)<|Do 15 Y (Zk (ov Y) (ov Y) (Zp Jd) Y Y Y (Nat.le_of_ble_eq_true Y) (Zd Y) Y)<|Dd<|⟨_,h,ES [some 0,some 1,some 2,some 3,some 8,some 9]⟩
      ·
       exact Dq 2 Y (Zg (ov Y) Y Y)<|Dq 3 Y (Zb (ov Y) Y Y QX)<|Dq 4 Y (Zi (ov Y) Y Y Y Jd Y)<|bE h fun l h_l h=>Do 12 Y (JM (f:=R44) Xv Xt (by kernel_rfl) Y (ov Y) (ov Y) (ov Y) XE Y Y Y Y Y D44 (fun _=>Y) Y h_l)<|Dq 13 Y (Zg (ov Y) Y Y)<|Dq 14 Y (Zb (ov Y) Y Y QX)<|Do 15 Y (Zk (ov Y) (ov Y) (Zp Jd) Y Y Y (Nat.le_of_ble_eq_true Y) (Zd Y) Y)<|Dd<|⟨_,h,ES [some 0,some 1,some 2,some 3,some 8,some 9]⟩
    ·
     exact Zh<|⟨_,h,ES [some 0,some 1,some 2,some 3,some 8,some 9] (hhp:= .cons Y (ro1 (by exact tZ_91.symm)<|rlc (.dat Y)<|rlc (.dat Y)<|rlc (.dat Y)<|rlc (.dat Y)<|rlc (Za1 Y Y Y D99)<|rlc (.own _ Y)<|rlc (.own _ Y) rln)<|.dead<|.dead<|.dead<|.cons Y (roM D44)<|.cons Y (roM D120) .nil)⟩
  ·
   exact Zw<|R2 QB Y<|Rm Y<|Za<|⟨_,h,ES [some 0,some 1,some 2,some 3,some 4,some 5]⟩
 ·
  refine ZL<|?_
  replace h:=lx h▸ho1
  obtain rfl:=rt h
  exact Zmh [some 0,some 1,some 2,some 3,some 4,some 5] Y .nil (.cons Y (ro1 (by exact tZ_91.symm)<|rlc (.dat Y)<|rlc (.dat Y)<|rlc (.dat Y)<|rlc (.dat Y)<|rlc (.dat Y)<|rlc (.own _ Y)<|rlc (.own _ Y) rln)<|.dead<|.dead<|.dead<|.cons Y (roM D44)<|.cons Y (roM D120) .nil) Y Y<|JO rln
theorem X6{r_:panel_Replay}{frame:Int}{r:Int×Int×panel_Replay}(h:Qd r_ frame=some r):
 GSpec Tryz.prog gl0 9 [.ptr 0 1 0 0,.int .i64 frame] [some ⟨91,[[.sl 49 (List.map R49 r_.p.Instruments),.sl 54 (List.map R54 r_.l),.int .i64 r_.keep,.int .i64 r_.state.Frame,.sl 99 (List.map R99 r_.state.Memos),.own 1 r_.kept.length,.own 2 r_.marks.length]]⟩,some ⟨44,List.map R44 r_.kept⟩,some ⟨120,List.map R120 r_.marks⟩] (.tuple [.int .i64 r.1,.int .i64 r.2.1]) [some ⟨91,[[.sl 49 (List.map R49 r.2.2.p.Instruments),.sl 54 (List.map R54 r.2.2.l),.int .i64 r.2.2.keep,.int .i64 r.2.2.state.Frame,.sl 99 (List.map R99 r.2.2.state.Memos),.own 3 r.2.2.kept.length,.own 4 r.2.2.marks.length]]⟩,none,none,some ⟨44,List.map R44 r.2.2.kept⟩,some ⟨120,List.map R120 r.2.2.marks⟩]:=by
 unfold Qd at h
 replace h:=ZO h
 refine Z1 (by kernel_rfl) Tryz.func9 Y Y<|?_
 intro w0 A W φ0
 refine X0 (Ent.sel [some 0,some 1,some 2,some 1,some 2] (sr 0 Y (.ptr (r':=0) _ _ _ Y)<|sd 1 Y Y sn) (.cons Y (ro1 (by exact tZ_91.symm)<|rlc (.dat Y)<|rlc (.dat Y)<|rlc (.dat Y)<|rlc (.dat Y)<|rlc (.dat Y)<|rlc (.own (r':=3) _ Y)<|rlc (.own (r':=4) _ Y) rln)<|.dead<|.dead<|.cons Y (roM D44)<|.cons Y (roM D120) .nil) Y Y)<|Tr<|Rq Y (ZP (cvs (ov Y)<|ZB Y) Y tZ_3 Y)<|Ra Y<|Ra Y<|Za<|Zm<|K2 0 3 Y<|Tr<|Rq Y (Zc (ov Y) tS3 Y)<|bE h fun y h_y h=>Rq Y (Zn (QK h_y)<|.cons (ov Y) (.b Y)<|.cons (ov Y) (.b Y)<|.cons (ov Y) (.b Y) .nil)<|R1 QA Y<|Za<|K3 0 3 13 Y<|If h Y (fun h=>?_) fun h=>?_
 ·
  refine K0<|Tr<|Ra Y<|Ra Y<|Za<|?_
  obtain rfl:=rt h
  exact Zj<|XB [some 0,some 1,some 2,some 3,some 4] Y (.cons (.tmp Y)<|.cons (.tmp Y) .nil) (.cons Y (ro1 (by exact tZ_91.symm)<|rlc (.dat Y)<|rlc (.dat Y)<|rlc (.dat Y)<|rlc (.dat Y)<|rlc (.dat Y)<|rlc (.own _ Y)<|rlc (.own _ Y) rln)<|.dead<|.dead<|.cons Y (roM D44)<|.cons Y (roM D120) .nil) Y Y<|JO<|rlc (.dat Y)<|rlc (.dat Y) rln
 ·
  refine Zh<|K2 0 3 Y<|Tr<|Rm Y<|Rq Y (Zg (ov Y) Y Y)<|Rq Y (Zb (ov Y) Y Y Zlt)<|Rq Y (ZG (ov Y) Y Y Y Zd7 Y Y)<|bE h fun y2 h_y2 h=>Rx Y (ZK [] (ZiN h_y2) (.cons (ov Y) (Zbw<|rld Y) .nil) .nil Y (.keep Y Y<|.none<|.none<|.keep Y Y<|.keep Y Y<|.lent 0 (.inr ⟨Nat.le_of_ble_eq_true Y,Y⟩) Y (roM D99) .nil) Y Y<|Zbw<|rlc (.dat Y)<|rlc (.own _<|.inr ⟨Nat.le_of_ble_eq_true Y,Y⟩) rln)<|Rx Y (Zz (row:= [_,_]) 6 Y ZcT Y tZ_44)<|Rx Y (Zk (ov Y) (ov Y) (Zo QR Y) Y Y Y (Nat.le_of_ble_eq_true Y) (Zd Y) Y)<|Za<|K3 0 3 6 Y<|Tr<|Rq Y (Zdm<|.cons (ov Y)<|.cons (ov Y) .nil)<|Ra Y<|Za<|K4 0 3 6 7 Y<|Tr<|Rm Y<|Rq Y (Zc (ov Y) tS3 Y)<|bE h fun y3 h_y3 h=>Rx Y (ZK [0,3,4] (ZdK h_y3) (.cons (ov Y) (.ptr _ _ _ Y)<|.cons (ov Y) (.dat Y) .nil) (.cons Y (ro1 (by exact tZ_91.symm)<|rlc (.dat Y)<|rlc (.dat Y)<|rlc (.dat Y)<|rlc (.dat Y)<|rlc (.dat Y)<|rlc (.own _ Y)<|rlc (.own _ Y) rln)<|.cons Y (roM D44)<|.cons Y (roM D120) .nil) Y (.lent 0 (.inl Y) Y (ro1 (by exact tZ_91.symm)<|rlc (.dat Y)<|rlc (.dat Y)<|rlc (.dat Y)<|rlc (.dat Y)<|rlc (.dat Y)<|rlc (.own _<|.inr ⟨Nat.le_of_ble_eq_true Y,Y⟩)<|rlc (.own _<|.inr ⟨Nat.le_of_ble_eq_true Y,Y⟩) rln)<|.none<|.none<|.none<|.none<|.keep Y Y<|.keep Y Y<|.lent 3 (.inr ⟨Nat.le_of_ble_eq_true Y,Y⟩) Y (roM D44)<|.lent 4 (.inr ⟨Nat.le_of_ble_eq_true Y,Y⟩) Y (roM D120) .nil) Y Y<|JO<|rld Y)<|Rm Y<|Rq Y (Zq (ov Y) Y)<|Rq Y (Zq (ov Y) Y)<|Ra Y<|Ra Y<|Za<|I1 (fun i=>⟨[(0,.ptr 0 1 0 0),(3,.rp [.int .i64 frame] 0),(6,.ptr 5 1 0 0),(7,.fn 41 [.rp [.int .i64 frame] 0,.ptr 5 1 0 0]),(8,.int .i64 i)],[some ⟨91,[[.sl 49 (List.map R49 r_.p.Instruments),.sl 54 (List.map R54 r_.l),.int .i64 r_.keep,.int .i64 r_.state.Frame,.sl 99 (List.map R99 r_.state.Memos),.own 3 r_.kept.length,.own 4 r_.marks.length]]⟩,none,none,some ⟨44,List.map R44 r_.kept⟩,some ⟨120,List.map R120 r_.marks⟩,some ⟨44,[[.int .i64 y2.Frame,.own 6 y2.Memos.length]]⟩,some ⟨99,List.map R99 y2.Memos⟩]⟩) h (fun h=>?_) fun i h=>?_
  ·
   refine K6 0 3 6 7 8 9 Y<|Tr<|Rm Y<|Za<|K6 0 3 6 7 8 26 Y<|If h Y (fun h=>?_) fun h=>?_
   ·
    exact K5 0 3 6 7 8 Y<|Zw<|Rm Y<|R2 QB Y<|Ra Y<|Za<|⟨_,h,ES [some 0,some 1,some 2,some 7,some 8,some 6,some 5]⟩
   ·
    exact Zh<|⟨_,h,ES [some 0,some 1,some 2,some 7,some 8,some 6,some 5]⟩
  ·
   refine I2 (fun Frame Memos=>⟨[(0,.ptr 0 1 0 0),(3,.rp [.int .i64 frame] 0),(6,.ptr 5 1 0 0),(7,.fn 41 [.rp [.int .i64 frame] 0,.ptr 5 1 0 0])],[some ⟨91,[[.sl 49 (List.map R49 r_.p.Instruments),.sl 54 (List.map R54 r_.l),.int .i64 r_.keep,.int .i64 r_.state.Frame,.sl 99 (List.map R99 r_.state.Memos),.own 3 r_.kept.length,.own 4 r_.marks.length]]⟩,none,none,some ⟨44,List.map R44 r_.kept⟩,some ⟨120,List.map R120 r_.marks⟩,some ⟨44,[[.int .i64 Frame,.own 6 Memos.length]]⟩,some ⟨99,List.map R99 Memos⟩]⟩) h (fun h=>?_) fun Frame Memos h=>?_
   ·
    refine Tr<|Rm Y<|R2 Qq Y<|Za<|K6 0 3 6 7 8 30 Y<|If h Y (fun h=>?_) fun h=>?_
    ·
     exact K5 0 3 6 7 8 Y<|Zw<|Rm Y<|Rm Y<|Rq Y (Zg (ov Y) Y Y)<|Rq Y (Zb (ov Y) Y Y QX)<|Rq Y (Zi (ov Y) Y Y Y Jd Y)<|Rm Y<|R2 Zdi Y<|bE h fun x h_x h=>Rq Y (ZaY (ov Y) (ov Y) XE Y Y h_x)<|Rq Y (ZfH (ov Y) Y Y h_x QR Y Y)<|bE h fun y4 h_y4 h=>Rx Y (ZlR [5,6] (ov Y) (rlc (.dat Y)<|rlc (.ptr (r':=0) _ _ _ Y) rln) (.cons (ov Y) (Zbw<|rld Y) .nil) (ZcY h_y4) (.cons Y (ro1 (by exact tZ_44.symm)<|rlc (.dat Y)<|rlc (.own _ Y) rln)<|.cons Y (roM D99) .nil) Y (.keep Y Y<|.none<|.none<|.keep Y Y<|.keep Y Y<|.lent 0 (.inl Y) Y (ro1 (by exact tZ_44.symm)<|rlc (.dat Y)<|rlc (.own _<|.inr ⟨Nat.le_of_ble_eq_true Y,Y⟩) rln)<|.none<|.lent 2 (.inr ⟨Nat.le_of_ble_eq_true Y,Y⟩) Y (roM D99) .nil) Y Y<|JO<|rld Y)<|Za<|⟨_,h,ES [some 0,some 1,some 2,some 3,some 4,some 5,some 7]⟩
    ·
     exact Zh<|⟨_,h,ES [some 0,some 1,some 2,some 3,some 4,some 5,some 6]⟩
   ·
    refine Tr<|Rm Y<|Rm Y<|Rq Y (Zg (ov Y) Y Y)<|Rq Y (Zb (ov Y) Y Y Zax)<|Rq Y (ZG (ov Y) Y Y Y QR Y Y)<|bE h fun y5 h_y5 h=>Rx Y (ZlR [5,6] (ov Y) (rlc (.dat Y)<|rlc (.ptr (r':=0) _ _ _ Y) rln) (.cons (ov Y) (Zbw<|rld Y) .nil) (ZcY h_y5) (.cons Y (ro1 (by exact tZ_44.symm)<|rlc (.dat Y)<|rlc (.own _ Y) rln)<|.cons Y (roM D99) .nil) Y (.keep Y Y<|.none<|.none<|.keep Y Y<|.keep Y Y<|.lent 0 (.inl Y) Y (ro1 (by exact tZ_44.symm)<|rlc (.dat Y)<|rlc (.own _<|.inr ⟨Nat.le_of_ble_eq_true Y,Y⟩) rln)<|.none<|.lent 2 (.inr ⟨Nat.le_of_ble_eq_true Y,Y⟩) Y (roM D99) .nil) Y Y<|JO<|rld Y)<|Za<|K3 0 3 6 Y<|Tr<|Rm Y<|Rq Y (ZG (ov Y) Y Y Y QR Y Y)<|Rq Y (Zg (ov Y) Y Y)<|Rq Y (Zb (ov Y) Y Y Zax)<|Rx Y (Zk (ov Y) (ov Y) (Zo QR Y) Y Y Y (Nat.le_of_ble_eq_true Y) (Zd Y) Y)<|Za<|K3 0 3 6 Y<|Tr<|Rq Y (Zc (ov Y) tS3 Y)<|Rq Y (Zb (ov Y) Y Y Qi)<|Rq Y (Zi (ov Y) Y Y Y tS3 Y)<|R2 Zdi Y<|Ra Y<|Za<|K2 0 10 Y<|Tr<|Rm Y<|Rm Y<|bE h fun y6 h_y6 h=>Rx Y (ZK [0,7,3,4] (ZcW h_y6) (.cons (ov Y) (.ptr _ _ _ Y)<|.cons (ov Y) (.dat Y) .nil) (.cons Y (ro1 (by exact tZ_91.symm)<|rlc (.dat Y)<|rlc (.dat Y)<|rlc (.dat Y)<|rlc (.dat Y)<|rlc (.own _ Y)<|rlc (.own _ Y)<|rlc (.own _ Y) rln)<|.cons Y (roM D99)<|.cons Y (roM D44)<|.cons Y (roM D120) .nil) Y (.lent 0 (.inl Y) Y (ro1 (by exact tZ_91.symm)<|rlc (.dat Y)<|rlc (.dat Y)<|rlc (.dat Y)<|rlc (.dat Y)<|rlc (.dat Y)<|rlc (.own _<|.inr ⟨Nat.le_of_ble_eq_true Y,Y⟩)<|rlc (.own _<|.inr ⟨Nat.le_of_ble_eq_true Y,Y⟩) rln)<|.none<|.none<|.none<|.none<|.keep Y Y<|.none<|.none<|.lent 4 (.inr ⟨Nat.le_of_ble_eq_true Y,Y⟩) Y (roM D44)<|.lent 5 (.inr ⟨Nat.le_of_ble_eq_true Y,Y⟩) Y (roM D120) .nil) Y Y<|JO<|rld Y)<|Za<|K1 10 Y<|Tr<|Rm Y<|Ra Y<|Ra Y<|Za<|?_
    obtain rfl:=rt h
    exact Zj<|XB [some 0,some 1,some 2,some 8,some 9] Y (.cons (.tmp Y)<|.cons (.tmp Y) .nil) (.cons Y (ro1 (by exact tZ_91.symm)<|rlc (.dat Y)<|rlc (.dat Y)<|rlc (.dat Y)<|rlc (.dat Y)<|rlc (.dat Y)<|rlc (.own _ Y)<|rlc (.own _ Y) rln)<|.dead<|.dead<|.cons Y (roM D44)<|.cons Y (roM D120) .nil) Y Y<|JO<|rlc (.dat Y)<|rlc (.dat Y) rln
end Go.Proofs.YtailpehcgelmdaaGreatDoor
