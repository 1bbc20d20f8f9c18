/- A text of the proof: a verified executor of the program form, or the contracts of the functions that the law reaches. -/
import Derived.Test.YtailpehcgelmdaaGreatDoorOkPa
set_option linter.all false
namespace Go.Proofs.YtailpehcgelmdaaGreatDoor
open Go Go.Vx
set_option maxRecDepth 10000
set_option maxHeartbeats 1000000
set_option linter.unusedVariables false
theorem Zkw{p:api_Panel}{r:api_PanelState}(h:XS p=some r):
 CSpec Tryz.prog gl0 40 [.agg [.sl 49 (List.map R49 p.Instruments)]] (.agg [.int .i64 r.Frame,.sl 99 (List.map R99 r.Memos)]):=by
 unfold XS at h
 replace h:=ZO h
 refine So Tryz.func40 Y fun w0 A=>Tr<|Rq Y (ZP (cva<|ov Y) Y tZ_24 Y)<|Rx Y (Zz (row:= [_,_]) 0 Y ZcT Y tZ_44)<|Za<|K2 1 2 Y<|Tr<|Rq Y (Ze (ov Y) Zbj)<|Rq Y (Zc (ov Y) Zf0 Y)<|Rl tZ_49 ZcI Y<|bE h fun l h_l h=>Rx Y (ZlG [none,none,none,none,some 3] (r:=1) (f:=R99) (z0:=(api_Memo.mk false false 0 0 [])) Y (ov Y) (ov Y) ZcA Y ZkQ Y Y h_l)<|Rq Y (QU (ys:= [_,_]) Zid Zil ZcT (.cons (cvs (ov Y)<|ZB Y)<|.cons (cvs (ov Y)<|ZB Y) .nil) Y)<|Rx Y (Zk (ov Y) (ov Y) (Zo QR Y) Y Y Y (Nat.le_of_ble_eq_true Y) (Zd Y) Y)<|Za<|?_
 obtain rfl:=rt h
 exact Zj (Zu Y (.one<|.agg Y Y Y Y QR Y Y<|.cons (Dat.view<|.b Y)<|.cons (View.ownM Y Y D99) .nil))
theorem Zgx{p:api_Panel}{l:List api_Track}{keep:Int}{r:(Int) ⊕ (panel_Replay×Int)}(h:Zad p l keep=some r):
 GSpec Tryz.prog gl0 8 [.agg [.sl 49 (List.map R49 p.Instruments)],.sl 54 (List.map R54 l),.int .i64 keep] [] (Sum.elim (fun r=> .tuple [.lit (.pointer none),.int .i64 r]) (fun r=> .tuple [.ptr 0 1 0 0,.int .i64 r.2]) r) (Sum.elim (fun r=> []) (fun r=> [some ⟨91,[[.sl 49 (List.map R49 r.1.p.Instruments),.sl 54 (List.map R54 r.1.l),.int .i64 r.1.keep,.int .i64 r.1.state.Frame,.sl 99 (List.map R99 r.1.state.Memos),.own 1 r.1.kept.length,.own 2 r.1.marks.length]]⟩,some ⟨44,List.map R44 r.1.kept⟩,some ⟨120,List.map R120 r.1.marks⟩]) r):=by
 unfold Zad at h
 replace h:=ZO h
 refine Z1 (by kernel_rfl) Tryz.func8 Y Y<|?_
 intro w0 A W φ0
 refine Tr<|Rq Y (ZP (cva<|ov Y) Y tZ_24 Y)<|Ra Y<|Ra Y<|Za<|Zm<|K3 1 2 3 Y<|Tr<|Rq Y (Zr (ov Y) Zd7 Y Y)<|Rm Y<|bE h fun y h_y h=>Rq Y (Zn (ZhY h_y)<|.cons (ov Y) (.aggB Y)<|.cons (ov Y) (.b Y) .nil)<|Ra Y<|Za<|K4 1 2 3 8 Y<|Tr<|Rm Y<|R2 Qo Y<|Za<|K5 1 2 3 8 13 Y<|If h Y (fun h=>?_) fun h=>?_
 ·
  refine K1 8 Y<|Tr<|Rm Y<|Ra Y<|Ra Y<|Za<|?_
  obtain rfl:=rt h
  exact Zj<|XB [] Y (.cons (.tmp Y)<|.cons (.tmp Y) .nil) .nil Y Y<|JO<|rlc (.dat Y)<|rlc (.dat Y) rln
 ·
  refine Zh<|Zm<|K3 1 2 3 Y<|Tr<|Rm Y<|bE h fun y2 h_y2 h=>Rq Y (Zn (QK h_y2)<|.cons (ov Y) (.b Y)<|.cons (ov Y) (.b Y)<|.cons (ov Y) (.b Y) .nil)<|R1 QA Y<|Za<|K4 1 2 3 17 Y<|If h Y (fun h=>?_) fun h=>?_
  ·
   refine K0<|Tr<|Ra Y<|Ra Y<|Za<|?_
   obtain rfl:=rt h
   exact Zj<|XB [] Y (.cons (.tmp Y)<|.cons (.tmp Y) .nil) .nil Y Y<|JO<|rlc (.dat Y)<|rlc (.dat Y) rln
  ·
   refine Zh<|K3 1 2 3 Y<|Td md0<|Dq 0 Y (Zr (ov Y) Zd7 Y Y)<|bE h fun y3 h_y3 h=>Dq 1 Y (Zn (ZhK h_y3)<|.cons (ov Y) (.aggB Y) .nil)<|D1 2 Zf Y<|bE h fun y4 h_y4 h=>Dq 3 Y (Zn (Zhg h_y4)<|.cons (ov Y) (.b Y) .nil)<|D1 4 Zf Y<|Dq 5 Y (Zr (ov Y) Zd7 Y Y)<|bE h fun y5 h_y5 h=>Dq 6 Y (Zn (Zkw h_y5)<|.cons (ov Y) (.aggB Y) .nil)<|Dq 7 Y (QU (ys:= [_,_,_,_,_,_,_]) ZqX ZqJ Zrc (.cons (cva<|ov Y)<|.cons (cvs (ov Y)<|ZB Y)<|.cons (cvs (ov Y)<|ZB Y)<|.cons (cva<|ov Y) .nil) Y)<|Zod 8 _ _ Y (by kernel_rfl) Y Y (fun _=>Ext.app) (fun h=>by cases h) (Zk9 0 Y (ov Y) Zra Y)<|D1 9 Qp Y<|D1 10 Qp Y<|Dd<|?_
   obtain rfl:=rt h
   exact Zj<|XB [some 0,none,none] Y (.cons (.tmp Y)<|.cons (.tmp Y) .nil) (.cons Y (ro1 (by exact tZ_91.symm)<|rlc (.dat Y)<|rlc (.dat Y)<|rlc (.dat Y)<|rlc (.dat Y)<|rlc (.dat Y)<|rlc (.row Y)<|rlc (.row Y) rln)<|.row 44<|.row 120 .nil) Y Y<|JO<|rlc (.ptr _ _ _ Y)<|rlc (.dat Y) rln
theorem ZeE{p:api_Panel}{l:List api_Track}{keep:Int}{r:Int}(h:Zad p l keep=some (.inl r)):
    GSpec Tryz.prog gl0 8 [.agg [.sl 49 (List.map R49 p.Instruments)],.sl 54 (List.map R54 l),.int .i64 keep] [] (.tuple [.lit (.pointer none),.int .i64 r]) []:=Zgx h
theorem ZeU{p:api_Panel}{l:List api_Track}{keep:Int}{r:panel_Replay×Int}(h:Zad p l keep=some (.inr r)):
    GSpec Tryz.prog gl0 8 [.agg [.sl 49 (List.map R49 p.Instruments)],.sl 54 (List.map R54 l),.int .i64 keep] [] (.tuple [.ptr 0 1 0 0,.int .i64 r.2]) [some ⟨91,[[.sl 49 (List.map R49 r.1.p.Instruments),.sl 54 (List.map R54 r.1.l),.int .i64 r.1.keep,.int .i64 r.1.state.Frame,.sl 99 (List.map R99 r.1.state.Memos),.own 1 r.1.kept.length,.own 2 r.1.marks.length]]⟩,some ⟨44,List.map R44 r.1.kept⟩,some ⟨120,List.map R120 r.1.marks⟩]:=Zgx h
theorem Q5{n:Int}{low:Int}{high:Int}{r:Bool}(h:Z0 n low high=some r):
 CSpec Tryz.prog gl0 47 [.int .i64 n,.int .i64 low,.int .i64 high] (.bool r):=by
 unfold Z0 at h
 replace h:=ZO h
 refine So Tryz.func47 Y fun w0 A=>Tr<|Ra Y<|Za<|Tr<|Rm Y<|Rm Y<|R2 ZV Y<|Rm Y<|Rq Y (.guarded ((decide (n<low))==false) Y Y Y Y fun h=>Zf<|ov Y)<|Rq Y (.guarded ((decide (n<low))==false) Y Y Y Y fun h=>Zf<|ov Y)<|Rq Y (.guarded ((decide (n<low))==false) Y Y Y Y fun h=>Qq (ow Y h)<|ow Y h)<|Rq Y (Xi (ov Y) fun hp=>ow Y<|gF hp)<|Ra Y<|Za<|?_
 obtain rfl:=rt h
 exact Zj (Zu Y (.one<|rb Y))
theorem ZgR{s:Str}{r:Bool}(h:ZcM s=some r):
 CSpec Tryz.prog gl0 139 [.str s] (.bool r):=by
 unfold ZcM at h
 replace h:=ZO h
 refine So Tryz.func139 Y fun w0 A=>Tr<|Ra Y<|Za<|J0 (fun j=>(.inr j)) ⟨[(0,.str s)],[]⟩ h (fun h=>?_) fun h=>?_
 ·
  refine K1 0 Y<|Tr<|Ra Y<|Za<|Zl<|?_
  obtain⟨r1,hl1,ho1⟩:=Xa h
  refine L1 (fun i=>⟨[(0,.str s),(3,.int .i64 i)],[]⟩) hl1 (ES []) fun n1 i h=>?_
  unfold ZaM at h
  refine Zm<|Tr<|Rm Y<|Rm Y<|Rq Y (Qm (ov Y) Qr Y)<|R2 ZV Y<|Za<|K3 0 3 8 Y<|If h Y (fun h=>?_) fun h=>?_
  ·
   refine Zh<|Zm<|Zl<|K2 0 3 Y<|Tr<|Rm Y<|Rm Y<|bE h fun b h_b h=>Rq Y (XF (ov Y) (ov Y) Qr h_b)<|Ra Y<|Za<|K3 0 3 4 Y<|Tr<|Rm Y<|R2 Zaj Y<|Rm Y<|Rq Y (.guarded ((decide (97≤b))==true) Y Y Y Y fun h=>Zf<|ov Y)<|Rq Y (.guarded ((decide (97≤b))==true) Y Y Y Y fun h=>ZaD (ow Y h)<|ov Y)<|Rq Y (ZQ (ov Y) fun hp=>ow Y<|gT hp)<|Rm Y<|Rq Y (.guarded (((decide (97≤b))&&(decide (b≤122)))==false) Y Y Y Y fun h=>Zf<|ov Y)<|Rq Y (.guarded (((decide (97≤b))&&(decide (b≤122)))==false) Y Y Y Y fun h=>Zaj (ow Y h)<|ov Y)<|Rq Y (.guarded (((decide (97≤b))&&(decide (b≤122)))==false) Y Y Y Y fun h=>Zf<|ow Y h)<|Rq Y (.guarded2 ((((decide (97≤b))&&(decide (b≤122)))==false)&&((decide (48≤b))==true)) Y Y Y Y fun h=>Zf<|ov Y)<|Rq Y (.guarded2 ((((decide (97≤b))&&(decide (b≤122)))==false)&&((decide (48≤b))==true)) Y Y Y Y fun h=>ZaD (ow Y h)<|ov Y)<|Rq Y (.guarded (((decide (97≤b))&&(decide (b≤122)))==false) Y Y Y Y fun h=>ZQ (ow Y h) fun hp=>ow Y<|gA h<|gT hp)<|Rq Y (Xi (ov Y) fun hp=>ow Y<|gF hp)<|Rm Y<|Rq Y (.guarded ((((decide (97≤b))&&(decide (b≤122))) || ((decide (48≤b))&&(decide (b≤57))))==false) Y Y Y Y fun h=>Zf<|ov Y)<|Rq Y (.guarded ((((decide (97≤b))&&(decide (b≤122))) || ((decide (48≤b))&&(decide (b≤57))))==false) Y Y Y Y fun h=>ZT (ow Y h)<|ov Y)<|Rq Y (Xi (ov Y) fun hp=>ow Y<|gF hp)<|R1 QA Y<|Za<|K3 0 3 32 Y<|If h Y (fun h=>?_) fun h=>?_
   ·
    refine K0<|Tr<|Ra Y<|Za<|?_
    replace h:=lx h▸ho1
    obtain rfl:=rt h
    exact Zj (Zu Y (.one<|rb Y))
   ·
    exact Zh<|K2 0 3 Y<|Zw<|Rm Y<|R2 QB Y<|Ra Y<|Za<|⟨_,h,ES []⟩
  ·
   refine ZL<|?_
   replace h:=lx h▸ho1
   exact⟨(),h,ES []⟩
 ·
  replace h:=elr h
  replace h:=t0i h
  refine Tr<|Rm Y<|Rq Y (Qm (ov Y) Qr Y)<|R2 Zaj Y<|Rm Y<|Rq Y (.guarded ((decide (1≤(s.length:Int)))==true) Y Y Y Y fun h=>Zf<|ov Y)<|Rq Y (.guarded ((decide (1≤(s.length:Int)))==true) Y Y Y Y fun h=>Qm (ow Y h) Qr Y)<|Rq Y (.guarded ((decide (1≤(s.length:Int)))==true) Y Y Y Y fun h=>ZaD (ow Y h)<|ov Y)<|Rq Y (ZQ (ov Y) fun hp=>ow Y<|gT hp)<|Ra Y<|Za<|?_
  obtain rfl:=rt h
  exact Zj (Zu Y (.one<|rb Y))
theorem Zjc{kind:Int}{l:List Int}{r:Bool}(h:Zfw kind l=some r):
 CSpec Tryz.prog gl0 100 [.int .i64 kind,.sl 3 (List.map R3 l)] (.bool r):=by
 unfold Zfw at h
 replace h:=ZO h
 refine So Tryz.func100 Y fun w0 A=>Tr<|Ra Y<|Za<|J0 (fun j=>(.inr j)) ⟨[],[]⟩ h (fun h=>?_) fun h=>?_
 ·
  refine K2 0 1 Y<|Tr<|Rm Y<|Rl tZ_3 J3 Y<|Rm Y<|Za<|Zl<|?_
  obtain⟨r1,hl1,ho1⟩:=Xa h
  refine L1 (fun i=>⟨[(0,.int .i64 kind),(7,.sl 3 (List.map R3 l)),(8,.int .i64 (l.length:Int)),(9,.int .i64 i)],[]⟩) hl1 (ES []) fun n1 i h=>?_
  unfold ZcL at h
  refine Tr<|R2 ZV Y<|Za<|Zm<|If h Y (fun h=>?_) fun h=>?_
  ·
   refine Zh<|Zm<|Zl<|K4 0 7 8 9 Y<|Tr<|bE h fun x h_x h=>Rq Y (ZU (ov Y) (ov Y) J3 h_x)<|Rq Y (Zc (ov Y) tS3 Y)<|Ra Y<|Za<|K5 0 6 7 8 9 Y<|Tr<|Rm Y<|Rm Y<|R2 ZT Y<|Za<|K5 0 7 8 9 15 Y<|If h Y (fun h=>?_) fun h=>?_
   ·
    refine K0<|Tr<|Ra Y<|Za<|?_
    replace h:=lx h▸ho1
    obtain rfl:=rt h
    exact Zj (Zu Y (.one<|rb Y))
   ·
    exact Zh<|K4 0 7 8 9 Y<|Zw<|R2 QB Y<|Rm Y<|Za<|⟨_,h,ES []⟩
  ·
   refine ZL<|?_
   replace h:=lx h▸ho1
   exact⟨(),h,ES []⟩
 ·
  replace h:=elr h
  replace h:=t0i h
  refine Tr<|Ra Y<|Za<|?_
  obtain rfl:=rt h
  exact Zj (Zu Y (.one<|rb Y))
theorem Zkr{i:api_Instrument}{r:Bool}(h:ZdR i=some r):
 CSpec Tryz.prog gl0 140 [.agg [.int .i64 i.Kind,.str i.Name,.str i.Track,.int .i64 i.Places,.int .i64 i.Low,.int .i64 i.High,.int .i64 i.Steps,.sl 136 (List.map R136 i.Zones),.int .i64 i.Op,.int .i64 i.N,.bool i.Latch,.int .i64 i.Size]] (.bool r):=by
 unfold ZdR at h
 replace h:=ZO h
 refine So Tryz.func140 Y fun w0 A=>Tr<|Rq Y (ZP (cva<|ov Y) Y tZ_49 Y)<|Ra Y<|Za<|K1 1 Y<|Tr<|Rq Y (Ze (ov Y) JK)<|Rq Y (Zc (ov Y) tS3 Y)<|R2 ZT Y<|Ra Y<|Za<|Zm<|Zl<|K2 1 3 Y<|Tr<|Rq Y (Ze (ov Y) ZeK)<|Rq Y (Zc (ov Y) tS3 Y)<|R2 Qo Y<|Rm Y<|Rq Y (.guarded ((!decide (i.Places=0))==true) Y Y Y Y fun h=>Ze (ov Y) JK)<|Rq Y (.guarded ((!decide (i.Places=0))==true) Y Y Y Y fun h=>Zc (ow Y h) tS3 Y)<|R_q (.when ((!decide (i.Places=0))==true)<|.sl 3<|List.map R3 ([1,4,6]:List Int)) Y (.guarded ((!decide (i.Places=0))==true) Y Y Y Y fun h=>ZbU J3 (.cons (cvs (ov Y)<|ZB Y) Y (.cons (.b Y) .nil)<|.cons (cvs (ov Y)<|ZB Y) Y (.cons (.b Y) .nil)<|.cons (cvs (ov Y)<|ZB Y) Y (.cons (.b Y) .nil) .nil) Y Y)<|bE h fun y h_y h=>Rq Y (.guarded ((!decide (i.Places=0))==true) Y Y Y Y fun h=>Zn (Zjc<|gdT h_y h)<|.cons (ow Y h) (.b Y)<|.cons (ow Y h) (.b Y) .nil)<|Rq Y (.guarded ((!decide (i.Places=0))==true) Y Y Y Y fun h=>QA<|ow Y h)<|Rq Y (ZQ (ov Y) fun hp=>ow Y<|gT hp)<|Ra Y<|Za<|K3 1 3 7 Y<|If h Y (fun h=>?_) fun h=>?_
 ·
  refine K0<|Tr<|Ra Y<|Za<|?_
  obtain rfl:=rt h
  exact Zj (Zu Y (.one<|rb Y))
 ·
  refine K2 1 3 Y<|Tr<|Rm Y<|R1 QA Y<|Rm Y<|Rq Y (.guarded ((!(decide (i.Kind=2)))==true) Y Y Y Y fun h=>Ze (ov Y) ZdX)<|Rq Y (.guarded ((!(decide (i.Kind=2)))==true) Y Y Y Y fun h=>Zc (ow Y h) tS3 Y)<|Rq Y (.guarded ((!(decide (i.Kind=2)))==true) Y Y Y Y fun h=>Qo (ow Y h)<|ov Y)<|Rq Y (.guarded ((!(decide (i.Kind=2)))==true) Y Y Y Y fun h=>Zf<|ow Y h)<|Rq Y (.guarded2 (((!(decide (i.Kind=2)))==true)&&((!decide (i.Low=0))==false)) Y Y Y Y fun h=>Ze (ov Y) Zfl)<|Rq Y (.guarded2 (((!(decide (i.Kind=2)))==true)&&((!decide (i.Low=0))==false)) Y Y Y Y fun h=>Zc (ow Y h) tS3 Y)<|Rq Y (.guarded2 (((!(decide (i.Kind=2)))==true)&&((!decide (i.Low=0))==false)) Y Y Y Y fun h=>Qo (ow Y h)<|ov Y)<|Rq Y (.guarded ((!(decide (i.Kind=2)))==true) Y Y Y Y fun h=>Xi (ow Y h) fun hp=>ow Y<|gA h<|gF hp)<|Rq Y (.guarded ((!(decide (i.Kind=2)))==true) Y Y Y Y fun h=>Zf<|ow Y h)<|Rq Y (.guarded2 (((!(decide (i.Kind=2)))==true)&&(((!decide (i.Low=0)) || (!decide (i.High=0)))==false)) Y Y Y Y fun h=>Ze (ov Y) ZgO)<|Rq Y (.guarded2 (((!(decide (i.Kind=2)))==true)&&(((!decide (i.Low=0)) || (!decide (i.High=0)))==false)) Y Y Y Y fun h=>Zc (ow Y h) tS3 Y)<|Rq Y (.guarded2 (((!(decide (i.Kind=2)))==true)&&(((!decide (i.Low=0)) || (!decide (i.High=0)))==false)) Y Y Y Y fun h=>Qo (ow Y h)<|ov Y)<|Rq Y (.guarded ((!(decide (i.Kind=2)))==true) Y Y Y Y fun h=>Xi (ow Y h) fun hp=>ow Y<|gA h<|gF hp)<|Rq Y (.guarded ((!(decide (i.Kind=2)))==true) Y Y Y Y fun h=>Zf<|ow Y h)<|Rq Y (.guarded2 (((!(decide (i.Kind=2)))==true)&&((((!decide (i.Low=0)) || (!decide (i.High=0))) || (!decide (i.Steps=0)))==false)) Y Y Y Y fun h=>Ze (ov Y) Zd6)<|Rq Y (.guarded2 (((!(decide (i.Kind=2)))==true)&&((((!decide (i.Low=0)) || (!decide (i.High=0))) || (!decide (i.Steps=0)))==false)) Y Y Y Y fun h=>Zc (ow Y h) ZjB Y)<|Rq Y (.guarded2 (((!(decide (i.Kind=2)))==true)&&((((!decide (i.Low=0)) || (!decide (i.High=0))) || (!decide (i.Steps=0)))==false)) Y Y Y Y fun h=>Zni (XW (ow Y h) tZ_136) Zhc<|ZjH _ _)<|Rq Y (.guarded2 (((!(decide (i.Kind=2)))==true)&&((((!decide (i.Low=0)) || (!decide (i.High=0))) || (!decide (i.Steps=0)))==false)) Y Y Y Y fun h=>Qq (ow Y h)<|ov Y)<|Rq Y (.guarded ((!(decide (i.Kind=2)))==true) Y Y Y Y fun h=>Xi (ow Y h) fun hp=>ow Y<|gA h<|gF hp)<|Rq Y (ZQ (ov Y) fun hp=>ow Y<|gT hp)<|Ra Y<|Za<|K2 1 18 Y<|If h Y (fun h=>?_) fun h=>?_
  ·
   refine K0<|Tr<|Ra Y<|Za<|?_
   obtain rfl:=rt h
   exact Zj (Zu Y (.one<|rb Y))
  ·
   refine K1 1 Y<|Tr<|Rq Y (Ze (ov Y) Zhy)<|Rq Y (Zc (ov Y) tS3 Y)<|R2 Qo Y<|Rm Y<|Rq Y (.guarded ((!decide (i.Op=0))==false) Y Y Y Y fun h=>Ze (ov Y) ZhI)<|Rq Y (.guarded ((!decide (i.Op=0))==false) Y Y Y Y fun h=>Zc (ow Y h) tS3 Y)<|Rq Y (.guarded ((!decide (i.Op=0))==false) Y Y Y Y fun h=>Qo (ow Y h)<|ov Y)<|Rq Y (Xi (ov Y) fun hp=>ow Y<|gF hp)<|Rm Y<|Rq Y (.guarded (((!decide (i.Op=0)) || (!decide (i.N=0)))==true) Y Y Y Y fun h=>Ze (ov Y) JK)<|Rq Y (.guarded (((!decide (i.Op=0)) || (!decide (i.N=0)))==true) Y Y Y Y fun h=>Zc (ow Y h) tS3 Y)<|R_q (.when (((!decide (i.Op=0)) || (!decide (i.N=0)))==true)<|.sl 3<|List.map R3 ([3,5]:List Int)) Y (.guarded (((!decide (i.Op=0)) || (!decide (i.N=0)))==true) Y Y Y Y fun h=>ZbU J3 (.cons (cvs (ov Y)<|ZB Y) Y (.cons (.b Y) .nil)<|.cons (cvs (ov Y)<|ZB Y) Y (.cons (.b Y) .nil) .nil) Y Y)<|bE h fun y2 h_y2 h=>Rq Y (.guarded (((!decide (i.Op=0)) || (!decide (i.N=0)))==true) Y Y Y Y fun h=>Zn (Zjc<|gdT h_y2 h)<|.cons (ow Y h) (.b Y)<|.cons (ow Y h) (.b Y) .nil)<|Rq Y (.guarded (((!decide (i.Op=0)) || (!decide (i.N=0)))==true) Y Y Y Y fun h=>QA<|ow Y h)<|Rq Y (ZQ (ov Y) fun hp=>ow Y<|gT hp)<|Ra Y<|Za<|K2 1 42 Y<|If h Y (fun h=>?_) fun h=>?_
   ·
    refine K0<|Tr<|Ra Y<|Za<|?_
    obtain rfl:=rt h
    exact Zj (Zu Y (.one<|rb Y))
   ·
    refine K1 1 Y<|Tr<|Rq Y (Ze (ov Y) Zh1)<|Rq Y (Zc (ov Y) tS4 Y)<|Rm Y<|Rq Y (.guarded (i.Latch==true) Y Y Y Y fun h=>Ze (ov Y) JK)<|Rq Y (.guarded (i.Latch==true) Y Y Y Y fun h=>Zc (ow Y h) tS3 Y)<|Rq Y (.guarded (i.Latch==true) Y Y Y Y fun h=>Qo (ow Y h)<|ov Y)<|Rq Y (ZQ (ov Y) fun hp=>ow Y<|gT hp)<|Ra Y<|Za<|K2 1 58 Y<|If h Y (fun h=>?_) fun h=>?_
    ·
     refine K0<|Tr<|Ra Y<|Za<|?_
     obtain rfl:=rt h
     exact Zj (Zu Y (.one<|rb Y))
    ·
     refine Zh<|K1 1 Y<|Tr<|Rq Y (Ze (ov Y) Zg9)<|Rq Y (Zc (ov Y) tS3 Y)<|R2 Qo Y<|Rm Y<|Rq Y (.guarded ((!decide (i.Size=0))==true) Y Y Y Y fun h=>Ze (ov Y) JK)<|Rq Y (.guarded ((!decide (i.Size=0))==true) Y Y Y Y fun h=>Zc (ow Y h) tS3 Y)<|Rq Y (.guarded ((!decide (i.Size=0))==true) Y Y Y Y fun h=>Qo (ow Y h)<|ov Y)<|Rq Y (ZQ (ov Y) fun hp=>ow Y<|gT hp)<|Ra Y<|Za<|?_
     obtain rfl:=rt h
     exact Zj (Zu Y (.one<|rb Y))
theorem Zie{i:api_Instrument}{r:Int}(h:ZbZ i=some r):
 CSpec Tryz.prog gl0 141 [.agg [.int .i64 i.Kind,.str i.Name,.str i.Track,.int .i64 i.Places,.int .i64 i.Low,.int .i64 i.High,.int .i64 i.Steps,.sl 136 (List.map R136 i.Zones),.int .i64 i.Op,.int .i64 i.N,.bool i.Latch,.int .i64 i.Size]] (.int .i64 r):=by
 unfold ZbZ at h
 replace h:=ZO h
 refine So Tryz.func141 Y fun w0 A=>Tr<|Rq Y (ZP (cva<|ov Y) Y tZ_49 Y)<|Ra Y<|Za<|Zm<|K1 1 Y<|Tr<|Rq Y (Ze (ov Y) ZdX)<|Rq Y (Zc (ov Y) tS3 Y)<|Rq Y (Ze (ov Y) Zfl)<|Rq Y (Zc (ov Y) tS3 Y)<|R2 Zaj Y<|Rm Y<|Rq Y (.guarded ((decide (i.High≤i.Low))==false) Y Y Y Y fun h=>Ze (ov Y) ZdX)<|Rq Y (.guarded ((decide (i.High≤i.Low))==false) Y Y Y Y fun h=>Zc (ow Y h) tS3 Y)<|bE h fun y h_y h=>Rq Y (.guarded ((decide (i.High≤i.Low))==false) Y Y Y Y fun h=>Zn (Q5<|gdT h_y h)<|.cons (ow Y h) (.b Y)<|.cons (ov Y) (.b Y)<|.cons (ov Y) (.b Y) .nil)<|Rq Y (Xi (ov Y) fun hp=>ow Y<|gF hp)<|Rm Y<|Rq Y (.guarded (((decide (i.High≤i.Low)) || y)==false) Y Y Y Y fun h=>Ze (ov Y) Zfl)<|Rq Y (.guarded (((decide (i.High≤i.Low)) || y)==false) Y Y Y Y fun h=>Zc (ow Y h) tS3 Y)<|bE h fun y2 h_y2 h=>Rq Y (.guarded (((decide (i.High≤i.Low)) || y)==false) Y Y Y Y fun h=>Zn (Q5<|gdT h_y2 h)<|.cons (ow Y h) (.b Y)<|.cons (ov Y) (.b Y)<|.cons (ov Y) (.b Y) .nil)<|Rq Y (Xi (ov Y) fun hp=>ow Y<|gF hp)<|Rm Y<|Rq Y (.guarded ((((decide (i.High≤i.Low)) || y) || y2)==false) Y Y Y Y fun h=>Ze (ov Y) ZgO)<|Rq Y (.guarded ((((decide (i.High≤i.Low)) || y) || y2)==false) Y Y Y Y fun h=>Zc (ow Y h) tS3 Y)<|bE h fun y3 h_y3 h=>Rq Y (.guarded ((((decide (i.High≤i.Low)) || y) || y2)==false) Y Y Y Y fun h=>Zn (Q5<|gdT h_y3 h)<|.cons (ow Y h) (.b Y)<|.cons (ov Y) (.b Y)<|.cons (ov Y) (.b Y) .nil)<|Rq Y (Xi (ov Y) fun hp=>ow Y<|gF hp)<|Za<|K2 1 24 Y<|If h Y (fun h=>?_) fun h=>?_
 ·
  refine K0<|Tr<|Ra Y<|Za<|?_
  obtain rfl:=rt h
  exact Zj (Zu Y (.one<|rb Y))
 ·
  refine Zh<|Zm<|K1 1 Y<|Tr<|Rq Y (Ze (ov Y) Zd6)<|Rq Y (Zc (ov Y) ZjB Y)<|Rl tZ_136 Zhc Y<|R2 Qq Y<|Za<|K2 1 28 Y<|If h Y (fun h=>?_) fun h=>?_
  ·
   refine K0<|Tr<|Ra Y<|Za<|?_
   obtain rfl:=rt h
   exact Zj (Zu Y (.one<|rb Y))
  ·
   refine Zh<|J0 (fun j=>(.inr j)) ⟨[],[]⟩ h (fun h=>?_) fun h=>?_
   ·
    refine K1 1 Y<|Tr<|Rq Y (Ze (ov Y) Zd6)<|Rq Y (Zc (ov Y) ZjB Y)<|Rl tZ_136 Zhc Y<|Rm Y<|Za<|Zl<|?_
    obtain⟨r1,hl1,ho1⟩:=Xa h
    refine L1 (fun i2=>⟨[(1,.rp [.int .i64 i.Kind,.str i.Name,.str i.Track,.int .i64 i.Places,.int .i64 i.Low,.int .i64 i.High,.int .i64 i.Steps,.sl 136 (List.map R136 i.Zones),.int .i64 i.Op,.int .i64 i.N,.bool i.Latch,.int .i64 i.Size] 0),(30,.sl 136 (List.map R136 i.Zones)),(31,.int .i64 (i.Zones.length:Int)),(32,.int .i64 i2)],[]⟩) hl1 (ES []) fun n1 i2 h=>?_
    unfold Jv at h
    refine Tr<|R2 ZV Y<|Za<|Zm<|If h Y (fun h=>?_) fun h=>?_
    ·
     refine Zh<|Zm<|Zl<|K4 1 30 31 32 Y<|Tr<|Rm Y<|bE h fun x h_x h=>Rq Y (ZU (ov Y) (ov Y) Zhc h_x)<|Rq Y (Zr (ov Y) Zja Y Y)<|Rx Y (Zz (row:= [_,_,_]) 0 Y Znf Y tZ_136)<|Ra Y<|Rx Y (Zk (ov Y) (ov Y) (Zo Zja Y) Y Y Y (Nat.le_of_ble_eq_true Y) (Zd Y) Y)<|Za<|Zl<|K6 1 3 4 30 31 32 Y<|Tr<|Rq Y (Zb (ov Y) Y Y ZjG)<|Rq Y (Zi (ov Y) Y Y Y tS9 Y)<|bE h fun y4 h_y4 h=>Rq Y (Zn (ZgR h_y4)<|.cons (ov Y) (.b Y) .nil)<|R1 QA Y<|Ra Y<|Za<|K7 1 3 4 30 31 32 37 Y<|If h Y (fun h=>?_) fun h=>?_
     ·
      refine K0<|Tr<|Ra Y<|Za<|?_
      replace h:=lx h▸ho1
      obtain rfl:=rt h
      exact Zj (Zu Y (.one<|rb Y))
     ·
      refine K6 1 3 4 30 31 32 Y<|Tr<|Rq Y (Zb (ov Y) Y Y Zg1)<|Rq Y (Zi (ov Y) Y Y Y tS3 Y)<|Rq Y (Zb (ov Y) Y Y Zg7)<|Rq Y (Zi (ov Y) Y Y Y tS3 Y)<|R2 Qq Y<|Ra Y<|Za<|K7 1 3 4 30 31 32 42 Y<|If h Y (fun h=>?_) fun h=>?_
      ·
       refine K0<|Tr<|Ra Y<|Za<|?_
       replace h:=lx h▸ho1
       obtain rfl:=rt h
       exact Zj (Zu Y (.one<|rb Y))
      ·
       refine K6 1 3 4 30 31 32 Y<|Td md0<|D1 0 Zf Y<|D2 1 Qq Y<|D1 2 Zf Y<|Dq 3 Y (.guarded ((decide (0<i2))==true) Y Y Y Y fun h=>Zb (ov Y) Y Y Zg1)<|Dq 4 Y (.guarded ((decide (0<i2))==true) Y Y Y Y fun h=>Zi (ow Y h) Y Y Y tS3 Y)<|Dq 5 Y (.guarded ((decide (0<i2))==true) Y Y Y Y fun h=>Ze (ov Y) Zd6)<|Dq 6 Y (.guarded ((decide (0<i2))==true) Y Y Y Y fun h=>Zc (ow Y h) ZjB Y)<|Dq 7 Y (.guarded ((decide (0<i2))==true) Y Y Y Y fun h=>Zf<|ov Y)<|Dq 8 Y (.guarded ((decide (0<i2))==true) Y Y Y Y fun h=>Ze9 (ow Y h) (ov Y) Y)<|bE h fun x2 h_x2 h=>Dq 9 Y (.guarded ((decide (0<i2))==true) Y Y Y Y fun h=>ZU (ow Y h) (ow Y h) Zhc<|gdT h_x2 h)<|Dq 10 Y (.guarded ((decide (0<i2))==true) Y Y Y Y fun h=>Ze (ow Y h) Zg7)<|Dq 11 Y (.guarded ((decide (0<i2))==true) Y Y Y Y fun h=>Zc (ow Y h) tS3 Y)<|Dq 12 Y (.guarded ((decide (0<i2))==true) Y Y Y Y fun h=>ZaD (ow Y h)<|ow Y h)<|Dq 13 Y (ZQ (ov Y) fun hp=>ow Y<|gT hp)<|D1 14 Qp Y<|Dd<|K5 1 30 31 32 48 Y<|If h Y (fun h=>?_) fun h=>?_
       ·
        refine K0<|Tr<|Ra Y<|Za<|?_
        replace h:=lx h▸ho1
        obtain rfl:=rt h
        exact Zj (Zu Y (.one<|rb Y))
       ·
        exact Zh<|K4 1 30 31 32 Y<|Zw<|R2 QB Y<|Rm Y<|Za<|⟨_,h,ES []⟩
    ·
     refine ZL<|?_
     replace h:=lx h▸ho1
     exact⟨(),h,ES []⟩
   ·
    replace h:=elr h
    replace h:=t0i h
    refine Tr<|Ra Y<|Za<|?_
    obtain rfl:=rt h
    exact Zj (Zu Y (.one<|rb Y))
theorem ZfJ{i:api_Instrument}{r:Int}(h:Jp i=some r):
 CSpec Tryz.prog gl0 99 [.agg [.int .i64 i.Kind,.str i.Name,.str i.Track,.int .i64 i.Places,.int .i64 i.Low,.int .i64 i.High,.int .i64 i.Steps,.sl 136 (List.map R136 i.Zones),.int .i64 i.Op,.int .i64 i.N,.bool i.Latch,.int .i64 i.Size]] (.int .i64 r):=by
 unfold Jp at h
 replace h:=ZO h
 refine So Tryz.func99 Y fun w0 A=>Tr<|Rq Y (ZP (cva<|ov Y) Y tZ_49 Y)<|Ra Y<|Za<|Zm<|K1 1 Y<|Tr<|Rq Y (Ze (ov Y) JK)<|Rq Y (Zc (ov Y) tS3 Y)<|bE h fun y h_y h=>Rq Y (Zn (Q5 h_y)<|.cons (ov Y) (.b Y)<|.cons (ov Y) (.b Y)<|.cons (ov Y) (.b Y) .nil)<|Za<|K2 1 5 Y<|If h Y (fun h=>?_) fun h=>?_
 ·
  refine K0<|Tr<|Ra Y<|Za<|?_
  obtain rfl:=rt h
  exact Zj (Zu Y (.one<|rb Y))
 ·
  refine Zh<|Zm<|K1 1 Y<|Tr<|Rq Y (Ze (ov Y) ZiQ)<|Rq Y (Zc (ov Y) tS9 Y)<|bE h fun y2 h_y2 h=>Rq Y (Zn (ZgR h_y2)<|.cons (ov Y) (.b Y) .nil)<|R1 QA Y<|Rm Y<|Rq Y (.guarded ((!y2)==false) Y Y Y Y fun h=>Ze (ov Y) ZhO)<|Rq Y (.guarded ((!y2)==false) Y Y Y Y fun h=>Zc (ow Y h) tS9 Y)<|Rq Y (.guarded ((!y2)==false) Y Y Y Y fun h=>Qv (ow Y h)<|ov Y)<|Rq Y (Xi (ov Y) fun hp=>ow Y<|gF hp)<|Rm Y<|Rq Y (.guarded (((!y2) || (decide (i.Track= [])))==false) Y Y Y Y fun h=>Ze (ov Y) ZhO)<|Rq Y (.guarded (((!y2) || (decide (i.Track= [])))==false) Y Y Y Y fun h=>Zc (ow Y h) tS9 Y)<|Rq Y (.guarded (((!y2) || (decide (i.Track= [])))==false) Y Y Y Y fun h=>Qm (ow Y h) Qr Y)<|Rq Y (.guarded (((!y2) || (decide (i.Track= [])))==false) Y Y Y Y fun h=>Qq (ow Y h)<|ov Y)<|Rq Y (Xi (ov Y) fun hp=>ow Y<|gF hp)<|Za<|K2 1 20 Y<|If h Y (fun h=>?_) fun h=>?_
  ·
   refine K0<|Tr<|Ra Y<|Za<|?_
   obtain rfl:=rt h
   exact Zj (Zu Y (.one<|rb Y))
  ·
   refine Zh<|Zm<|K1 1 Y<|Tr<|Rq Y (Zr (ov Y) Zcj Y Y)<|bE h fun y3 h_y3 h=>Rq Y (Zn (Zkr h_y3)<|.cons (ov Y) (.aggB Y) .nil)<|Za<|K2 1 22 Y<|If h Y (fun h=>?_) fun h=>?_
   ·
    refine K0<|Tr<|Ra Y<|Za<|?_
    obtain rfl:=rt h
    exact Zj (Zu Y (.one<|rb Y))
   ·
    refine Zh<|Zm<|K1 1 Y<|Tr<|Rq Y (Ze (ov Y) ZeK)<|Rq Y (Zc (ov Y) tS3 Y)<|bE h fun y4 h_y4 h=>Rq Y (Zn (Q5 h_y4)<|.cons (ov Y) (.b Y)<|.cons (ov Y) (.b Y)<|.cons (ov Y) (.b Y) .nil)<|Za<|K2 1 25 Y<|If h Y (fun h=>?_) fun h=>?_
    ·
     refine K0<|Tr<|Ra Y<|Za<|?_
     obtain rfl:=rt h
     exact Zj (Zu Y (.one<|rb Y))
    ·
     refine Zh<|Zm<|K1 1 Y<|Tr<|Rq Y (Ze (ov Y) JK)<|Rq Y (Zc (ov Y) tS3 Y)<|Za<|Zl<|K2 1 27 Y<|Tr<|R2 ZT Y<|Ra Y<|Za<|K3 1 27 28 Y<|If h Y (fun h=>?_) fun h=>?_
     ·
      refine K1 1 Y<|Tr<|Rq Y (Zr (ov Y) Zcj Y Y)<|bE h fun y5 h_y5 h=>Rq Y (Zn (Zie h_y5)<|.cons (ov Y) (.aggB Y) .nil)<|Ra Y<|Za<|?_
      obtain rfl:=rt h
      exact Zj (Zu Y (.one<|rb Y))
     ·
      refine I1 (fun v=>⟨[(1,.rp [.int .i64 i.Kind,.str i.Name,.str i.Track,.int .i64 i.Places,.int .i64 i.Low,.int .i64 i.High,.int .i64 i.Steps,.sl 136 (List.map R136 i.Zones),.int .i64 i.Op,.int .i64 i.N,.bool i.Latch,.int .i64 i.Size] 0),(27,.int .i64 i.Kind),(32,.bool v)],[]⟩) h (fun h=>?_) fun v h=>?_
      ·
       refine K2 1 27 Y<|Tr<|R2 ZT Y<|Ra Y<|Za<|K3 1 27 32 Y<|If h Y (fun h=>?_) fun h=>?_
       ·
        exact Zh<|⟨_,h,ES []⟩
       ·
        exact Zw<|R2 ZT Y<|Ra Y<|Za<|⟨_,h,ES []⟩
      ·
       refine If h Y (fun h=>?_) fun h=>?_
       ·
        refine Zm<|K1 1 Y<|Tr<|Rq Y (Ze (ov Y) Zhy)<|Rq Y (Zc (ov Y) tS3 Y)<|bE h fun y6 h_y6 h=>Rq Y (Zn (Q5 h_y6)<|.cons (ov Y) (.b Y)<|.cons (ov Y) (.b Y)<|.cons (ov Y) (.b Y) .nil)<|Za<|K2 1 37 Y<|If h Y (fun h=>?_) fun h=>?_
        ·
         refine K0<|Tr<|Ra Y<|Za<|?_
         obtain rfl:=rt h
         exact Zj (Zu Y (.one<|rb Y))
        ·
         refine Zh<|K1 1 Y<|Tr<|Rq Y (Ze (ov Y) ZhI)<|Rq Y (Zc (ov Y) tS3 Y)<|bE h fun y7 h_y7 h=>Rq Y (Zn (Q5 h_y7)<|.cons (ov Y) (.b Y)<|.cons (ov Y) (.b Y)<|.cons (ov Y) (.b Y) .nil)<|Za<|K1 40 Y<|If h Y (fun h=>?_) fun h=>?_
         ·
          refine K0<|Tr<|Ra Y<|Za<|?_
          obtain rfl:=rt h
          exact Zj (Zu Y (.one<|rb Y))
         ·
          refine Zh<|K0<|Tr<|Ra Y<|Za<|?_
          obtain rfl:=rt h
          exact Zj (Zu Y (.one<|rb Y))
       ·
        refine K2 1 27 Y<|Tr<|R2 ZT Y<|Ra Y<|Za<|K2 1 41 Y<|If h Y (fun h=>?_) fun h=>?_
        ·
         refine K1 1 Y<|Tr<|Rq Y (Ze (ov Y) Zg9)<|Rq Y (Zc (ov Y) tS3 Y)<|bE h fun y8 h_y8 h=>Rq Y (Zn (Q5 h_y8)<|.cons (ov Y) (.b Y)<|.cons (ov Y) (.b Y)<|.cons (ov Y) (.b Y) .nil)<|Za<|K1 45 Y<|If h Y (fun h=>?_) fun h=>?_
         ·
          refine K0<|Tr<|Ra Y<|Za<|?_
          obtain rfl:=rt h
          exact Zj (Zu Y (.one<|rb Y))
         ·
          refine Zh<|K0<|Tr<|Ra Y<|Za<|?_
          obtain rfl:=rt h
          exact Zj (Zu Y (.one<|rb Y))
        ·
         refine Zh<|K0<|Tr<|Ra Y<|Za<|?_
         obtain rfl:=rt h
         exact Zj (Zu Y (.one<|rb Y))
theorem Zhl{p:api_Panel}{r:Int}(h:Zdk p=some r):
 CSpec Tryz.prog gl0 54 [.agg [.sl 49 (List.map R49 p.Instruments)]] (.int .i64 r):=by
 unfold Zdk at h
 replace h:=ZO h
 refine So Tryz.func54 Y fun w0 A=>Tr<|Rq Y (ZP (cva<|ov Y) Y tZ_24 Y)<|Ra Y<|Za<|Zm<|K1 1 Y<|Tr<|Rq Y (Ze (ov Y) Zbj)<|Rq Y (Zc (ov Y) Zf0 Y)<|Rl tZ_49 ZcI Y<|R2 Qq Y<|Za<|K2 1 11 Y<|If h Y (fun h=>?_) fun h=>?_
 ·
  refine K0<|Tr<|Ra Y<|Za<|?_
  obtain rfl:=rt h
  exact Zj (Zu Y (.one<|rb Y))
 ·
  refine Zh<|J0 (fun j=>(.inr j)) ⟨[],[]⟩ h (fun h=>?_) fun h=>?_
  ·
   refine K1 1 Y<|Tr<|Rq Y (Ze (ov Y) Zbj)<|Rq Y (Zc (ov Y) Zf0 Y)<|Rl tZ_49 ZcI Y<|Rm Y<|Za<|Zl<|?_
   obtain⟨r1,hl1,ho1⟩:=Xa h
   refine L1 (fun i=>⟨[(1,.rp [.sl 49 (List.map R49 p.Instruments)] 0),(13,.sl 49 (List.map R49 p.Instruments)),(14,.int .i64 (p.Instruments.length:Int)),(15,.int .i64 i)],[]⟩) hl1 (ES []) fun n1 i h=>?_
   unfold ZbK at h
   refine Tr<|R2 ZV Y<|Za<|Zm<|If h Y (fun h=>?_) fun h=>?_
   ·
    refine Zh<|J0 (fun j=>(.inr j)) ⟨[(1,.rp [.sl 49 (List.map R49 p.Instruments)] 0),(13,.sl 49 (List.map R49 p.Instruments)),(14,.int .i64 (p.Instruments.length:Int)),(15,.int .i64 i)],[]⟩ h (fun h=>?_) fun h=>?_
    ·
     refine Zl<|K4 1 13 14 15 Y<|Tr<|Rm Y<|bE h fun x h_x h=>Rq Y (ZU (ov Y) (ov Y) ZcI h_x)<|Rq Y (Zr (ov Y) Zcj Y Y)<|Rx Y (Zz (row:= [_,_,_,_,_,_,_,_,_,_,_,_]) 0 Y Zlw Y tZ_49)<|Ra Y<|Rx Y (Zk (ov Y) (ov Y) (Zo Zcj Y) Y Y Y (Nat.le_of_ble_eq_true Y) (Zd Y) Y)<|Za<|Zm<|K6 1 3 4 13 14 15 Y<|Tr<|Rq Y (ZG (ov Y) Y Y Y Zcj Y Y)<|bE h fun y h_y h=>Rq Y (Zn (ZfJ h_y)<|.cons (ov Y) (.aggB Y) .nil)<|Ra Y<|Za<|K7 1 3 4 5 13 14 15 Y<|Tr<|Rm Y<|R2 Qo Y<|Za<|K8 1 3 4 5 13 14 15 23 Y<|If h Y (fun h=>?_) fun h=>?_
     ·
      refine K1 5 Y<|Tr<|Rm Y<|Ra Y<|Za<|?_
      replace h:=lx h▸ho1
      obtain rfl:=rt h
      exact Zj (Zu Y (.one<|rb Y))
     ·
      refine Zh<|K6 1 3 4 13 14 15 Y<|Tr<|Rq Y (Ze (ov Y) Zbj)<|Rq Y (Zc (ov Y) Zf0 Y)<|Rm Y<|bE h fun l h_l h=>Rq Y (ZgG (ov Y) ZcI on (oi<|ov Y) h_l)<|Rl tZ_49 ZcI Y<|Rm Y<|Za<|Zl<|?_
      obtain⟨r2,hl2,ho2⟩:=Xa h
      refine L1 (fun i2=>⟨[(1,.rp [.sl 49 (List.map R49 p.Instruments)] 0),(4,.ptr 0 1 0 0),(13,.sl 49 (List.map R49 p.Instruments)),(14,.int .i64 (p.Instruments.length:Int)),(15,.int .i64 i),(28,.sl 49 (List.map R49 l)),(29,.int .i64 (l.length:Int)),(30,.int .i64 i2)],[some ⟨49,[[.int .i64 x.Kind,.str x.Name,.str x.Track,.int .i64 x.Places,.int .i64 x.Low,.int .i64 x.High,.int .i64 x.Steps,.sl 136 (List.map R136 x.Zones),.int .i64 x.Op,.int .i64 x.N,.bool x.Latch,.int .i64 x.Size]]⟩]⟩) hl2 (ES [some 0]) fun n2 i2 h=>?_
      unfold Zaw at h
      refine Tr<|R2 ZV Y<|Za<|Zm<|If h Y (fun h=>?_) fun h=>?_
      ·
       refine Zh<|Zm<|Zl<|K8 1 4 13 14 15 28 29 30 Y<|Tr<|bE h fun x2 h_x2 h=>Rq Y (ZU (ov Y) (ov Y) ZcI h_x2)<|Rq Y (Zr (ov Y) Zcj Y Y)<|Rx Y (Zz (row:= [_,_,_,_,_,_,_,_,_,_,_,_]) 1 Y Zlw Y tZ_49)<|Rx Y (Zk (ov Y) (ov Y) (Zo Zcj Y) Y Y Y (Nat.le_of_ble_eq_true Y) (Zd Y) Y)<|Za<|K9 1 4 7 13 14 15 28 29 30 Y<|Tr<|Rq Y (Zb (ov Y) Y Y ZiQ)<|Rq Y (Zi (ov Y) Y Y Y tS9 Y)<|Rq Y (Zb (ov Y) Y Y ZiQ)<|Rq Y (Zi (ov Y) Y Y Y tS9 Y)<|R2 Qv Y<|Za<|K9 1 4 13 14 15 28 29 30 38 Y<|If h Y (fun h=>?_) fun h=>?_
       ·
        refine K0<|Tr<|Ra Y<|Za<|?_
        replace h:=lx h▸ho2
        replace h:=lx h▸ho1
        obtain rfl:=rt h
        exact Zj (Zu Y (.one<|rb Y))
       ·
        exact Zh<|K8 1 4 13 14 15 28 29 30 Y<|Zw<|R2 QB Y<|Rm Y<|Za<|⟨_,h,ES [some 0]⟩
      ·
       refine ZL<|?_
       replace h:=lx h▸ho2
       exact⟨(),h,ES []⟩
    ·
     replace h:=elr h
     replace h:=t0i h
     exact Zw<|R2 QB Y<|Rm Y<|Za<|⟨_,h,ES []⟩
   ·
    refine ZL<|?_
    replace h:=lx h▸ho1
    exact⟨(),h,ES []⟩
  ·
   replace h:=elr h
   replace h:=t0i h
   refine Tr<|Ra Y<|Za<|?_
   obtain rfl:=rt h
   exact Zj (Zu Y (.one<|rb Y))
theorem ZkR{r:(List Str)}(h:Zf3=some r):
 CSpec Tryz.prog gl0 173 [] (.sl 9 (List.map R9 r)):=by
 unfold Zf3 at h
 replace h:=ZO h
 refine So Tryz.func173 Y fun w0 A=>Tr<|Ra Y<|Za<|Tr<|R_q (.sl 9<|List.map R9 ([[112,104,97,115,101],[109,111,118,101],[114,117,108,101],[105,102],[111,114],[97,110,100],[116,114,117,101],[102,97,108,115,101],[115,116,101,97,100,121],[110,111,116],[102,111,114],[119,105,116,104,105,110],[99,111,117,110,116],[111,102],[114,105,115,101,115],[115,105,110,99,101]]:List Str)) Y (ZbU ZkZ (.cons (cvs (ov Y)<|ZB Y) Y (.cons (.b Y) .nil)<|.cons (cvs (ov Y)<|ZB Y) Y (.cons (.b Y) .nil)<|.cons (cvs (ov Y)<|ZB Y) Y (.cons (.b Y) .nil)<|.cons (cvs (ov Y)<|ZB Y) Y (.cons (.b Y) .nil)<|.cons (cvs (ov Y)<|ZB Y) Y (.cons (.b Y) .nil)<|.cons (cvs (ov Y)<|ZB Y) Y (.cons (.b Y) .nil)<|.cons (cvs (ov Y)<|ZB Y) Y (.cons (.b Y) .nil)<|.cons (cvs (ov Y)<|ZB Y) Y (.cons (.b Y) .nil)<|.cons (cvs (ov Y)<|ZB Y) Y (.cons (.b Y) .nil)<|.cons (cvs (ov Y)<|ZB Y) Y (.cons (.b Y) .nil)<|.cons (cvs (ov Y)<|ZB Y) Y (.cons (.b Y) .nil)<|.cons (cvs (ov Y)<|ZB Y) Y (.cons (.b Y) .nil)<|.cons (cvs (ov Y)<|ZB Y) Y (.cons (.b Y) .nil)<|.cons (cvs (ov Y)<|ZB Y) Y (.cons (.b Y) .nil)<|.cons (cvs (ov Y)<|ZB Y) Y (.cons (.b Y) .nil)<|.cons (cvs (ov Y)<|ZB Y) Y (.cons (.b Y) .nil) .nil) Y Y)<|Ra Y<|Za<|?_
 obtain rfl:=rt h
 exact Zj (Zu Y (.one<|rb Y))
theorem ZiL{s:Str}{r:Bool}(h:Zcs s=some r):
 CSpec Tryz.prog gl0 156 [.str s] (.bool r):=by
 unfold Zcs at h
 replace h:=ZO h
 refine So Tryz.func156 Y fun w0 A=>Tr<|Ra Y<|Za<|K1 0 Y<|Tr<|bE h fun y h_y h=>Rq Y (Zn (ZkR h_y) .nil)<|Ra Y<|Za<|J0 (fun j=>(.inr j)) ⟨[],[]⟩ h (fun h=>?_) fun h=>?_
 ·
  refine K2 0 3 Y<|Tr<|Ra Y<|Za<|Zl<|?_
  obtain⟨r1,hl1,ho1⟩:=Xa h
  refine L1 (fun i=>⟨[(0,.str s),(3,.sl 9 (List.map R9 y)),(4,.int .i64 i)],[]⟩) hl1 (ES []) fun n1 i h=>?_
  unfold ZaH at h
  refine Zm<|Tr<|Rm Y<|Rm Y<|Rl tZ_9 ZkZ Y<|R2 ZV Y<|Za<|K4 0 3 4 9 Y<|If h Y (fun h=>?_) fun h=>?_
  ·
   refine Zh<|Zm<|Zl<|K3 0 3 4 Y<|Tr<|Rm Y<|Rm Y<|bE h fun x h_x h=>Rq Y (ZU (ov Y) (ov Y) ZkZ h_x)<|Rq Y (Zc (ov Y) tS9 Y)<|Rm Y<|R2 Qv Y<|Za<|K4 0 3 4 17 Y<|If h Y (fun h=>?_) fun h=>?_
   ·
    refine K0<|Tr<|Ra Y<|Za<|?_
    replace h:=lx h▸ho1
    obtain rfl:=rt h
    exact Zj (Zu Y (.one<|rb Y))
   ·
    exact Zh<|K3 0 3 4 Y<|Zw<|Rm Y<|R2 QB Y<|Ra Y<|Za<|⟨_,h,ES []⟩
  ·
   refine ZL<|?_
   replace h:=lx h▸ho1
   exact⟨(),h,ES []⟩
 ·
  replace h:=elr h
  replace h:=t0i h
  refine Tr<|Ra Y<|Za<|?_
  obtain rfl:=rt h
  exact Zj (Zu Y (.one<|rb Y))
theorem Zj6{s:Str}{r:Bool}(h:ZdT s=some r):
 CSpec Tryz.prog gl0 131 [.str s] (.bool r):=by
 unfold ZdT at h
 replace h:=ZO h
 refine So Tryz.func131 Y fun w0 A=>Tr<|Ra Y<|Za<|J0 (fun j=>(.inr j)) ⟨[(0,.str s)],[]⟩ h (fun h=>?_) fun h=>?_
 ·
  refine K1 0 Y<|Tr<|Ra Y<|Za<|Zl<|?_
  obtain⟨r1,hl1,ho1⟩:=Xa h
  refine L1 (fun i=>⟨[(0,.str s),(3,.int .i64 i)],[]⟩) hl1 (ES []) fun n1 i h=>?_
  unfold ZaQ at h
  refine Zm<|Tr<|Rm Y<|Rm Y<|Rq Y (Qm (ov Y) Qr Y)<|R2 ZV Y<|Za<|K3 0 3 8 Y<|If h Y (fun h=>?_) fun h=>?_
  ·
   refine Zh<|Zm<|Zl<|K2 0 3 Y<|Tr<|Rm Y<|Rm Y<|bE h fun b h_b h=>Rq Y (XF (ov Y) (ov Y) Qr h_b)<|Ra Y<|Za<|K3 0 3 4 Y<|Tr<|Rm Y<|R2 Zaj Y<|Rm Y<|Rq Y (.guarded ((decide (97≤b))==true) Y Y Y Y fun h=>Zf<|ov Y)<|Rq Y (.guarded ((decide (97≤b))==true) Y Y Y Y fun h=>ZaD (ow Y h)<|ov Y)<|Rq Y (ZQ (ov Y) fun hp=>ow Y<|gT hp)<|Rm Y<|Rq Y (.guarded (((decide (97≤b))&&(decide (b≤122)))==false) Y Y Y Y fun h=>Zf<|ov Y)<|Rq Y (.guarded (((decide (97≤b))&&(decide (b≤122)))==false) Y Y Y Y fun h=>Qq (ow Y h)<|ov Y)<|Rq Y (.guarded (((decide (97≤b))&&(decide (b≤122)))==false) Y Y Y Y fun h=>Zf<|ow Y h)<|Rq Y (.guarded2 ((((decide (97≤b))&&(decide (b≤122)))==false)&&((decide (0<i))==true)) Y Y Y Y fun h=>Zf<|ov Y)<|Rq Y (.guarded2 ((((decide (97≤b))&&(decide (b≤122)))==false)&&((decide (0<i))==true)) Y Y Y Y fun h=>Zaj (ow Y h)<|ov Y)<|Rq Y (.guarded2 ((((decide (97≤b))&&(decide (b≤122)))==false)&&((decide (0<i))==true)) Y Y Y Y fun h=>Zf<|ow Y h)<|Rq Y (.guarded2 (((((decide (97≤b))&&(decide (b≤122)))==false)&&((decide (0<i))==true))&&((decide (48≤b))==true)) Y Y Y Y fun h=>Zf<|ov Y)<|Rq Y (.guarded2 (((((decide (97≤b))&&(decide (b≤122)))==false)&&((decide (0<i))==true))&&((decide (48≤b))==true)) Y Y Y Y fun h=>ZaD (ow Y h)<|ov Y)<|Rq Y (.guarded2 ((((decide (97≤b))&&(decide (b≤122)))==false)&&((decide (0<i))==true)) Y Y Y Y fun h=>ZQ (ow Y h) fun hp=>ow Y<|gA h<|gT hp)<|Rq Y (.guarded2 ((((decide (97≤b))&&(decide (b≤122)))==false)&&((decide (0<i))==true)) Y Y Y Y fun h=>Zf<|ow Y h)<|Rq Y (.guarded2 (((((decide (97≤b))&&(decide (b≤122)))==false)&&((decide (0<i))==true))&&(((decide (48≤b))&&(decide (b≤57)))==false)) Y Y Y Y fun h=>Zf<|ov Y)<|Rq Y (.guarded2 (((((decide (97≤b))&&(decide (b≤122)))==false)&&((decide (0<i))==true))&&(((decide (48≤b))&&(decide (b≤57)))==false)) Y Y Y Y fun h=>ZT (ow Y h)<|ov Y)<|Rq Y (.guarded2 ((((decide (97≤b))&&(decide (b≤122)))==false)&&((decide (0<i))==true)) Y Y Y Y fun h=>Xi (ow Y h) fun hp=>ow Y<|gA h<|gF hp)<|Rq Y (.guarded (((decide (97≤b))&&(decide (b≤122)))==false) Y Y Y Y fun h=>ZQ (ow Y h) fun hp=>ow Y<|gA h<|gT hp)<|Rq Y (Xi (ov Y) fun hp=>ow Y<|gF hp)<|R1 QA Y<|Za<|K3 0 3 36 Y<|If h Y (fun h=>?_) fun h=>?_
   ·
    refine K0<|Tr<|Ra Y<|Za<|?_
    replace h:=lx h▸ho1
    obtain rfl:=rt h
    exact Zj (Zu Y (.one<|rb Y))
   ·
    exact Zh<|K2 0 3 Y<|Zw<|Rm Y<|R2 QB Y<|Ra Y<|Za<|⟨_,h,ES []⟩
  ·
   refine ZL<|?_
   replace h:=lx h▸ho1
   exact⟨(),h,ES []⟩
 ·
  replace h:=elr h
  replace h:=t0i h
  refine Tr<|Rm Y<|R2 ZlV Y<|Rm Y<|Rq Y (.guarded ((!decide (s= []))==true) Y Y Y Y fun h=>Zf<|ov Y)<|Rq Y (.guarded ((!decide (s= []))==true) Y Y Y Y fun h=>Qm (ow Y h) Qr Y)<|Rq Y (.guarded ((!decide (s= []))==true) Y Y Y Y fun h=>ZaD (ow Y h)<|ov Y)<|Rq Y (ZQ (ov Y) fun hp=>ow Y<|gT hp)<|Rm Y<|Rq Y (.guarded (((!decide (s= []))&&(decide ((s.length:Int)≤30)))==true) Y Y Y Y fun h=>Zf<|ov Y)<|bE h fun y h_y h=>Rq Y (.guarded (((!decide (s= []))&&(decide ((s.length:Int)≤30)))==true) Y Y Y Y fun h=>Zn (ZiL<|gdT h_y h)<|.cons (ow Y h) (.b Y) .nil)<|Rq Y (.guarded (((!decide (s= []))&&(decide ((s.length:Int)≤30)))==true) Y Y Y Y fun h=>QA<|ow Y h)<|Rq Y (ZQ (ov Y) fun hp=>ow Y<|gT hp)<|Ra Y<|Za<|?_
  obtain rfl:=rt h
  exact Zj (Zu Y (.one<|rb Y))
theorem Zaf{n:Int}{low:Int}{high:Int}{r:Bool}(h:Jc n low high=some r):
 CSpec Tryz.prog gl0 158 [.int .i64 n,.int .i64 low,.int .i64 high] (.bool r):=by
 unfold Jc at h
 replace h:=ZO h
 refine So Tryz.func158 Y fun w0 A=>Tr<|Ra Y<|Za<|Tr<|Rm Y<|Rm Y<|R2 ZV Y<|Rm Y<|Rq Y (.guarded ((decide (n<low))==false) Y Y Y Y fun h=>Zf<|ov Y)<|Rq Y (.guarded ((decide (n<low))==false) Y Y Y Y fun h=>Zf<|ov Y)<|Rq Y (.guarded ((decide (n<low))==false) Y Y Y Y fun h=>Qq (ow Y h)<|ow Y h)<|Rq Y (Xi (ov Y) fun hp=>ow Y<|gF hp)<|Ra Y<|Za<|?_
 obtain rfl:=rt h
 exact Zj (Zu Y (.one<|rb Y))
theorem ZiY{mark:Int}{r:Bool}(h:ZdI mark=some r):
 CSpec Tryz.prog gl0 192 [.int .i64 mark] (.bool r):=by
 unfold ZdI at h
 replace h:=ZO h
 refine So Tryz.func192 Y fun w0 A=>Tr<|Ra Y<|Za<|Tr<|Rm Y<|R2 Zaj Y<|Ra Y<|Za<|?_
 obtain rfl:=rt h
 exact Zj (Zu Y (.one<|rb Y))
theorem Zhe{s:api_Sample}{r:Int}(h:ZaK s=some r):
 CSpec Tryz.prog gl0 174 [.agg [.int .i64 s.At,.int .i64 s.N,.int .i64 s.Mark]] (.int .i64 r):=by
 unfold ZaK at h
 replace h:=ZO h
 refine So Tryz.func174 Y fun w0 A=>Tr<|Rq Y (ZP (cva<|ov Y) Y tZ_56 Y)<|Ra Y<|Za<|Zm<|K1 1 Y<|Tr<|Rq Y (Ze (ov Y) Zfk)<|Rq Y (Zc (ov Y) tS3 Y)<|bE h fun y h_y h=>Rq Y (Zn (Zaf h_y)<|.cons (ov Y) (.b Y)<|.cons (ov Y) (.b Y)<|.cons (ov Y) (.b Y) .nil)<|Rm Y<|Rq Y (.guarded (y==false) Y Y Y Y fun h=>Ze (ov Y) Zcq)<|Rq Y (.guarded (y==false) Y Y Y Y fun h=>Zc (ow Y h) tS3 Y)<|bE h fun y2 h_y2 h=>Rq Y (.guarded (y==false) Y Y Y Y fun h=>Zn (Zaf<|gdT h_y2 h)<|.cons (ow Y h) (.b Y)<|.cons (ov Y) (.b Y)<|.cons (ov Y) (.b Y) .nil)<|Rq Y (Xi (ov Y) fun hp=>ow Y<|gF hp)<|Rm Y<|Rq Y (.guarded ((y || y2)==false) Y Y Y Y fun h=>Ze (ov Y) ZgV)<|Rq Y (.guarded ((y || y2)==false) Y Y Y Y fun h=>Zc (ow Y h) tS3 Y)<|bE h fun y3 h_y3 h=>Rq Y (.guarded ((y || y2)==false) Y Y Y Y fun h=>Zn (Zaf<|gdT h_y3 h)<|.cons (ow Y h) (.b Y)<|.cons (ov Y) (.b Y)<|.cons (ov Y) (.b Y) .nil)<|Rq Y (Xi (ov Y) fun hp=>ow Y<|gF hp)<|Za<|K2 1 15 Y<|If h Y (fun h=>?_) fun h=>?_
 ·
  refine K0<|Tr<|Ra Y<|Za<|?_
  obtain rfl:=rt h
  exact Zj (Zu Y (.one<|rb Y))
 ·
  refine Zh<|Zm<|K1 1 Y<|Tr<|Rq Y (Ze (ov Y) Zcq)<|Rq Y (Zc (ov Y) tS3 Y)<|R2 Qo Y<|Rm Y<|Rq Y (.guarded ((!decide (s.N=0))==true) Y Y Y Y fun h=>Ze (ov Y) ZgV)<|Rq Y (.guarded ((!decide (s.N=0))==true) Y Y Y Y fun h=>Zc (ow Y h) tS3 Y)<|bE h fun y4 h_y4 h=>Rq Y (.guarded ((!decide (s.N=0))==true) Y Y Y Y fun h=>Zn (ZiY<|gdT h_y4 h)<|.cons (ow Y h) (.b Y) .nil)<|Rq Y (.guarded ((!decide (s.N=0))==true) Y Y Y Y fun h=>QA<|ow Y h)<|Rq Y (ZQ (ov Y) fun hp=>ow Y<|gT hp)<|Za<|K1 24 Y<|If h Y (fun h=>?_) fun h=>?_
  ·
   refine K0<|Tr<|Ra Y<|Za<|?_
   obtain rfl:=rt h
   exact Zj (Zu Y (.one<|rb Y))
  ·
   refine Zh<|K0<|Tr<|Ra Y<|Za<|?_
   obtain rfl:=rt h
   exact Zj (Zu Y (.one<|rb Y))
theorem ZkK{s:api_Series}{r:Int×Int}(h:Zey s=some r):
 CSpec Tryz.prog gl0 157 [.agg [.int .i64 s.Den,.sl 56 (List.map R56 s.Samples)]] (.tuple [.int .i64 r.1,.int .i64 r.2]):=by
 unfold Zey at h
 replace h:=ZO h
 refine So Tryz.func157 Y fun w0 A=>Tr<|Rq Y (ZP (cva<|ov Y) Y tZ_52 Y)<|Ra Y<|Ra Y<|Za<|Zm<|K1 1 Y<|Tr<|Rq Y (Ze (ov Y) Zlp)<|Rq Y (Zc (ov Y) tS3 Y)<|bE h fun y h_y h=>Rq Y (Zn (Zaf h_y)<|.cons (ov Y) (.b Y)<|.cons (ov Y) (.b Y)<|.cons (ov Y) (.b Y) .nil)<|Za<|K2 1 8 Y<|If h Y (fun h=>?_) fun h=>?_
 ·
  refine K0<|Tr<|Ra Y<|Ra Y<|Za<|?_
  obtain rfl:=rt h
  exact Zj (Zu Y (.two (rb Y)<|rb Y))
 ·
  refine Zh<|Zm<|K1 1 Y<|Tr<|Rq Y (Ze (ov Y) Zb1)<|Rq Y (Zc (ov Y) Zgw Y)<|Rl tZ_56 Zfh Y<|R2 Qq Y<|Za<|K2 1 12 Y<|If h Y (fun h=>?_) fun h=>?_
  ·
   refine K0<|Tr<|Ra Y<|Ra Y<|Za<|?_
   obtain rfl:=rt h
   exact Zj (Zu Y (.two (rb Y)<|rb Y))
  ·
   refine Zh<|J0 (fun j=>(.inr j)) ⟨[],[]⟩ h (fun h=>?_) fun h=>?_
   ·
    refine K1 1 Y<|Tr<|Ra Y<|Za<|Zl<|?_
    obtain⟨r1,hl1,ho1⟩:=Xa h
    refine L1 (fun i=>⟨[(1,.rp [.int .i64 s.Den,.sl 56 (List.map R56 s.Samples)] 0),(4,.int .i64 i)],[]⟩) hl1 (ES []) fun n1 i h=>?_
    unfold Zcv at h
    refine Zm<|Tr<|Rm Y<|Rq Y (Ze (ov Y) Zb1)<|Rq Y (Zc (ov Y) Zgw Y)<|Rl tZ_56 Zfh Y<|R2 ZV Y<|Za<|K3 1 4 17 Y<|If h Y (fun h=>?_) fun h=>?_
    ·
     refine Zh<|Zm<|Zl<|Zm<|K2 1 4 Y<|Tr<|Rq Y (Ze (ov Y) Zb1)<|Rq Y (Zc (ov Y) Zgw Y)<|Rm Y<|bE h fun x h_x h=>Rq Y (ZU (ov Y) (ov Y) Zfh h_x)<|Rq Y (Zr (ov Y) Zai Y Y)<|bE h fun y2 h_y2 h=>Rq Y (Zn (Zhe h_y2)<|.cons (ov Y) (.aggB Y) .nil)<|Ra Y<|Za<|K3 1 4 5 Y<|Tr<|Rm Y<|R2 Qo Y<|Za<|K4 1 4 5 27 Y<|If h Y (fun h=>?_) fun h=>?_
     ·
      refine K2 4 5 Y<|Tr<|Rm Y<|Rm Y<|Ra Y<|Ra Y<|Za<|?_
      replace h:=lx h▸ho1
      obtain rfl:=rt h
      exact Zj (Zu Y (.two (rb Y)<|rb Y))
     ·
      refine Zh<|K2 1 4 Y<|Td md0<|D1 0 Zf Y<|D2 1 Qq Y<|D1 2 Zf Y<|Dq 3 Y (.guarded ((decide (0<i))==true) Y Y Y Y fun h=>Ze (ov Y) Zb1)<|Dq 4 Y (.guarded ((decide (0<i))==true) Y Y Y Y fun h=>Zc (ow Y h) Zgw Y)<|Dq 5 Y (.guarded ((decide (0<i))==true) Y Y Y Y fun h=>Zf<|ov Y)<|bE h fun x2 h_x2 h=>Dq 6 Y (.guarded ((decide (0<i))==true) Y Y Y Y fun h=>ZU (ow Y h) (ow Y h) Zfh<|gdT h_x2 h)<|Dq 7 Y (.guarded ((decide (0<i))==true) Y Y Y Y fun h=>Ze (ow Y h) Zfk)<|Dq 8 Y (.guarded ((decide (0<i))==true) Y Y Y Y fun h=>Zc (ow Y h) tS3 Y)<|Dq 9 Y (.guarded ((decide (0<i))==true) Y Y Y Y fun h=>Ze (ov Y) Zb1)<|Dq 10 Y (.guarded ((decide (0<i))==true) Y Y Y Y fun h=>Zc (ow Y h) Zgw Y)<|Dq 11 Y (.guarded ((decide (0<i))==true) Y Y Y Y fun h=>Zf<|ov Y)<|Dq 12 Y (.guarded ((decide (0<i))==true) Y Y Y Y fun h=>Ze9 (ow Y h) (ov Y) Y)<|bE h fun x3 h_x3 h=>Dq 13 Y (.guarded ((decide (0<i))==true) Y Y Y Y fun h=>ZU (ow Y h) (ow Y h) Zfh<|gdT h_x3 h)<|Dq 14 Y (.guarded ((decide (0<i))==true) Y Y Y Y fun h=>Ze (ow Y h) Zfk)<|Dq 15 Y (.guarded ((decide (0<i))==true) Y Y Y Y fun h=>Zc (ow Y h) tS3 Y)<|Dq 16 Y (.guarded ((decide (0<i))==true) Y Y Y Y fun h=>ZaD (ow Y h)<|ow Y h)<|Dq 17 Y (ZQ (ov Y) fun hp=>ow Y<|gT hp)<|Dd<|K3 1 4 47 Y<|If h Y (fun h=>?_) fun h=>?_
      ·
       refine K1 4 Y<|Tr<|Rm Y<|Ra Y<|Ra Y<|Za<|?_
       replace h:=lx h▸ho1
       obtain rfl:=rt h
       exact Zj (Zu Y (.two (rb Y)<|rb Y))
      ·
       exact Zh<|K2 1 4 Y<|Zw<|Rm Y<|R2 QB Y<|Ra Y<|Za<|⟨_,h,ES []⟩
    ·
     refine ZL<|?_
     replace h:=lx h▸ho1
     exact⟨(),h,ES []⟩
   ·
    replace h:=elr h
    replace h:=t0i h
    refine Tr<|Ra Y<|Ra Y<|Za<|?_
    obtain rfl:=rt h
    exact Zj (Zu Y (.two (rb Y)<|rb Y))
theorem Zhp{s:api_Series}{r:Int}(h:Zdz s=some r):
 CSpec Tryz.prog gl0 132 [.agg [.int .i64 s.Den,.sl 56 (List.map R56 s.Samples)]] (.int .i64 r):=by
 unfold Zdz at h
 replace h:=ZO h
 refine So Tryz.func132 Y fun w0 A=>Tr<|Rq Y (ZP (cva<|ov Y) Y tZ_52 Y)<|Ra Y<|Za<|K1 1 Y<|Tr<|Rq Y (Zr (ov Y) ZkM Y Y)<|bE h fun y h_y h=>Rq Y (Zn (ZkK h_y)<|.cons (ov Y) (.aggB Y) .nil)<|Rm Y<|Rq Y (Zq (ov Y) Y)<|Rq Y (Zq (ov Y) Y)<|Ra Y<|Ra Y<|Za<|K1 4 Y<|Tr<|Rm Y<|Ra Y<|Za<|?_
 obtain rfl:=rt h
 exact Zj (Zu Y (.one<|rb Y))
theorem Zjh{n:Int}{low:Int}{high:Int}{r:Bool}(h:Zek n low high=some r):
 CSpec Tryz.prog gl0 133 [.int .i64 n,.int .i64 low,.int .i64 high] (.bool r):=by
 unfold Zek at h
 replace h:=ZO h
 refine So Tryz.func133 Y fun w0 A=>Tr<|Ra Y<|Za<|Tr<|Rm Y<|Rm Y<|R2 ZV Y<|Rm Y<|Rq Y (.guarded ((decide (n<low))==false) Y Y Y Y fun h=>Zf<|ov Y)<|Rq Y (.guarded ((decide (n<low))==false) Y Y Y Y fun h=>Zf<|ov Y)<|Rq Y (.guarded ((decide (n<low))==false) Y Y Y Y fun h=>Qq (ow Y h)<|ow Y h)<|Rq Y (Xi (ov Y) fun hp=>ow Y<|gF hp)<|Ra Y<|Za<|?_
 obtain rfl:=rt h
 exact Zj (Zu Y (.one<|rb Y))
theorem Zhk{l:List api_Track}{r:Int}(h:ZaS l=some r):
 CSpec Tryz.prog gl0 93 [.sl 54 (List.map R54 l)] (.int .i64 r):=by
 unfold ZaS at h
 replace h:=ZO h
 refine So Tryz.func93 Y fun w0 A=>Tr<|Ra Y<|Za<|Zm<|K1 0 Y<|Tr<|Rm Y<|Rl tZ_54 ZeI Y<|R2 Qq Y<|Za<|K2 0 8 Y<|If h Y (fun h=>?_) fun h=>?_
 ·
  refine K0<|Tr<|Ra Y<|Za<|?_
  obtain rfl:=rt h
  exact Zj (Zu Y (.one<|rb Y))
 ·
  refine Zh<|J0 (fun j=>(.inr j)) ⟨[],[]⟩ h (fun h=>?_) fun h=>?_
  ·
   refine K1 0 Y<|Tr<|Ra Y<|Za<|Zl<|?_
   obtain⟨r1,hl1,ho1⟩:=Xa h
   refine L1 (fun i=>⟨[(0,.sl 54 (List.map R54 l)),(3,.int .i64 i)],[]⟩) hl1 (ES []) fun n1 i h=>?_
   unfold XR at h
   refine Zm<|Tr<|Rm Y<|Rm Y<|Rl tZ_54 ZeI Y<|R2 ZV Y<|Za<|K3 0 3 12 Y<|If h Y (fun h=>?_) fun h=>?_
   ·
    refine Zh<|Zm<|Zl<|Zm<|K2 0 3 Y<|Tr<|Rm Y<|Rm Y<|bE h fun x h_x h=>Rq Y (ZU (ov Y) (ov Y) ZeI h_x)<|Rq Y (Ze (ov Y) ZgB)<|Rq Y (Zc (ov Y) tS9 Y)<|bE h fun y h_y h=>Rq Y (Zn (Zj6 h_y)<|.cons (ov Y) (.b Y) .nil)<|R1 QA Y<|Za<|K3 0 3 21 Y<|If h Y (fun h=>?_) fun h=>?_
    ·
     refine K0<|Tr<|Ra Y<|Za<|?_
     replace h:=lx h▸ho1
     obtain rfl:=rt h
     exact Zj (Zu Y (.one<|rb Y))
    ·
     refine Zh<|J0 (fun j=>(.inr j)) ⟨[(0,.sl 54 (List.map R54 l)),(3,.int .i64 i)],[]⟩ h (fun h=>?_) fun h=>?_
     ·
      refine K2 0 3 Y<|Tr<|Ra Y<|Za<|Zl<|?_
      obtain⟨r2,hl2,ho2⟩:=Xa h
      refine L1 (fun k=>⟨[(0,.sl 54 (List.map R54 l)),(3,.int .i64 i),(4,.int .i64 k)],[]⟩) hl2 (ES []) fun n2 k h=>?_
      unfold Xc at h
      refine Zm<|Tr<|Rm Y<|Rm Y<|R2 ZV Y<|Za<|K4 0 3 4 24 Y<|If h Y (fun h=>?_) fun h=>?_
      ·
       refine Zh<|Zm<|Zl<|K3 0 3 4 Y<|Td md0<|D1 0 Zf Y<|D1 1 Zf Y<|bE h fun x2 h_x2 h=>Dq 2 Y (ZU (ov Y) (ov Y) ZeI h_x2)<|Dq 3 Y (Ze (ov Y) ZgB)<|Dq 4 Y (Zc (ov Y) tS9 Y)<|D1 5 Zf Y<|D1 6 Zf Y<|bE h fun x3 h_x3 h=>Dq 7 Y (ZU (ov Y) (ov Y) ZeI h_x3)<|Dq 8 Y (Ze (ov Y) ZgB)<|Dq 9 Y (Zc (ov Y) tS9 Y)<|D2 10 Qv Y<|Dd<|K4 0 3 4 37 Y<|If h Y (fun h=>?_) fun h=>?_
       ·
        refine K0<|Tr<|Ra Y<|Za<|?_
        replace h:=lx h▸ho2
        replace h:=lx h▸ho1
        obtain rfl:=rt h
        exact Zj (Zu Y (.one<|rb Y))
       ·
        exact Zh<|K3 0 3 4 Y<|Zw<|Rm Y<|R2 QB Y<|Ra Y<|Za<|⟨_,h,ES []⟩
      ·
       refine ZL<|?_
       replace h:=lx h▸ho2
       exact⟨(),h,ES []⟩
     ·
      replace h:=elr h
      replace h:=t0i h
      refine Zm<|Tr<|Rm Y<|Rm Y<|bE h fun x4 h_x4 h=>Rq Y (ZU (ov Y) (ov Y) ZeI h_x4)<|Rq Y (Ze (ov Y) ZgJ)<|Rq Y (Zr (ov Y) ZkM Y Y)<|bE h fun y2 h_y2 h=>Rq Y (Zn (Zhp h_y2)<|.cons (ov Y) (.aggB Y) .nil)<|Ra Y<|Za<|K3 0 3 5 Y<|Tr<|Rm Y<|R2 Qo Y<|Za<|K4 0 3 5 45 Y<|If h Y (fun h=>?_) fun h=>?_
      ·
       refine K1 5 Y<|Tr<|Rm Y<|Ra Y<|Za<|?_
       replace h:=lx h▸ho1
       obtain rfl:=rt h
       exact Zj (Zu Y (.one<|rb Y))
      ·
       refine Zh<|K2 0 3 Y<|Tr<|Rm Y<|Rm Y<|bE h fun x5 h_x5 h=>Rq Y (ZU (ov Y) (ov Y) ZeI h_x5)<|Rq Y (Ze (ov Y) Zlz)<|Rq Y (Zc (ov Y) tS3 Y)<|bE h fun y3 h_y3 h=>Rq Y (Zn (Zjh h_y3)<|.cons (ov Y) (.b Y)<|.cons (ov Y) (.b Y)<|.cons (ov Y) (.b Y) .nil)<|Za<|K3 0 3 52 Y<|If h Y (fun h=>?_) fun h=>?_
       ·
        refine K0<|Tr<|Ra Y<|Za<|?_
        replace h:=lx h▸ho1
        obtain rfl:=rt h
        exact Zj (Zu Y (.one<|rb Y))
       ·
        exact Zh<|K2 0 3 Y<|Zw<|Rm Y<|R2 QB Y<|Ra Y<|Za<|⟨_,h,ES []⟩
   ·
    refine ZL<|?_
    replace h:=lx h▸ho1
    exact⟨(),h,ES []⟩
  ·
   replace h:=elr h
   replace h:=t0i h
   refine Tr<|Ra Y<|Za<|?_
   obtain rfl:=rt h
   exact Zj (Zu Y (.one<|rb Y))
theorem Zfp{l:List api_Track}{name:Str}{r:api_Track×Bool}(h:ZaC l name=some r):
 CSpec Tryz.prog gl0 94 [.sl 54 (List.map R54 l),.str name] (.tuple [.agg [.str r.1.Name,.int .i64 r.1.Series.Den,.sl 56 (List.map R56 r.1.Series.Samples),.int .i64 r.1.Long],.bool r.2]):=by
 unfold ZaC at h
 replace h:=ZO h
 refine So Tryz.func94 Y fun w0 A=>Tr<|Rx Y (Zz (row:= [_,_,_,_]) 0 Y Zlo Y tZ_54)<|Ra Y<|Za<|J0 (fun j=>(.inr j)) ⟨[(4,.ptr 0 1 0 0)],[some ⟨54,[[.str [],.int .i64 0,.nils,.int .i64 0]]⟩]⟩ h (fun h=>?_) fun h=>?_
 ·
  refine K3 0 1 4 Y<|Tr<|Rm Y<|Rl tZ_54 ZeI Y<|Rm Y<|Za<|Zl<|?_
  obtain⟨r1,hl1,ho1⟩:=Xa h
  refine L1 (fun i=>⟨[(1,.str name),(4,.ptr 0 1 0 0),(8,.sl 54 (List.map R54 l)),(9,.int .i64 (l.length:Int)),(10,.int .i64 i)],[some ⟨54,[[.str [],.int .i64 0,.nils,.int .i64 0]]⟩]⟩) hl1 (ES [some 0]) fun n1 i h=>?_
  unfold ZbF at h
  refine Tr<|R2 ZV Y<|Za<|Zm<|If h Y (fun h=>?_) fun h=>?_
  ·
   refine Zh<|Zm<|Zl<|K5 1 4 8 9 10 Y<|Tr<|bE h fun x h_x h=>Rq Y (ZU (ov Y) (ov Y) ZeI h_x)<|Rq Y (Zr (ov Y) Zf7 Y Y)<|Rx Y (Zz (row:= [_,_,_,_]) 1 Y Zlo Y tZ_54)<|Rx Y (Zk (ov Y) (ov Y) (Zo Zf7 Y) Y Y Y (Nat.le_of_ble_eq_true Y) (Zd Y) Y)<|Za<|K6 1 4 7 8 9 10 Y<|Tr<|Rq Y (Zb (ov Y) Y Y ZgB)<|Rq Y (Zi (ov Y) Y Y Y tS9 Y)<|Rm Y<|R2 Qv Y<|Za<|K7 1 4 7 8 9 10 17 Y<|If h Y (fun h=>?_) fun h=>?_
   ·
    refine K2 4 7 Y<|Tr<|Rq Y (ZG (ov Y) Y Y Y Zf7 Y Y)<|Rx Y (Zk (ov Y) (ov Y) (Zo Zf7 Y) Y Y Y (Nat.le_of_ble_eq_true Y) (Zd Y) Y)<|Ra Y<|Za<|?_
    replace h:=lx h▸ho1
    obtain rfl:=rt h
    exact Zj (Zu Y (.two (.agg Y Y Y Y Zf7 Y Y<|pwB Y)<|rb Y))
   ·
    exact Zh<|K5 1 4 8 9 10 Y<|Zw<|R2 QB Y<|Rm Y<|Za<|⟨_,h,ES [some 0]⟩
  ·
   refine ZL<|?_
   replace h:=lx h▸ho1
   exact⟨(),h,ES [some 0]⟩
 ·
  replace h:=elr h
  replace h:=t0i h
  refine Tr<|Rq Y (QU (ys:= [_,_,_,_]) ZpL Zpz Zlo .nil Y)<|Rx Y (Zk (ov Y) (ov Y) (Zo Zf7 Y) Y Y Y (Nat.le_of_ble_eq_true Y) (Zd Y) Y)<|Ra Y<|Za<|?_
  obtain rfl:=rt h
  exact Zj (Zu Y (.two (.agg Y Y Y Y Zf7 Y Y<|.cons (Dat.view<|.b Y)<|.cons (Dat.view<|.b Y)<|.cons (View.nils 56)<|.cons (Dat.view<|.b Y) .nil)<|rb Y))
theorem ZkB{p:api_Panel}{l:List api_Track}{r:Int}(h:ZeJ p l=some r):
 CSpec Tryz.prog gl0 51 [.agg [.sl 49 (List.map R49 p.Instruments)],.sl 54 (List.map R54 l)] (.int .i64 r):=by
 unfold ZeJ at h
 replace h:=ZO h
 refine So Tryz.func51 Y fun w0 A=>Tr<|Rq Y (ZP (cva<|ov Y) Y tZ_24 Y)<|Ra Y<|Za<|Zm<|K2 1 2 Y<|Tr<|Rq Y (Zr (ov Y) Zd7 Y Y)<|bE h fun y h_y h=>Rq Y (Zn (Zhl h_y)<|.cons (ov Y) (.aggB Y) .nil)<|Ra Y<|Za<|K3 1 2 5 Y<|Tr<|Rm Y<|R2 Qo Y<|Za<|K4 1 2 5 14 Y<|If h Y (fun h=>?_) fun h=>?_
 ·
  refine K1 5 Y<|Tr<|Rm Y<|Ra Y<|Za<|?_
  obtain rfl:=rt h
  exact Zj (Zu Y (.one<|rb Y))
 ·
  refine Zh<|Zm<|K2 1 2 Y<|Tr<|Rm Y<|bE h fun y2 h_y2 h=>Rq Y (Zn (Zhk h_y2)<|.cons (ov Y) (.b Y) .nil)<|Ra Y<|Za<|K3 1 2 6 Y<|Tr<|Rm Y<|R2 Qo Y<|Za<|K4 1 2 6 19 Y<|If h Y (fun h=>?_) fun h=>?_
  ·
   refine K1 6 Y<|Tr<|Rm Y<|Ra Y<|Za<|?_
   obtain rfl:=rt h
   exact Zj (Zu Y (.one<|rb Y))
  ·
   refine Zh<|J0 (fun j=>(.inr j)) ⟨[],[]⟩ h (fun h=>?_) fun h=>?_
   ·
    refine K2 1 2 Y<|Tr<|Rq Y (Ze (ov Y) Zbj)<|Rq Y (Zc (ov Y) Zf0 Y)<|Rl tZ_49 ZcI Y<|Rm Y<|Za<|Zl<|?_
    obtain⟨r1,hl1,ho1⟩:=Xa h
    refine L1 (fun i=>⟨[(1,.sl 54 (List.map R54 l)),(22,.sl 49 (List.map R49 p.Instruments)),(23,.int .i64 (p.Instruments.length:Int)),(24,.int .i64 i)],[]⟩) hl1 (ES []) fun n1 i h=>?_
    unfold ZbG at h
    refine Tr<|R2 ZV Y<|Za<|Zm<|If h Y (fun h=>?_) fun h=>?_
    ·
     refine Zh<|Zm<|Zl<|K4 1 22 23 24 Y<|Tr<|bE h fun x h_x h=>Rq Y (ZU (ov Y) (ov Y) ZcI h_x)<|Rq Y (Zr (ov Y) Zcj Y Y)<|Rx Y (Zz (row:= [_,_,_,_,_,_,_,_,_,_,_,_]) 0 Y Zlw Y tZ_49)<|Rx Y (Zk (ov Y) (ov Y) (Zo Zcj Y) Y Y Y (Nat.le_of_ble_eq_true Y) (Zd Y) Y)<|Za<|K5 1 8 22 23 24 Y<|Tr<|Rm Y<|Rq Y (Zb (ov Y) Y Y ZhO)<|Rq Y (Zi (ov Y) Y Y Y tS9 Y)<|bE h fun y3 h_y3 h=>Rq Y (Zn (Zfp h_y3)<|.cons (ov Y) (.b Y)<|.cons (ov Y) (.b Y) .nil)<|Rm Y<|Rq Y (Zq (ov Y) Y)<|Rq Y (Zq (ov Y) Y)<|Rx Y (Zz (row:= [_,_,_,_]) 1 Y Zlo Y tZ_54)<|Rx Y (Zk (ov Y) (ov Y) (Zo Zf7 Y) Y Y Y (Nat.le_of_ble_eq_true Y) (Zd Y) Y)<|Ra Y<|Za<|K5 1 10 22 23 24 Y<|Tr<|Rm Y<|R1 QA Y<|Za<|K5 1 22 23 24 36 Y<|If h Y (fun h=>?_) fun h=>?_
     ·
      refine K0<|Tr<|Ra Y<|Za<|?_
      replace h:=lx h▸ho1
      obtain rfl:=rt h
      exact Zj (Zu Y (.one<|rb Y))
     ·
      exact Zh<|K4 1 22 23 24 Y<|Zw<|R2 QB Y<|Rm Y<|Za<|⟨_,h,ES []⟩
    ·
     refine ZL<|?_
     replace h:=lx h▸ho1
     exact⟨(),h,ES []⟩
   ·
    replace h:=elr h
    replace h:=t0i h
    refine Tr<|Ra Y<|Za<|?_
    obtain rfl:=rt h
    exact Zj (Zu Y (.one<|rb Y))
theorem Zhu{p:api_Panel}{r:api_PanelState×Int}(h:Zdw p=some r):
 CSpec Tryz.prog gl0 61 [.agg [.sl 49 (List.map R49 p.Instruments)]] (.tuple [.agg [.int .i64 r.1.Frame,.sl 99 (List.map R99 r.1.Memos)],.int .i64 r.2]):=by
 unfold Zdw at h
 replace h:=ZO h
 refine So Tryz.func61 Y fun w0 A=>Tr<|Rq Y (ZP (cva<|ov Y) Y tZ_24 Y)<|Rx Y (Zz (row:= [_,_]) 0 Y ZcT Y tZ_44)<|Ra Y<|Za<|Zm<|K2 1 2 Y<|Tr<|Rq Y (Zr (ov Y) Zd7 Y Y)<|bE h fun y h_y h=>Rq Y (Zn (Zhl h_y)<|.cons (ov Y) (.aggB Y) .nil)<|Ra Y<|Za<|K3 1 2 4 Y<|Tr<|Rm Y<|R2 Qo Y<|Za<|K4 1 2 4 8 Y<|If h Y (fun h=>?_) fun h=>?_
 ·
  refine K2 2 4 Y<|Tr<|Rq Y (QU (ys:= [_,_]) Zid Zil ZcT .nil Y)<|Rm Y<|Rx Y (Zk (ov Y) (ov Y) (Zo QR Y) Y Y Y (Nat.le_of_ble_eq_true Y) (Zd Y) Y)<|Ra Y<|Za<|?_
  obtain rfl:=rt h
  exact Zj (Zu Y (.two (.agg Y Y Y Y QR Y Y<|.cons (Dat.view<|.b Y)<|.cons (View.nils 99) .nil)<|rb Y))
 ·
  refine Zh<|K2 1 2 Y<|Tr<|Rq Y (Ze (ov Y) Zbj)<|Rq Y (Zc (ov Y) Zf0 Y)<|Rl tZ_49 ZcI Y<|bE h fun l h_l h=>Rx Y (ZlG [none,none,none,none,some 3] (r:=1) (f:=R99) (z0:=(api_Memo.mk false false 0 0 [])) Y (ov Y) (ov Y) ZcA Y ZkQ Y Y h_l)<|Rq Y (QU (ys:= [_,_]) Zid Zil ZcT (.cons (cvs (ov Y)<|ZB Y)<|.cons (cvs (ov Y)<|ZB Y) .nil) Y)<|Rx Y (Zk (ov Y) (ov Y) (Zo QR Y) Y Y Y (Nat.le_of_ble_eq_true Y) (Zd Y) Y)<|Ra Y<|Za<|?_
  obtain rfl:=rt h
  exact Zj (Zu Y (.two (.agg Y Y Y Y QR Y Y<|.cons (Dat.view<|.b Y)<|.cons (View.ownM Y Y D99) .nil)<|rb Y))
theorem Zhs{p:api_Panel}{l:List api_Track}{keep:Int}{r:(Int) ⊕ (ref8_Replay×Int)}(h:ZdP p l keep=some r):
 GSpec Tryz.prog gl0 27 [.agg [.sl 49 (List.map R49 p.Instruments)],.sl 54 (List.map R54 l),.int .i64 keep] [] (Sum.elim (fun r=> .tuple [.lit (.pointer none),.int .i64 r]) (fun r=> .tuple [.ptr 0 1 0 0,.int .i64 r.2]) r) (Sum.elim (fun r=> []) (fun r=> [some ⟨118,[[.sl 49 (List.map R49 r.1.p.Instruments),.sl 54 (List.map R54 r.1.l),.int .i64 r.1.keep,.int .i64 r.1.state.Frame,.sl 99 (List.map R99 r.1.state.Memos),.own 1 r.1.kept.length,.own 2 r.1.marks.length]]⟩,some ⟨44,List.map R44 r.1.kept⟩,some ⟨120,List.map R120 r.1.marks⟩]) r):=by
 unfold ZdP at h
 replace h:=ZO h
 refine Z1 (by kernel_rfl) Tryz.func27 Y Y<|?_
 intro w0 A W φ0
 refine Tr<|Rq Y (ZP (cva<|ov Y) Y tZ_24 Y)<|Ra Y<|Ra Y<|Za<|Zm<|K3 1 2 3 Y<|Tr<|Rq Y (Zr (ov Y) Zd7 Y Y)<|Rm Y<|bE h fun y h_y h=>Rq Y (Zn (ZkB h_y)<|.cons (ov Y) (.aggB Y)<|.cons (ov Y) (.b Y) .nil)<|Ra Y<|Za<|K4 1 2 3 8 Y<|Tr<|Rm Y<|R2 Qo Y<|Za<|K5 1 2 3 8 15 Y<|If h Y (fun h=>?_) fun h=>?_
 ·
  refine K1 8 Y<|Tr<|Rm Y<|Ra Y<|Ra Y<|Za<|?_
  obtain rfl:=rt h
  exact Zj<|XB [] Y (.cons (.tmp Y)<|.cons (.tmp Y) .nil) .nil Y Y<|JO<|rlc (.dat Y)<|rlc (.dat Y) rln
 ·
  refine Zh<|Zm<|K3 1 2 3 Y<|Tr<|Rm Y<|bE h fun y2 h_y2 h=>Rq Y (Zn (Q5 h_y2)<|.cons (ov Y) (.b Y)<|.cons (ov Y) (.b Y)<|.cons (ov Y) (.b Y) .nil)<|Za<|K4 1 2 3 18 Y<|If h Y (fun h=>?_) fun h=>?_
  ·
   refine K0<|Tr<|Ra Y<|Ra Y<|Za<|?_
   obtain rfl:=rt h
   exact Zj<|XB [] Y (.cons (.tmp Y)<|.cons (.tmp Y) .nil) .nil Y Y<|JO<|rlc (.dat Y)<|rlc (.dat Y) rln
  ·
   refine Zh<|K3 1 2 3 Y<|Tr<|Rq Y (Zr (ov Y) Zd7 Y Y)<|bE h fun y3 h_y3 h=>Rq Y (Zn (Zhu h_y3)<|.cons (ov Y) (.aggB Y) .nil)<|Rm Y<|Rq Y (Zq (ov Y) Y)<|Rq Y (Zq (ov Y) Y)<|Rx Y (Zz (row:= [_,_]) 0 Y ZcT Y tZ_44)<|Rx Y (Zk (ov Y) (ov Y) (Zo QR Y) Y Y Y (Nat.le_of_ble_eq_true Y) (Zd Y) Y)<|Ra Y<|Za<|K4 1 2 3 9 Y<|Tr<|Rq Y (Zr (ov Y) Zd7 Y Y)<|Rm Y<|Rm Y<|Rq Y (ZG (ov Y) Y Y Y QR Y Y)<|Rq Y (QU (ys:= [_,_,_,_,_,_,_]) Zqr ZpO ZqZ (.cons (cva<|ov Y)<|.cons (cvs (ov Y)<|ZB Y)<|.cons (cvs (ov Y)<|ZB Y)<|.cons (cva<|ov Y) .nil) Y)<|Rx Y (Zk9 1 Y (ov Y) ZqU Y)<|Ra Y<|Ra Y<|Za<|?_
   obtain rfl:=rt h
   exact Zj<|XB [some 1,none,none] Y (.cons (.tmp Y)<|.cons (.tmp Y) .nil) (.cons Y (ro1 (by exact tZ_118.symm)<|rlc (.dat Y)<|rlc (.dat Y)<|rlc (.dat Y)<|rlc (.dat Y)<|rlc (.dat Y)<|rlc (.row Y)<|rlc (.row Y) rln)<|.row 44<|.row 120 .nil) Y Y<|JO<|rlc (.ptr _ _ _ Y)<|rlc (.dat Y) rln
theorem Ze7{p:api_Panel}{l:List api_Track}{keep:Int}{r:Int}(h:ZdP p l keep=some (.inl r)):
    GSpec Tryz.prog gl0 27 [.agg [.sl 49 (List.map R49 p.Instruments)],.sl 54 (List.map R54 l),.int .i64 keep] [] (.tuple [.lit (.pointer none),.int .i64 r]) []:=Zhs h
theorem Ze8{p:api_Panel}{l:List api_Track}{keep:Int}{r:ref8_Replay×Int}(h:ZdP p l keep=some (.inr r)):
    GSpec Tryz.prog gl0 27 [.agg [.sl 49 (List.map R49 p.Instruments)],.sl 54 (List.map R54 l),.int .i64 keep] [] (.tuple [.ptr 0 1 0 0,.int .i64 r.2]) [some ⟨118,[[.sl 49 (List.map R49 r.1.p.Instruments),.sl 54 (List.map R54 r.1.l),.int .i64 r.1.keep,.int .i64 r.1.state.Frame,.sl 99 (List.map R99 r.1.state.Memos),.own 1 r.1.kept.length,.own 2 r.1.marks.length]]⟩,some ⟨44,List.map R44 r.1.kept⟩,some ⟨120,List.map R120 r.1.marks⟩]:=Zhs h
theorem JF{x:List api_Sample}{target:Int}{cmp:api_Sample→Int→Option Int}{r:Int×Bool}{cmp_f:FuncId}{cmp_c:List AV}(cmp_d:cmp_c.all datB=true)(cmp_h: ∀ (z0:api_Sample) (z1:Int) z,cmp z0 z1=some z→CSpec Tryz.prog gl0 cmp_f ([.agg [.int .i64 z0.At,.int .i64 z0.N,.int .i64 z0.Mark],.int .i64 z1]++cmp_c) (.int .i64 z))(h:ZC x target cmp=some r):
 CSpec Tryz.prog gl0 184 [.sl 56 (List.map R56 x),.int .i64 target,.fn cmp_f cmp_c] (.tuple [.int .i64 r.1,.bool r.2]):=by
 unfold ZC at h
 replace h:=ZO h
 refine So Tryz.func184 Y fun w0 A=>Tr<|Ra Y<|Ra Y<|Za<|K3 0 1 2 Y<|Tr<|Rm Y<|Rl tZ_56 Zfh Y<|Ra Y<|Za<|K4 0 1 2 8 Y<|Tr<|Rm Y<|Ra Y<|Ra Y<|Za<|I1 (fun i=>⟨[(0,.sl 56 (List.map R56 x)),(1,.int .i64 target),(2,.fn cmp_f cmp_c),(8,.int .i64 (x.length:Int)),(9,.int .i64 i)],[]⟩) h (fun h=>?_) fun i h=>?_
 ·
  refine Zl<|?_
  obtain⟨r1,hl1,ho1⟩:=Xa h
  refine L2 (fun i2 j=>⟨[(0,.sl 56 (List.map R56 x)),(1,.int .i64 target),(2,.fn cmp_f cmp_c),(8,.int .i64 (x.length:Int)),(9,.int .i64 i2),(10,.int .i64 j)],[]⟩) hl1 (ES []<|sd 0 Y Y<|sd 1 Y Y<|sr 2 Y (rFn<|rld cmp_d)<|sd 8 Y Y<|sd 9 Y Y<|sd 10 Y Y sn) fun n1 i2 j h=>?_
  unfold Zy at h
  refine Zm<|Tr<|Rm Y<|Rm Y<|R2 ZV Y<|Za<|K7 0 1 2 8 9 10 17 Y<|If h Y (fun h=>?_) fun h=>?_
  ·
   refine Zh<|Zl<|K6 0 1 2 8 9 10 Y<|Tr<|Rm Y<|Rm Y<|R2 QB Y<|Rq Y (ZhR (ov Y) tI3 Zm6 Y)<|bE h fun q h_q h=>Rq Y (ZnO (ov Y) (ov Y) h_q)<|Rq Y (ZhR (ov Y) Zm6 tI3 Y)<|Ra Y<|Za<|K7 0 1 2 8 9 10 11 Y<|Tr<|Rm Y<|Rm Y<|Rm Y<|bE h fun x2 h_x2 h=>Rq Y (ZU (ov Y) (ov Y) Zfh h_x2)<|Rq Y (Zr (ov Y) Zai Y Y)<|Rm Y<|bE h fun y h_y h=>Rq Y (ZcD (ov Y) cmp_d (cmp_h _ _ _ h_y)<|.cons (ov Y) (.aggB Y)<|.cons (ov Y) (.b Y) .nil)<|R2 ZV Y<|Za<|K8 0 1 2 8 9 10 11 31 Y<|If h Y (fun h=>?_) fun h=>?_
   ·
    exact K7 0 1 2 8 9 10 11 Y<|Zw<|Rm Y<|R2 QB Y<|Ra Y<|Za<|⟨_,h,ES []<|sd 0 Y Y<|sd 1 Y Y<|sr 2 Y (rFn<|rld cmp_d)<|sd 8 Y Y<|sd 9 Y Y<|sd 10 Y Y sn⟩
   ·
    exact K7 0 1 2 8 9 10 11 Y<|Zw<|Rm Y<|Ra Y<|Za<|⟨_,h,ES []<|sd 0 Y Y<|sd 1 Y Y<|sr 2 Y (rFn<|rld cmp_d)<|sd 8 Y Y<|sd 9 Y Y<|sd 10 Y Y sn⟩
  ·
   refine ZL<|?_
   replace h:=lx h▸ho1
   exact⟨_,h,ES []<|sd 0 Y Y<|sd 1 Y Y<|sr 2 Y (rFn<|rld cmp_d)<|sd 8 Y Y<|sd 9 Y Y sn⟩
 ·
  refine Tr<|Rm Y<|Rm Y<|Rm Y<|R2 ZV Y<|Rm Y<|Rq Y (.guarded ((decide (i<(x.length:Int)))==true) Y Y Y Y fun h=>Zf<|ov Y)<|Rq Y (.guarded ((decide (i<(x.length:Int)))==true) Y Y Y Y fun h=>Zf<|ov Y)<|Rq Y (.guarded ((decide (i<(x.length:Int)))==true) Y Y Y Y fun h=>Zf<|ov Y)<|bE h fun x3 h_x3 h=>Rq Y (.guarded ((decide (i<(x.length:Int)))==true) Y Y Y Y fun h=>ZU (ow Y h) (ow Y h) Zfh<|gdT h_x3 h)<|Rq Y (.guarded ((decide (i<(x.length:Int)))==true) Y Y Y Y fun h=>Zr (ow Y h) Zai Y Y)<|Rq Y (.guarded ((decide (i<(x.length:Int)))==true) Y Y Y Y fun h=>Zf<|ov Y)<|bE h fun y2 h_y2 h=>Rq Y (.guarded ((decide (i<(x.length:Int)))==true) Y Y Y Y fun h=>ZcD (ow Y h) cmp_d (cmp_h _ _ _<|gdT h_y2 h)<|.cons (ow Y h) (.aggB Y)<|.cons (ow Y h) (.b Y) .nil)<|Rq Y (.guarded ((decide (i<(x.length:Int)))==true) Y Y Y Y fun h=>ZT (ow Y h)<|ov Y)<|Rq Y (ZQ (ov Y) fun hp=>ow Y<|gT hp)<|Ra Y<|Ra Y<|Za<|?_
  obtain rfl:=rt h
  exact Zj (Zu Y (.two (rb Y)<|rb Y))
theorem ZhH{x:api_Sample}{at_:Int}{r:Int}(h:Xh x at_=some r):
 CSpec Tryz.prog gl0 185 [.agg [.int .i64 x.At,.int .i64 x.N,.int .i64 x.Mark],.int .i64 at_] (.int .i64 r):=by
 unfold Xh at h
 replace h:=ZO h
 refine So Tryz.func185 Y fun w0 A=>Tr<|Rq Y (ZP (cva<|ov Y) Y tZ_56 Y)<|Ra Y<|Za<|K3 1 2 4 Y<|Tr<|Rq Y (Ze (ov Y) Zfk)<|Rq Y (Zc (ov Y) tS3 Y)<|Rm Y<|R2 Zdi Y<|Ra Y<|Za<|?_
 obtain rfl:=rt h
 exact Zj (Zu Y (.one<|rb Y))
theorem ZiI{s:api_Series}{at_:Int}{r:Int}(h:ZaB s at_=some r):
 CSpec Tryz.prog gl0 166 [.agg [.int .i64 s.Den,.sl 56 (List.map R56 s.Samples)],.int .i64 at_] (.int .i64 r):=by
 unfold ZaB at h
 replace h:=ZO h
 refine So Tryz.func166 Y fun w0 A=>Tr<|Rq Y (ZP (cva<|ov Y) Y tZ_52 Y)<|Ra Y<|Za<|K2 1 2 Y<|Tr<|Rq Y (Ze (ov Y) Zb1)<|Rq Y (Zc (ov Y) Zgw Y)<|Rm Y<|bE h fun y h_y h=>Rq Y (Zn (JF Y (fun z0 z1 _ hz=>ZhH hz) h_y)<|.cons (ov Y) (.b Y)<|.cons (ov Y) (.b Y)<|.cons (ov Y) .fn .nil)<|Rm Y<|Rq Y (Zq (ov Y) Y)<|Rq Y (Zq (ov Y) Y)<|Ra Y<|Ra Y<|Za<|Zm<|K2 5 6 Y<|Tr<|Rm Y<|Za<|K2 5 14 Y<|If h Y (fun h=>?_) fun h=>?_
 ·
  refine K1 5 Y<|Tr<|Rm Y<|Ra Y<|Za<|?_
  obtain rfl:=rt h
  exact Zj (Zu Y (.one<|rb Y))
 ·
  refine Zh<|K1 5 Y<|Tr<|Rm Y<|R2 Zdi Y<|Ra Y<|Za<|?_
  obtain rfl:=rt h
  exact Zj (Zu Y (.one<|rb Y))
theorem Zjx{x:api_Sample}{r:Bool}(h:Zci x=some r):
 CSpec Tryz.prog gl0 167 [.agg [.int .i64 x.At,.int .i64 x.N,.int .i64 x.Mark]] (.bool r):=by
 unfold Zci at h
 replace h:=ZO h
 refine So Tryz.func167 Y fun w0 A=>Tr<|Rq Y (ZP (cva<|ov Y) Y tZ_56 Y)<|Ra Y<|Za<|K2 1 2 Y<|Tr<|Rq Y (Ze (ov Y) ZgV)<|Rq Y (Zc (ov Y) tS3 Y)<|R2 Zaj Y<|Ra Y<|Za<|?_
 obtain rfl:=rt h
 exact Zj (Zu Y (.one<|rb Y))
theorem Zkn{s:api_Series}{at_:Int}{long:Int}{r:api_Sample×Bool}(h:Zcc s at_ long=some r):
 CSpec Tryz.prog gl0 152 [.agg [.int .i64 s.Den,.sl 56 (List.map R56 s.Samples)],.int .i64 at_,.int .i64 long] (.tuple [.agg [.int .i64 r.1.At,.int .i64 r.1.N,.int .i64 r.1.Mark],.bool r.2]):=by
 unfold Zcc at h
 replace h:=ZO h
 refine So Tryz.func152 Y fun w0 A=>Tr<|Rq Y (ZP (cva<|ov Y) Y tZ_52 Y)<|Rx Y (Zz (row:= [_,_,_]) 0 Y Zft Y tZ_56)<|Ra Y<|Za<|K4 1 2 3 6 Y<|Tr<|Rq Y (Zr (ov Y) ZkM Y Y)<|Rm Y<|bE h fun y h_y h=>Rq Y (Zn (ZiI h_y)<|.cons (ov Y) (.aggB Y)<|.cons (ov Y) (.b Y) .nil)<|Ra Y<|Za<|Zm<|K5 1 2 3 6 8 Y<|Tr<|Rm Y<|R2 ZV Y<|Rm Y<|Rq Y (.guarded ((decide (y<0))==false) Y Y Y Y fun h=>Ze (ov Y) Zb1)<|Rq Y (.guarded ((decide (y<0))==false) Y Y Y Y fun h=>Zc (ow Y h) Zgw Y)<|Rq Y (.guarded ((decide (y<0))==false) Y Y Y Y fun h=>Zf<|ov Y)<|bE h fun x h_x h=>Rq Y (.guarded ((decide (y<0))==false) Y Y Y Y fun h=>ZU (ow Y h) (ow Y h) Zfh<|gdT h_x h)<|Rq Y (.guarded ((decide (y<0))==false) Y Y Y Y fun h=>Zr (ow Y h) Zai Y Y)<|bE h fun y2 h_y2 h=>Rq Y (.guarded ((decide (y<0))==false) Y Y Y Y fun h=>Zn (Zjx<|gdT h_y2 h)<|.cons (ow Y h) (.aggB Y) .nil)<|Rq Y (.guarded ((decide (y<0))==false) Y Y Y Y fun h=>QA<|ow Y h)<|Rq Y (Xi (ov Y) fun hp=>ow Y<|gF hp)<|Rm Y<|Rq Y (.guarded (((decide (y<0)) || (!y2))==false) Y Y Y Y fun h=>Zf<|ov Y)<|Rq Y (.guarded (((decide (y<0)) || (!y2))==false) Y Y Y Y fun h=>Ze (ov Y) Zb1)<|Rq Y (.guarded (((decide (y<0)) || (!y2))==false) Y Y Y Y fun h=>Zc (ow Y h) Zgw Y)<|Rq Y (.guarded (((decide (y<0)) || (!y2))==false) Y Y Y Y fun h=>Zf<|ov Y)<|bE h fun x2 h_x2 h=>Rq Y (.guarded (((decide (y<0)) || (!y2))==false) Y Y Y Y fun h=>ZU (ow Y h) (ow Y h) Zfh<|gdT h_x2 h)<|Rq Y (.guarded (((decide (y<0)) || (!y2))==false) Y Y Y Y fun h=>Ze (ow Y h) Zfk)<|Rq Y (.guarded (((decide (y<0)) || (!y2))==false) Y Y Y Y fun h=>Zc (ow Y h) tS3 Y)<|Rq Y (.guarded (((decide (y<0)) || (!y2))==false) Y Y Y Y fun h=>Ze9 (ow Y h) (ow Y h) Y)<|Rq Y (.guarded (((decide (y<0)) || (!y2))==false) Y Y Y Y fun h=>Zf<|ov Y)<|Rq Y (.guarded (((decide (y<0)) || (!y2))==false) Y Y Y Y fun h=>Qq (ow Y h)<|ow Y h)<|Rq Y (Xi (ov Y) fun hp=>ow Y<|gF hp)<|Za<|K4 3 6 8 34 Y<|If h Y (fun h=>?_) fun h=>?_
 ·
  refine K1 6 Y<|Tr<|Rq Y (QU (ys:= [_,_,_]) ZjY ZjL Zft .nil Y)<|Rx Y (Zk (ov Y) (ov Y) (Zo Zai Y) Y Y Y (Nat.le_of_ble_eq_true Y) (Zd Y) Y)<|Ra Y<|Za<|?_
  obtain rfl:=rt h
  exact Zj (Zu Y (.two (.agg Y Y Y Y Zai Y Y<|pwB Y)<|rb Y))
 ·
  refine Zh<|K3 3 6 8 Y<|Tr<|Rq Y (Ze (ov Y) Zb1)<|Rq Y (Zc (ov Y) Zgw Y)<|Rm Y<|bE h fun x3 h_x3 h=>Rq Y (ZU (ov Y) (ov Y) Zfh h_x3)<|Rq Y (Zr (ov Y) Zai Y Y)<|Rx Y (Zk (ov Y) (ov Y) (Zo Zai Y) Y Y Y (Nat.le_of_ble_eq_true Y) (Zd Y) Y)<|Ra Y<|Za<|?_
  obtain rfl:=rt h
  exact Zj (Zu Y (.two (.agg Y Y Y Y Zai Y Y<|pwB Y)<|rb Y))
theorem Zkd{s:api_Series}{at_:Int}{long:Int}{r:api_Sample×Bool}(h:ZcR s at_ long=some r):
 CSpec Tryz.prog gl0 120 [.agg [.int .i64 s.Den,.sl 56 (List.map R56 s.Samples)],.int .i64 at_,.int .i64 long] (.tuple [.agg [.int .i64 r.1.At,.int .i64 r.1.N,.int .i64 r.1.Mark],.bool r.2]):=by
 unfold ZcR at h
 replace h:=ZO h
 refine So Tryz.func120 Y fun w0 A=>Tr<|Rq Y (ZP (cva<|ov Y) Y tZ_52 Y)<|Rx Y (Zz (row:= [_,_,_]) 0 Y Zft Y tZ_56)<|Ra Y<|Za<|K5 1 2 3 6 7 Y<|Tr<|Rq Y (Zr (ov Y) ZkM Y Y)<|Rm Y<|Rm Y<|bE h fun y h_y h=>Rq Y (Zn (Zkn h_y)<|.cons (ov Y) (.aggB Y)<|.cons (ov Y) (.b Y)<|.cons (ov Y) (.b Y) .nil)<|Rq Y (Zq (ov Y) Y)<|Rq Y (Zq (ov Y) Y)<|Rx Y (Zk (ov Y) (ov Y) (Zo Zai Y) Y Y Y (Nat.le_of_ble_eq_true Y) (Zd Y) Y)<|Ra Y<|Za<|?_
 obtain rfl:=rt h
 exact Zj (Zu Y (.two (.agg Y Y Y Y Zai Y Y<|pwB Y)<|rb Y))
theorem ZgH{t:api_Track}{frame:Int}{r:api_Sample×Bool}(h:Zak t frame=some r):
 CSpec Tryz.prog gl0 88 [.agg [.str t.Name,.int .i64 t.Series.Den,.sl 56 (List.map R56 t.Series.Samples),.int .i64 t.Long],.int .i64 frame] (.tuple [.agg [.int .i64 r.1.At,.int .i64 r.1.N,.int .i64 r.1.Mark],.bool r.2]):=by
 unfold Zak at h
 replace h:=ZO h
 refine So Tryz.func88 Y fun w0 A=>Tr<|Rq Y (ZP (cva<|ov Y) Y tZ_54 Y)<|Rx Y (Zz (row:= [_,_,_]) 0 Y Zft Y tZ_56)<|Ra Y<|Za<|K4 1 2 4 5 Y<|Tr<|Rq Y (Ze (ov Y) ZgJ)<|Rq Y (Zr (ov Y) ZkM Y Y)<|Rm Y<|R2 Zjz Y<|R2 QB Y<|R2 Zdi Y<|Rq Y (Ze (ov Y) Zlz)<|Rq Y (Zc (ov Y) tS3 Y)<|bE h fun y h_y h=>Rq Y (Zn (Zkd h_y)<|.cons (ov Y) (.aggB Y)<|.cons (ov Y) (.b Y)<|.cons (ov Y) (.b Y) .nil)<|Rq Y (Zq (ov Y) Y)<|Rq Y (Zq (ov Y) Y)<|Rx Y (Zk (ov Y) (ov Y) (Zo Zai Y) Y Y Y (Nat.le_of_ble_eq_true Y) (Zd Y) Y)<|Ra Y<|Za<|?_
 obtain rfl:=rt h
 exact Zj (Zu Y (.two (.agg Y Y Y Y Zai Y Y<|pwB Y)<|rb Y))
theorem Zi5{xs r:List Int}(h:ZaX xs=some r):
 GSpec Tryz.prog gl0 84 [.sl 3 (List.map R3 xs)] [] (.own 0 r.length) [some ⟨3,List.map R3 r⟩]:=by
 have h2:app [] xs=some r:=h
 refine Z1 (by kernel_rfl) Tryz.func84 Y Y<|?_
 intro w0 A W φ0
 refine Tr<|Ra Y<|Za<|Zm<|Zm<|Zw<|Rm Y<|Ze4 (ov Y) ZoD Y fun b hb=>?_
 refine Za<|Zf2 Y (fun hb2=>?_) fun hb2=>?_
 ·
  obtain rfl:xs= []:=by simpa using hb hb2
  obtain rfl:r= []:=by simpa [app,apz] using h2.symm
  exact Tr<|Ra Y<|Za<|Zj<|XB [none] Y (.cons (.tmp Y) .nil) (.row 3 .nil) Y Y<|.row Y
 ·
  exact Zh<|Tr<|Rx Y (QW (r:=0) (xs:= []) (f:=R3) Y J3 .nil Y Y Y)<|Rm Y<|Rx Y (JR (ov Y) (XW (ov Y) tZ_3) J3 Y Y (fun _=>Zd Y) Y h2)<|Ra Y<|Za<|Zj<|XB [some 0] Y (.cons (.tmp Y) .nil) (.cons Y (roM D3) .nil) Y Y<|.own _ Y
theorem Zj8{op:Int}{a:Int}{b:Int}{r:Bool}(h:Za3 op a b=some r):
 CSpec Tryz.prog gl0 129 [.int .i64 op,.int .i64 a,.int .i64 b] (.bool r):=by
 unfold Za3 at h
 replace h:=ZO h
 refine So Tryz.func129 Y fun w0 A=>Tr<|Ra Y<|Za<|Zm<|K3 0 1 2 Y<|Tr<|Rm Y<|Za<|Zl<|K3 1 2 7 Y<|Tr<|R2 ZT Y<|Ra Y<|Za<|K4 1 2 7 8 Y<|If h Y (fun h=>?_) fun h=>?_
 ·
  refine K2 1 2 Y<|Tr<|Rm Y<|Rm Y<|R2 ZV Y<|Ra Y<|Za<|?_
  obtain rfl:=rt h
  exact Zj (Zu Y (.one<|rb Y))
 ·
  refine K3 1 2 7 Y<|Tr<|R2 ZT Y<|Ra Y<|Za<|K4 1 2 7 13 Y<|If h Y (fun h=>?_) fun h=>?_
  ·
   refine K2 1 2 Y<|Tr<|Rm Y<|Rm Y<|R2 ZaD Y<|Ra Y<|Za<|?_
   obtain rfl:=rt h
   exact Zj (Zu Y (.one<|rb Y))
  ·
   refine K3 1 2 7 Y<|Tr<|R2 ZT Y<|Ra Y<|Za<|K4 1 2 7 18 Y<|If h Y (fun h=>?_) fun h=>?_
   ·
    refine K2 1 2 Y<|Tr<|Rm Y<|Rm Y<|R2 ZT Y<|Ra Y<|Za<|?_
    obtain rfl:=rt h
    exact Zj (Zu Y (.one<|rb Y))
   ·
    refine K3 1 2 7 Y<|Tr<|R2 ZT Y<|Ra Y<|Za<|K4 1 2 7 23 Y<|If h Y (fun h=>?_) fun h=>?_
    ·
     refine K2 1 2 Y<|Tr<|Rm Y<|Rm Y<|R2 Qo Y<|Ra Y<|Za<|?_
     obtain rfl:=rt h
     exact Zj (Zu Y (.one<|rb Y))
    ·
     refine K3 1 2 7 Y<|Tr<|R2 ZT Y<|Ra Y<|Za<|K3 1 2 28 Y<|If h Y (fun h=>?_) fun h=>?_
     ·
      refine K2 1 2 Y<|Tr<|Rm Y<|Rm Y<|R2 Zaj Y<|Ra Y<|Za<|?_
      obtain rfl:=rt h
      exact Zj (Zu Y (.one<|rb Y))
     ·
      refine Zh<|K2 1 2 Y<|Tr<|Rm Y<|Rm Y<|R2 Qq Y<|Ra Y<|Za<|?_
      obtain rfl:=rt h
      exact Zj (Zu Y (.one<|rb Y))
theorem ZiS{tape:List Int}{size:Int}{n:Int}{r:(List Int)}(h:ZaA tape size n=some r):
 CSpec Tryz.prog gl0 130 [.sl 3 (List.map R3 tape),.int .i64 size,.int .i64 n] (.sl 3 (List.map R3 r)):=by
 unfold ZaA at h
 replace h:=ZO h
 refine So Tryz.func130 Y fun w0 A=>Tr<|Ra Y<|Za<|K3 0 1 2 Y<|Tr<|Rm Y<|bE h fun y h_y h=>Rx Y (ZK [] (Zi5 h_y) (.cons (ov Y) (.dat Y) .nil) .nil Y (.lent 0 (.inr ⟨Nat.le_of_ble_eq_true Y,Y⟩) Y (roM D3) .nil) Y Y<|.own _<|.inr ⟨Nat.le_of_ble_eq_true Y,Y⟩)<|Rm Y<|R_q (.sl 3<|List.map R3 ([n]:List Int)) Y (ZbU J3 (.cons (cvs (ov Y)<|ZB Y) Y (.cons (.b Y) .nil) .nil) Y Y)<|bE h fun l h_l h=>Rx Y (Jw (ov Y) (XW (ov Y) tZ_3) J3 Y Y Y (fun _=>Zd Y) Y h_l)<|Ra Y<|Za<|Zm<|K2 1 7 Y<|Tr<|Rm Y<|Rq Y (Zbs (ov Y) Y Y J3)<|Rm Y<|R2 ZaD Y<|Za<|K2 7 18 Y<|If h Y (fun h=>?_) fun h=>?_
 ·
  refine K1 7 Y<|Tr<|Rm Y<|Ra Y<|Za<|?_
  obtain rfl:=rt h
  exact Zj (Zu Y (.one<|.tmp Y<|View.ownM Y Y D3))
 ·
  refine Zh<|I1 (fun out=>⟨[(7,.own 0 out.length)],[some ⟨3,List.map R3 out⟩]⟩) h (fun h=>?_) fun out h=>?_
  ·
   refine K1 7 Y<|Tr<|Ra Y<|Za<|Zl<|?_
   obtain⟨r1,hl1,ho1⟩:=Xa h
   refine L2 (fun out2 i=>⟨[(7,.own 0 out2.length),(8,.int .i64 i)],[some ⟨3,List.map R3 out2⟩]⟩) hl1 (ES [some 0]) fun n1 out2 i h=>?_
   unfold Xl at h
   refine Zm<|Tr<|Rm Y<|R2 QB Y<|Rm Y<|Rq Y (Zbs (ov Y) Y Y J3)<|R2 ZaD Y<|Za<|K3 7 8 24 Y<|If h Y (fun h=>?_) fun h=>?_
   ·
    exact Zh<|Zm<|Zl<|K2 7 8 Y<|Tr<|Rm Y<|Rm Y<|Rm Y<|R2 QB Y<|bE h fun u h_u h=>Rq Y (ZqA (ov Y) Y Y J3 (oi<|ov Y) (oi<|ov Y) h_u)<|bE h fun u2 h_u2 h=>Rq Y (Zqq (ov Y) Zoc Y (List.length_map ..) tZ_3 Y h_u2)<|Ra Y<|Za<|K3 7 8 9 Y<|ZbM (cw:=md0) (by kernel_rfl)<|D1 0 Zf Y<|D1 1 Zf Y<|Dq 2 Y (Zg (ov Y) Y<|List.length_map ..)<|bE h fun u3 h_u3 h=>bE h fun x h_x h=>Dq 3 Y (Zpu (ov Y) (ov Y) Zoc Y Y tZ_3 (Zkf h_u).1 h_u3 h_x)<|Dq 4 Y (Zc0 (ov Y) Y Y h_x tS3 Y)<|Dq 5 Y (Zg (ov Y) Y<|List.length_map ..)<|bE h fun u4 h_u4 h=>bE h fun x2 h_x2 h=>Dq 6 Y (Zpu (ov Y) (ov Y) Zoc Y Y tZ_3 (Zkf h_u).1 h_u4 h_x2)<|Do 7 Y (ZeB (u':=x) (ov Y) (ov Y) (Zp tS3) Y Y h_x2 Y (Zd Y) Y)<|Dd<|K2 7 8 Y<|Zw<|Rm Y<|R2 QB Y<|Ra Y<|Za<|⟨_,h,ES [some 0]<|sr 7 Y (ZmD (Eq.symm<|(List.length_set ..).trans Y) Y)<|sd 8 Y Y sn⟩
   ·
    refine ZL<|?_
    replace h:=lx h▸ho1
    exact⟨_,h,ES [some 0]⟩
  ·
   refine Tr<|Rm Y<|Rm Y<|Rq Y (Zbs (ov Y) Y Y J3)<|R2 Zdi Y<|bE h fun l2 h_l2 h=>Zk3 (Ent.sel [none] (sr 7 Y (Za1 Y Y Y D3)<|sr 40 Y (Za1 Y Y Y D3)<|sr 41 Y (Za1 Y Y Y D3)<|sd 42 Y Y<|sd 43 Y Y sn) (.row 3 .nil) Y Y)<|Rq Y (ZgG (ov Y) J3 on (oi<|ov Y) h_l2)<|Ra Y<|Za<|?_
   obtain rfl:=rt h
   exact Zj (Zu Y (.one<|rb Y))
theorem Zgo{i:api_Instrument}{m:api_Memo}{n:Int}{known:Bool}{r:api_Memo}(h:Xj i m n known=some r):
 CSpec Tryz.prog gl0 92 [.agg [.int .i64 i.Kind,.str i.Name,.str i.Track,.int .i64 i.Places,.int .i64 i.Low,.int .i64 i.High,.int .i64 i.Steps,.sl 136 (List.map R136 i.Zones),.int .i64 i.Op,.int .i64 i.N,.bool i.Latch,.int .i64 i.Size],.agg [.bool m.Lit,.bool m.Some,.int .i64 m.N,.int .i64 m.Count,.sl 3 (List.map R3 m.Tape)],.int .i64 n,.bool known] (.agg [.bool r.Lit,.bool r.Some,.int .i64 r.N,.int .i64 r.Count,.sl 3 (List.map R3 r.Tape)]):=by
 unfold Xj at h
 replace h:=ZO h
 refine So Tryz.func92 Y fun w0 A=>Tr<|Rq Y (ZP (cva<|ov Y) Y tZ_49 Y)<|Rx Y (Zk9 0 Y (ov Y) ZdS Y)<|Rx Y (Zz (row:= [_,_,_,_,_]) 1 Y ZkQ Y tZ_99)<|Za<|K5 2 3 4 5 8 Y<|Tr<|Rm Y<|Rm Y<|Rq Y (.guarded (known==true) Y Y Y Y fun h=>Ze (ov Y) JK)<|Rq Y (.guarded (known==true) Y Y Y Y fun h=>Zc (ow Y h) tS3 Y)<|Rq Y (.guarded (known==true) Y Y Y Y fun h=>ZT (ow Y h)<|ov Y)<|Rq Y (.guarded (known==true) Y Y Y Y fun h=>Zf<|ow Y h)<|Rq Y (.guarded2 ((known==true)&&((decide (i.Kind=3))==false)) Y Y Y Y fun h=>Ze (ov Y) JK)<|Rq Y (.guarded2 ((known==true)&&((decide (i.Kind=3))==false)) Y Y Y Y fun h=>Zc (ow Y h) tS3 Y)<|Rq Y (.guarded2 ((known==true)&&((decide (i.Kind=3))==false)) Y Y Y Y fun h=>ZT (ow Y h)<|ov Y)<|Rq Y (.guarded (known==true) Y Y Y Y fun h=>Xi (ow Y h) fun hp=>ow Y<|gA h<|gF hp)<|Rq Y (ZQ (ov Y) fun hp=>ow Y<|gT hp)<|Rm Y<|Rq Y (.guarded ((known&&((decide (i.Kind=3)) || (decide (i.Kind=5))))==true) Y Y Y Y fun h=>Ze (ov Y) Zhy)<|Rq Y (.guarded ((known&&((decide (i.Kind=3)) || (decide (i.Kind=5))))==true) Y Y Y Y fun h=>Zc (ow Y h) tS3 Y)<|Rq Y (.guarded ((known&&((decide (i.Kind=3)) || (decide (i.Kind=5))))==true) Y Y Y Y fun h=>Zf<|ov Y)<|Rq Y (.guarded ((known&&((decide (i.Kind=3)) || (decide (i.Kind=5))))==true) Y Y Y Y fun h=>Ze (ov Y) ZhI)<|Rq Y (.guarded ((known&&((decide (i.Kind=3)) || (decide (i.Kind=5))))==true) Y Y Y Y fun h=>Zc (ow Y h) tS3 Y)<|bE h fun y h_y h=>Rq Y (.guarded ((known&&((decide (i.Kind=3)) || (decide (i.Kind=5))))==true) Y Y Y Y fun h=>Zn (Zj8<|gdT h_y h)<|.cons (ow Y h) (.b Y)<|.cons (ow Y h) (.b Y)<|.cons (ow Y h) (.b Y) .nil)<|Rq Y (ZQ (ov Y) fun hp=>ow Y<|gT hp)<|Ra Y<|Za<|I1 (fun m2=>⟨[(5,.ptr 0 1 0 0),(8,.ptr 1 1 0 0)],[some ⟨99,[[.bool m2.Lit,.bool m2.Some,.int .i64 m2.N,.int .i64 m2.Count,.sl 3 (List.map R3 m2.Tape)]]⟩,some ⟨99,[[.bool false,.bool false,.int .i64 0,.int .i64 0,.nils]]⟩]⟩) h (fun h=>?_) fun m2 h=>?_
 ·
  refine Zl<|K6 2 3 4 5 8 9 Y<|Tr<|Rq Y (Ze (ov Y) JK)<|Rq Y (Zc (ov Y) tS3 Y)<|R2 ZT Y<|Ra Y<|Za<|K7 2 3 4 5 8 9 29 Y<|If h Y (fun h=>?_) fun h=>?_
  ·
   exact K4 4 5 8 9 Y<|Zw<|Rm Y<|Rm Y<|Rq Y (.guarded (((known&&((decide (i.Kind=3)) || (decide (i.Kind=5))))&&y)==false) Y Y Y Y fun h=>Ze (ov Y) Zh1)<|Rq Y (.guarded (((known&&((decide (i.Kind=3)) || (decide (i.Kind=5))))&&y)==false) Y Y Y Y fun h=>Zc (ow Y h) tS4 Y)<|Rq Y (.guarded (((known&&((decide (i.Kind=3)) || (decide (i.Kind=5))))&&y)==false) Y Y Y Y fun h=>Zf<|ow Y h)<|Rq Y (.guarded2 ((((known&&((decide (i.Kind=3)) || (decide (i.Kind=5))))&&y)==false)&&(i.Latch==true)) Y Y Y Y fun h=>Zb (ov Y) Y Y ZaF)<|Rq Y (.guarded2 ((((known&&((decide (i.Kind=3)) || (decide (i.Kind=5))))&&y)==false)&&(i.Latch==true)) Y Y Y Y fun h=>Zi (ow Y h) Y Y Y tS4 Y)<|Rq Y (.guarded (((known&&((decide (i.Kind=3)) || (decide (i.Kind=5))))&&y)==false) Y Y Y Y fun h=>ZQ (ow Y h) fun hp=>ow Y<|gA h<|gT hp)<|Rq Y (Xi (ov Y) fun hp=>ow Y<|gF hp)<|Rq Y (Zb (ov Y) Y Y ZaF)<|Rx Y (Zk (ov Y) (ov Y) (Zp tS4) Y Y Y (Nat.le_of_ble_eq_true Y) (Zd Y) Y)<|Za<|⟨_,h,ES [some 0,some 1]⟩
  ·
   refine K6 2 3 4 5 8 9 Y<|Tr<|Rq Y (Ze (ov Y) JK)<|Rq Y (Zc (ov Y) tS3 Y)<|R2 ZT Y<|Ra Y<|Za<|K7 2 3 4 5 8 9 43 Y<|If h Y (fun h=>?_) fun h=>?_
   ·
    refine Zm<|K3 5 8 9 Y<|Tr<|Rm Y<|Rm Y<|Rq Y (.guarded (((known&&((decide (i.Kind=3)) || (decide (i.Kind=5))))&&y)==true) Y Y Y Y fun h=>Zb (ov Y) Y Y ZaF)<|Rq Y (.guarded (((known&&((decide (i.Kind=3)) || (decide (i.Kind=5))))&&y)==true) Y Y Y Y fun h=>Zi (ow Y h) Y Y Y tS4 Y)<|Rq Y (.guarded (((known&&((decide (i.Kind=3)) || (decide (i.Kind=5))))&&y)==true) Y Y Y Y fun h=>QA<|ow Y h)<|Rq Y (ZQ (ov Y) fun hp=>ow Y<|gT hp)<|Za<|K4 5 8 9 52 Y<|If h Y (fun h=>?_) fun h=>?_
    ·
     exact K3 5 8 9 Y<|Zw<|Rq Y (Zb (ov Y) Y Y ZgP)<|Rq Y (Zi (ov Y) Y Y Y tS3 Y)<|R2 QB Y<|Rq Y (Zb (ov Y) Y Y ZgP)<|Rx Y (Zk (ov Y) (ov Y) (Zp tS3) Y Y Y (Nat.le_of_ble_eq_true Y) (Zd Y) Y)<|Za<|K3 5 8 9 Y<|Zw<|Rm Y<|Rq Y (Zb (ov Y) Y Y ZaF)<|Rx Y (Zk (ov Y) (ov Y) (Zp tS4) Y Y Y (Nat.le_of_ble_eq_true Y) (Zd Y) Y)<|Za<|⟨_,h,ES [some 0,some 1]⟩
    ·
     exact Zh<|K3 5 8 9 Y<|Zw<|Rm Y<|Rq Y (Zb (ov Y) Y Y ZaF)<|Rx Y (Zk (ov Y) (ov Y) (Zp tS4) Y Y Y (Nat.le_of_ble_eq_true Y) (Zd Y) Y)<|Za<|⟨_,h,ES [some 0,some 1]⟩
   ·
    refine K5 2 3 4 5 8 Y<|Tr<|Rq Y (Ze (ov Y) JK)<|Rq Y (Zc (ov Y) tS3 Y)<|R2 ZT Y<|Rm Y<|Rq Y (.guarded ((decide (i.Kind=4))==true) Y Y Y Y fun h=>Zf<|ov Y)<|Rq Y (ZQ (ov Y) fun hp=>ow Y<|gT hp)<|Ra Y<|Za<|K6 2 3 4 5 8 59 Y<|If h Y (fun h=>?_) fun h=>?_
    ·
     refine I1 (fun n2=>⟨[(2,.int .i64 n2),(5,.ptr 0 1 0 0),(8,.ptr 1 1 0 0)],[some ⟨99,[[.bool m.Lit,.bool m.Some,.int .i64 m.N,.int .i64 m.Count,.sl 3 (List.map R3 m.Tape)]]⟩,some ⟨99,[[.bool false,.bool false,.int .i64 0,.int .i64 0,.nils]]⟩]⟩) h (fun h=>?_) fun n2 h=>?_
     ·
      refine K3 2 5 8 Y<|Tr<|Rq Y (Zb (ov Y) Y Y Zf1)<|Rq Y (Zi (ov Y) Y Y Y tS4 Y)<|Za<|K4 2 5 8 67 Y<|If h Y (fun h=>?_) fun h=>?_
      ·
       exact K3 2 5 8 Y<|Zw<|Rm Y<|Rq Y (Zb (ov Y) Y Y ZgI)<|Rq Y (Zi (ov Y) Y Y Y tS3 Y)<|Rq Y (ZoE (ov Y) (ov Y) Y)<|Ra Y<|Za<|⟨_,h,ES [some 0,some 1]⟩
      ·
       exact Zh<|⟨_,h,ES [some 0,some 1]⟩
     ·
      exact Zw<|Rm Y<|Rq Y (Zb (ov Y) Y Y ZgI)<|Rx Y (Zk (ov Y) (ov Y) (Zp tS3) Y Y Y (Nat.le_of_ble_eq_true Y) (Zd Y) Y)<|Rq Y (Zb (ov Y) Y Y Zf1)<|Rx Y (Zk (ov Y) (ov Y) (Zp tS4) Y Y Y (Nat.le_of_ble_eq_true Y) (Zd Y) Y)<|Za<|⟨_,h,ES [some 0,some 1]⟩
    ·
     refine K5 2 3 4 5 8 Y<|Tr<|Rq Y (Ze (ov Y) JK)<|Rq Y (Zc (ov Y) tS3 Y)<|R2 ZT Y<|Rm Y<|Rq Y (.guarded ((decide (i.Kind=6))==true) Y Y Y Y fun h=>Zf<|ov Y)<|Rq Y (ZQ (ov Y) fun hp=>ow Y<|gT hp)<|Ra Y<|Za<|K5 2 4 5 8 75 Y<|If h Y (fun h=>?_) fun h=>?_
     ·
      exact K4 2 4 5 8 Y<|Zw<|Rq Y (Zb (ov Y) Y Y JW)<|Rq Y (Zi (ov Y) Y Y Y ZeC Y)<|Rq Y (Ze (ov Y) Zg9)<|Rq Y (Zc (ov Y) tS3 Y)<|Rm Y<|bE h fun y2 h_y2 h=>Rq Y (Zn (ZiS h_y2)<|.cons (ov Y) (.b Y)<|.cons (ov Y) (.b Y)<|.cons (ov Y) (.b Y) .nil)<|Rq Y (Zb (ov Y) Y Y JW)<|Rx Y (Zk (ov Y) (ov Y) (Zp ZeC) Y Y Y (Nat.le_of_ble_eq_true Y) (Zd Y) Y)<|Za<|⟨_,h,ES [some 0,some 1]⟩
     ·
      exact Zh<|⟨_,h,ES [some 0,some 1]⟩
 ·
  refine Tr<|Rq Y (ZG (ov Y) Y Y Y ZdS Y Y)<|Rx Y (Zk (ov Y) (ov Y) (Zo ZdS Y) Y Y Y (Nat.le_of_ble_eq_true Y) (Zd Y) Y)<|Za<|?_
  obtain rfl:=rt h
  exact Zj (Zu Y (.one<|.agg Y Y Y Y ZdS Y Y<|pwB Y))
theorem ZeH{p:api_Panel}{l:List api_Track}{s:api_PanelState}{r:api_PanelState}(h:Jb p l s=some r):
 GSpec Tryz.prog gl0 50 [.agg [.sl 49 (List.map R49 p.Instruments)],.sl 54 (List.map R54 l),.agg [.int .i64 s.Frame,.sl 99 (List.map R99 s.Memos)]] [] (.agg [.int .i64 r.Frame,.own 0 r.Memos.length]) [some ⟨99,List.map R99 r.Memos⟩]:=by
 unfold Jb at h
 replace h:=ZO h
 refine Z1 (by kernel_rfl) Tryz.func50 Y Y<|?_
 intro w0 A W φ0
 refine Tr<|Rq Y (ZP (cva<|ov Y) Y tZ_24 Y)<|Rq Y (ZP (cva<|ov Y) Y tZ_44 Y)<|Rx Y (Zz (row:= [_,_]) 0 Y ZcT Y tZ_44)<|Za<|K4 1 3 5 6 Y<|Tr<|Rq Y (Ze (ov Y) Qi)<|Rq Y (Zc (ov Y) tS3 Y)<|R2 QB Y<|Rq Y (QU (ys:= [_,_]) Zid Zil ZcT (.cons (cvs (ov Y)<|ZB Y) .nil) Y)<|Rx Y (Zz (row:= [_,_]) 1 Y ZcT Y tZ_44)<|Rx Y (Zk (ov Y) (ov Y) (Zo QR Y) Y Y Y (Nat.le_of_ble_eq_true Y) (Zd Y) Y)<|Za<|I1 (fun Memos=>⟨[(6,.ptr 0 1 0 0),(7,.ptr 1 1 0 0)],[some ⟨44,[[.int .i64 0,.nils]]⟩,some ⟨44,[[.int .i64 (i64 (s.Frame+1)),.own 2 Memos.length]]⟩,some ⟨99,List.map R99 Memos⟩]⟩) h (fun h=>?_) fun Memos h=>?_
 ·
  refine K5 1 3 5 6 7 Y<|Tr<|Rq Y (Ze (ov Y) Zbj)<|Rq Y (Zc (ov Y) Zf0 Y)<|Rl tZ_49 ZcI Y<|Rm Y<|Za<|Zl<|?_
  obtain⟨r1,hl1,ho1⟩:=Xa h
  refine L2 (fun Memos2 i=>⟨[(1,.sl 54 (List.map R54 l)),(5,.rp [.int .i64 s.Frame,.sl 99 (List.map R99 s.Memos)] 0),(6,.ptr 0 1 0 0),(7,.ptr 1 1 0 0),(18,.sl 49 (List.map R49 p.Instruments)),(19,.int .i64 (p.Instruments.length:Int)),(20,.int .i64 i)],[some ⟨44,[[.int .i64 0,.nils]]⟩,some ⟨44,[[.int .i64 (i64 (s.Frame+1)),.own 2 Memos2.length]]⟩,some ⟨99,List.map R99 Memos2⟩]⟩) hl1 (ES [some 0,some 1,none]) fun n1 Memos2 i h=>?_
  unfold Xr at h
  refine Tr<|R2 ZV Y<|Za<|Zm<|If h Y (fun h=>?_) fun h=>?_
  ·
   exact Zh<|Zm<|Zl<|K7 1 5 6 7 18 19 20 Y<|Tr<|Rm Y<|bE h fun x h_x h=>Rq Y (ZU (ov Y) (ov Y) ZcI h_x)<|Rq Y (Zr (ov Y) Zcj Y Y)<|Rx Y (Zz (row:= [_,_,_,_,_,_,_,_,_,_,_,_]) 3 Y Zlw Y tZ_49)<|Ra Y<|Rx Y (Zk (ov Y) (ov Y) (Zo Zcj Y) Y Y Y (Nat.le_of_ble_eq_true Y) (Zd Y) Y)<|Za<|K9 1 5 6 7 8 9 18 19 20 Y<|Td md0<|ZaL 0 _ Y (by kernel_rfl) Y Y (fun hp'=>Zf<|ov Y)<|ZaL 1 _ Y (by kernel_rfl) Y Y (fun hp'=>Zf<|ov Y)<|ZhE 2 _ Y (by kernel_rfl) Y Y Y ExtW.refl (fun hp' hx=>ZG (ov Y) (hx.get Y Y) Y Y Zcj Y Y)<|bE h fun y h_y h=>ZhE 3 _ Y (by kernel_rfl) Y Y Y ExtW.refl (fun hp' hx=>Zn (Zdn h_y)<|.cons (ov Y) (.b Y)<|.cons (ov Y) (.aggB Y) .nil)<|bE h fun x2 h_x2 h=>ZhE 4 _ Y (by kernel_rfl) Y Y Y ExtW.refl (fun hp' hx=>ZU (ov Y) (ov Y) ZeI h_x2)<|ZhE 5 _ Y (by kernel_rfl) Y Y Y ExtW.refl (fun hp' hx=>Zr (ov Y) Zf7 Y Y)<|ZhE 6 _ Y (by kernel_rfl) Y Y Y ExtW.refl (fun hp' hx=>Zb (ov Y) (hx.get Y Y) Y Qi)<|ZhE 7 _ Y (by kernel_rfl) Y Y Y ExtW.refl (fun hp' hx=>Zi (ov Y) (hx.get Y Y) Y Y tS3 Y)<|bE h fun y2 h_y2 h=>ZhE 8 _ Y (by kernel_rfl) Y Y Y ExtW.refl (fun hp' hx=>Zn (ZgH h_y2)<|.cons (ov Y) (.aggB Y)<|.cons (ov Y) (.b Y) .nil)<|ZaL 9 _ Y (by kernel_rfl) Y Y (fun hp'=>Zf<|ov Y)<|ZaL 10 _ Y (by kernel_rfl) Y Y (fun hp'=>Zq (ov Y) Y)<|ZaL 11 _ Y (by kernel_rfl) Y Y (fun hp'=>Zq (ov Y) Y)<|Zod 12 _ _ Y (by kernel_rfl) Y Y (fun _=>Ext.app) (fun h=>by cases h) (Zz (row:= [_,_,_]) 4 Y Zft Y tZ_56)<|Do 13 Y (Zk (ov Y) (ov Y) (Zo Zai Y) Y Y Y (Nat.le_of_ble_eq_true Y) (Zd Y) Y)<|D1 14 Qp Y<|Dd<|K11 1 5 6 7 8 9 10 11 18 19 20 Y<|Tr<|Rq Y (Ze (ov Y) Jn)<|Rq Y (Zc (ov Y) ZdM Y)<|Rm Y<|bE h fun x3 h_x3 h=>Rq Y (ZU (ov Y) (ov Y) ZcA h_x3)<|Rq Y (Zr (ov Y) ZdS Y Y)<|Rx Y (Zz (row:= [_,_,_,_,_]) 5 Y ZkQ Y tZ_99)<|Rx Y (Zk (ov Y) (ov Y) (Zo ZdS Y) Y Y Y (Nat.le_of_ble_eq_true Y) (Zd Y) Y)<|Za<|K11 1 5 6 7 9 10 11 12 18 19 20 Y<|Tr<|Rq Y (Zb (ov Y) Y Y JW)<|Rq Y (Zi (ov Y) Y Y Y ZeC Y)<|bE h fun y3 h_y3 h=>Rx Y (ZK [] (Zi5 h_y3) (.cons (ov Y) (.dat Y) .nil) .nil Y (.keep Y Y<|.keep Y Y<|.keep Y Y<|.keep Y Y<|.keep Y Y<|.keep Y Y<|.lent 0 (.inr ⟨Nat.le_of_ble_eq_true Y,Y⟩) Y (roM D3) .nil) Y Y<|.own _<|.inr ⟨Nat.le_of_ble_eq_true Y,Y⟩)<|Rq Y (Zb (ov Y) Y Y JW)<|Rx Y (Zk (ov Y) (ov Y) (Zp ZeC) Y Y Y (Nat.le_of_ble_eq_true Y) (Zd Y) Y)<|Za<|K11 1 5 6 7 9 10 11 12 18 19 20 Y<|X0 (Ent.sel [some 0,some 1,some 2,some 3,some 4,some 5,none] (sd 1 Y Y<|sd 5 Y Y<|sr 6 Y (.ptr (r':=0) _ _ _ Y)<|sr 7 Y (.ptr (r':=1) _ _ _ Y)<|sr 9 Y (.ptr (r':=3) _ _ _ Y)<|sr 10 Y (.ptr (r':=4) _ _ _ Y)<|sd 11 Y Y<|sr 12 Y (.ptr (r':=5) _ _ _ Y)<|sd 18 Y Y<|sd 19 Y Y<|sd 20 Y Y sn) (.cons Y (ro1 (by exact tZ_44.symm)<|rlc (.dat Y)<|rlc (.dat Y) rln)<|.cons Y (ro1 (by exact tZ_44.symm)<|rlc (.dat Y)<|rlc (.own (r':=2) _ Y) rln)<|.cons Y (roM D99)<|.cons Y (ro1 (by exact tZ_49.symm)<|rld Y)<|.cons Y (ro1 (by exact tZ_56.symm)<|rld Y)<|.cons Y (ro1 (by exact tZ_99.symm)<|rlc (.dat Y)<|rlc (.dat Y)<|rlc (.dat Y)<|rlc (.dat Y)<|rlc (Za1 Y Y Y D3) rln)<|.row 3 .nil) Y Y)<|ZbM (cw:=md0) (by kernel_rfl)<|Dq 0 Y (Zb (ov Y) Y Y Jn)<|Dq 1 Y (Zi (ov Y) Y Y Y ZdM Y)<|Dq 2 Y (ZG (ov Y) Y Y Y Zcj Y Y)<|Dq 3 Y (ZG (ov Y) Y Y Y ZdS Y Y)<|Dq 4 Y (Zb (ov Y) Y Y Zcq)<|Dq 5 Y (Zi (ov Y) Y Y Y tS3 Y)<|D1 6 Zf Y<|bE h fun y4 h_y4 h=>Dq 7 Y (Zn (Zgo h_y4)<|.cons (ov Y) (.aggB Y)<|.cons (ov Y) (.aggB Y)<|.cons (ov Y) (.b Y)<|.cons (ov Y) (.b Y) .nil)<|Zmb 8 (.sl 99<|List.map R99 ([y4]:List api_Memo)) Y (by kernel_rfl) Y Y (ZbU ZcA (.cons (cva<|ov Y) Y (pwD Y) .nil) Y Y)<|bE h fun l2 h_l2 h=>Do 9 Y (Jw (ov Y) (XW (ov Y) tZ_99) ZcA Y Y Y (fun _=>Zd Y) Y h_l2)<|Dq 10 Y (Zb (ov Y) Y Y Jn)<|Do 11 Y (Zk (ov Y) (ov Y) (Zp ZdM) Y Y Y (Nat.le_of_ble_eq_true Y) (Zd Y) Y)<|Dd<|K7 1 5 6 7 18 19 20 Y<|Zw<|R2 QB Y<|Rm Y<|Za<|⟨_,h,ES [some 0,some 1,some 2]⟩
  ·
   refine ZL<|?_
   replace h:=lx h▸ho1
   exact⟨_,h,ES [some 0,some 1,some 2]⟩
 ·
  refine Tr<|Rq Y (ZG (ov Y) Y Y Y QR Y Y)<|Rx Y (Zk (ov Y) (ov Y) (Zo QR Y) Y Y Y (Nat.le_of_ble_eq_true Y) (Zd Y) Y)<|Za<|?_
  obtain rfl:=rt h
  exact Zj<|XB [some 2] Y (.cons (.agg Y Y Y Y QR Y Y) .nil) (.cons Y (roM D99) .nil) Y Y<|Zbw<|rlc (.dat Y)<|rlc (.own _ Y) rln
theorem ZfI{z:Int}{r:Str}(h:itoa z=some r):CSpec Tryz.prog gl0 90 [.int .i64 z] (.str r):=
  ZnJ (g:=1) (by kernel_rfl) (by kernel_rfl) (by simp [gl0]) (fun _ h1 h2 _ ht=>Any.strconv_Itoa Tryz.laysM171 _ h1 h2 _ ht) h
theorem ZdV{n:Int}{den:Int}{places:Int}{r:Str}(h:XM n den places=some r):
 CSpec Tryz.prog gl0 121 [.int .i64 n,.int .i64 den,.int .i64 places] (.str r):=by
 unfold XM at h
 replace h:=ZO h
 refine So Tryz.func121 Y fun w0 A=>Tr<|Ra Y<|Za<|K3 0 1 2 Y<|Tr<|Rm Y<|Rm Y<|Rq Y (ZpE (ov Y) Y)<|Rq Y (ZoE (ov Y) (ov Y) Y)<|Ra Y<|Za<|K4 0 1 2 7 Y<|Tr<|Rm Y<|Rm Y<|bE h fun q h_q h=>Rq Y (ZhF (ov Y) (ov Y) h_q)<|Ra Y<|Ra Y<|Za<|I1 (fun scale=>⟨[(0,.int .i64 n),(1,.int .i64 den),(2,.int .i64 places),(7,.int .i64 (max n (i64 (-n)))),(8,.int .i64 q),(9,.int .i64 scale)],[]⟩) h (fun h=>?_) fun scale h=>?_
 ·
  refine K6 0 1 2 7 8 9 Y<|Tr<|Rm Y<|Rm Y<|Za<|Zl<|?_
  obtain⟨r1,hl1,ho1⟩:=Xa h
  refine L2 (fun scale2 i=>⟨[(0,.int .i64 n),(1,.int .i64 den),(2,.int .i64 places),(7,.int .i64 (max n (i64 (-n)))),(8,.int .i64 q),(9,.int .i64 scale2),(19,.int .i64 places),(20,.int .i64 i)],[]⟩) hl1 (ES []) fun n1 scale2 i h=>?_
  unfold Zbx at h
  refine Tr<|R2 ZV Y<|Za<|Zm<|If h Y (fun h=>?_) fun h=>?_
  ·
   exact Zh<|Zm<|Zl<|K8 0 1 2 7 8 9 19 20 Y<|Zw<|Rm Y<|R2 Zjz Y<|Ra Y<|Za<|K8 0 1 2 7 8 9 19 20 Y<|Zw<|R2 QB Y<|Rm Y<|Za<|⟨_,h,ES []⟩
  ·
   refine ZL<|?_
   replace h:=lx h▸ho1
   exact⟨_,h,ES []⟩
 ·
  refine Tr<|Rm Y<|Rm Y<|bE h fun q2 h_q2 h=>Rq Y (Zj1 (ov Y) (ov Y) h_q2)<|Rm Y<|R2 Zjz Y<|R2 Zjz Y<|Rm Y<|R2 QB Y<|Rm Y<|R2 Zjz Y<|bE h fun q3 h_q3 h=>Rq Y (ZhF (ov Y) (ov Y) h_q3)<|Ra Y<|Za<|I2 (fun whole part=>⟨[(0,.int .i64 n),(2,.int .i64 places),(8,.int .i64 whole),(9,.int .i64 scale),(10,.int .i64 part)],[]⟩) h (fun h=>?_) fun whole part h=>?_
  ·
   refine K5 0 2 8 9 10 Y<|Tr<|Rm Y<|Rm Y<|R2 ZT Y<|Za<|K6 0 2 8 9 10 38 Y<|If h Y (fun h=>?_) fun h=>?_
   ·
    exact K5 0 2 8 9 10 Y<|Zw<|Rm Y<|R2 QB Y<|Ra Y<|Ra Y<|Za<|⟨_,h,ES []⟩
   ·
    exact Zh<|⟨_,h,ES []⟩
  ·
   refine Tr<|Rm Y<|bE h fun y h_y h=>Rq Y (Zn (ZfI h_y)<|.cons (ov Y) (.b Y) .nil)<|Ra Y<|Za<|I1 (fun out=>⟨[(0,.int .i64 n),(8,.int .i64 whole),(10,.int .i64 part),(11,.str out)],[]⟩) h (fun h=>?_) fun out h=>?_
   ·
    refine K6 0 2 8 9 10 11 Y<|Tr<|Rm Y<|R2 Qq Y<|Za<|K6 0 8 9 10 11 44 Y<|If h Y (fun h=>?_) fun h=>?_
    ·
     exact K5 0 8 9 10 11 Y<|Zw<|Rm Y<|Rm Y<|Rm Y<|R2 QB Y<|bE h fun y2 h_y2 h=>Rq Y (Zn (ZfI h_y2)<|.cons (ov Y) (.b Y) .nil)<|bE h fun s h_s h=>Rq Y (Zan (ov Y) Qr (oi<|ov Y) on h_s)<|bE h fun s2 h_s2 h=>Rq Y (Zgy (ov Y) (ov Y) h_s2)<|bE h fun s3 h_s3 h=>Rq Y (Zgy (ov Y) (ov Y) h_s3)<|Ra Y<|Za<|⟨_,h,ES []⟩
    ·
     exact Zh<|⟨_,h,ES []⟩
   ·
    refine Zm<|Tr<|Rm Y<|R2 ZV Y<|Rm Y<|Rq Y (.guarded ((decide (n<0))==true) Y Y Y Y fun h=>Zf<|ov Y)<|Rq Y (.guarded ((decide (n<0))==true) Y Y Y Y fun h=>Qq (ow Y h)<|ov Y)<|Rq Y (.guarded ((decide (n<0))==true) Y Y Y Y fun h=>Zf<|ow Y h)<|Rq Y (.guarded2 (((decide (n<0))==true)&&((decide (0<whole))==false)) Y Y Y Y fun h=>Zf<|ov Y)<|Rq Y (.guarded2 (((decide (n<0))==true)&&((decide (0<whole))==false)) Y Y Y Y fun h=>Qq (ow Y h)<|ov Y)<|Rq Y (.guarded ((decide (n<0))==true) Y Y Y Y fun h=>Xi (ow Y h) fun hp=>ow Y<|gA h<|gF hp)<|Rq Y (ZQ (ov Y) fun hp=>ow Y<|gT hp)<|Za<|K2 11 62 Y<|If h Y (fun h=>?_) fun h=>?_
    ·
     refine K1 11 Y<|Tr<|Rm Y<|bE h fun s4 h_s4 h=>Rq Y (Zgy (ov Y) (ov Y) h_s4)<|Ra Y<|Za<|?_
     obtain rfl:=rt h
     exact Zj (Zu Y (.one<|rb Y))
    ·
     refine Zh<|K1 11 Y<|Tr<|Rm Y<|Ra Y<|Za<|?_
     obtain rfl:=rt h
     exact Zj (Zu Y (.one<|rb Y))
theorem Zjk{i:api_Instrument}{n:Int}{r:Int}(h:Zbb i n=some r):
 CSpec Tryz.prog gl0 122 [.agg [.int .i64 i.Kind,.str i.Name,.str i.Track,.int .i64 i.Places,.int .i64 i.Low,.int .i64 i.High,.int .i64 i.Steps,.sl 136 (List.map R136 i.Zones),.int .i64 i.Op,.int .i64 i.N,.bool i.Latch,.int .i64 i.Size],.int .i64 n] (.int .i64 r):=by
 unfold Zbb at h
 replace h:=ZO h
 refine So Tryz.func122 Y fun w0 A=>Tr<|Rq Y (ZP (cva<|ov Y) Y tZ_49 Y)<|Ra Y<|Za<|Zm<|Zl<|K2 1 2 Y<|Tr<|Rm Y<|Rq Y (Ze (ov Y) ZdX)<|Rq Y (Zc (ov Y) tS3 Y)<|R2 ZaD Y<|Ra Y<|Za<|K3 1 2 5 Y<|If h Y (fun h=>?_) fun h=>?_
 ·
  refine K0<|Tr<|Ra Y<|Za<|?_
  obtain rfl:=rt h
  exact Zj (Zu Y (.one<|rb Y))
 ·
  refine K2 1 2 Y<|Tr<|Rm Y<|Rq Y (Ze (ov Y) Zfl)<|Rq Y (Zc (ov Y) tS3 Y)<|R2 Zaj Y<|Ra Y<|Za<|K3 1 2 10 Y<|If h Y (fun h=>?_) fun h=>?_
  ·
   refine K1 2 Y<|Tr<|Rq Y (Ze (ov Y) ZgO)<|Rq Y (Zc (ov Y) tS3 Y)<|Ra Y<|Za<|?_
   obtain rfl:=rt h
   exact Zj (Zu Y (.one<|rb Y))
  ·
   refine Zh<|K2 1 2 Y<|Tr<|Rm Y<|Rq Y (Ze (ov Y) ZdX)<|Rq Y (Zc (ov Y) tS3 Y)<|R2 Zdi Y<|Rq Y (Ze (ov Y) ZgO)<|Rq Y (Zc (ov Y) tS3 Y)<|R2 Zjz Y<|Rq Y (Ze (ov Y) Zfl)<|Rq Y (Zc (ov Y) tS3 Y)<|Rq Y (Ze (ov Y) ZdX)<|Rq Y (Zc (ov Y) tS3 Y)<|R2 Zdi Y<|bE h fun q h_q h=>Rq Y (ZhF (ov Y) (ov Y) h_q)<|Ra Y<|Za<|?_
   obtain rfl:=rt h
   exact Zj (Zu Y (.one<|rb Y))
theorem Zje{i:api_Instrument}{n:Int}{r:Str}(h:Zal i n=some r):
 CSpec Tryz.prog gl0 123 [.agg [.int .i64 i.Kind,.str i.Name,.str i.Track,.int .i64 i.Places,.int .i64 i.Low,.int .i64 i.High,.int .i64 i.Steps,.sl 136 (List.map R136 i.Zones),.int .i64 i.Op,.int .i64 i.N,.bool i.Latch,.int .i64 i.Size],.int .i64 n] (.str r):=by
 unfold Zal at h
 replace h:=ZO h
 refine So Tryz.func123 Y fun w0 A=>Tr<|Rq Y (ZP (cva<|ov Y) Y tZ_49 Y)<|Ra Y<|Za<|J0 (fun j=>(.inr j)) ⟨[],[]⟩ h (fun h=>?_) fun h=>?_
 ·
  refine K2 1 2 Y<|Tr<|Rq Y (Ze (ov Y) Zd6)<|Rq Y (Zc (ov Y) ZjB Y)<|Rl tZ_136 Zhc Y<|Rm Y<|Za<|Zl<|?_
  obtain⟨r1,hl1,ho1⟩:=Xa h
  refine L1 (fun i2=>⟨[(1,.int .i64 n),(8,.sl 136 (List.map R136 i.Zones)),(9,.int .i64 (i.Zones.length:Int)),(10,.int .i64 i2)],[]⟩) hl1 (ES []) fun n1 i2 h=>?_
  unfold XV at h
  refine Tr<|R2 ZV Y<|Za<|Zm<|If h Y (fun h=>?_) fun h=>?_
  ·
   refine Zh<|Zm<|Zl<|K4 1 8 9 10 Y<|Tr<|bE h fun x h_x h=>Rq Y (ZU (ov Y) (ov Y) Zhc h_x)<|Rq Y (Zr (ov Y) Zja Y Y)<|Rx Y (Zz (row:= [_,_,_]) 0 Y Znf Y tZ_136)<|Rx Y (Zk (ov Y) (ov Y) (Zo Zja Y) Y Y Y (Nat.le_of_ble_eq_true Y) (Zd Y) Y)<|Za<|K5 1 6 8 9 10 Y<|Tr<|Rm Y<|Rq Y (Zb (ov Y) Y Y Zg1)<|Rq Y (Zi (ov Y) Y Y Y tS3 Y)<|Rq Y (Zb (ov Y) Y Y Zg7)<|Rq Y (Zi (ov Y) Y Y Y tS3 Y)<|bE h fun y h_y h=>Rq Y (Zn (QK h_y)<|.cons (ov Y) (.b Y)<|.cons (ov Y) (.b Y)<|.cons (ov Y) (.b Y) .nil)<|Za<|K6 1 6 8 9 10 19 Y<|If h Y (fun h=>?_) fun h=>?_
   ·
    refine K1 6 Y<|Tr<|Rq Y (Zb (ov Y) Y Y ZjG)<|Rq Y (Zi (ov Y) Y Y Y tS9 Y)<|Ra Y<|Za<|?_
    replace h:=lx h▸ho1
    obtain rfl:=rt h
    exact Zj (Zu Y (.one<|rb Y))
   ·
    exact Zh<|K4 1 8 9 10 Y<|Zw<|R2 QB Y<|Rm Y<|Za<|⟨_,h,ES []⟩
  ·
   refine ZL<|?_
   replace h:=lx h▸ho1
   exact⟨(),h,ES []⟩
 ·
  replace h:=elr h
  replace h:=t0i h
  refine Tr<|Ra Y<|Za<|?_
  obtain rfl:=rt h
  exact Zj (Zu Y (.one<|rb Y))
theorem ZnX{l:List Str}{sep r:Str}(h:Zkg l sep=some r):CSpec Tryz.prog gl0 124 [.sl 9 (l.map R9),.str sep] (.str r):=
  Zn2 (by kernel_rfl) (by kernel_rfl) (fun a c sep w=>Any.strings_Join_none Tryz.lays156 Tryz.Builder_Extra_156 a c sep w) (fun bk o c xs sep w=>Any.strings_Join Tryz.lays156 Tryz.Builder_Extra_156 bk o c xs sep w) h
theorem ZkO{i:api_Instrument}{m:api_Memo}{den:Int}{x:api_Sample}{known:Bool}{r:api_Face}(h:Zbq i m den x known=some r):
 CSpec Tryz.prog gl0 89 [.agg [.int .i64 i.Kind,.str i.Name,.str i.Track,.int .i64 i.Places,.int .i64 i.Low,.int .i64 i.High,.int .i64 i.Steps,.sl 136 (List.map R136 i.Zones),.int .i64 i.Op,.int .i64 i.N,.bool i.Latch,.int .i64 i.Size],.agg [.bool m.Lit,.bool m.Some,.int .i64 m.N,.int .i64 m.Count,.sl 3 (List.map R3 m.Tape)],.int .i64 den,.agg [.int .i64 x.At,.int .i64 x.N,.int .i64 x.Mark],.bool known] (.agg [.str r.Text,.int .i64 r.Needle,.bool r.Lit,.int .i64 r.Mark]):=by
 unfold Zbq at h
 replace h:=ZO h
 refine So Tryz.func89 Y fun w0 A=>Tr<|Rq Y (ZP (cva<|ov Y) Y tZ_49 Y)<|Rq Y (ZP (cva<|ov Y) Y tZ_99 Y)<|Rq Y (ZP (cva<|ov Y) Y tZ_56 Y)<|Rx Y (Zz (row:= [_,_,_,_]) 0 Y ZmJ Y tZ_39)<|Za<|K6 2 4 5 6 8 10 Y<|Tr<|Rq Y (Ze (ov Y) ZgV)<|Rq Y (Zc (ov Y) tS3 Y)<|Rq Y (Ze (ov Y) ZaF)<|Rq Y (Zc (ov Y) tS4 Y)<|Rq Y (QU (ys:= [_,_,_,_]) ZnS Zoq ZmJ (.cons (cvs (ov Y)<|ZB Y)<|.cons (cvs (ov Y)<|ZB Y)<|.cons (cvs (ov Y)<|ZB Y) .nil) Y)<|Rx Y (Zz (row:= [_,_,_,_]) 1 Y ZmJ Y tZ_39)<|Rx Y (Zk (ov Y) (ov Y) (Zo ZkA Y) Y Y Y (Nat.le_of_ble_eq_true Y) (Zd Y) Y)<|Za<|I1 (fun out=>⟨[(10,.ptr 0 1 0 0),(11,.ptr 1 1 0 0)],[some ⟨39,[[.str [],.int .i64 0,.bool false,.int .i64 0]]⟩,some ⟨39,[[.str out.Text,.int .i64 out.Needle,.bool out.Lit,.int .i64 out.Mark]]⟩]⟩) h (fun h=>?_) fun out h=>?_
 ·
  refine K7 2 4 5 6 8 10 11 Y<|Tr<|Rq Y (Ze (ov Y) JK)<|Rq Y (Zc (ov Y) tS3 Y)<|Za<|Zl<|K8 2 4 5 6 8 10 11 21 Y<|Tr<|R2 ZT Y<|Ra Y<|Za<|K9 2 4 5 6 8 10 11 21 22 Y<|If h Y (fun h=>?_) fun h=>?_
  ·
   refine K6 2 4 5 8 10 11 Y<|Tr<|Rm Y<|Za<|K6 2 5 8 10 11 24 Y<|If h Y (fun h=>?_) fun h=>?_
   ·
    exact K5 2 5 8 10 11 Y<|Zw<|Rq Y (Ze (ov Y) Zcq)<|Rq Y (Zc (ov Y) tS3 Y)<|Rm Y<|Rq Y (Ze (ov Y) ZeK)<|Rq Y (Zc (ov Y) tS3 Y)<|bE h fun y h_y h=>Rq Y (Zn (ZdV h_y)<|.cons (ov Y) (.b Y)<|.cons (ov Y) (.b Y)<|.cons (ov Y) (.b Y) .nil)<|Rq Y (Zb (ov Y) Y Y Zcm)<|Rx Y (Zk (ov Y) (ov Y) (Zp tS9) Y Y Y (Nat.le_of_ble_eq_true Y) (Zd Y) Y)<|Za<|⟨_,h,ES [some 0,some 1]⟩
   ·
    exact Zh<|⟨_,h,ES [some 0,some 1]⟩
  ·
   refine K8 2 4 5 6 8 10 11 21 Y<|Tr<|R2 ZT Y<|Ra Y<|Za<|K9 2 4 5 6 8 10 11 21 32 Y<|If h Y (fun h=>?_) fun h=>?_
   ·
    refine K5 4 5 8 10 11 Y<|Tr<|Rm Y<|Za<|K5 5 8 10 11 34 Y<|If h Y (fun h=>?_) fun h=>?_
    ·
     exact K4 5 8 10 11 Y<|ZbM (cw:=md0) (by kernel_rfl)<|Dq 0 Y (Zr (ov Y) Zcj Y Y)<|Dq 1 Y (Ze (ov Y) Zcq)<|Dq 2 Y (Zc (ov Y) tS3 Y)<|bE h fun y2 h_y2 h=>Dq 3 Y (Zn (Zjk h_y2)<|.cons (ov Y) (.aggB Y)<|.cons (ov Y) (.b Y) .nil)<|Dq 4 Y (Zr (ov Y) Zcj Y Y)<|Dq 5 Y (Ze (ov Y) Zcq)<|Dq 6 Y (Zc (ov Y) tS3 Y)<|bE h fun y3 h_y3 h=>Dq 7 Y (Zn (Zje h_y3)<|.cons (ov Y) (.aggB Y)<|.cons (ov Y) (.b Y) .nil)<|Dq 8 Y (Zb (ov Y) Y Y Zos)<|Do 9 Y (Zk (ov Y) (ov Y) (Zp tS3) Y Y Y (Nat.le_of_ble_eq_true Y) (Zd Y) Y)<|Dq 10 Y (Zb (ov Y) Y Y Zcm)<|Do 11 Y (Zk (ov Y) (ov Y) (Zp tS9) Y Y Y (Nat.le_of_ble_eq_true Y) (Zd Y) Y)<|Dd<|⟨_,h,ES [some 0,some 1]⟩
    ·
     exact Zh<|⟨_,h,ES [some 0,some 1]⟩
   ·
    refine K7 2 4 5 6 10 11 21 Y<|Tr<|R2 ZT Y<|Ra Y<|Za<|K8 2 4 5 6 10 11 21 45 Y<|If h Y (fun h=>?_) fun h=>?_
    ·
     refine K4 4 6 10 11 Y<|Tr<|Rq Y (Ze (ov Y) ZaF)<|Rq Y (Zc (ov Y) tS4 Y)<|Za<|K4 4 10 11 48 Y<|If h Y (fun h=>?_) fun h=>?_
     ·
      exact K2 10 11 Y<|Zw<|Rq Y (Zb (ov Y) Y Y Zcm)<|Rx Y (Zk (ov Y) (ov Y) (Zp tS9) Y Y Y (Nat.le_of_ble_eq_true Y) (Zd Y) Y)<|Za<|⟨_,h,ES [some 0,some 1]⟩
     ·
      refine K3 4 10 11 Y<|Tr<|Rm Y<|Za<|K3 10 11 50 Y<|If h Y (fun h=>?_) fun h=>?_
      ·
       exact K2 10 11 Y<|Zw<|Rq Y (Zb (ov Y) Y Y Zcm)<|Rx Y (Zk (ov Y) (ov Y) (Zp tS9) Y Y Y (Nat.le_of_ble_eq_true Y) (Zd Y) Y)<|Za<|⟨_,h,ES [some 0,some 1]⟩
      ·
       exact Zh<|⟨_,h,ES [some 0,some 1]⟩
    ·
     refine K6 2 5 6 10 11 21 Y<|Tr<|R2 ZT Y<|Ra Y<|Za<|K7 2 5 6 10 11 21 52 Y<|If h Y (fun h=>?_) fun h=>?_
     ·
      refine K5 2 5 6 10 11 Y<|Tr<|Rq Y (Ze (ov Y) Zf1)<|Rq Y (Zc (ov Y) tS4 Y)<|Za<|K6 2 5 6 10 11 55 Y<|If h Y (fun h=>?_) fun h=>?_
      ·
       exact K5 2 5 6 10 11 Y<|Zw<|Rq Y (Ze (ov Y) ZgI)<|Rq Y (Zc (ov Y) tS3 Y)<|Rm Y<|Rq Y (Ze (ov Y) ZeK)<|Rq Y (Zc (ov Y) tS3 Y)<|bE h fun y4 h_y4 h=>Rq Y (Zn (ZdV h_y4)<|.cons (ov Y) (.b Y)<|.cons (ov Y) (.b Y)<|.cons (ov Y) (.b Y) .nil)<|Rq Y (Zb (ov Y) Y Y Zcm)<|Rx Y (Zk (ov Y) (ov Y) (Zp tS9) Y Y Y (Nat.le_of_ble_eq_true Y) (Zd Y) Y)<|Za<|⟨_,h,ES [some 0,some 1]⟩
      ·
       exact Zh<|⟨_,h,ES [some 0,some 1]⟩
     ·
      refine K6 2 5 6 10 11 21 Y<|Tr<|R2 ZT Y<|Ra Y<|Za<|K7 2 5 6 10 11 21 63 Y<|If h Y (fun h=>?_) fun h=>?_
      ·
       exact K3 6 10 11 Y<|Zw<|Rq Y (Ze (ov Y) ZgP)<|Rq Y (Zc (ov Y) tS3 Y)<|bE h fun y5 h_y5 h=>Rq Y (Zn (ZfI h_y5)<|.cons (ov Y) (.b Y) .nil)<|Rq Y (Zb (ov Y) Y Y Zcm)<|Rx Y (Zk (ov Y) (ov Y) (Zp tS9) Y Y Y (Nat.le_of_ble_eq_true Y) (Zd Y) Y)<|Za<|⟨_,h,ES [some 0,some 1]⟩
      ·
       refine K6 2 5 6 10 11 21 Y<|Tr<|R2 ZT Y<|Ra Y<|Za<|K6 2 5 6 10 11 69 Y<|If h Y (fun h=>?_) fun h=>?_
       ·
        refine K5 2 5 6 10 11 Y<|Tr<|Ra Y<|Za<|I1 (fun l=>⟨[(10,.ptr 0 1 0 0),(11,.ptr 1 1 0 0),(12,.own 2 l.length)],[some ⟨39,[[.str [],.int .i64 0,.bool false,.int .i64 0]]⟩,some ⟨39,[[.str [45,45,45],.int .i64 0,.bool m.Lit,.int .i64 x.Mark]]⟩,some ⟨9,List.map R9 l⟩]⟩) h (fun h=>?_) fun l h=>?_
        ·
         refine Tr<|Rq Y (Ze (ov Y) JW)<|Rq Y (Zc (ov Y) ZeC Y)<|Rl tZ_3 J3 Y<|Rm Y<|Za<|Zl<|?_
         obtain⟨r1,hl1,ho1⟩:=Xa h
         refine L2 (fun l2 i2=>⟨[(2,.int .i64 den),(5,.rp [.int .i64 i.Kind,.str i.Name,.str i.Track,.int .i64 i.Places,.int .i64 i.Low,.int .i64 i.High,.int .i64 i.Steps,.sl 136 (List.map R136 i.Zones),.int .i64 i.Op,.int .i64 i.N,.bool i.Latch,.int .i64 i.Size] 0),(10,.ptr 0 1 0 0),(11,.ptr 1 1 0 0),(12,.own 2 l2.length),(72,.sl 3 (List.map R3 m.Tape)),(73,.int .i64 (m.Tape.length:Int)),(74,.int .i64 i2)],[some ⟨39,[[.str [],.int .i64 0,.bool false,.int .i64 0]]⟩,some ⟨39,[[.str [45,45,45],.int .i64 0,.bool m.Lit,.int .i64 x.Mark]]⟩,some ⟨9,List.map R9 l2⟩]⟩) hl1 (ES [some 0,some 1,none]) fun n1 l2 i2 h=>?_
         unfold JQ at h
         refine Tr<|R2 ZV Y<|Za<|Zm<|If h Y (fun h=>?_) fun h=>?_
         ·
          exact Zh<|Zm<|Zl<|K8 2 5 10 11 12 72 73 74 Y<|Tr<|bE h fun x2 h_x2 h=>Rq Y (ZU (ov Y) (ov Y) J3 h_x2)<|Rq Y (Zc (ov Y) tS3 Y)<|Ra Y<|Za<|K9 2 5 10 11 12 14 72 73 74 Y<|Zw<|Rm Y<|Rm Y<|Rm Y<|Rq Y (Ze (ov Y) ZeK)<|Rq Y (Zc (ov Y) tS3 Y)<|bE h fun y6 h_y6 h=>Rq Y (Zn (ZdV h_y6)<|.cons (ov Y) (.b Y)<|.cons (ov Y) (.b Y)<|.cons (ov Y) (.b Y) .nil)<|R_q (.sl 9<|List.map R9 ([y6]:List Str)) Y (ZbU ZkZ (.cons (cvs (ov Y)<|ZB Y) Y (.cons (.b Y) .nil) .nil) Y Y)<|bE h fun l3 h_l3 h=>Rx Y (Jw (ov Y) (XW (ov Y) tZ_9) ZkZ Y Y Y (fun _=>Zd Y) Y h_l3)<|Ra Y<|Za<|K8 2 5 10 11 12 72 73 74 Y<|Zw<|R2 QB Y<|Rm Y<|Za<|⟨_,h,ES [some 0,some 1,some 2]⟩
         ·
          refine ZL<|?_
          replace h:=lx h▸ho1
          exact⟨_,h,ES [some 0,some 1,some 2]⟩
        ·
         refine Tr<|Rm Y<|Rq Y (Zbs (ov Y) Y Y ZkZ)<|R2 Qq Y<|Za<|K4 10 11 12 89 Y<|If h Y (fun h=>?_) fun h=>?_
         ·
          exact K3 10 11 12 Y<|Zw<|Rm Y<|bE h fun y7 h_y7 h=>Rq Y (Zh2 (ZnX h_y7) .str<|.cons (ov Y) (View.ownM Y Y D9)<|.cons (ov Y) (Dat.view<|.b Y) .nil)<|Rq Y (Zb (ov Y) Y Y Zcm)<|Rx Y (Zk (ov Y) (ov Y) (Zp tS9) Y Y Y (Nat.le_of_ble_eq_true Y) (Zd Y) Y)<|Za<|⟨_,h,ES [some 0,some 1]⟩
         ·
          exact Zh<|⟨_,h,ES [some 0,some 1]⟩
       ·
        exact Zh<|⟨_,h,ES [some 0,some 1]⟩
 ·
  refine Tr<|Rq Y (ZG (ov Y) Y Y Y ZkA Y Y)<|Rx Y (Zk (ov Y) (ov Y) (Zo ZkA Y) Y Y Y (Nat.le_of_ble_eq_true Y) (Zd Y) Y)<|Za<|?_
  obtain rfl:=rt h
  exact Zj (Zu Y (.one<|.agg Y Y Y Y ZkA Y Y<|pwB Y))
theorem ZjX{p:api_Panel}{l:List api_Track}{s:api_PanelState}{r:(List api_Face)}(h:Zb2 p l s=some r):
 CSpec Tryz.prog gl0 45 [.agg [.sl 49 (List.map R49 p.Instruments)],.sl 54 (List.map R54 l),.agg [.int .i64 s.Frame,.sl 99 (List.map R99 s.Memos)]] (.sl 39 (List.map R39 r)):=by
 unfold Zb2 at h
 replace h:=ZO h
 refine So Tryz.func45 Y fun w0 A=>Tr<|Rq Y (ZP (cva<|ov Y) Y tZ_24 Y)<|Rq Y (ZP (cva<|ov Y) Y tZ_44 Y)<|Ra Y<|Za<|K3 1 3 5 Y<|Tr<|Ra Y<|Za<|I1 (fun out=>⟨[(7,.own 0 out.length)],[some ⟨39,List.map R39 out⟩]⟩) h (fun h=>?_) fun out h=>?_
 ·
  refine Tr<|Rq Y (Ze (ov Y) Zbj)<|Rq Y (Zc (ov Y) Zf0 Y)<|Rl tZ_49 ZcI Y<|Rm Y<|Za<|Zl<|?_
  obtain⟨r1,hl1,ho1⟩:=Xa h
  refine L2 (fun out2 i=>⟨[(1,.sl 54 (List.map R54 l)),(5,.rp [.int .i64 s.Frame,.sl 99 (List.map R99 s.Memos)] 0),(7,.own 0 out2.length),(14,.sl 49 (List.map R49 p.Instruments)),(15,.int .i64 (p.Instruments.length:Int)),(16,.int .i64 i)],[some ⟨39,List.map R39 out2⟩]⟩) hl1 (ES [none]) fun n1 out2 i h=>?_
  unfold Jl at h
  refine Tr<|R2 ZV Y<|Za<|Zm<|If h Y (fun h=>?_) fun h=>?_
  ·
   refine Zh<|Zm<|Zl<|K6 1 5 7 14 15 16 Y<|Tr<|Rm Y<|bE h fun x h_x h=>Rq Y (ZU (ov Y) (ov Y) ZcI h_x)<|Rq Y (Zr (ov Y) Zcj Y Y)<|Rx Y (Zz (row:= [_,_,_,_,_,_,_,_,_,_,_,_]) 1 Y Zlw Y tZ_49)<|Ra Y<|Rx Y (Zk (ov Y) (ov Y) (Zo Zcj Y) Y Y Y (Nat.le_of_ble_eq_true Y) (Zd Y) Y)<|Za<|K8 1 5 7 8 9 14 15 16 Y<|Tr<|Rm Y<|Rm Y<|Rq Y (ZG (ov Y) Y Y Y Zcj Y Y)<|bE h fun y h_y h=>Rq Y (Zn (Zdn h_y)<|.cons (ov Y) (.b Y)<|.cons (ov Y) (.aggB Y) .nil)<|bE h fun x2 h_x2 h=>Rq Y (ZU (ov Y) (ov Y) ZeI h_x2)<|Rq Y (Zr (ov Y) Zf7 Y Y)<|Rx Y (Zz (row:= [_,_,_,_]) 2 Y Zlo Y tZ_54)<|Rx Y (Zk (ov Y) (ov Y) (Zo Zf7 Y) Y Y Y (Nat.le_of_ble_eq_true Y) (Zd Y) Y)<|Za<|K9 1 5 7 8 9 10 14 15 16 Y<|Tr<|Rx Y (Zz (row:= [_,_,_]) 3 Y Zft Y tZ_56)<|Za<|Tr<|Ra Y<|Za<|I2 (fun x3 known=>⟨[(1,.sl 54 (List.map R54 l)),(5,.rp [.int .i64 s.Frame,.sl 99 (List.map R99 s.Memos)] 0),(7,.own 0 out2.length),(8,.int .i64 i),(9,.ptr 1 1 0 0),(10,.ptr 2 1 0 0),(11,.ptr 3 1 0 0),(12,.bool known),(14,.sl 49 (List.map R49 p.Instruments)),(15,.int .i64 (p.Instruments.length:Int)),(16,.int .i64 i)],[some ⟨39,List.map R39 out2⟩,some ⟨49,[[.int .i64 x.Kind,.str x.Name,.str x.Track,.int .i64 x.Places,.int .i64 x.Low,.int .i64 x.High,.int .i64 x.Steps,.sl 136 (List.map R136 x.Zones),.int .i64 x.Op,.int .i64 x.N,.bool x.Latch,.int .i64 x.Size]]⟩,some ⟨54,[[.str x2.Name,.int .i64 x2.Series.Den,.sl 56 (List.map R56 x2.Series.Samples),.int .i64 x2.Long]]⟩,some ⟨56,[[.int .i64 x3.At,.int .i64 x3.N,.int .i64 x3.Mark]]⟩]⟩) h (fun h=>?_) fun x3 known h=>?_
   ·
    refine Tr<|Rq Y (Ze (ov Y) Qi)<|Rq Y (Zc (ov Y) tS3 Y)<|R2 Zaj Y<|Za<|K12 1 5 7 8 9 10 11 12 14 15 16 29 Y<|If h Y (fun h=>?_) fun h=>?_
    ·
     exact K11 1 5 7 8 9 10 11 12 14 15 16 Y<|Zw<|Rq Y (ZG (ov Y) Y Y Y Zf7 Y Y)<|Rq Y (Ze (ov Y) Qi)<|Rq Y (Zc (ov Y) tS3 Y)<|bE h fun y2 h_y2 h=>Rq Y (Zn (ZgH h_y2)<|.cons (ov Y) (.aggB Y)<|.cons (ov Y) (.b Y) .nil)<|Rm Y<|Rq Y (Zq (ov Y) Y)<|Rq Y (Zq (ov Y) Y)<|Rx Y (Zk (ov Y) (ov Y) (Zo Zai Y) Y Y Y (Nat.le_of_ble_eq_true Y) (Zd Y) Y)<|Ra Y<|Za<|⟨_,h,ES [some 0,some 1,some 2,some 3]⟩
    ·
     exact Zh<|⟨_,h,ES [some 0,some 1,some 2,some 3]⟩
   ·
    exact ZbM (cw:=md0) (by kernel_rfl)<|D1 0 Zf Y<|Dq 1 Y (ZG (ov Y) Y Y Y Zcj Y Y)<|Dq 2 Y (Ze (ov Y) Jn)<|Dq 3 Y (Zc (ov Y) ZdM Y)<|D1 4 Zf Y<|bE h fun x4 h_x4 h=>Dq 5 Y (ZU (ov Y) (ov Y) ZcA h_x4)<|Dq 6 Y (Zr (ov Y) ZdS Y Y)<|Dq 7 Y (Zb (ov Y) Y Y ZgJ)<|Dq 8 Y (Zb (ov Y) Y Y Zlp)<|Dq 9 Y (Zi (ov Y) Y Y Y tS3 Y)<|Dq 10 Y (ZG (ov Y) Y Y Y Zai Y Y)<|D1 11 Zf Y<|bE h fun y3 h_y3 h=>Dq 12 Y (Zn (ZkO h_y3)<|.cons (ov Y) (.aggB Y)<|.cons (ov Y) (.aggB Y)<|.cons (ov Y) (.b Y)<|.cons (ov Y) (.aggB Y)<|.cons (ov Y) (.b Y) .nil)<|Zmb 13 (.sl 39<|List.map R39 ([y3]:List api_Face)) Y (by kernel_rfl) Y Y (ZbU Zkh (.cons (cva<|ov Y) Y (pwD Y) .nil) Y Y)<|bE h fun l2 h_l2 h=>Do 14 Y (Jw (ov Y) (XW (ov Y) tZ_39) Zkh Y Y Y (fun _=>Zd Y) Y h_l2)<|D1 15 Qp Y<|Dd<|K6 1 5 7 14 15 16 Y<|Zw<|R2 QB Y<|Rm Y<|Za<|⟨_,h,ES [some 0]⟩
  ·
   refine ZL<|?_
   replace h:=lx h▸ho1
   exact⟨_,h,ES [some 0]⟩
 ·
  refine Tr<|Rm Y<|Ra Y<|Za<|?_
  obtain rfl:=rt h
  exact Zj (Zu Y (.one<|.tmp Y<|View.ownM Y Y D39))
end Go.Proofs.YtailpehcgelmdaaGreatDoor
