/- A text of the proof: a verified executor of the program form, or the contracts of the functions that the law reaches. -/
import Derived.Test.YtjfoenlooacoiabGreatDoorOkPa
set_option linter.all false
namespace Go.Proofs.YtjfoenlooacoiabGreatDoor
open Go Go.Vx
set_option maxRecDepth 10000
set_option maxHeartbeats 1000000
set_option linter.unusedVariables false
theorem Zfb {l : List api_Memory} {r : (List api_Memory)} (h : XZ l = some r) :
 GSpec Tryz.prog gl0 28 [.sl 55 (List.map R55 l)] [] (.own 0 r.length) [some ⟨55, List.map O55 r⟩] := by
 unfold XZ at h
 replace h := Qo h
 refine QQ (by kernel_rfl) Tryz.func28 Y Y<|?_
 intro w0 A W φ0
 refine Tr<|Ra Y<|Za<|K1 0 Y<|Tr<|Ra Y<|Za<|I1 (fun out=>⟨[(3, .own 0 out.length)], [some ⟨55, List.map O55 out⟩]⟩) h (fun h=>?_) fun out h=>?_
 ·
  refine Tr<|Rm Y<|Rl tZ_55 ZaB Y<|Rm Y<|Za<|Zf<|?_
  obtain ⟨r1, hl1, ho1⟩ := QO h
  refine L2 (fun out2 i=>⟨[(3, .own 0 out2.length), (6, .sl 55 (List.map R55 l)), (7, .int .i64 (l.length : Int)), (8, .int .i64 i)], [some ⟨55, List.map O55 out2⟩]⟩) hl1 (ES [none]) fun n1 out2 i h=>?_
  unfold XU at h
  refine Tr<|R2 ZH Y<|Za<|Zg<|If h Y (fun h=>?_) fun h=>?_
  ·
   exact Ze<|Zg<|Zf<|K4 3 6 7 8 Y<|Tr<|bE h fun x h_x h=>Rq Y (ZX (ov Y) (ov Y) ZaB h_x)<|Rq Y (ZP (ov Y) Za2 Y Y)<|Rx Y (Ql (row := [_, _, _, _, _]) 1 Y ZhO Y tZ_55)<|Rx Y (Zs (ov Y) (ov Y) (ZK Za2 Y) Y Y Y (Nat.le_of_ble_eq_true Y) (Zc Y) Y)<|Za<|K5 3 5 6 7 8 Y<|QZ [some ⟨55, List.map O55 out2⟩, some ⟨55, [[.int .i64 x.Slots, .int .i64 x.Limit, .sl 56 (List.map R56 x.Sectors), .sl 3 (List.map R3 x.Wear), .sl 4 (List.map R4 x.Bad)]]⟩] Y<|Zk<|Rm Y<|Rq Y (QS (ov Y) Y Y Y Za2 Y Y)<|bE h fun y h_y h=>Rx Y (Z4 [] (Zb4 h_y) (.cons (ov Y) (ZdJ<|rld Y) .nil) .nil Y (.keep Y Y<|.keep Y Y<|.lent 0 (.inr ⟨Nat.le_of_ble_eq_true Y, Y⟩) Y (roO ZfS)<|.lent 1 (.inr ⟨Nat.le_of_ble_eq_true Y, Y⟩) Y (roM D3)<|.lent 2 (.inr ⟨Nat.le_of_ble_eq_true Y, Y⟩) Y (roM D4) .nil) Y Y<|ZdJ<|rlc (.dat Y)<|rlc (.dat Y)<|rlc (.own _<|.inr ⟨Nat.le_of_ble_eq_true Y, Y⟩)<|rlc (.own _<|.inr ⟨Nat.le_of_ble_eq_true Y, Y⟩)<|rlc (.own _<|.inr ⟨Nat.le_of_ble_eq_true Y, Y⟩) rln)<|Rx Y (ZjX (r := 5) Y ZaB (.cons (cva<|ov Y) Y .nil) Y Y)<|bE h fun l2 h_l2 h=>Rx Y (ZfG (f := O55) (ov Y) (ZiE (o := ⟨55, [[.int .i64 y.Slots, .int .i64 y.Limit, .own 2 y.Sectors.length, .own 3 y.Wear.length, .own 4 y.Bad.length]]⟩) (ov Y) Y Y tZ_55) ZaB Y Y (Zc Y) Y h_l2)<|Ra Y<|Zd4 [some ⟨55, List.set (List.map O55 l2) out2.length [.int .i64 y.Slots, .int .i64 y.Limit, .own 2 y.Sectors.length, .own 3 y.Wear.length, .own 4 y.Bad.length]⟩, some ⟨55, [[.int .i64 x.Slots, .int .i64 x.Limit, .sl 56 (List.map R56 x.Sectors), .sl 3 (List.map R3 x.Wear), .sl 4 (List.map R4 x.Bad)]]⟩, some ⟨56, List.map O56 y.Sectors⟩, some ⟨3, List.map R3 y.Wear⟩, some ⟨4, List.map R4 y.Bad⟩, some ⟨55, [[.int .i64 y.Slots, .int .i64 y.Limit, .own 2 y.Sectors.length, .own 3 y.Wear.length, .own 4 y.Bad.length]]⟩] Y<|Xg (Ent.absorbH (r := 0) (j := 2) (q := 2) Y (ZaR h_l2) Y Y (List.length_map ..) Y)<|Xg (Ent.absorbH (r := 0) (j := 3) (q := 3) Y (ZaR h_l2) Y Y (List.length_map ..) Y)<|Xg (Ent.absorbH (r := 0) (j := 4) (q := 4) Y (ZaR h_l2) Y Y (List.length_map ..) Y)<|Xg (Ent.closeS (r := 0) Y (ZaR h_l2) Y)<|Za<|K4 3 6 7 8 Y<|QZ [some ⟨55, List.map O55 l2⟩, some ⟨55, [[.int .i64 x.Slots, .int .i64 x.Limit, .sl 56 (List.map R56 x.Sectors), .sl 3 (List.map R3 x.Wear), .sl 4 (List.map R4 x.Bad)]]⟩, none, none, none, some ⟨55, [[.int .i64 y.Slots, .int .i64 y.Limit, .own 2 y.Sectors.length, .own 3 y.Wear.length, .own 4 y.Bad.length]]⟩] Y<|Zk<|R2 ZN Y<|Rm Y<|Za<|⟨_, h, ES [some 0] (hhp := .cons Y (roO Xj) .nil)⟩
  ·
   refine Zw<|?_
   replace h := lx h ▸ ho1
   exact ⟨_, h, ES [some 0] (hhp := .cons Y (roO Xj) .nil)⟩
 ·
  refine Tr<|Rm Y<|Ra Y<|Za<|?_
  obtain rfl := rt h
  exact Zj<|Zbo [some 0] Y (.cons (.tmp Y) .nil) (.cons Y (roO Xj) .nil) Y Y<|.own _ Y
theorem Zem {sequence : Int} {r : (List Int)} (h : Zbn sequence = some r) :
 CSpec Tryz.prog gl0 57 [.int .i64 sequence] (.sl 5 (List.map R5 r)) := by
 unfold Zbn at h
 replace h := Qo h
 refine So Tryz.func57 Y fun w0 A=>Tr<|Ra Y<|Za<|K1 0 Y<|Tr<|Rx Y (Zih (r := 0) (xs := ([79, 66] : List Int)) (f := R5) Y XR (.cons (cvs (ov Y)<|ZT Y) Y (.cons (.b Y) .nil)<|.cons (cvs (ov Y)<|ZT Y) Y (.cons (.b Y) .nil) .nil) Y Y Y)<|Ra Y<|Za<|I1 (fun out=>⟨[(3, .own 0 out.length)], [some ⟨5, List.map R5 out⟩]⟩) h (fun h=>?_) fun out h=>?_
 ·
  refine K2 0 3 Y<|Tr<|Ra Y<|Za<|Zf<|?_
  obtain ⟨r1, hl1, ho1⟩ := QO h
  refine L2 (fun out2 shift=>⟨[(0, .int .i64 sequence), (3, .own 0 out2.length), (4, .int .i64 shift)], [some ⟨5, List.map R5 out2⟩]⟩) hl1 (ES [some 0]) fun n1 out2 shift h=>?_
  unfold XH at h
  refine Zg<|Tr<|Rm Y<|R2 Zga Y<|Za<|K4 0 3 4 9 Y<|If h Y (fun h=>?_) fun h=>?_
  ·
   exact Ze<|Zg<|Zf<|K3 0 3 4 Y<|Zk<|Rm Y<|Rm Y<|Rm Y<|bE h fun q h_q h=>Rq Y (ZbQ (ov Y) (ov Y) h_q)<|Rq Y (QI (ov Y) tI3 tI5 Y)<|R_q (.sl 5<|List.map R5 ([(u8 q)] : List Int)) Y (ZaV XR (.cons (cvs (ov Y)<|ZT Y) Y (.cons (.b Y) .nil) .nil) Y Y)<|bE h fun l h_l h=>Rx Y (QC (ov Y) (QX (ov Y) tZ_5) XR Y Y Y (fun _=>Zc Y) Y h_l)<|Ra Y<|Za<|K3 0 3 4 Y<|Zk<|Rm Y<|R2 ZaF Y<|Ra Y<|Za<|⟨_, h, ES [some 0]⟩
  ·
   refine Zw<|?_
   replace h := lx h ▸ ho1
   exact ⟨_, h, ES [some 0]⟩
 ·
  refine I1 (fun out3=>⟨[(3, .own 0 out3.length)], [some ⟨5, List.map R5 out3⟩]⟩) h (fun h=>?_) fun out3 h=>?_
  ·
   refine Tr<|Rm Y<|bE h fun u h_u h=>Rq Y (Zn3 (ov Y) Y Y XR (oi<|ov Y) (oi<|ov Y) h_u)<|Rq Y (ZlI (ov Y) Y (List.length_map ..) XR)<|Rm Y<|Za<|Zf<|?_
   obtain ⟨r2, hl2, ho2⟩ := QO h
   refine Zm6 (τ := Option (List Int)) _ (fun b s=>Option.elim b (t2 (fun out4 i=>(⟨[(3, .own 0 out4.length), (20, .osl 0 out4.length (Int.toNat 2) (Int.toNat (6 - 2))), (21, .int .i64 ((Int.toNat (6 - 2) : Nat) : Int)), (22, .int .i64 i)], [some ⟨5, List.map R5 out4⟩]⟩ : St)) s) fun old2=>t2 (fun out4 i=>(⟨[(3, .own 1 out4.length), (20, .osl 0 old2.length (Int.toNat 2) (Int.toNat (6 - 2))), (21, .int .i64 ((Int.toNat (6 - 2) : Nat) : Int)), (22, .int .i64 i)], [some ⟨5, List.map R5 old2⟩, some ⟨5, List.map R5 out4⟩]⟩ : St)) s) (fun b s => ∃ tl, Option.getD b s.1 = out ++ tl) none _ hl2 ZlX (Ent.sel [some 0] (sr 3 Y (.own _ Y)<|sr 20 Y (.osl _ _ _ Y)<|sd 21 Y Y<|sd 22 Y Y sn) (.cons Y (roM D5) .nil) Y Y) fun b2 n2 s2 hC h=>?_
   obtain ⟨out4, i⟩ := s2
   replace h := t2i h
   unfold XN at h
   rcases b2 with _ | old2
   ·
    replace hC : ∃ tl, out4 = out ++ tl := hC
    show T _ _ ⟨[(3, .own 0 out4.length), (20, .osl 0 out4.length (Int.toNat 2) (Int.toNat (6 - 2))), (21, .int .i64 ((Int.toNat (6 - 2) : Nat) : Int)), (22, .int .i64 i)], [some ⟨5, List.map R5 out4⟩]⟩ _
    refine Tr<|R2 ZH Y<|Za<|Zg<|If h Y (fun h=>?_) fun h=>?_
    ·
     refine Ze<|Zg<|Zf<|K4 3 20 21 22 Y<|Tr<|bE h fun u2 h_u2 h=>bE h fun x2 h_x2 h=>?_
     have h_x2P := ZkB hC h_x2
     refine Rq Y (ZlP (ov Y) (ov Y) XR Y Y (Zfw h_u).1 h_u2 h_x2P)<|Rq Y (Qp (ov Y) Y Y h_x2P tS5 Y)<|Ra Y<|Za<|K5 3 6 20 21 22 Y<|Zk<|Rm Y<|Rm Y<|R1 Zkm Y<|R_q (.sl 5<|List.map R5 ([(Zb7 .u8 255 x2)] : List Int)) Y (ZaV XR (.cons (cvs (ov Y)<|ZT Y) Y (.cons (.b Y) .nil) .nil) Y Y)<|bE h fun l2 h_l2 h=>ZmP (f := R5) (tp := 20) (ys := ([(Zb7 .u8 255 x2)] : List Int)) Y (ov Y) (QX (ov Y) tZ_5) XR Y Y Y (fun _=>Zc Y) Y (fun _=>nsR Y) h_l2 Y ?_ ?_
     ·
      exact Ra Y<|Za<|K4 3 20 21 22 Y<|Zk<|R2 ZN Y<|Rm Y<|Za<|⟨none, (l2, (i64 (i + 1))), Znu hC h_l2, h, Ent.sel [some 0] (sr 3 Y (.own _ Y) <| sr 20 Y (.osl _ _ _ Y) <| sd 21 Y Y <| sd 22 Y Y <| sn) (.cons Y (roM D5) <| .nil) Y Y⟩
     ·
      exact Ra Y<|Za<|K4 3 20 21 22 Y<|Zk<|R2 ZN Y<|Rm Y<|Za<|⟨some out4, (l2, (i64 (i + 1))), hC, h, Ent.sel [some 0, some 1] (sr 3 Y (.own _ Y) <| sr 20 Y (.osl _ _ _ Y) <| sd 21 Y Y <| sd 22 Y Y <| sn) (.cons Y (roM D5) <| .cons Y (roM D5) <| .nil) Y Y⟩
    ·
     refine Zw<|?_
     replace h := lx h ▸ ho2
     exact ⟨_, h, ES [some 0]⟩
   ·
    replace hC : ∃ tl, old2 = out ++ tl := hC
    show T _ _ ⟨[(3, .own 1 out4.length), (20, .osl 0 old2.length (Int.toNat 2) (Int.toNat (6 - 2))), (21, .int .i64 ((Int.toNat (6 - 2) : Nat) : Int)), (22, .int .i64 i)], [some ⟨5, List.map R5 old2⟩, some ⟨5, List.map R5 out4⟩]⟩ _
    refine Tr<|R2 ZH Y<|Za<|Zg<|If h Y (fun h=>?_) fun h=>?_
    ·
     refine Ze<|Zg<|Zf<|K4 3 20 21 22 Y<|Tr<|bE h fun u2 h_u2 h=>bE h fun x2 h_x2 h=>?_
     have h_x2P := ZkB hC h_x2
     exact Rq Y (ZlP (ov Y) (ov Y) XR Y Y (Zfw h_u).1 h_u2 h_x2P)<|Rq Y (Qp (ov Y) Y Y h_x2P tS5 Y)<|Ra Y<|Za<|K5 3 6 20 21 22 Y<|Zk<|Rm Y<|Rm Y<|R1 Zkm Y<|R_q (.sl 5<|List.map R5 ([(Zb7 .u8 255 x2)] : List Int)) Y (ZaV XR (.cons (cvs (ov Y)<|ZT Y) Y (.cons (.b Y) .nil) .nil) Y Y)<|bE h fun l2 h_l2 h=>Rx Y (QC (ov Y) (QX (ov Y) tZ_5) XR Y Y Y (fun _=>Zc Y) Y h_l2)<|Ra Y<|Za<|K4 3 20 21 22 Y<|Zk<|R2 ZN Y<|Rm Y<|Za<|⟨some old2, (l2, (i64 (i + 1))), hC, h, Ent.sel [some 0, some 1] (sr 3 Y (.own _ Y) <| sr 20 Y (.osl _ _ _ Y) <| sd 21 Y Y <| sd 22 Y Y <| sn) (.cons Y (roM D5) <| .cons Y (roM D5) <| .nil) Y Y⟩
    ·
     refine Zw<|?_
     replace h := lx h ▸ ho2
     exact ⟨_, h, ES [some 1]⟩
  ·
   refine Tr<|Rm Y<|Ra Y<|Za<|?_
   obtain rfl := rt h
   exact Zj (ZE Y (.one<|.tmp Y<|View.ownM Y Y D5))
theorem ZcV {s1 : List Int} {s2 : List Int} {r : Bool} (h : Xb s1 s2 = some r) :
 CSpec Tryz.prog gl0 56 [.sl 5 (List.map R5 s1), .sl 5 (List.map R5 s2)] (.bool r) := by
 unfold Xb at h
 replace h := Qo h
 refine So Tryz.func56 Y fun w0 A=>Tr<|Ra Y<|Za<|Zg<|K2 0 1 Y<|Tr<|Rm Y<|Rl tZ_5 XR Y<|Rm Y<|Rl tZ_5 XR Y<|R2 QR Y<|Za<|K3 0 1 10 Y<|If h Y (fun h=>?_) fun h=>?_
 ·
  refine K0<|Tr<|Ra Y<|Za<|?_
  obtain rfl := rt h
  exact Zj (ZE Y (.one<|rb Y))
 ·
  refine Ze<|J0 (fun j => (.inr j)) ⟨[], []⟩ h (fun h=>?_) fun h=>?_
  ·
   refine K2 0 1 Y<|Tr<|Rm Y<|Rl tZ_5 XR Y<|Rm Y<|Za<|Zf<|?_
   obtain ⟨r1, hl1, ho1⟩ := QO h
   refine L1 (fun i=>⟨[(0, .sl 5 (List.map R5 s1)), (1, .sl 5 (List.map R5 s2)), (12, .int .i64 (s1.length : Int)), (13, .int .i64 i)], []⟩) hl1 (ES []) fun n1 i h=>?_
   unfold Xd at h
   refine Tr<|R2 ZH Y<|Za<|Zg<|If h Y (fun h=>?_) fun h=>?_
   ·
    refine Ze<|Zg<|Zf<|K4 0 1 12 13 Y<|Tr<|Rm Y<|Ra Y<|Za<|Zg<|K5 0 1 5 12 13 Y<|Qn (cw := md0) (by kernel_rfl)<|D1 0 Zb Y<|D1 1 Zb Y<|bE h fun x h_x h=>Dq 2 Y (ZX (ov Y) (ov Y) XR h_x)<|Dq 3 Y (Zd (ov Y) tS5 Y)<|D1 4 Zb Y<|D1 5 Zb Y<|bE h fun x2 h_x2 h=>Dq 6 Y (ZX (ov Y) (ov Y) XR h_x2)<|Dq 7 Y (Zd (ov Y) tS5 Y)<|D2 8 QR Y<|Dd<|K5 0 1 12 13 24 Y<|If h Y (fun h=>?_) fun h=>?_
    ·
     refine K0<|Tr<|Ra Y<|Za<|?_
     replace h := lx h ▸ ho1
     obtain rfl := rt h
     exact Zj (ZE Y (.one<|rb Y))
    ·
     exact Ze<|K4 0 1 12 13 Y<|Zk<|R2 ZN Y<|Rm Y<|Za<|⟨_, h, ES []⟩
   ·
    refine Zw<|?_
    replace h := lx h ▸ ho1
    exact ⟨(), h, ES []⟩
  ·
   replace h := elr h
   replace h := t0i h
   refine Tr<|Ra Y<|Za<|?_
   obtain rfl := rt h
   exact Zj (ZE Y (.one<|rb Y))
theorem ZbL {s : List Int} {r : Int × Bool × Bool} (h : Zap s = some r) :
 CSpec Tryz.prog gl0 30 [.sl 5 (List.map R5 s)] (.tuple [.int .i64 r.1, .bool r.2.1, .bool r.2.2]) := by
 unfold Zap at h
 replace h := Qo h
 refine So Tryz.func30 Y fun w0 A=>Tr<|Ra Y<|Ra Y<|Ra Y<|Za<|Zg<|K1 0 Y<|Tr<|Rm Y<|Rl tZ_5 XR Y<|R2 ZH Y<|Za<|K2 0 9 Y<|If h Y (fun h=>?_) fun h=>?_
 ·
  refine K0<|Tr<|Ra Y<|Ra Y<|Ra Y<|Za<|?_
  obtain rfl := rt h
  exact Zj (ZE Y (.three (rb Y) (rb Y)<|rb Y))
 ·
  refine Ze<|K1 0 Y<|Tr<|Rm Y<|bE h fun l h_l h=>Rq Y (Zhe (ov Y) XR on (oi<|ov Y) h_l)<|bE h fun v h_v h=>Rq Y (ZjV (f := C5) (ov Y) Zg3 tZ_5 Y h_v)<|Ra Y<|Za<|Zg<|K1 5 Y<|Qn (cw := md0) (by kernel_rfl)<|D1 0 Zb Y<|D1 1 ZG Y<|bE h fun x h_x h=>Dq 2 Y (QB (ov Y) (ov Y) Zg3 h_x)<|Dq 3 Y (Zd (ov Y) tS5<|Z8<|QV (o := 0) (o' := ((Int.toNat 2) * 1)) (Zl arL)<|QW h_x)<|Dq 4 Y (QI (ov Y) tI5 tI3 Y)<|bE h fun q h_q h=>Dq 5 Y (Zdx (ov Y) (ov Y) h_q)<|D1 6 Zb Y<|D1 7 ZG Y<|bE h fun x2 h_x2 h=>Dq 8 Y (QB (ov Y) (ov Y) Zg3 h_x2)<|Dq 9 Y (Zd (ov Y) tS5<|Z8<|QV (o := 0) (o' := ((Int.toNat 3) * 1)) (Zl arL)<|QW h_x2)<|Dq 10 Y (QI (ov Y) tI5 tI3 Y)<|bE h fun q2 h_q2 h=>Dq 11 Y (Zdx (ov Y) (ov Y) h_q2)<|D2 12 Zeo Y<|D1 13 Zb Y<|D1 14 ZG Y<|bE h fun x3 h_x3 h=>Dq 15 Y (QB (ov Y) (ov Y) Zg3 h_x3)<|Dq 16 Y (Zd (ov Y) tS5<|Z8<|QV (o := 0) (o' := ((Int.toNat 4) * 1)) (Zl arL)<|QW h_x3)<|Dq 17 Y (QI (ov Y) tI5 tI3 Y)<|bE h fun q3 h_q3 h=>Dq 18 Y (Zdx (ov Y) (ov Y) h_q3)<|D2 19 Zeo Y<|D1 20 Zb Y<|D1 21 ZG Y<|bE h fun x4 h_x4 h=>Dq 22 Y (QB (ov Y) (ov Y) Zg3 h_x4)<|Dq 23 Y (Zd (ov Y) tS5<|Z8<|QV (o := 0) (o' := ((Int.toNat 5) * 1)) (Zl arL)<|QW h_x4)<|Dq 24 Y (QI (ov Y) tI5 tI3 Y)<|D2 25 Zeo Y<|D1 26 Q1 Y<|Dd<|Zg<|Zg<|K2 5 6 Y<|Qn (cw := md0) (by kernel_rfl)<|D1 0 Zb Y<|bE h fun y h_y h=>Dq 1 Y (Zn (Q9 h_y)<|.cons (ov Y) (.b Y)<|.cons (ov Y) (.b Y)<|.cons (ov Y) (.b Y) .nil)<|D1 2 Xv Y<|D1 3 Zb Y<|Dq 4 Y (.guarded ((!y) == false) Y Y Y Y fun h => Zb<|ov Y)<|Dq 5 Y (.guarded ((!y) == false) Y Y Y Y fun h => ZG<|ow Y h)<|bE h fun l2 h_l2 h=>Dq 6 Y (.guarded ((!y) == false) Y Y Y Y fun h => Zkv (f := C5) (ow Y h) Zg3 tZ_5 (Zl arL) Y on (oi<|ov Y)<|gdT h_l2 h)<|Dq 7 Y (.guarded ((!y) == false) Y Y Y Y fun h => Zb<|ov Y)<|bE h fun y2 h_y2 h=>Dq 8 Y (.guarded ((!y) == false) Y Y Y Y fun h => Zn (Zem<|gdT h_y2 h)<|.cons (ow Y h) (.b Y) .nil)<|bE h fun y3 h_y3 h=>Dq 9 Y (.guarded ((!y) == false) Y Y Y Y fun h => Zn (ZcV<|gdT h_y3 h)<|.cons (ow Y h) (.b Y)<|.cons (ow Y h) (.b Y) .nil)<|Dq 10 Y (.guarded ((!y) == false) Y Y Y Y fun h => Xv<|ow Y h)<|Dq 11 Y (Zb9 (ov Y) fun hp=>ow Y<|gF hp)<|Dd<|K3 5 6 50 Y<|If h Y (fun h=>?_) fun h=>?_
  ·
   refine K0<|Tr<|Ra Y<|Ra Y<|Ra Y<|Za<|?_
   obtain rfl := rt h
   exact Zj (ZE Y (.three (rb Y) (rb Y)<|rb Y))
  ·
   refine Ze<|Zg<|K2 5 6 Y<|Qn (cw := md0) (by kernel_rfl)<|D1 0 Zb Y<|D1 1 Zb Y<|D1 2 ZG Y<|bE h fun x5 h_x5 h=>Dq 3 Y (QB (ov Y) (ov Y) Zg3 h_x5)<|Dq 4 Y (Zd (ov Y) tS5<|Z8<|QV (o := 0) (o' := ((Int.toNat 10) * 1)) (Zl arL)<|QW h_x5)<|D2 5 QR Y<|D1 6 Q1 Y<|D1 7 Q1 Y<|D1 8 Q1 Y<|Dd<|?_
   obtain rfl := rt h
   exact Zj (ZE Y (.three (rb Y) (rb Y)<|rb Y))
theorem XP {data : List Int} {a : Int} {b : Int} {cmp : Int → Int → Option Int} {r : (List Int)} {cmp_f : FuncId} {cmp_c : List AV} (cmp_d : cmp_c.all datB = true) (cmp_h : ∀ (z0 : Int) (z1 : Int) z, cmp z0 z1 = some z → CSpec Tryz.prog gl0 cmp_f ([.int .i64 z0, .int .i64 z1] ++ cmp_c) (.int .i64 z)) (h : Zu data a b cmp = some r) :
 GSpec Tryz.prog gl0 99 [.own 0 data.length, .int .i64 a, .int .i64 b, .fn cmp_f cmp_c] [some ⟨3, List.map R3 data⟩] (.tuple []) [some ⟨3, List.map R3 r⟩] := by
 unfold Zu at h
 replace h := Qo h
 refine QQ (by kernel_rfl) Tryz.func99 Y Y<|?_
 intro w0 A W φ0
 refine Tr<|Rm Y<|R2 ZN Y<|Ra Y<|Za<|Zf<|?_
 obtain ⟨r1, hl1, ho1⟩ := QO h
 refine L2 (fun o i=>⟨[(0, .own 0 o.length), (1, .int .i64 a), (2, .int .i64 b), (3, .fn cmp_f cmp_c), (8, .int .i64 i)], [some ⟨3, List.map R3 o⟩]⟩) hl1 (ES [some 0]<|sr 0 Y (.own _ Y)<|sd 1 Y Y<|sd 2 Y Y<|sr 3 Y (rFn<|rld cmp_d)<|sd 8 Y Y sn) fun n1 o i h=>?_
 unfold Zt at h
 refine Zg<|Tr<|Rm Y<|Rm Y<|R2 ZH Y<|Za<|K6 0 1 2 3 8 14 Y<|If h Y (fun h=>?_) fun h=>?_
 ·
  refine Ze<|I1 (fun o2=>⟨[(0, .own 0 o2.length), (1, .int .i64 a), (2, .int .i64 b), (3, .fn cmp_f cmp_c), (8, .int .i64 i)], [some ⟨3, List.map R3 o2⟩]⟩) h (fun h=>?_) fun o2 h=>?_
  ·
   refine Zf<|K5 0 1 2 3 8 Y<|Tr<|Rm Y<|Ra Y<|Za<|Zf<|?_
   obtain ⟨r2, hl2, ho2⟩ := QO h
   refine L2 (fun o3 j=>⟨[(0, .own 0 o3.length), (1, .int .i64 a), (2, .int .i64 b), (3, .fn cmp_f cmp_c), (8, .int .i64 i), (9, .int .i64 j)], [some ⟨3, List.map R3 o3⟩]⟩) hl2 (ES [some 0]<|sr 0 Y (.own _ Y)<|sd 1 Y Y<|sd 2 Y Y<|sr 3 Y (rFn<|rld cmp_d)<|sd 8 Y Y<|sd 9 Y Y sn) fun n2 o3 j h=>?_
   unfold Zv at h
   refine Zg<|Zg<|Qn (cw := md0) (by kernel_rfl)<|D1 0 Zb Y<|D1 1 Zb Y<|D2 2 Zaw Y<|D1 3 Zb Y<|Dq 4 Y (.guarded ((decide (a < j)) == true) Y Y Y Y fun h => Zb<|ov Y)<|Dq 5 Y (.guarded ((decide (a < j)) == true) Y Y Y Y fun h => Zb<|ov Y)<|Dq 6 Y (.guarded ((decide (a < j)) == true) Y Y Y Y fun h => Zb<|ov Y)<|bE h fun x h_x h=>Dq 7 Y (.guarded ((decide (a < j)) == true) Y Y Y Y fun h => Qk (ow Y h) (ow Y h) Q5 Y Y<|gdT h_x h)<|Dq 8 Y (.guarded ((decide (a < j)) == true) Y Y Y Y fun h => Qp (ow Y h) Y Y (gdT h_x h) tS3 Y)<|Dq 9 Y (.guarded ((decide (a < j)) == true) Y Y Y Y fun h => Zb<|ov Y)<|Dq 10 Y (.guarded ((decide (a < j)) == true) Y Y Y Y fun h => Zb<|ov Y)<|Dq 11 Y (.guarded ((decide (a < j)) == true) Y Y Y Y fun h => Zkn (ow Y h) (ov Y) Y)<|bE h fun x2 h_x2 h=>Dq 12 Y (.guarded ((decide (a < j)) == true) Y Y Y Y fun h => Qk (ow Y h) (ow Y h) Q5 Y Y<|gdT h_x2 h)<|Dq 13 Y (.guarded ((decide (a < j)) == true) Y Y Y Y fun h => Qp (ow Y h) Y Y (gdT h_x2 h) tS3 Y)<|bE h fun y h_y h=>Dq 14 Y (.guarded ((decide (a < j)) == true) Y Y Y Y fun h => ZdG (ow Y h) cmp_d (cmp_h _ _ _<|gdT h_y h)<|.cons (ow Y h) (.b Y)<|.cons (ow Y h) (.b Y) .nil)<|Dq 15 Y (.guarded ((decide (a < j)) == true) Y Y Y Y fun h => ZH (ow Y h)<|ov Y)<|Dq 16 Y (Zb2 (ov Y) fun hp=>ow Y<|gT hp)<|Dd<|K7 0 1 2 3 8 9 34 Y<|If h Y (fun h=>?_) fun h=>?_
   ·
    exact Ze<|Zg<|Zf<|K6 0 1 2 3 8 9 Y<|Qn (cw := md0) (by kernel_rfl)<|D1 0 Zb Y<|D1 1 Zb Y<|D1 5 Zb Y<|D1 6 Zb Y<|D2 7 ZaF Y<|bE h fun x3 h_x3 h=>Dq 8 Y (Qk (ov Y) (ov Y) Q5 Y Y h_x3)<|Dq 9 Y (Qp (ov Y) Y Y h_x3 tS3 Y)<|D1 10 Zb Y<|D1 11 Zb Y<|bE h fun x4 h_x4 h=>Dq 12 Y (Qk (ov Y) (ov Y) Q5 Y Y h_x4)<|Dq 13 Y (Qp (ov Y) Y Y h_x4 tS3 Y)<|bE h fun x5 h_x5 h=>Dq 14 Y (Qk (ov Y) (ov Y) Q5 Y Y h_x5)<|Qc 2 _ Y (by kernel_rfl) Y Y (fun hp'=>Zb<|ov Y)<|Qc 3 _ Y (by kernel_rfl) Y Y (fun hp'=>Zb<|ov Y)<|Qc 4 _ Y (by kernel_rfl) Y Y (fun hp'=>Zkn (ov Y) (ov Y) Y)<|Do 15 Y (Xx (u' := x3) (ov Y) (ov Y) (Zo tS3) Y Y h_x5 Y (Zc Y) Y)<|bE h fun x6 h_x6 h=>Dq 16 Y (Qk (ov Y) (ov Y) Q5 Y ((List.length_set ..).trans Y) h_x6)<|Do 17 Y (Xx (u' := x4) (ov Y) (ov Y) (Zo tS3) Y ((List.length_set ..).trans Y) h_x6 Y (Zc Y) Y)<|Dd<|K6 0 1 2 3 8 9 Y<|Zk<|Rm Y<|R2 ZaF Y<|Ra Y<|Za<|⟨_, h, ES [some 0]<|sr 0 Y (Zc7 (Eq.symm<|(List.length_set ..).trans<|(List.length_set ..).trans Y) Y)<|sd 1 Y Y<|sd 2 Y Y<|sr 3 Y (rFn<|rld cmp_d)<|sd 8 Y Y<|sd 9 Y Y sn⟩
   ·
    refine Zw<|?_
    replace h := lx h ▸ ho2
    exact ⟨_, h, ES [some 0]<|sr 0 Y (.own _ Y)<|sd 1 Y Y<|sd 2 Y Y<|sr 3 Y (rFn<|rld cmp_d)<|sd 8 Y Y sn⟩
  ·
   exact Zk<|Rm Y<|R2 ZN Y<|Ra Y<|Za<|⟨_, h, ES [some 0]<|sr 0 Y (.own _ Y)<|sd 1 Y Y<|sd 2 Y Y<|sr 3 Y (rFn<|rld cmp_d)<|sd 8 Y Y sn⟩
 ·
  refine Zw<|?_
  replace h := lx h ▸ ho1
  obtain rfl := rt h
  exact ZdS [some 0] Y .nil (.cons Y (roM D3) .nil) Y Y<|Q6 rln
theorem Xh {data : List Int} {a : Int} {b : Int} {n : Int} {cmp : Int → Int → Option Int} {r : (List Int)} {cmp_f : FuncId} {cmp_c : List AV} (cmp_d : cmp_c.all datB = true) (cmp_h : ∀ (z0 : Int) (z1 : Int) z, cmp z0 z1 = some z → CSpec Tryz.prog gl0 cmp_f ([.int .i64 z0, .int .i64 z1] ++ cmp_c) (.int .i64 z)) (h : Zx data a b n cmp = some r) :
 GSpec Tryz.prog gl0 103 [.own 0 data.length, .int .i64 a, .int .i64 b, .int .i64 n, .fn cmp_f cmp_c] [some ⟨3, List.map R3 data⟩] (.tuple []) [some ⟨3, List.map R3 r⟩] := by
 unfold Zx at h
 replace h := Qo h
 refine QQ (by kernel_rfl) Tryz.func103 Y Y<|?_
 intro w0 A W φ0
 refine K4 0 1 2 3 Y<|Tr<|Ra Y<|Za<|Zf<|?_
 obtain ⟨r1, hl1, ho1⟩ := QO h
 refine L2 (fun o i=>⟨[(0, .own 0 o.length), (1, .int .i64 a), (2, .int .i64 b), (3, .int .i64 n), (10, .int .i64 i)], [some ⟨3, List.map R3 o⟩]⟩) hl1 (ES [some 0]) fun n1 o i h=>?_
 unfold ZQ at h
 refine Zg<|Tr<|Rm Y<|Rm Y<|R2 ZH Y<|Za<|K6 0 1 2 3 10 13 Y<|If h Y (fun h=>?_) fun h=>?_
 ·
  exact Ze<|Zg<|Zf<|K5 0 1 2 3 10 Y<|Qn (cw := md0) (by kernel_rfl)<|D1 0 Zb Y<|D1 1 Zb Y<|D1 2 Zb Y<|D2 3 ZN Y<|D1 8 Zb Y<|D1 9 Zb Y<|D1 10 Zb Y<|D2 11 ZN Y<|bE h fun x h_x h=>Dq 12 Y (Qk (ov Y) (ov Y) Q5 Y Y h_x)<|Dq 13 Y (Qp (ov Y) Y Y h_x tS3 Y)<|D1 14 Zb Y<|D1 15 Zb Y<|D1 16 Zb Y<|D2 17 ZN Y<|bE h fun x2 h_x2 h=>Dq 18 Y (Qk (ov Y) (ov Y) Q5 Y Y h_x2)<|Dq 19 Y (Qp (ov Y) Y Y h_x2 tS3 Y)<|bE h fun x3 h_x3 h=>Dq 20 Y (Qk (ov Y) (ov Y) Q5 Y Y h_x3)<|Qc 4 _ Y (by kernel_rfl) Y Y (fun hp'=>Zb<|ov Y)<|Qc 5 _ Y (by kernel_rfl) Y Y (fun hp'=>Zb<|ov Y)<|Qc 6 _ Y (by kernel_rfl) Y Y (fun hp'=>Zb<|ov Y)<|Qc 7 _ Y (by kernel_rfl) Y Y (fun hp'=>ZhS (ov Y) (ov Y) Y)<|Do 21 Y (Xx (u' := x) (ov Y) (ov Y) (Zo tS3) Y Y h_x3 Y (Zc Y) Y)<|bE h fun x4 h_x4 h=>Dq 22 Y (Qk (ov Y) (ov Y) Q5 Y ((List.length_set ..).trans Y) h_x4)<|Do 23 Y (Xx (u' := x2) (ov Y) (ov Y) (Zo tS3) Y ((List.length_set ..).trans Y) h_x4 Y (Zc Y) Y)<|Dd<|K5 0 1 2 3 10 Y<|Zk<|Rm Y<|R2 ZN Y<|Ra Y<|Za<|⟨_, h, ES [some 0]<|sr 0 Y (Zc7 (Eq.symm<|(List.length_set ..).trans<|(List.length_set ..).trans Y) Y)<|sd 1 Y Y<|sd 2 Y Y<|sd 3 Y Y<|sd 10 Y Y sn⟩
 ·
  refine Zw<|?_
  replace h := lx h ▸ ho1
  obtain rfl := rt h
  exact ZdS [some 0] Y .nil (.cons Y (roM D3) .nil) Y Y<|Q6 rln
theorem Zcq {data : List Int} {a : Int} {m : Int} {b : Int} {cmp : Int → Int → Option Int} {r : (List Int)} {cmp_f : FuncId} {cmp_c : List AV} (cmp_d : cmp_c.all datB = true) (cmp_h : ∀ (z0 : Int) (z1 : Int) z, cmp z0 z1 = some z → CSpec Tryz.prog gl0 cmp_f ([.int .i64 z0, .int .i64 z1] ++ cmp_c) (.int .i64 z)) (h : Z0 data a m b cmp = some r) :
 GSpec Tryz.prog gl0 102 [.own 0 data.length, .int .i64 a, .int .i64 m, .int .i64 b, .fn cmp_f cmp_c] [some ⟨3, List.map R3 data⟩] (.tuple []) [some ⟨3, List.map R3 r⟩] := by
 unfold Z0 at h
 replace h := Qo h
 refine QQ (by kernel_rfl) Tryz.func102 Y Y<|?_
 intro w0 A W φ0
 refine Tr<|Rm Y<|Rm Y<|R2 ZaF Y<|Ra Y<|Za<|K5 0 2 3 4 10 Y<|Tr<|Rm Y<|Rm Y<|R2 ZaF Y<|Ra Y<|Za<|I2 (fun o i=>⟨[(0, .own 0 o.length), (2, .int .i64 m), (4, .fn cmp_f cmp_c), (10, .int .i64 i)], [some ⟨3, List.map R3 o⟩]⟩) h (fun h=>?_) fun o i h=>?_
 ·
  refine Zf<|?_
  obtain ⟨r1, hl1, ho1⟩ := QO h
  refine L3 (fun o2 i2 j=>⟨[(0, .own 0 o2.length), (2, .int .i64 m), (4, .fn cmp_f cmp_c), (10, .int .i64 i2), (11, .int .i64 j)], [some ⟨3, List.map R3 o2⟩]⟩) hl1 (ES [some 0]<|sr 0 Y (.own _ Y)<|sd 2 Y Y<|sr 4 Y (rFn<|rld cmp_d)<|sd 10 Y Y<|sd 11 Y Y sn) fun n1 o2 i2 j h=>?_
  unfold ZZ at h
  refine Zg<|Tr<|Rm Y<|Rm Y<|R2 QR Y<|Za<|K6 0 2 4 10 11 20 Y<|If h Y (fun h=>?_) fun h=>?_
  ·
   refine Ze<|Zf<|K5 0 2 4 10 11 Y<|Tr<|Rm Y<|Rm Y<|R2 Zaw Y<|Za<|K6 0 2 4 10 11 23 Y<|If h Y (fun h=>?_) fun h=>?_
   ·
    exact K5 0 2 4 10 11 Y<|Tr<|Rm Y<|Rm Y<|Rm Y<|R2 ZaF Y<|Rm Y<|Rm Y<|Rm Y<|bE h fun y h_y h=>Rx Y (Z4 [0] (Xh cmp_d cmp_h h_y) (.cons (ov Y) (.own _ Y)<|.cons (ov Y) (.dat Y)<|.cons (ov Y) (.dat Y)<|.cons (ov Y) (.dat Y)<|.cons (ov Y) (rFn<|rld cmp_d) .nil) (.cons Y (roM D3) .nil) Y (.lent 0 (.inl Y) Y (roM D3) .nil) Y Y<|Q6<|rld Y)<|Za<|K5 0 2 4 10 11 Y<|Zk<|Rm Y<|Rm Y<|R2 ZaF Y<|Ra Y<|Za<|⟨_, h, ES [some 0]<|sr 0 Y (Zc7 (Eq.symm<|Qd h_y) Y)<|sd 2 Y Y<|sr 4 Y (rFn<|rld cmp_d)<|sd 10 Y Y<|sd 11 Y Y sn⟩
   ·
    exact K5 0 2 4 10 11 Y<|Tr<|Rm Y<|Rm Y<|Rm Y<|R2 ZaF Y<|Rm Y<|Rm Y<|R2 ZN Y<|Rm Y<|R2 ZaF Y<|Rm Y<|Rm Y<|bE h fun y2 h_y2 h=>Rx Y (Z4 [0] (Xh cmp_d cmp_h h_y2) (.cons (ov Y) (.own _ Y)<|.cons (ov Y) (.dat Y)<|.cons (ov Y) (.dat Y)<|.cons (ov Y) (.dat Y)<|.cons (ov Y) (rFn<|rld cmp_d) .nil) (.cons Y (roM D3) .nil) Y (.lent 0 (.inl Y) Y (roM D3) .nil) Y Y<|Q6<|rld Y)<|Za<|K5 0 2 4 10 11 Y<|Zk<|Rm Y<|Rm Y<|R2 ZaF Y<|Ra Y<|Za<|⟨_, h, ES [some 0]<|sr 0 Y (Zc7 (Eq.symm<|Qd h_y2) Y)<|sd 2 Y Y<|sr 4 Y (rFn<|rld cmp_d)<|sd 10 Y Y<|sd 11 Y Y sn⟩
  ·
   refine Zw<|?_
   replace h := lx h ▸ ho1
   exact ⟨_, h, ES [some 0]<|sr 0 Y (.own _ Y)<|sd 2 Y Y<|sr 4 Y (rFn<|rld cmp_d)<|sd 10 Y Y sn⟩
 ·
  refine Zk<|Rm Y<|Rm Y<|Rm Y<|R2 ZaF Y<|Rm Y<|Rm Y<|Rm Y<|bE h fun y3 h_y3 h=>Rx Y (Z4 [0] (Xh cmp_d cmp_h h_y3) (.cons (ov Y) (.own _ Y)<|.cons (ov Y) (.dat Y)<|.cons (ov Y) (.dat Y)<|.cons (ov Y) (.dat Y)<|.cons (ov Y) (rFn<|rld cmp_d) .nil) (.cons Y (roM D3) .nil) Y (.lent 0 (.inl Y) Y (roM D3) .nil) Y Y<|Q6<|rld Y)<|Za<|?_
  obtain rfl := rt h
  exact ZdS [some 0] Y .nil (.cons Y (roM D3) .nil) Y Y<|Q6 rln
theorem ZbM {rec_ : List Int → Int → Int → Int → (Int → Int → Option Int) → Option (List Int)} {data : List Int} {a : Int} {m : Int} {b : Int} {cmp : Int → Int → Option Int} {r : (List Int)} {cmp_f : FuncId} {cmp_c : List AV} (cmp_d : cmp_c.all datB = true) (cmp_h : ∀ (z0 : Int) (z1 : Int) z, cmp z0 z1 = some z → CSpec Tryz.prog gl0 cmp_f ([.int .i64 z0, .int .i64 z1] ++ cmp_c) (.int .i64 z)) (ln_rec_ : ∀ {data : List Int} {a : Int} {m : Int} {b : Int} {cmp : Int → Int → Option Int} {r : (List Int)}, rec_ data a m b cmp = some r → r.length = data.length) (hrec : ∀ {data : List Int} {a : Int} {m : Int} {b : Int} {cmp : Int → Int → Option Int} {r : (List Int)} {cmp_f : FuncId} {cmp_c : List AV} (cmp_d : cmp_c.all datB = true) (cmp_h : ∀ (z0 : Int) (z1 : Int) z, cmp z0 z1 = some z → CSpec Tryz.prog gl0 cmp_f ([.int .i64 z0, .int .i64 z1] ++ cmp_c) (.int .i64 z)) (h : rec_ data a m b cmp = some r), GSpec Tryz.prog gl0 100 [.own 0 data.length, .int .i64 a, .int .i64 m, .int .i64 b, .fn cmp_f cmp_c] [some ⟨3, List.map R3 data⟩] (.tuple []) [some ⟨3, List.map R3 r⟩]) (h : ZW rec_ data a m b cmp = some r) :
 GSpec Tryz.prog gl0 100 [.own 0 data.length, .int .i64 a, .int .i64 m, .int .i64 b, .fn cmp_f cmp_c] [some ⟨3, List.map R3 data⟩] (.tuple []) [some ⟨3, List.map R3 r⟩] := by
 unfold ZW at h
 replace h := Qo h
 refine QQ (by kernel_rfl) Tryz.func100 Y Y<|?_
 intro w0 A W φ0
 refine Zg<|Tr<|Rm Y<|Rm Y<|R2 ZaF Y<|R2 Za1 Y<|Za<|K6 0 1 2 3 4 28 Y<|If h Y (fun h=>?_) fun h=>?_
 ·
  refine K5 0 1 2 3 4 Y<|Tr<|Rm Y<|Ra Y<|Za<|K5 0 1 3 4 10 Y<|Tr<|Rm Y<|Ra Y<|Za<|I1 (fun i=>⟨[(0, .own 0 data.length), (1, .int .i64 a), (10, .int .i64 i)], [some ⟨3, List.map R3 data⟩]⟩) h (fun h=>?_) fun i h=>?_
  ·
   refine Zf<|?_
   obtain ⟨r1, hl1, ho1⟩ := QO h
   refine L2 (fun i2 j=>⟨[(0, .own 0 data.length), (1, .int .i64 a), (4, .fn cmp_f cmp_c), (10, .int .i64 i2), (11, .int .i64 j)], [some ⟨3, List.map R3 data⟩]⟩) hl1 (ES [some 0]<|sr 0 Y (.own _ Y)<|sd 1 Y Y<|sr 4 Y (rFn<|rld cmp_d)<|sd 10 Y Y<|sd 11 Y Y sn) fun n1 i2 j h=>?_
   unfold Z6 at h
   refine Zg<|Tr<|Rm Y<|Rm Y<|R2 ZH Y<|Za<|K6 0 1 4 10 11 33 Y<|If h Y (fun h=>?_) fun h=>?_
   ·
    refine Ze<|Zf<|K5 0 1 4 10 11 Y<|Tr<|Rm Y<|Rm Y<|R2 ZN Y<|Rq Y (QI (ov Y) tI3 ZiV Y)<|bE h fun q h_q h=>Rq Y (ZbQ (ov Y) (ov Y) h_q)<|Rq Y (QI (ov Y) ZiV tI3 Y)<|Ra Y<|Za<|Zg<|K6 0 1 4 10 11 12 Y<|Qn (cw := md0) (by kernel_rfl)<|D1 0 Zb Y<|D1 1 Zb Y<|D1 2 Zb Y<|bE h fun x h_x h=>Dq 3 Y (Qk (ov Y) (ov Y) Q5 Y Y h_x)<|Dq 4 Y (Qp (ov Y) Y Y h_x tS3 Y)<|D1 5 Zb Y<|D1 6 Zb Y<|bE h fun x2 h_x2 h=>Dq 7 Y (Qk (ov Y) (ov Y) Q5 Y Y h_x2)<|Dq 8 Y (Qp (ov Y) Y Y h_x2 tS3 Y)<|bE h fun y h_y h=>Dq 9 Y (ZdG (ov Y) cmp_d (cmp_h _ _ _ h_y)<|.cons (ov Y) (.b Y)<|.cons (ov Y) (.b Y) .nil)<|D2 10 ZH Y<|Dd<|K7 0 1 4 10 11 12 50 Y<|If h Y (fun h=>?_) fun h=>?_
    ·
     exact K6 0 1 4 10 11 12 Y<|Zk<|Rm Y<|R2 ZN Y<|Ra Y<|Za<|⟨_, h, ES [some 0]<|sr 0 Y (.own _ Y)<|sd 1 Y Y<|sr 4 Y (rFn<|rld cmp_d)<|sd 10 Y Y<|sd 11 Y Y sn⟩
    ·
     exact K6 0 1 4 10 11 12 Y<|Zk<|Rm Y<|Ra Y<|Za<|⟨_, h, ES [some 0]<|sr 0 Y (.own _ Y)<|sd 1 Y Y<|sr 4 Y (rFn<|rld cmp_d)<|sd 10 Y Y<|sd 11 Y Y sn⟩
   ·
    refine Zw<|?_
    replace h := lx h ▸ ho1
    exact ⟨_, h, ES [some 0]⟩
  ·
   refine I1 (fun o=>⟨[], [some ⟨3, List.map R3 o⟩]⟩) h (fun h=>?_) fun o h=>?_
   ·
    refine Tr<|Rm Y<|Ra Y<|Za<|Zf<|?_
    obtain ⟨r2, hl2, ho2⟩ := QO h
    refine L2 (fun o2 k=>⟨[(0, .own 0 o2.length), (10, .int .i64 i), (13, .int .i64 k)], [some ⟨3, List.map R3 o2⟩]⟩) hl2 (ES [some 0]) fun n2 o2 k h=>?_
    unfold Zz at h
    refine Zg<|Tr<|Rm Y<|Rm Y<|R2 ZaF Y<|R2 ZH Y<|Za<|K4 0 10 13 58 Y<|If h Y (fun h=>?_) fun h=>?_
    ·
     exact Ze<|Zg<|Zf<|K3 0 10 13 Y<|Qn (cw := md0) (by kernel_rfl)<|D1 0 Zb Y<|D1 1 Zb Y<|D1 5 Zb Y<|D1 6 Zb Y<|D2 7 ZN Y<|bE h fun x3 h_x3 h=>Dq 8 Y (Qk (ov Y) (ov Y) Q5 Y Y h_x3)<|Dq 9 Y (Qp (ov Y) Y Y h_x3 tS3 Y)<|D1 10 Zb Y<|D1 11 Zb Y<|bE h fun x4 h_x4 h=>Dq 12 Y (Qk (ov Y) (ov Y) Q5 Y Y h_x4)<|Dq 13 Y (Qp (ov Y) Y Y h_x4 tS3 Y)<|bE h fun x5 h_x5 h=>Dq 14 Y (Qk (ov Y) (ov Y) Q5 Y Y h_x5)<|Qc 2 _ Y (by kernel_rfl) Y Y (fun hp'=>Zb<|ov Y)<|Qc 3 _ Y (by kernel_rfl) Y Y (fun hp'=>Zb<|ov Y)<|Qc 4 _ Y (by kernel_rfl) Y Y (fun hp'=>ZhS (ov Y) (ov Y) Y)<|Do 15 Y (Xx (u' := x3) (ov Y) (ov Y) (Zo tS3) Y Y h_x5 Y (Zc Y) Y)<|bE h fun x6 h_x6 h=>Dq 16 Y (Qk (ov Y) (ov Y) Q5 Y ((List.length_set ..).trans Y) h_x6)<|Do 17 Y (Xx (u' := x4) (ov Y) (ov Y) (Zo tS3) Y ((List.length_set ..).trans Y) h_x6 Y (Zc Y) Y)<|Dd<|K3 0 10 13 Y<|Zk<|Rm Y<|R2 ZN Y<|Ra Y<|Za<|⟨_, h, ES [some 0]<|sr 0 Y (Zc7 (Eq.symm<|(List.length_set ..).trans<|(List.length_set ..).trans Y) Y)<|sd 10 Y Y<|sd 13 Y Y sn⟩
    ·
     refine Zw<|?_
     replace h := lx h ▸ ho2
     exact ⟨_, h, ES [some 0]⟩
   ·
    obtain rfl := rt h
    exact Zj<|Zbo [some 0] Y .nil (.cons Y (roM D3) .nil) Y Y<|Q6 rln
 ·
  refine Ze<|Zg<|K5 0 1 2 3 4 Y<|Tr<|Rm Y<|Rm Y<|R2 ZaF Y<|R2 Za1 Y<|Za<|K6 0 1 2 3 4 80 Y<|If h Y (fun h=>?_) fun h=>?_
  ·
   refine K4 0 1 2 4 Y<|Tr<|Rm Y<|Ra Y<|Za<|K4 0 2 4 14 Y<|Tr<|Rm Y<|Ra Y<|Za<|I1 (fun i3=>⟨[(0, .own 0 data.length), (2, .int .i64 m), (14, .int .i64 i3)], [some ⟨3, List.map R3 data⟩]⟩) h (fun h=>?_) fun i3 h=>?_
   ·
    refine Zf<|?_
    obtain ⟨r3, hl3, ho3⟩ := QO h
    refine L2 (fun i4 j2=>⟨[(0, .own 0 data.length), (2, .int .i64 m), (4, .fn cmp_f cmp_c), (14, .int .i64 i4), (15, .int .i64 j2)], [some ⟨3, List.map R3 data⟩]⟩) hl3 (ES [some 0]<|sr 0 Y (.own _ Y)<|sd 2 Y Y<|sr 4 Y (rFn<|rld cmp_d)<|sd 14 Y Y<|sd 15 Y Y sn) fun n3 i4 j2 h=>?_
    unfold Z5 at h
    refine Zg<|Tr<|Rm Y<|Rm Y<|R2 ZH Y<|Za<|K6 0 2 4 14 15 85 Y<|If h Y (fun h=>?_) fun h=>?_
    ·
     refine Ze<|Zf<|K5 0 2 4 14 15 Y<|Tr<|Rm Y<|Rm Y<|R2 ZN Y<|Rq Y (QI (ov Y) tI3 ZiV Y)<|bE h fun q2 h_q2 h=>Rq Y (ZbQ (ov Y) (ov Y) h_q2)<|Rq Y (QI (ov Y) ZiV tI3 Y)<|Ra Y<|Za<|Zg<|K6 0 2 4 14 15 16 Y<|Qn (cw := md0) (by kernel_rfl)<|D1 0 Zb Y<|D1 1 Zb Y<|D1 2 Zb Y<|bE h fun x7 h_x7 h=>Dq 3 Y (Qk (ov Y) (ov Y) Q5 Y Y h_x7)<|Dq 4 Y (Qp (ov Y) Y Y h_x7 tS3 Y)<|D1 5 Zb Y<|D1 6 Zb Y<|bE h fun x8 h_x8 h=>Dq 7 Y (Qk (ov Y) (ov Y) Q5 Y Y h_x8)<|Dq 8 Y (Qp (ov Y) Y Y h_x8 tS3 Y)<|bE h fun y2 h_y2 h=>Dq 9 Y (ZdG (ov Y) cmp_d (cmp_h _ _ _ h_y2)<|.cons (ov Y) (.b Y)<|.cons (ov Y) (.b Y) .nil)<|D2 10 ZH Y<|D1 11 Xv Y<|Dd<|K7 0 2 4 14 15 16 103 Y<|If h Y (fun h=>?_) fun h=>?_
     ·
      exact K6 0 2 4 14 15 16 Y<|Zk<|Rm Y<|R2 ZN Y<|Ra Y<|Za<|⟨_, h, ES [some 0]<|sr 0 Y (.own _ Y)<|sd 2 Y Y<|sr 4 Y (rFn<|rld cmp_d)<|sd 14 Y Y<|sd 15 Y Y sn⟩
     ·
      exact K6 0 2 4 14 15 16 Y<|Zk<|Rm Y<|Ra Y<|Za<|⟨_, h, ES [some 0]<|sr 0 Y (.own _ Y)<|sd 2 Y Y<|sr 4 Y (rFn<|rld cmp_d)<|sd 14 Y Y<|sd 15 Y Y sn⟩
    ·
     refine Zw<|?_
     replace h := lx h ▸ ho3
     exact ⟨_, h, ES [some 0]⟩
   ·
    refine I1 (fun o3=>⟨[], [some ⟨3, List.map R3 o3⟩]⟩) h (fun h=>?_) fun o3 h=>?_
    ·
     refine Tr<|Rm Y<|Ra Y<|Za<|Zf<|?_
     obtain ⟨r4, hl4, ho4⟩ := QO h
     refine L2 (fun o4 k2=>⟨[(0, .own 0 o4.length), (14, .int .i64 i3), (17, .int .i64 k2)], [some ⟨3, List.map R3 o4⟩]⟩) hl4 (ES [some 0]) fun n4 o4 k2 h=>?_
     unfold ZA at h
     refine Zg<|Tr<|Rm Y<|Rm Y<|R2 Zaw Y<|Za<|K4 0 14 17 110 Y<|If h Y (fun h=>?_) fun h=>?_
     ·
      exact Ze<|Zg<|Zf<|K3 0 14 17 Y<|Qn (cw := md0) (by kernel_rfl)<|D1 0 Zb Y<|D1 1 Zb Y<|D1 5 Zb Y<|D1 6 Zb Y<|D2 7 ZaF Y<|bE h fun x9 h_x9 h=>Dq 8 Y (Qk (ov Y) (ov Y) Q5 Y Y h_x9)<|Dq 9 Y (Qp (ov Y) Y Y h_x9 tS3 Y)<|D1 10 Zb Y<|D1 11 Zb Y<|bE h fun x10 h_x10 h=>Dq 12 Y (Qk (ov Y) (ov Y) Q5 Y Y h_x10)<|Dq 13 Y (Qp (ov Y) Y Y h_x10 tS3 Y)<|bE h fun x11 h_x11 h=>Dq 14 Y (Qk (ov Y) (ov Y) Q5 Y Y h_x11)<|Qc 2 _ Y (by kernel_rfl) Y Y (fun hp'=>Zb<|ov Y)<|Qc 3 _ Y (by kernel_rfl) Y Y (fun hp'=>Zb<|ov Y)<|Qc 4 _ Y (by kernel_rfl) Y Y (fun hp'=>Zkn (ov Y) (ov Y) Y)<|Do 15 Y (Xx (u' := x9) (ov Y) (ov Y) (Zo tS3) Y Y h_x11 Y (Zc Y) Y)<|bE h fun x12 h_x12 h=>Dq 16 Y (Qk (ov Y) (ov Y) Q5 Y ((List.length_set ..).trans Y) h_x12)<|Do 17 Y (Xx (u' := x10) (ov Y) (ov Y) (Zo tS3) Y ((List.length_set ..).trans Y) h_x12 Y (Zc Y) Y)<|Dd<|K3 0 14 17 Y<|Zk<|Rm Y<|R2 ZaF Y<|Ra Y<|Za<|⟨_, h, ES [some 0]<|sr 0 Y (Zc7 (Eq.symm<|(List.length_set ..).trans<|(List.length_set ..).trans Y) Y)<|sd 14 Y Y<|sd 17 Y Y sn⟩
     ·
      refine Zw<|?_
      replace h := lx h ▸ ho4
      exact ⟨_, h, ES [some 0]⟩
    ·
     obtain rfl := rt h
     exact Zj<|Zbo [some 0] Y .nil (.cons Y (roM D3) .nil) Y Y<|Q6 rln
  ·
   refine Ze<|K5 0 1 2 3 4 Y<|Tr<|Rm Y<|Rm Y<|R2 ZN Y<|Rq Y (QI (ov Y) tI3 ZiV Y)<|bE h fun q3 h_q3 h=>Rq Y (ZbQ (ov Y) (ov Y) h_q3)<|Rq Y (QI (ov Y) ZiV tI3 Y)<|Ra Y<|Za<|K6 0 1 2 3 4 18 Y<|Tr<|Rm Y<|Rm Y<|R2 ZN Y<|Ra Y<|Za<|K7 0 1 2 3 4 18 19 Y<|Tr<|Ra Y<|Ra Y<|Za<|I2 (fun start r_=>⟨[(0, .own 0 data.length), (1, .int .i64 a), (2, .int .i64 m), (3, .int .i64 b), (4, .fn cmp_f cmp_c), (18, .int .i64 (i64 q3)), (19, .int .i64 (i64 ((i64 q3) + m))), (20, .int .i64 start), (21, .int .i64 r_)], [some ⟨3, List.map R3 data⟩]⟩) h (fun h=>?_) fun start r_ h=>?_
   ·
    refine K7 0 1 2 3 4 18 19 Y<|Tr<|Rm Y<|Rm Y<|R2 Zaw Y<|Za<|K8 0 1 2 3 4 18 19 140 Y<|If h Y (fun h=>?_) fun h=>?_
    ·
     exact K7 0 1 2 3 4 18 19 Y<|Tr<|Rm Y<|Rm Y<|R2 ZaF Y<|Ra Y<|Za<|K8 0 1 2 3 4 18 19 20 Y<|Zk<|Rm Y<|Ra Y<|Za<|⟨_, h, ES [some 0]<|sr 0 Y (.own _ Y)<|sd 1 Y Y<|sd 2 Y Y<|sd 3 Y Y<|sr 4 Y (rFn<|rld cmp_d)<|sd 18 Y Y<|sd 19 Y Y<|sd 20 Y Y<|sd 21 Y Y sn⟩
    ·
     exact K7 0 1 2 3 4 18 19 Y<|Tr<|Rm Y<|Ra Y<|Za<|K8 0 1 2 3 4 18 19 20 Y<|Zk<|Rm Y<|Ra Y<|Za<|⟨_, h, ES [some 0]<|sr 0 Y (.own _ Y)<|sd 1 Y Y<|sd 2 Y Y<|sd 3 Y Y<|sr 4 Y (rFn<|rld cmp_d)<|sd 18 Y Y<|sd 19 Y Y<|sd 20 Y Y<|sd 21 Y Y sn⟩
   ·
    refine Tr<|Rm Y<|R2 ZaF Y<|Ra Y<|Za<|I1 (fun start2=>⟨[(0, .own 0 data.length), (1, .int .i64 a), (2, .int .i64 m), (3, .int .i64 b), (4, .fn cmp_f cmp_c), (18, .int .i64 (i64 q3)), (19, .int .i64 (i64 ((i64 q3) + m))), (20, .int .i64 start2)], [some ⟨3, List.map R3 data⟩]⟩) h (fun h=>?_) fun start2 h=>?_
    ·
     refine Zf<|?_
     obtain ⟨r5, hl5, ho5⟩ := QO h
     refine L2 (fun start3 r_2=>⟨[(0, .own 0 data.length), (1, .int .i64 a), (2, .int .i64 m), (3, .int .i64 b), (4, .fn cmp_f cmp_c), (18, .int .i64 (i64 q3)), (19, .int .i64 (i64 ((i64 q3) + m))), (20, .int .i64 start3), (21, .int .i64 r_2), (22, .int .i64 (i64 ((i64 ((i64 q3) + m)) - 1)))], [some ⟨3, List.map R3 data⟩]⟩) hl5 (ES [some 0]<|sr 0 Y (.own _ Y)<|sd 1 Y Y<|sd 2 Y Y<|sd 3 Y Y<|sr 4 Y (rFn<|rld cmp_d)<|sd 18 Y Y<|sd 19 Y Y<|sd 20 Y Y<|sd 21 Y Y<|sd 22 Y Y sn) fun n5 start3 r_2 h=>?_
     unfold Qg at h
     refine Zg<|Tr<|Rm Y<|Rm Y<|R2 ZH Y<|Za<|K11 0 1 2 3 4 18 19 20 21 22 151 Y<|If h Y (fun h=>?_) fun h=>?_
     ·
      refine Ze<|Zf<|K10 0 1 2 3 4 18 19 20 21 22 Y<|Tr<|Rm Y<|Rm Y<|R2 ZN Y<|Rq Y (QI (ov Y) tI3 ZiV Y)<|bE h fun q4 h_q4 h=>Rq Y (ZbQ (ov Y) (ov Y) h_q4)<|Rq Y (QI (ov Y) ZiV tI3 Y)<|Ra Y<|Za<|Zg<|K11 0 1 2 3 4 18 19 20 21 22 23 Y<|Qn (cw := md0) (by kernel_rfl)<|D1 0 Zb Y<|D1 1 Zb Y<|D1 2 Zb Y<|D1 3 Zb Y<|D2 4 ZaF Y<|bE h fun x13 h_x13 h=>Dq 5 Y (Qk (ov Y) (ov Y) Q5 Y Y h_x13)<|Dq 6 Y (Qp (ov Y) Y Y h_x13 tS3 Y)<|D1 7 Zb Y<|D1 8 Zb Y<|bE h fun x14 h_x14 h=>Dq 9 Y (Qk (ov Y) (ov Y) Q5 Y Y h_x14)<|Dq 10 Y (Qp (ov Y) Y Y h_x14 tS3 Y)<|bE h fun y3 h_y3 h=>Dq 11 Y (ZdG (ov Y) cmp_d (cmp_h _ _ _ h_y3)<|.cons (ov Y) (.b Y)<|.cons (ov Y) (.b Y) .nil)<|D2 12 ZH Y<|D1 13 Xv Y<|Dd<|K12 0 1 2 3 4 18 19 20 21 22 23 171 Y<|If h Y (fun h=>?_) fun h=>?_
      ·
       exact K11 0 1 2 3 4 18 19 20 21 22 23 Y<|Zk<|Rm Y<|R2 ZN Y<|Ra Y<|Za<|⟨_, h, ES [some 0]<|sr 0 Y (.own _ Y)<|sd 1 Y Y<|sd 2 Y Y<|sd 3 Y Y<|sr 4 Y (rFn<|rld cmp_d)<|sd 18 Y Y<|sd 19 Y Y<|sd 20 Y Y<|sd 21 Y Y<|sd 22 Y Y sn⟩
      ·
       exact K11 0 1 2 3 4 18 19 20 21 22 23 Y<|Zk<|Rm Y<|Ra Y<|Za<|⟨_, h, ES [some 0]<|sr 0 Y (.own _ Y)<|sd 1 Y Y<|sd 2 Y Y<|sd 3 Y Y<|sr 4 Y (rFn<|rld cmp_d)<|sd 18 Y Y<|sd 19 Y Y<|sd 20 Y Y<|sd 21 Y Y<|sd 22 Y Y sn⟩
     ·
      refine Zw<|?_
      replace h := lx h ▸ ho5
      exact ⟨_, h, ES [some 0]<|sr 0 Y (.own _ Y)<|sd 1 Y Y<|sd 2 Y Y<|sd 3 Y Y<|sr 4 Y (rFn<|rld cmp_d)<|sd 18 Y Y<|sd 19 Y Y<|sd 20 Y Y sn⟩
    ·
     refine Tr<|Rm Y<|Rm Y<|R2 ZaF Y<|Ra Y<|Za<|I1 (fun o5=>⟨[(0, .own 0 o5.length), (1, .int .i64 a), (3, .int .i64 b), (4, .fn cmp_f cmp_c), (18, .int .i64 (i64 q3)), (20, .int .i64 start2), (24, .int .i64 (i64 ((i64 ((i64 q3) + m)) - start2)))], [some ⟨3, List.map R3 o5⟩]⟩) h (fun h=>?_) fun o5 h=>?_
     ·
      refine K8 0 1 2 3 4 18 20 24 Y<|Tr<|Rm Y<|Rm Y<|R2 ZH Y<|Rm Y<|Rq Y (.guarded ((decide (start2 < m)) == true) Y Y Y Y fun h => Zb<|ov Y)<|Rq Y (.guarded ((decide (start2 < m)) == true) Y Y Y Y fun h => Zb<|ov Y)<|Rq Y (.guarded ((decide (start2 < m)) == true) Y Y Y Y fun h => ZH (ow Y h)<|ow Y h)<|Rq Y (Zb2 (ov Y) fun hp=>ow Y<|gT hp)<|Za<|K9 0 1 2 3 4 18 20 24 185 Y<|If h Y (fun h=>?_) fun h=>?_
      ·
       exact K8 0 1 2 3 4 18 20 24 Y<|Zk<|Rm Y<|Rm Y<|Rm Y<|Rm Y<|Rm Y<|bE h fun y4 h_y4 h=>Rx Y (Z4 [0] (Zcq cmp_d cmp_h h_y4) (.cons (ov Y) (.own _ Y)<|.cons (ov Y) (.dat Y)<|.cons (ov Y) (.dat Y)<|.cons (ov Y) (.dat Y)<|.cons (ov Y) (rFn<|rld cmp_d) .nil) (.cons Y (roM D3) .nil) Y (.lent 0 (.inl Y) Y (roM D3) .nil) Y Y<|Q6<|rld Y)<|Za<|⟨_, h, ES [some 0]<|sr 0 Y (Zc7 (Eq.symm<|Zaa h_y4) Y)<|sd 1 Y Y<|sd 3 Y Y<|sr 4 Y (rFn<|rld cmp_d)<|sd 18 Y Y<|sd 20 Y Y<|sd 24 Y Y sn⟩
      ·
       exact Ze<|⟨_, h, ES [some 0]<|sr 0 Y (.own _ Y)<|sd 1 Y Y<|sd 3 Y Y<|sr 4 Y (rFn<|rld cmp_d)<|sd 18 Y Y<|sd 20 Y Y<|sd 24 Y Y sn⟩
     ·
      refine I1 (fun o6=>⟨[(0, .own 0 o6.length), (3, .int .i64 b), (4, .fn cmp_f cmp_c), (18, .int .i64 (i64 q3)), (24, .int .i64 (i64 ((i64 ((i64 q3) + m)) - start2)))], [some ⟨3, List.map R3 o6⟩]⟩) h (fun h=>?_) fun o6 h=>?_
      ·
       refine Tr<|Rm Y<|Rm Y<|R2 ZH Y<|Rm Y<|Rq Y (.guarded ((decide (a < start2)) == true) Y Y Y Y fun h => Zb<|ov Y)<|Rq Y (.guarded ((decide (a < start2)) == true) Y Y Y Y fun h => Zb<|ov Y)<|Rq Y (.guarded ((decide (a < start2)) == true) Y Y Y Y fun h => ZH (ow Y h)<|ow Y h)<|Rq Y (Zb2 (ov Y) fun hp=>ow Y<|gT hp)<|Za<|K8 0 1 3 4 18 20 24 199 Y<|If h Y (fun h=>?_) fun h=>?_
       ·
        exact K7 0 1 3 4 18 20 24 Y<|Zk<|Rm Y<|Rm Y<|Rm Y<|Rm Y<|Rm Y<|bE h fun y5 h_y5 h=>Rx Y (Z4 [0] (hrec cmp_d cmp_h h_y5) (.cons (ov Y) (.own _ Y)<|.cons (ov Y) (.dat Y)<|.cons (ov Y) (.dat Y)<|.cons (ov Y) (.dat Y)<|.cons (ov Y) (rFn<|rld cmp_d) .nil) (.cons Y (roM D3) .nil) Y (.lent 0 (.inl Y) Y (roM D3) .nil) Y Y<|Q6<|rld Y)<|Za<|⟨_, h, ES [some 0]<|sr 0 Y (Zc7 (Eq.symm<|ln_rec_ h_y5) Y)<|sd 3 Y Y<|sr 4 Y (rFn<|rld cmp_d)<|sd 18 Y Y<|sd 24 Y Y sn⟩
       ·
        exact Ze<|⟨_, h, ES [some 0]<|sr 0 Y (.own _ Y)<|sd 3 Y Y<|sr 4 Y (rFn<|rld cmp_d)<|sd 18 Y Y<|sd 24 Y Y sn⟩
      ·
       refine Tr<|Rm Y<|Rm Y<|R2 ZH Y<|Rm Y<|Rq Y (.guarded ((decide ((i64 q3) < (i64 ((i64 ((i64 q3) + m)) - start2)))) == true) Y Y Y Y fun h => Zb<|ov Y)<|Rq Y (.guarded ((decide ((i64 q3) < (i64 ((i64 ((i64 q3) + m)) - start2)))) == true) Y Y Y Y fun h => Zb<|ov Y)<|Rq Y (.guarded ((decide ((i64 q3) < (i64 ((i64 ((i64 q3) + m)) - start2)))) == true) Y Y Y Y fun h => ZH (ow Y h)<|ow Y h)<|Rq Y (Zb2 (ov Y) fun hp=>ow Y<|gT hp)<|Za<|K6 0 3 4 18 24 213 Y<|If h Y (fun h=>?_) fun h=>?_
       ·
        refine K5 0 3 4 18 24 Y<|Zk<|Rm Y<|Rm Y<|Rm Y<|Rm Y<|Rm Y<|bE h fun y6 h_y6 h=>Rx Y (Z4 [0] (hrec cmp_d cmp_h h_y6) (.cons (ov Y) (.own _ Y)<|.cons (ov Y) (.dat Y)<|.cons (ov Y) (.dat Y)<|.cons (ov Y) (.dat Y)<|.cons (ov Y) (rFn<|rld cmp_d) .nil) (.cons Y (roM D3) .nil) Y (.lent 0 (.inl Y) Y (roM D3) .nil) Y Y<|Q6<|rld Y)<|Za<|?_
        obtain rfl := rt h
        exact ZdS [some 0] Y .nil (.cons Y (roM D3) .nil) Y Y<|Q6 rln
       ·
        refine Ze<|?_
        obtain rfl := rt h
        exact ZdS [some 0] Y .nil (.cons Y (roM D3) .nil) Y Y<|Q6 rln
theorem Ju {n_ : Nat} {data : List Int} {a : Int} {m : Int} {b : Int} {cmp : Int → Int → Option Int} {r : (List Int)} {cmp_f : FuncId} {cmp_c : List AV} (cmp_d : cmp_c.all datB = true) (cmp_h : ∀ (z0 : Int) (z1 : Int) z, cmp z0 z1 = some z → CSpec Tryz.prog gl0 cmp_f ([.int .i64 z0, .int .i64 z1] ++ cmp_c) (.int .i64 z)) (h : ZC n_ data a m b cmp = some r) :
 GSpec Tryz.prog gl0 100 [.own 0 data.length, .int .i64 a, .int .i64 m, .int .i64 b, .fn cmp_f cmp_c] [some ⟨3, List.map R3 data⟩] (.tuple []) [some ⟨3, List.map R3 r⟩] := by
 induction n_ generalizing data a m b cmp r cmp_f cmp_c with
 | zero => cases h
 | succ n ih => exact ZbM cmp_d cmp_h Qi (fun cmp_d cmp_h h => ih cmp_d cmp_h h) h
theorem Zcm {data : List Int} {n : Int} {cmp : Int → Int → Option Int} {r : (List Int)} {cmp_f : FuncId} {cmp_c : List AV} (cmp_d : cmp_c.all datB = true) (cmp_h : ∀ (z0 : Int) (z1 : Int) z, cmp z0 z1 = some z → CSpec Tryz.prog gl0 cmp_f ([.int .i64 z0, .int .i64 z1] ++ cmp_c) (.int .i64 z)) (h : Qt data n cmp = some r) :
 GSpec Tryz.prog gl0 90 [.own 0 data.length, .int .i64 n, .fn cmp_f cmp_c] [some ⟨3, List.map R3 data⟩] (.tuple []) [some ⟨3, List.map R3 r⟩] := by
 unfold Qt at h
 replace h := Qo h
 refine QQ (by kernel_rfl) Tryz.func90 Y Y<|?_
 intro w0 A W φ0
 refine Tr<|Ra Y<|Za<|Tr<|Rm Y<|Ra Y<|Ra Y<|Za<|I2 (fun o a=>⟨[(0, .own 0 o.length), (1, .int .i64 n), (2, .fn cmp_f cmp_c), (6, .int .i64 20), (7, .int .i64 a)], [some ⟨3, List.map R3 o⟩]⟩) h (fun h=>?_) fun o a h=>?_
 ·
  refine Zf<|?_
  obtain ⟨r1, hl1, ho1⟩ := QO h
  refine L3 (fun o2 a2 b=>⟨[(0, .own 0 o2.length), (1, .int .i64 n), (2, .fn cmp_f cmp_c), (6, .int .i64 20), (7, .int .i64 a2), (8, .int .i64 b)], [some ⟨3, List.map R3 o2⟩]⟩) hl1 (ES [some 0]<|sr 0 Y (.own _ Y)<|sd 1 Y Y<|sr 2 Y (rFn<|rld cmp_d)<|sd 6 Y Y<|sd 7 Y Y<|sd 8 Y Y sn) fun n1 o2 a2 b h=>?_
  unfold ZO at h
  refine Zg<|Tr<|Rm Y<|Rm Y<|R2 Zho Y<|Za<|K7 0 1 2 6 7 8 13 Y<|If h Y (fun h=>?_) fun h=>?_
  ·
   exact Ze<|Zf<|K6 0 1 2 6 7 8 Y<|Tr<|Rm Y<|Rm Y<|Rm Y<|Rm Y<|bE h fun y h_y h=>Rx Y (Z4 [0] (XP cmp_d cmp_h h_y) (.cons (ov Y) (.own _ Y)<|.cons (ov Y) (.dat Y)<|.cons (ov Y) (.dat Y)<|.cons (ov Y) (rFn<|rld cmp_d) .nil) (.cons Y (roM D3) .nil) Y (.lent 0 (.inl Y) Y (roM D3) .nil) Y Y<|Q6<|rld Y)<|Za<|K6 0 1 2 6 7 8 Y<|Tr<|Rm Y<|Ra Y<|Za<|K6 0 1 2 6 7 8 Y<|Zk<|Rm Y<|Rm Y<|R2 ZN Y<|Ra Y<|Za<|⟨_, h, ES [some 0]<|sr 0 Y (Zc7 (Eq.symm<|Qm h_y) Y)<|sd 1 Y Y<|sr 2 Y (rFn<|rld cmp_d)<|sd 6 Y Y<|sd 7 Y Y<|sd 8 Y Y sn⟩
  ·
   refine Zw<|?_
   replace h := lx h ▸ ho1
   exact ⟨_, h, ES [some 0]<|sr 0 Y (.own _ Y)<|sd 1 Y Y<|sr 2 Y (rFn<|rld cmp_d)<|sd 6 Y Y<|sd 7 Y Y sn⟩
 ·
  refine Tr<|Rm Y<|Rm Y<|Rm Y<|Rm Y<|bE h fun y2 h_y2 h=>Rx Y (Z4 [0] (XP cmp_d cmp_h h_y2) (.cons (ov Y) (.own _ Y)<|.cons (ov Y) (.dat Y)<|.cons (ov Y) (.dat Y)<|.cons (ov Y) (rFn<|rld cmp_d) .nil) (.cons Y (roM D3) .nil) Y (.lent 0 (.inl Y) Y (roM D3) .nil) Y Y<|Q6<|rld Y)<|Za<|Zf<|?_
  obtain ⟨r2, hl2, ho2⟩ := QO h
  refine L2 (fun o3 blockSize=>⟨[(0, .own 0 o3.length), (1, .int .i64 n), (2, .fn cmp_f cmp_c), (6, .int .i64 blockSize)], [some ⟨3, List.map R3 o3⟩]⟩) hl2 (ES [some 0]<|sr 0 Y (Zc7 (Eq.symm<|Qm h_y2) Y)<|sd 1 Y Y<|sr 2 Y (rFn<|rld cmp_d)<|sd 6 Y Y sn) fun n2 o3 blockSize h=>?_
  unfold ZJ at h
  refine Zg<|Tr<|Rm Y<|Rm Y<|R2 ZH Y<|Za<|K5 0 1 2 6 30 Y<|If h Y (fun h=>?_) fun h=>?_
  ·
   refine Ze<|Zf<|K4 0 1 2 6 Y<|Tr<|Rm Y<|R2 Zft Y<|Ra Y<|Ra Y<|Za<|I2 (fun o4 a3=>⟨[(0, .own 0 o4.length), (1, .int .i64 n), (2, .fn cmp_f cmp_c), (6, .int .i64 blockSize), (7, .int .i64 a3)], [some ⟨3, List.map R3 o4⟩]⟩) h (fun h=>?_) fun o4 a3 h=>?_
   ·
    refine Zf<|?_
    obtain ⟨r3, hl3, ho3⟩ := QO h
    refine L3 (fun o5 a4 b2=>⟨[(0, .own 0 o5.length), (1, .int .i64 n), (2, .fn cmp_f cmp_c), (6, .int .i64 blockSize), (7, .int .i64 a4), (8, .int .i64 b2)], [some ⟨3, List.map R3 o5⟩]⟩) hl3 (ES [some 0]<|sr 0 Y (.own _ Y)<|sd 1 Y Y<|sr 2 Y (rFn<|rld cmp_d)<|sd 6 Y Y<|sd 7 Y Y<|sd 8 Y Y sn) fun n3 o5 a4 b2 h=>?_
    unfold ZI at h
    refine Zg<|Tr<|Rm Y<|Rm Y<|R2 Zho Y<|Za<|K7 0 1 2 6 7 8 35 Y<|If h Y (fun h=>?_) fun h=>?_
    ·
     exact Ze<|Zf<|K6 0 1 2 6 7 8 Y<|Tr<|Rm Y<|Rm Y<|Rm Y<|Rm Y<|R2 ZN Y<|Rm Y<|Rm Y<|bE h fun y3 h_y3 h=>Rx Y (Z4 [0] (Ju cmp_d cmp_h h_y3) (.cons (ov Y) (.own _ Y)<|.cons (ov Y) (.dat Y)<|.cons (ov Y) (.dat Y)<|.cons (ov Y) (.dat Y)<|.cons (ov Y) (rFn<|rld cmp_d) .nil) (.cons Y (roM D3) .nil) Y (.lent 0 (.inl Y) Y (roM D3) .nil) Y Y<|Q6<|rld Y)<|Za<|K6 0 1 2 6 7 8 Y<|Tr<|Rm Y<|Ra Y<|Za<|K6 0 1 2 6 7 8 Y<|Zk<|Rm Y<|Rm Y<|R2 Zft Y<|R2 ZN Y<|Ra Y<|Za<|⟨_, h, ES [some 0]<|sr 0 Y (Zc7 (Eq.symm<|Qi h_y3) Y)<|sd 1 Y Y<|sr 2 Y (rFn<|rld cmp_d)<|sd 6 Y Y<|sd 7 Y Y<|sd 8 Y Y sn⟩
    ·
     refine Zw<|?_
     replace h := lx h ▸ ho3
     exact ⟨_, h, ES [some 0]<|sr 0 Y (.own _ Y)<|sd 1 Y Y<|sr 2 Y (rFn<|rld cmp_d)<|sd 6 Y Y<|sd 7 Y Y sn⟩
   ·
    refine Zg<|Tr<|Rm Y<|Rm Y<|R2 ZN Y<|Ra Y<|Za<|K6 0 1 2 6 7 9 Y<|Tr<|Rm Y<|Rm Y<|R2 ZH Y<|Za<|K7 0 1 2 6 7 9 54 Y<|If h Y (fun h=>?_) fun h=>?_
    ·
     exact K6 0 1 2 6 7 9 Y<|Zk<|Rm Y<|Rm Y<|Rm Y<|Rm Y<|Rm Y<|bE h fun y4 h_y4 h=>Rx Y (Z4 [0] (Ju cmp_d cmp_h h_y4) (.cons (ov Y) (.own _ Y)<|.cons (ov Y) (.dat Y)<|.cons (ov Y) (.dat Y)<|.cons (ov Y) (.dat Y)<|.cons (ov Y) (rFn<|rld cmp_d) .nil) (.cons Y (roM D3) .nil) Y (.lent 0 (.inl Y) Y (roM D3) .nil) Y Y<|Q6<|rld Y)<|Za<|K4 0 1 2 6 Y<|Zk<|Rm Y<|R2 Zft Y<|Ra Y<|Za<|⟨_, h, ES [some 0]<|sr 0 Y (Zc7 (Eq.symm<|Qi h_y4) Y)<|sd 1 Y Y<|sr 2 Y (rFn<|rld cmp_d)<|sd 6 Y Y sn⟩
    ·
     exact Ze<|K4 0 1 2 6 Y<|Zk<|Rm Y<|R2 Zft Y<|Ra Y<|Za<|⟨_, h, ES [some 0]<|sr 0 Y (.own _ Y)<|sd 1 Y Y<|sr 2 Y (rFn<|rld cmp_d)<|sd 6 Y Y sn⟩
  ·
   refine Zw<|?_
   replace h := lx h ▸ ho2
   obtain rfl := rt h
   exact ZdS [some 0] Y .nil (.cons Y (roM D3) .nil) Y Y<|Q6 rln
theorem Zbx {x : List Int} {cmp : Int → Int → Option Int} {r : (List Int)} {cmp_f : FuncId} {cmp_c : List AV} (cmp_d : cmp_c.all datB = true) (cmp_h : ∀ (z0 : Int) (z1 : Int) z, cmp z0 z1 = some z → CSpec Tryz.prog gl0 cmp_f ([.int .i64 z0, .int .i64 z1] ++ cmp_c) (.int .i64 z)) (h : ZU x cmp = some r) :
 GSpec Tryz.prog gl0 67 [.own 0 x.length, .fn cmp_f cmp_c] [some ⟨3, List.map R3 x⟩] (.tuple []) [some ⟨3, List.map R3 r⟩] := by
 unfold ZU at h
 replace h := Qo h
 refine QQ (by kernel_rfl) Tryz.func67 Y Y<|?_
 intro w0 A W φ0
 refine Zk<|Rm Y<|Rm Y<|Rq Y (Zd6 (ov Y) Y Y Q5)<|Rm Y<|bE h fun y h_y h=>Rx Y (Z4 [0] (Zcm cmp_d cmp_h h_y) (.cons (ov Y) (.own _ Y)<|.cons (ov Y) (.dat Y)<|.cons (ov Y) (rFn<|rld cmp_d) .nil) (.cons Y (roM D3) .nil) Y (.lent 0 (.inl Y) Y (roM D3) .nil) Y Y<|Q6<|rld Y)<|Za<|?_
 obtain rfl := rt h
 exact ZdS [some 0] Y .nil (.cons Y (roM D3) .nil) Y Y<|Q6 rln
theorem ZcZ {i : Int} {c0 : api_Memory} {r : Int} (h : Js i c0 = some r) :
 CSpec Tryz.prog gl0 66 [.int .i64 i, .rp [.int .i64 c0.Slots, .int .i64 c0.Limit, .sl 56 (List.map R56 c0.Sectors), .sl 3 (List.map R3 c0.Wear), .sl 4 (List.map R4 c0.Bad)] 0] (.int .i64 r) := by
 unfold Js at h
 replace h := Qo h
 refine So Tryz.func66 Y fun w0 A=>Tr<|Ra Y<|Za<|K2 0 1 Y<|Tr<|Rq Y (ZS (ov Y) Jw)<|Rq Y (Zd (ov Y) ZdB Y)<|Rm Y<|bE h fun x h_x h=>Rq Y (ZX (ov Y) (ov Y) Zcd h_x)<|Rq Y (Zd (ov Y) Zfl Y)<|bE h fun y h_y h=>Rq Y (Zn (ZbL h_y)<|.cons (ov Y) (.b Y) .nil)<|Rm Y<|Rq Y (Zi (ov Y) Y)<|Rq Y (Zi (ov Y) Y)<|Rq Y (Zi (ov Y) Y)<|Ra Y<|Ra Y<|Ra Y<|Za<|K1 4 Y<|Tr<|Rm Y<|Ra Y<|Za<|?_
 obtain rfl := rt h
 exact Zj (ZE Y (.one<|rb Y))
theorem ZfA {a : Int} {b : Int} {k : api_Memory} {r : Int} (h : Jl a b k = some r) :
 CSpec Tryz.prog gl0 68 [.int .i64 a, .int .i64 b, .rp [.fn 66 [.rp [.int .i64 k.Slots, .int .i64 k.Limit, .sl 56 (List.map R56 k.Sectors), .sl 3 (List.map R3 k.Wear), .sl 4 (List.map R4 k.Bad)] 0]] 0] (.int .i64 r) := by
 unfold Jl at h
 replace h := Qo h
 refine So Tryz.func68 Y fun w0 A=>Tr<|Ra Y<|Za<|Zg<|Qn (cw := md0) (by kernel_rfl)<|Dq 0 Y (Zd (ov Y) ZoL Y)<|D1 1 Zb Y<|bE h fun y h_y h=>Dq 2 Y (ZdG (ov Y) Y (ZcZ h_y)<|.cons (ov Y) (.b Y) .nil)<|Dq 3 Y (Zd (ov Y) ZoL Y)<|D1 4 Zb Y<|bE h fun y2 h_y2 h=>Dq 5 Y (ZdG (ov Y) Y (ZcZ h_y2)<|.cons (ov Y) (.b Y) .nil)<|D2 6 ZaF Y<|D1 7 Q1 Y<|Dd<|?_
 obtain rfl := rt h
 exact Zj (ZE Y (.one<|rb Y))
theorem ZdT {m : api_Memory} {r : (List Int)} (h : XA m = some r) :
 CSpec Tryz.prog gl0 43 [.agg [.int .i64 m.Slots, .int .i64 m.Limit, .sl 56 (List.map R56 m.Sectors), .sl 3 (List.map R3 m.Wear), .sl 4 (List.map R4 m.Bad)]] (.sl 3 (List.map R3 r)) := by
 unfold XA at h
 replace h := Qo h
 refine So Tryz.func43 Y fun w0 A=>Tr<|Rq Y (ZaC (cva<|ov Y) Y tZ_55 Y)<|Ra Y<|Za<|K1 1 Y<|Tr<|Ra Y<|Za<|Tr<|Rq Y (ZgS<|.cons (ov Y) .nil)<|Rx Y (Ql (row := [_]) 0 Y ZpT Y tZ_96)<|Rx Y (Zs (ov Y) (ov Y) (Zo ZoL) Y Y Y (Nat.le_of_ble_eq_true Y) (Zc Y) Y)<|Za<|I1 (fun out=>⟨[(3, .own 0 out.length), (4, .ptr 1 1 0 0)], [some ⟨3, List.map R3 out⟩, some ⟨96, [[.fn 66 [.rp [.int .i64 m.Slots, .int .i64 m.Limit, .sl 56 (List.map R56 m.Sectors), .sl 3 (List.map R3 m.Wear), .sl 4 (List.map R4 m.Bad)] 0]]]⟩]⟩) h (fun h=>?_) fun out h=>?_
 ·
  refine K3 1 3 4 Y<|Tr<|Rq Y (ZS (ov Y) Jw)<|Rq Y (Zd (ov Y) ZdB Y)<|Rl tZ_56 Zcd Y<|Rm Y<|Za<|Zf<|?_
  obtain ⟨r1, hl1, ho1⟩ := QO h
  refine L2 (fun out2 i=>⟨[(1, .rp [.int .i64 m.Slots, .int .i64 m.Limit, .sl 56 (List.map R56 m.Sectors), .sl 3 (List.map R3 m.Wear), .sl 4 (List.map R4 m.Bad)] 0), (3, .own 0 out2.length), (4, .ptr 1 1 0 0), (12, .sl 56 (List.map R56 m.Sectors)), (13, .int .i64 (m.Sectors.length : Int)), (14, .int .i64 i)], [some ⟨3, List.map R3 out2⟩, some ⟨96, [[.fn 66 [.rp [.int .i64 m.Slots, .int .i64 m.Limit, .sl 56 (List.map R56 m.Sectors), .sl 3 (List.map R3 m.Wear), .sl 4 (List.map R4 m.Bad)] 0]]]⟩]⟩) hl1 (ES [none, some 0] (hhp := .row 3<|.cons Y (ro1 (by exact tZ_96.symm)<|rlc (rFn<|rlc (.dat Y) rln) rln) .nil)) fun n1 out2 i h=>?_
  unfold JK at h
  refine Tr<|R2 ZH Y<|Za<|Zg<|If h Y (fun h=>?_) fun h=>?_
  ·
   refine Ze<|Zg<|Zf<|K6 1 3 4 12 13 14 Y<|Tr<|Rm Y<|bE h fun x h_x h=>Rq Y (ZX (ov Y) (ov Y) Zcd h_x)<|Rq Y (Zd (ov Y) Zfl Y)<|Ra Y<|Ra Y<|Za<|K8 1 3 4 5 6 12 13 14 Y<|Tr<|Rm Y<|bE h fun y h_y h=>Rq Y (Zn (ZbL h_y)<|.cons (ov Y) (.b Y) .nil)<|Rm Y<|Rq Y (Zi (ov Y) Y)<|Rq Y (Zi (ov Y) Y)<|Rq Y (Zi (ov Y) Y)<|Ra Y<|Ra Y<|Ra Y<|Za<|K8 1 3 4 5 9 12 13 14 Y<|Tr<|Rm Y<|Rm Y<|Rq Y (.guarded (y.2.2 == true) Y Y Y Y fun h => ZS (ov Y) ZdK)<|Rq Y (.guarded (y.2.2 == true) Y Y Y Y fun h => Zd (ow Y h) ZhM Y)<|Rq Y (.guarded (y.2.2 == true) Y Y Y Y fun h => Zb<|ov Y)<|bE h fun x2 h_x2 h=>Rq Y (.guarded (y.2.2 == true) Y Y Y Y fun h => ZX (ow Y h) (ow Y h) Zix<|gdT h_x2 h)<|Rq Y (.guarded (y.2.2 == true) Y Y Y Y fun h => Zd (ow Y h) tS4 Y)<|Rq Y (.guarded (y.2.2 == true) Y Y Y Y fun h => Xv<|ow Y h)<|Rq Y (Zb2 (ov Y) fun hp=>ow Y<|gT hp)<|Za<|K8 1 3 4 5 12 13 14 33 Y<|If h Y (fun h=>?_) fun h=>?_
   ·
    exact K7 1 3 4 5 12 13 14 Y<|Zk<|Rm Y<|Rm Y<|R_q (.sl 3<|List.map R3 ([i] : List Int)) Y (ZaV Q5 (.cons (cvs (ov Y)<|ZT Y) Y (.cons (.b Y) .nil) .nil) Y Y)<|bE h fun l h_l h=>Rx Y (QC (ov Y) (QX (ov Y) tZ_3) Q5 Y Y Y (fun _=>Zc Y) Y h_l)<|Ra Y<|Za<|K6 1 3 4 12 13 14 Y<|Zk<|R2 ZN Y<|Rm Y<|Za<|⟨_, h, ES [some 0, some 1] (hhp := .cons Y (roM D3)<|.cons Y (ro1 (by exact tZ_96.symm)<|rlc (rFn<|rlc (.dat Y) rln) rln) .nil)⟩
   ·
    exact Ze<|K6 1 3 4 12 13 14 Y<|Zk<|R2 ZN Y<|Rm Y<|Za<|⟨_, h, ES [some 0, some 1] (hhp := .cons Y (roM D3)<|.cons Y (ro1 (by exact tZ_96.symm)<|rlc (rFn<|rlc (.dat Y) rln) rln) .nil)⟩
  ·
   refine Zw<|?_
   replace h := lx h ▸ ho1
   exact ⟨_, h, ES [some 0, some 1] (hhp := .cons Y (roM D3)<|.cons Y (ro1 (by exact tZ_96.symm)<|rlc (rFn<|rlc (.dat Y) rln) rln) .nil)⟩
 ·
  refine Tr<|Rm Y<|Xg (Ent.sel [some 0, none] (sr 3 Y (.own (r' := 0) _ Y)<|sr 4 Y (.frp ⟨Y, ⟨_, Y⟩, Y, Y⟩)<|sr 39 Y (.own (r' := 0) _ Y) sn) (.cons Y (roM D3)<|.row 96 .nil) Y Y)<|Rq Y (ZgS<|.cons (ov Y) .nil)<|bE h fun y2 h_y2 h=>Rx Y (Z4 [0] (Zbx Y (fun z0 z1 _ hz=>ZfA hz) h_y2) (.cons (ov Y) (.own _ Y)<|.cons (ov Y) (.dat Y) .nil) (.cons Y (roM D3) .nil) Y (.lent 0 (.inl Y) Y (roM D3)<|.keep Y Y .nil) Y Y<|Q6<|rld Y)<|Za<|K1 3 Y<|Tr<|Rm Y<|Ra Y<|Za<|?_
  obtain rfl := rt h
  exact Zj (ZE Y (.one<|.tmp Y<|View.ownM Y (ZbK h_y2) D3))
theorem Zef {s : List Int} {i : Int} {r : (Vector Int 97)} (h : Zah s i = some r) :
 CSpec Tryz.prog gl0 44 [.sl 5 (List.map R5 s), .int .i64 i] (.rp (List.map C5 r.toList) 0) := by
 unfold Zah at h
 replace h := Qo h
 refine So Tryz.func44 Y fun w0 A=>Tr<|Ra Y<|Za<|K2 0 1 Y<|Tr<|Rm Y<|R2 Zft Y<|R2 ZN Y<|Ra Y<|Za<|K2 0 5 Y<|Tr<|Rm Y<|Rm Y<|Rm Y<|R2 ZN Y<|bE h fun l h_l h=>Rq Y (Zhe (ov Y) XR (oi<|ov Y) (oi<|ov Y) h_l)<|bE h fun v h_v h=>Rq Y (ZjV (f := C5) (ov Y) Zkl tZ_5 Y h_v)<|Ra Y<|Za<|?_
 obtain rfl := rt h
 exact Zj (ZE Y (.one<|rb Y))
theorem Zb8 {s : List Int} {f : Int → Option Bool} {r : Int} {f_f : FuncId} {f_c : List AV} (f_d : f_c.all datB = true) (f_h : ∀ (z0 : Int) z, f z0 = some z → CSpec Tryz.prog gl0 f_f ([.int .u8 z0] ++ f_c) (.bool z)) (h : Xc s f = some r) :
 CSpec Tryz.prog gl0 91 [.sl 5 (List.map R5 s), .fn f_f f_c] (.int .i64 r) := by
 unfold Xc at h
 replace h := Qo h
 refine So Tryz.func91 Y fun w0 A=>Tr<|Ra Y<|Za<|J0 (fun j => (.inr j)) ⟨[], []⟩ h (fun h=>?_) fun h=>?_
 ·
  refine K2 0 1 Y<|Tr<|Rm Y<|Rl tZ_5 XR Y<|Rm Y<|Za<|Zf<|?_
  obtain ⟨r1, hl1, ho1⟩ := QO h
  refine L1 (fun i=>⟨[(0, .sl 5 (List.map R5 s)), (1, .fn f_f f_c), (7, .int .i64 (s.length : Int)), (8, .int .i64 i)], []⟩) hl1 (ES []<|sd 0 Y Y<|sr 1 Y (rFn<|rld f_d)<|sd 7 Y Y<|sd 8 Y Y sn) fun n1 i h=>?_
  unfold Qj at h
  refine Tr<|R2 ZH Y<|Za<|Zg<|If h Y (fun h=>?_) fun h=>?_
  ·
   refine Ze<|Zg<|Zf<|K4 0 1 7 8 Y<|Tr<|Rm Y<|Ra Y<|Za<|K5 0 1 5 7 8 Y<|Tr<|Rm Y<|Rm Y<|Rm Y<|bE h fun x h_x h=>Rq Y (ZX (ov Y) (ov Y) XR h_x)<|Rq Y (Zd (ov Y) tS5 Y)<|bE h fun y h_y h=>Rq Y (ZdG (ov Y) f_d (f_h _ _ h_y)<|.cons (ov Y) (.b Y) .nil)<|Za<|K6 0 1 5 7 8 16 Y<|If h Y (fun h=>?_) fun h=>?_
   ·
    refine K1 5 Y<|Tr<|Rm Y<|Ra Y<|Za<|?_
    replace h := lx h ▸ ho1
    obtain rfl := rt h
    exact Zj (ZE Y (.one<|rb Y))
   ·
    exact Ze<|K4 0 1 7 8 Y<|Zk<|R2 ZN Y<|Rm Y<|Za<|⟨_, h, ES []<|sd 0 Y Y<|sr 1 Y (rFn<|rld f_d)<|sd 7 Y Y<|sd 8 Y Y sn⟩
  ·
   refine Zw<|?_
   replace h := lx h ▸ ho1
   exact ⟨(), h, ES []⟩
 ·
  replace h := elr h
  replace h := t0i h
  refine Tr<|Ra Y<|Za<|?_
  obtain rfl := rt h
  exact Zj (ZE Y (.one<|rb Y))
theorem ZbJ {s : List Int} {f : Int → Option Bool} {r : Bool} {f_f : FuncId} {f_c : List AV} (f_d : f_c.all datB = true) (f_h : ∀ (z0 : Int) z, f z0 = some z → CSpec Tryz.prog gl0 f_f ([.int .u8 z0] ++ f_c) (.bool z)) (h : Qh s f = some r) :
 CSpec Tryz.prog gl0 69 [.sl 5 (List.map R5 s), .fn f_f f_c] (.bool r) := by
 unfold Qh at h
 replace h := Qo h
 refine So Tryz.func69 Y fun w0 A=>Tr<|Ra Y<|Za<|Tr<|Rm Y<|Rm Y<|bE h fun y h_y h=>Rq Y (Zn (Zb8 f_d f_h h_y)<|.cons (ov Y) (.b Y)<|.cons (ov Y) (Dat.fnC<|.refl fun x hx => .b<|List.all_eq_true.1 f_d x hx) .nil)<|R2 Zga Y<|Ra Y<|Za<|?_
 obtain rfl := rt h
 exact Zj (ZE Y (.one<|rb Y))
theorem Zfv {b : Int} {r : Bool} (h : Jp b = some r) :
 CSpec Tryz.prog gl0 70 [.int .u8 b] (.bool r) := by
 unfold Jp at h
 replace h := Qo h
 refine So Tryz.func70 Y fun w0 A=>Tr<|Ra Y<|Za<|Tr<|Rm Y<|R2 QR Y<|Ra Y<|Za<|?_
 obtain rfl := rt h
 exact Zj (ZE Y (.one<|rb Y))
theorem ZdQ {p : Vector Int 97} {r : Int} (h : Zar p = some r) :
 CSpec Tryz.prog gl0 45 [.rp (List.map C5 p.toList) 0] (.int .i64 r) := by
 unfold Zar at h
 replace h := Qo h
 refine So Tryz.func45 Y fun w0 A=>Tr<|Ra Y<|Za<|Zg<|Zf<|K1 0 Y<|Tr<|Rm Y<|R1 ZG Y<|bE h fun x h_x h=>Rq Y (QB (ov Y) (ov Y) Zkl h_x)<|Rq Y (Zd (ov Y) tS5<|Z8<|QV (o := 0) (o' := ((Int.toNat 96) * 1)) (Zl arL)<|QW h_x)<|R2 Za1 Y<|Ra Y<|Za<|K2 0 3 Y<|If h Y (fun h=>?_) fun h=>?_
 ·
  refine K0<|Tr<|Ra Y<|Za<|?_
  obtain rfl := rt h
  exact Zj (ZE Y (.one<|rb Y))
 ·
  refine K1 0 Y<|Tr<|Rm Y<|R1 ZG Y<|bE h fun l h_l h=>Rq Y (Zkv (f := C5) (ov Y) Zkl tZ_5 (Zl arL) Y on on h_l)<|bE h fun y h_y h=>Rq Y (Zn (ZbJ Y (fun z0 _ hz=>Zfv hz) h_y)<|.cons (ov Y) (.b Y)<|.cons (ov Y) .fn .nil)<|Ra Y<|Za<|K1 9 Y<|If h Y (fun h=>?_) fun h=>?_
  ·
   refine K0<|Tr<|Ra Y<|Za<|?_
   obtain rfl := rt h
   exact Zj (ZE Y (.one<|rb Y))
  ·
   refine Ze<|K0<|Tr<|Ra Y<|Za<|?_
   obtain rfl := rt h
   exact Zj (ZE Y (.one<|rb Y))
theorem Zf6 {m : api_Memory} {r : ring_spot} (h : Xm m = some r) :
 CSpec Tryz.prog gl0 29 [.agg [.int .i64 m.Slots, .int .i64 m.Limit, .sl 56 (List.map R56 m.Sectors), .sl 3 (List.map R3 m.Wear), .sl 4 (List.map R4 m.Bad)]] (.agg [.int .i64 r.sector, .int .i64 r.slot]) := by
 unfold Xm at h
 replace h := Qo h
 refine So Tryz.func29 Y fun w0 A=>Tr<|Rq Y (ZaC (cva<|ov Y) Y tZ_55 Y)<|Rx Y (Ql (row := [_, _]) 0 Y Zk0 Y tZ_78)<|Za<|K2 1 2 Y<|Tr<|Rq Y (ZP (ov Y) Za2 Y Y)<|bE h fun y h_y h=>Rq Y (Zn (ZdT h_y)<|.cons (ov Y) (.aggB Y) .nil)<|Ra Y<|Za<|Zg<|K3 1 2 3 Y<|Tr<|Rm Y<|Rl tZ_3 Q5 Y<|R2 Za1 Y<|Za<|K4 1 2 3 10 Y<|If h Y (fun h=>?_) fun h=>?_
 ·
  refine K1 2 Y<|Tr<|Rq Y (Jz (ys := [_, _]) Zmi ZlT Zk0 (.cons (cvs (ov Y)<|ZT Y) .nil) Y)<|Rx Y (Zs (ov Y) (ov Y) (ZK ZiR Y) Y Y Y (Nat.le_of_ble_eq_true Y) (Zc Y) Y)<|Za<|?_
  obtain rfl := rt h
  exact Zj (ZE Y (.one<|.agg Y Y Y Y ZiR Y Y<|pwB Y))
 ·
  refine Ze<|K3 1 2 3 Y<|Tr<|Rm Y<|Rm Y<|Rl tZ_3 Q5 Y<|R2 ZaF Y<|bE h fun x h_x h=>Rq Y (ZX (ov Y) (ov Y) Q5 h_x)<|Rq Y (Zd (ov Y) tS3 Y)<|Rq Y (Jz (ys := [_, _]) Zmi ZlT Zk0 (.cons (cvs (ov Y)<|ZT Y) .nil) Y)<|Rx Y (Ql (row := [_, _]) 1 Y Zk0 Y tZ_78)<|Rx Y (Zs (ov Y) (ov Y) (ZK ZiR Y) Y Y Y (Nat.le_of_ble_eq_true Y) (Zc Y) Y)<|Za<|I1 (fun slot=>⟨[(2, .ptr 0 1 0 0), (4, .ptr 1 1 0 0)], [some ⟨78, [[.int .i64 0, .int .i64 0]]⟩, some ⟨78, [[.int .i64 x, .int .i64 slot]]⟩]⟩) h (fun h=>?_) fun slot h=>?_
  ·
   refine K3 1 2 4 Y<|Tr<|Rq Y (ZS (ov Y) Zet)<|Rq Y (Zd (ov Y) tS3 Y)<|Rm Y<|Za<|Zf<|?_
   obtain ⟨r1, hl1, ho1⟩ := QO h
   refine L2 (fun slot2 i=>⟨[(1, .rp [.int .i64 m.Slots, .int .i64 m.Limit, .sl 56 (List.map R56 m.Sectors), .sl 3 (List.map R3 m.Wear), .sl 4 (List.map R4 m.Bad)] 0), (2, .ptr 0 1 0 0), (4, .ptr 1 1 0 0), (20, .int .i64 m.Slots), (21, .int .i64 i)], [some ⟨78, [[.int .i64 0, .int .i64 0]]⟩, some ⟨78, [[.int .i64 x, .int .i64 slot2]]⟩]⟩) hl1 (ES [some 0, some 1]) fun n1 slot2 i h=>?_
   unfold Jh at h
   refine Tr<|R2 ZH Y<|Za<|Zg<|If h Y (fun h=>?_) fun h=>?_
   ·
    refine Ze<|Zg<|Zf<|K5 1 2 4 20 21 Y<|Tr<|Rm Y<|Ra Y<|Za<|K6 1 2 4 5 20 21 Y<|Tr<|Rq Y (ZS (ov Y) Jw)<|Rq Y (Zd (ov Y) ZdB Y)<|Rq Y (Zr (ov Y) Y Y ZfU)<|Rq Y (ZV (ov Y) Y Y Y tS3 Y)<|bE h fun x2 h_x2 h=>Rq Y (ZX (ov Y) (ov Y) Zcd h_x2)<|Rq Y (Zd (ov Y) Zfl Y)<|Rm Y<|bE h fun y2 h_y2 h=>Rq Y (Zn (Zef h_y2)<|.cons (ov Y) (.b Y)<|.cons (ov Y) (.b Y) .nil)<|bE h fun y3 h_y3 h=>Rq Y (Zn (ZdQ h_y3)<|.cons (ov Y) (.b Y) .nil)<|R2 QR Y<|Za<|K7 1 2 4 5 20 21 33 Y<|If h Y (fun h=>?_) fun h=>?_
    ·
     exact K6 1 2 4 5 20 21 Y<|Zk<|Rm Y<|R2 ZN Y<|Rq Y (Zr (ov Y) Y Y ZgZ)<|Rx Y (Zs (ov Y) (ov Y) (Zo tS3) Y Y Y (Nat.le_of_ble_eq_true Y) (Zc Y) Y)<|Za<|K5 1 2 4 20 21 Y<|Zk<|R2 ZN Y<|Rm Y<|Za<|⟨_, h, ES [some 0, some 1]⟩
    ·
     exact Ze<|K5 1 2 4 20 21 Y<|Zk<|R2 ZN Y<|Rm Y<|Za<|⟨_, h, ES [some 0, some 1]⟩
   ·
    refine Zw<|?_
    replace h := lx h ▸ ho1
    exact ⟨_, h, ES [some 0, some 1]⟩
  ·
   refine Tr<|Rq Y (QS (ov Y) Y Y Y ZiR Y Y)<|Rx Y (Zs (ov Y) (ov Y) (ZK ZiR Y) Y Y Y (Nat.le_of_ble_eq_true Y) (Zc Y) Y)<|Za<|?_
   obtain rfl := rt h
   exact Zj (ZE Y (.one<|.agg Y Y Y Y ZiR Y Y<|pwB Y))
theorem ZdO {l : List api_Memory} {copies : Int} {r : (Int) ⊕ (ring_Recorder × Int)} (h : XO l copies = some r) :
 GSpec Tryz.prog gl0 13 [.sl 55 (List.map R55 l), .int .i64 copies] [] (Sum.elim (fun r => .tuple [.lit (.pointer none), .int .i64 r]) (fun r => .tuple [.ptr 0 1 0 0, .int .i64 r.2]) r) (Sum.elim (fun r => []) (fun r => [some ⟨75, [[.own 1 r.1.bank.memories.length, .own 2 r.1.bank.spots.length, .int .i64 r.1.copies, .bool r.1.frozen, .bool r.1.stopped, .int .i64 r.1.last, .bool r.1.some_]]⟩, some ⟨55, List.map O55 r.1.bank.memories⟩, some ⟨78, List.map R78 r.1.bank.spots⟩]) r) := by
 unfold XO at h
 replace h := Qo h
 refine QQ (by kernel_rfl) Tryz.func13 Y Y<|?_
 intro w0 A W φ0
 refine Tr<|Ra Y<|Ra Y<|Za<|Zg<|K2 0 1 Y<|Tr<|Rm Y<|bE h fun y h_y h=>Rq Y (Zn (ZbO h_y)<|.cons (ov Y) (.b Y) .nil)<|Ra Y<|Za<|K3 0 1 6 Y<|Tr<|Rm Y<|R2 QR Y<|Za<|K4 0 1 6 17 Y<|If h Y (fun h=>?_) fun h=>?_
 ·
  refine K1 6 Y<|Tr<|Rm Y<|Ra Y<|Ra Y<|Za<|?_
  obtain rfl := rt h
  exact Zj<|Zbo [] Y (.cons (.tmp Y)<|.cons (.tmp Y) .nil) .nil Y Y<|Q6<|rlc (.dat Y)<|rlc (.dat Y) rln
 ·
  refine Ze<|Zg<|K2 0 1 Y<|Tr<|Rm Y<|Rm Y<|Rl tZ_55 ZaB Y<|bE h fun y2 h_y2 h=>Rq Y (Zn (Q9 h_y2)<|.cons (ov Y) (.b Y)<|.cons (ov Y) (.b Y)<|.cons (ov Y) (.b Y) .nil)<|R1 Xv Y<|Za<|K3 0 1 23 Y<|If h Y (fun h=>?_) fun h=>?_
  ·
   refine K0<|Tr<|Ra Y<|Ra Y<|Za<|?_
   obtain rfl := rt h
   exact Zj<|Zbo [] Y (.cons (.tmp Y)<|.cons (.tmp Y) .nil) .nil Y Y<|Q6<|rlc (.dat Y)<|rlc (.dat Y) rln
  ·
   refine Ze<|K2 0 1 Y<|Tr<|Rm Y<|Rq Y (Jz (ys := [_, _, _, _, _, _, _]) ZpL Zps ZpX (.cons (cvs (ov Y)<|ZT Y) .nil) Y)<|Rx Y (ZnT 0 Y (ov Y) Zp4 Y)<|Ra Y<|Za<|K2 0 7 Y<|Tr<|Rm Y<|Rm Y<|bE h fun y3 h_y3 h=>Rx Y (Z4 [] (Zfb h_y3) (.cons (ov Y) (.dat Y) .nil) .nil Y (.keep Y Y<|.lent 0 (.inr ⟨Nat.le_of_ble_eq_true Y, Y⟩) Y (roO Xj) .nil) Y Y<|.own _<|.inr ⟨Nat.le_of_ble_eq_true Y, Y⟩)<|Rq Y (Zq (ov Y) Y Y)<|Rq Y (Zr (ov Y) Y Y Zd9)<|Rq Y (Zr (ov Y) Y Y ZdH)<|Rx Y (Zs (ov Y) (ov Y) (Zo ZiQ) Y Y Y (Nat.le_of_ble_eq_true Y) (Zc Y) Y)<|Za<|I2 (fun spots frozen=>⟨[(7, .ptr 0 1 0 0)], [some ⟨75, [[.own 1 y3.length, .own 2 spots.length, .int .i64 copies, .bool frozen, .bool false, .int .i64 0, .bool false]]⟩, some ⟨55, List.map O55 y3⟩, some ⟨78, List.map R78 spots⟩]⟩) h (fun h=>?_) fun spots frozen h=>?_
   ·
    refine K1 7 Y<|QZ [some ⟨75, [[.own 1 y3.length, .nils, .int .i64 copies, .bool false, .bool false, .int .i64 0, .bool false]]⟩, some ⟨55, List.map O55 y3⟩] Y<|Tr<|Rm Y<|Rq Y (Zq (ov Y) Y Y)<|Rq Y (Zr (ov Y) Y Y Zd9)<|Rq Y (Zr (ov Y) Y Y ZdH)<|Rq Y (ZV (ov Y) Y Y Y ZiQ Y)<|Rq Y (Zd6 (ov Y) Y Y ZaB)<|Rm Y<|Za<|Zf<|?_
    obtain ⟨r1, hl1, ho1⟩ := QO h
    refine L3 (fun spots2 frozen2 i=>⟨[(7, .ptr 0 1 0 0), (37, .own 1 y3.length), (38, .int .i64 (y3.length : Int)), (39, .int .i64 i)], [some ⟨75, [[.own 1 y3.length, .own 2 spots2.length, .int .i64 copies, .bool frozen2, .bool false, .int .i64 0, .bool false]]⟩, some ⟨55, List.map O55 y3⟩, some ⟨78, List.map R78 spots2⟩]⟩) hl1 (ES [some 0, some 1, none] (hhp := .cons Y (ro1 (by exact tZ_75.symm)<|rlc (.own _ Y)<|rlc (.row Y)<|rlc (.dat Y)<|rlc (.dat Y)<|rlc (.dat Y)<|rlc (.dat Y)<|rlc (.dat Y) rln)<|.cons Y (roO Xj)<|.row 78 .nil)) fun n1 spots2 frozen2 i h=>?_
    unfold XC at h
    refine Tr<|R2 ZH Y<|Za<|Zg<|If h Y (fun h=>?_) fun h=>?_
    ·
     refine Ze<|Zg<|Zf<|K4 7 37 38 39 Y<|Tr<|bE h fun x h_x h=>Rq Y (Qk (ov Y) (ov Y) ZaB Y Y h_x)<|Xg (Ent.focusH (r := 1) (j := 2) (e' := 56) (g := O56) (ys := x.Sectors) Y (ZB h_x).2 Y ZfS)<|Xg (Ent.focusI (r := 1) (j := 3) (e' := 3) (g := R3) (ys := x.Wear) Y (ZB h_x).2 Y DR3)<|Xg (Ent.focusI (r := 1) (j := 4) (e' := 4) (g := R4) (ys := x.Bad) Y (ZB h_x).2 Y DR4)<|Rq Y (ZlQ (ov Y) Y Y (ZB h_x).2 Za2 Y Y)<|Rx Y (Ql (row := [_, _, _, _, _]) 6 Y ZhO Y tZ_55)<|Rx Y (Zs (ov Y) (ov Y) (ZK Za2 Y) Y Y Y (Nat.le_of_ble_eq_true Y) (Zc Y) Y)<|Zd4 [some ⟨75, [[.own 1 y3.length, .own 2 spots2.length, .int .i64 copies, .bool frozen2, .bool false, .int .i64 0, .bool false]]⟩, some ⟨55, List.set (List.map O55 y3) i.toNat [.int .i64 x.Slots, .int .i64 x.Limit, .own 3 x.Sectors.length, .own 4 x.Wear.length, .own 5 x.Bad.length]⟩, some ⟨78, List.map R78 spots2⟩, some ⟨56, List.map O56 x.Sectors⟩, some ⟨3, List.map R3 x.Wear⟩, some ⟨4, List.map R4 x.Bad⟩, some ⟨55, [[.int .i64 x.Slots, .int .i64 x.Limit, .own 3 x.Sectors.length, .own 4 x.Wear.length, .own 5 x.Bad.length]]⟩] Y<|Za<|K5 7 9 37 38 39 Y<|Tr<|Rq Y (QS (ov Y) Y Y Y Za2 Y Y)<|bE h fun y4 h_y4 h=>Rq Y (J5 (Zf6 h_y4) (.agg<|by simp only [List.mem_cons, List.not_mem_nil, or_false, forall_eq_or_imp, forall_eq]; exact ⟨.int, .int⟩)<|.cons (ov Y) (View.aggL<|.cons (Dat.view<|.b Y)<|.cons (Dat.view<|.b Y)<|.cons (View.ownO Y Y ZfS (fun x=>(D56 x).1) ZpA)<|.cons (View.ownM Y Y D3)<|.cons (View.ownM Y Y D4) .nil) .nil)<|Rx Y (Ql (row := [_, _]) 7 Y Zk0 Y tZ_78)<|Rx Y (Zs (ov Y) (ov Y) (ZK ZiR Y) Y Y Y (Nat.le_of_ble_eq_true Y) (Zc Y) Y)<|Zd4 [some ⟨75, [[.own 1 y3.length, .own 2 spots2.length, .int .i64 copies, .bool frozen2, .bool false, .int .i64 0, .bool false]]⟩, some ⟨55, List.set (List.map O55 y3) i.toNat [.int .i64 x.Slots, .int .i64 x.Limit, .own 3 x.Sectors.length, .own 4 x.Wear.length, .own 5 x.Bad.length]⟩, some ⟨78, List.map R78 spots2⟩, some ⟨56, List.map O56 x.Sectors⟩, some ⟨3, List.map R3 x.Wear⟩, some ⟨4, List.map R4 x.Bad⟩, some ⟨55, [[.int .i64 x.Slots, .int .i64 x.Limit, .own 3 x.Sectors.length, .own 4 x.Wear.length, .own 5 x.Bad.length]]⟩, some ⟨78, [[.int .i64 y4.sector, .int .i64 y4.slot]]⟩] Y<|Za<|Zg<|K6 7 9 10 37 38 39 Y<|Qn (cw := md0) (by kernel_rfl)<|D1 1 Zb Y<|Dq 2 Y (Zq (ov Y) Y Y)<|Dq 3 Y (Zr (ov Y) Y Y Zd9)<|Dq 4 Y (Zr (ov Y) Y Y Ze0)<|Dq 5 Y (ZV (ov Y) Y Y Y Zj3 Y)<|Dq 6 Y (QS (ov Y) Y Y Y ZiR Y Y)<|Zna 7 (.sl 78<|List.map R78 ([y4] : List ring_spot)) Y (by kernel_rfl) Y Y (ZaV ZjL (.cons (cva<|ov Y) Y (pwD Y) .nil) Y Y)<|Qc 0 _ Y (by kernel_rfl) Y Y (fun hp'=>Zb<|ov Y)<|bE h fun l2 h_l2 h=>Do 8 Y (QC (ov Y) (QX (ov Y) tZ_78) ZjL Y Y Y (fun _=>Zc Y) Y h_l2)<|Dq 9 Y (Zq (ov Y) Y Y)<|Dq 10 Y (Zr (ov Y) Y Y Zd9)<|Dq 11 Y (Zr (ov Y) Y Y Ze0)<|Do 12 Y (Zs (ov Y) (ov Y) (Zo Zj3) Y Y Y (Nat.le_of_ble_eq_true Y) (Zc Y) Y)<|Dd<|K6 7 9 10 37 38 39 Y<|QZ [some ⟨75, [[.own 1 y3.length, .own 2 l2.length, .int .i64 copies, .bool frozen2, .bool false, .int .i64 0, .bool false]]⟩, some ⟨55, List.set (List.map O55 y3) i.toNat [.int .i64 x.Slots, .int .i64 x.Limit, .own 3 x.Sectors.length, .own 4 x.Wear.length, .own 5 x.Bad.length]⟩, some ⟨78, List.map R78 l2⟩, some ⟨56, List.map O56 x.Sectors⟩, some ⟨3, List.map R3 x.Wear⟩, some ⟨4, List.map R4 x.Bad⟩, some ⟨55, [[.int .i64 x.Slots, .int .i64 x.Limit, .own 3 x.Sectors.length, .own 4 x.Wear.length, .own 5 x.Bad.length]]⟩, some ⟨78, [[.int .i64 y4.sector, .int .i64 y4.slot]]⟩] Y<|Tr<|Rq Y (Zr (ov Y) Y Y ZfU)<|Rq Y (ZV (ov Y) Y Y Y tS3 Y)<|R2 Zga Y<|Za<|K7 7 9 10 37 38 39 59 Y<|If h Y (fun h=>?_) fun h=>?_
     ·
      exact K6 7 9 10 37 38 39 Y<|Tr<|Rq Y (Zr (ov Y) Y Y Jw)<|Rq Y (ZV (ov Y) Y Y Y ZdB Y)<|Rq Y (Zr (ov Y) Y Y ZfU)<|Rq Y (ZV (ov Y) Y Y Y tS3 Y)<|bE h fun x2 h_x2 h=>Rq Y (Qk (ov Y) (ov Y) Zcd Y Y h_x2)<|Xg (Ent.focusH (r := 3) (j := 0) (e' := 5) (g := R5) (ys := x2) Y (ZB h_x2).2 Y DR5)<|Rq Y (Zb0 (ov Y) Y Y (ZB h_x2).2 Zfl Y)<|bE h fun y5 h_y5 h=>Rq Y (J5 (ZbL h_y5) (.tuple<|by simp only [List.mem_cons, List.not_mem_nil, or_false, forall_eq_or_imp, forall_eq]; exact ⟨.int, .bool, .bool⟩)<|.cons (ov Y) (View.ownM Y Y D5) .nil)<|Rm Y<|Rq Y (Zi (ov Y) Y)<|Rq Y (Zi (ov Y) Y)<|Rq Y (Zi (ov Y) Y)<|Ra Y<|Ra Y<|Ra Y<|Zd4 [some ⟨75, [[.own 1 y3.length, .own 2 l2.length, .int .i64 copies, .bool frozen2, .bool false, .int .i64 0, .bool false]]⟩, some ⟨55, List.set (List.map O55 y3) i.toNat [.int .i64 x.Slots, .int .i64 x.Limit, .own 3 x.Sectors.length, .own 4 x.Wear.length, .own 5 x.Bad.length]⟩, some ⟨78, List.map R78 l2⟩, some ⟨56, List.set (List.map O56 x.Sectors) y4.sector.toNat [.own 8 x2.length]⟩, some ⟨3, List.map R3 x.Wear⟩, some ⟨4, List.map R4 x.Bad⟩, some ⟨55, [[.int .i64 x.Slots, .int .i64 x.Limit, .own 3 x.Sectors.length, .own 4 x.Wear.length, .own 5 x.Bad.length]]⟩, some ⟨78, [[.int .i64 y4.sector, .int .i64 y4.slot]]⟩, some ⟨5, List.map R5 x2⟩] Y<|Xg (Ent.absorbH (r := 3) (j := 0) (q := 8) Y (ZB h_x2).2 Y Y (List.length_map ..) Y)<|Xg (Ent.closeS (r := 3) Y (ZB h_x2).2 Y)<|Xg (Ent.absorbH (r := 1) (j := 2) (q := 3) Y (ZB h_x).2 Y Y (List.length_map ..) Y)<|Xg (Ent.absorbH (r := 1) (j := 3) (q := 4) Y (ZB h_x).2 Y Y (List.length_map ..) Y)<|Xg (Ent.absorbH (r := 1) (j := 4) (q := 5) Y (ZB h_x).2 Y Y (List.length_map ..) Y)<|Xg (Ent.closeS (r := 1) Y (ZB h_x).2 Y)<|Za<|K5 7 12 37 38 39 Y<|QZ [some ⟨75, [[.own 1 y3.length, .own 2 l2.length, .int .i64 copies, .bool frozen2, .bool false, .int .i64 0, .bool false]]⟩, some ⟨55, List.map O55 y3⟩, some ⟨78, List.map R78 l2⟩, none, none, none, some ⟨55, [[.int .i64 x.Slots, .int .i64 x.Limit, .own 3 x.Sectors.length, .own 4 x.Wear.length, .own 5 x.Bad.length]]⟩, some ⟨78, [[.int .i64 y4.sector, .int .i64 y4.slot]]⟩, none] Y<|Zk<|Rm Y<|Rm Y<|Rq Y (Zq (ov Y) Y Y)<|Rq Y (Zr (ov Y) Y Y ZjC)<|Rq Y (ZV (ov Y) Y Y Y tS4 Y)<|Rm Y<|Rq Y (.guarded (frozen2 == false) Y Y Y Y fun h => Zb<|ov Y)<|Rq Y (Zb9 (ov Y) fun hp=>ow Y<|gF hp)<|Rq Y (Zq (ov Y) Y Y)<|Rq Y (Zr (ov Y) Y Y ZjC)<|Rx Y (Zs (ov Y) (ov Y) (Zo tS4) Y Y Y (Nat.le_of_ble_eq_true Y) (Zc Y) Y)<|Za<|K4 7 37 38 39 Y<|QZ [some ⟨75, [[.own 1 y3.length, .own 2 l2.length, .int .i64 copies, .bool (frozen2 || y5.2.1), .bool false, .int .i64 0, .bool false]]⟩, some ⟨55, List.map O55 y3⟩, some ⟨78, List.map R78 l2⟩, none, none, none, some ⟨55, [[.int .i64 x.Slots, .int .i64 x.Limit, .own 3 x.Sectors.length, .own 4 x.Wear.length, .own 5 x.Bad.length]]⟩, some ⟨78, [[.int .i64 y4.sector, .int .i64 y4.slot]]⟩, none] Y<|Zk<|R2 ZN Y<|Rm Y<|Za<|⟨_, h, ES [some 0, some 1, some 2] (hhp := .cons Y (ro1 (by exact tZ_75.symm)<|rlc (.own _ Y)<|rlc (.own _ Y)<|rlc (.dat Y)<|rlc (.dat Y)<|rlc (.dat Y)<|rlc (.dat Y)<|rlc (.dat Y) rln)<|.cons Y (roO Xj)<|.cons Y (roM D78) .nil)⟩
     ·
      exact Ze<|K4 7 37 38 39 Y<|Zk<|R2 ZN Y<|Rm Y<|Xg (Ent.absorbH (r := 1) (j := 2) (q := 3) Y (ZB h_x).2 Y Y (List.length_map ..) Y)<|Xg (Ent.absorbH (r := 1) (j := 3) (q := 4) Y (ZB h_x).2 Y Y (List.length_map ..) Y)<|Xg (Ent.absorbH (r := 1) (j := 4) (q := 5) Y (ZB h_x).2 Y Y (List.length_map ..) Y)<|Xg (Ent.closeS (r := 1) Y (ZB h_x).2 Y)<|Za<|⟨_, h, ES [some 0, some 1, some 2] (hhp := .cons Y (ro1 (by exact tZ_75.symm)<|rlc (.own _ Y)<|rlc (.own _ Y)<|rlc (.dat Y)<|rlc (.dat Y)<|rlc (.dat Y)<|rlc (.dat Y)<|rlc (.dat Y) rln)<|.cons Y (roO Xj)<|.cons Y (roM D78) .nil)⟩
    ·
     refine Zw<|?_
     replace h := lx h ▸ ho1
     exact ⟨_, h, ES [some 0, some 1, some 2] (hhp := .cons Y (ro1 (by exact tZ_75.symm)<|rlc (.own _ Y)<|rlc (.own _ Y)<|rlc (.dat Y)<|rlc (.dat Y)<|rlc (.dat Y)<|rlc (.dat Y)<|rlc (.dat Y) rln)<|.cons Y (roO Xj)<|.cons Y (roM D78) .nil)⟩
   ·
    refine Tr<|Rm Y<|Ra Y<|Ra Y<|Za<|?_
    obtain rfl := rt h
    exact Zj<|Zbo [some 0, some 1, some 2] Y (.cons (.tmp Y)<|.cons (.tmp Y) .nil) (.cons Y (ro1 (by exact tZ_75.symm)<|rlc (.own _ Y)<|rlc (.own _ Y)<|rlc (.dat Y)<|rlc (.dat Y)<|rlc (.dat Y)<|rlc (.dat Y)<|rlc (.dat Y) rln)<|.cons Y (roO Xj)<|.cons Y (roM D78) .nil) Y Y<|Q6<|rlc (.ptr _ _ _ Y)<|rlc (.dat Y) rln
theorem Zci {l : List api_Memory} {copies : Int} {r : Int} (h : XO l copies = some (.inl r)) :
    GSpec Tryz.prog gl0 13 [.sl 55 (List.map R55 l), .int .i64 copies] [] (.tuple [.lit (.pointer none), .int .i64 r]) [] := ZdO h
theorem Zch {l : List api_Memory} {copies : Int} {r : ring_Recorder × Int} (h : XO l copies = some (.inr r)) :
    GSpec Tryz.prog gl0 13 [.sl 55 (List.map R55 l), .int .i64 copies] [] (.tuple [.ptr 0 1 0 0, .int .i64 r.2]) [some ⟨75, [[.own 1 r.1.bank.memories.length, .own 2 r.1.bank.spots.length, .int .i64 r.1.copies, .bool r.1.frozen, .bool r.1.stopped, .int .i64 r.1.last, .bool r.1.some_]]⟩, some ⟨55, List.map O55 r.1.bank.memories⟩, some ⟨78, List.map R78 r.1.bank.spots⟩] := ZdO h
theorem ZdV {r_ : ring_Recorder} {power : Int} {r : Int} (h : XF r_ power = some r) :
 CSpec Tryz.prog gl0 33 [.rp [.sl 55 (List.map R55 r_.bank.memories), .sl 78 (List.map R78 r_.bank.spots), .int .i64 r_.copies, .bool r_.frozen, .bool r_.stopped, .int .i64 r_.last, .bool r_.some_] 0, .int .i64 power] (.int .i64 r) := by
 unfold XF at h
 replace h := Qo h
 refine So Tryz.func33 Y fun w0 A=>Tr<|Ra Y<|Za<|Zg<|Zf<|K2 0 1 Y<|Tr<|Rm Y<|R1 ZG Y<|Rq Y (ZS (ov Y) Zma)<|Rq Y (Zd (ov Y) tS4 Y)<|Ra Y<|Za<|K3 0 1 5 Y<|If h Y (fun h=>?_) fun h=>?_
 ·
  refine K0<|Tr<|Ra Y<|Za<|?_
  obtain rfl := rt h
  exact Zj (ZE Y (.one<|rb Y))
 ·
  refine K2 0 1 Y<|Tr<|Rm Y<|R1 ZG Y<|Rq Y (ZS (ov Y) ZjC)<|Rq Y (Zd (ov Y) tS4 Y)<|Ra Y<|Za<|K2 1 10 Y<|If h Y (fun h=>?_) fun h=>?_
  ·
   refine K0<|Tr<|Ra Y<|Za<|?_
   obtain rfl := rt h
   exact Zj (ZE Y (.one<|rb Y))
  ·
   refine K1 1 Y<|Tr<|Rm Y<|bE h fun y h_y h=>Rq Y (Zn (Q9 h_y)<|.cons (ov Y) (.b Y)<|.cons (ov Y) (.b Y)<|.cons (ov Y) (.b Y) .nil)<|R1 Xv Y<|Ra Y<|Za<|K1 15 Y<|If h Y (fun h=>?_) fun h=>?_
   ·
    refine K0<|Tr<|Ra Y<|Za<|?_
    obtain rfl := rt h
    exact Zj (ZE Y (.one<|rb Y))
   ·
    refine Ze<|K0<|Tr<|Ra Y<|Za<|?_
    obtain rfl := rt h
    exact Zj (ZE Y (.one<|rb Y))
end Go.Proofs.YtjfoenlooacoiabGreatDoor
