/- A text of the proof: a verified executor of the program form, or the contracts of the functions that the law reaches. -/
import Derived.Test.YtjfoenlooacoiaaDoorOkTa
set_option linter.all false
namespace Go.Proofs.YtjfoenlooacoiaaDoor
open Go Go.Vx
set_option maxRecDepth 10000
set_option maxHeartbeats 1000000
set_option linter.unusedVariables false
theorem ZdA {sequence : Int} {r : (List Int)} (h : ZaP sequence = some r) :
 CSpec Tryd.prog gl0 51 [.int .i64 sequence] (.sl 5 (List.map R5 r)) := by
 unfold ZaP at h
 replace h := Qr h
 refine So Tryd.func51 Y fun w0 A=>Tr<|Ra Y<|Za<|K1 0 Y<|Tr<|Rx Y (Zh5 (r := 0) (xs := ([79, 66] : List Int)) (f := R5) Y XJ (.cons (cvs (ov Y)<|Qm Y) Y (.cons (.b Y) .nil)<|.cons (cvs (ov Y)<|Qm Y) Y (.cons (.b Y) .nil) .nil) Y Y Y)<|Ra Y<|Za<|I1 (fun out=>⟨[(3, .own 0 out.length)], [some ⟨5, List.map R5 out⟩]⟩) h (fun h=>?_) fun out h=>?_
 ·
  refine K2 0 3 Y<|Tr<|Ra Y<|Za<|Ze<|?_
  obtain ⟨r1, hl1, ho1⟩ := QH h
  refine L2 (fun out2 shift=>⟨[(0, .int .i64 sequence), (3, .own 0 out2.length), (4, .int .i64 shift)], [some ⟨5, List.map R5 out2⟩]⟩) hl1 (ES [some 0]) fun n1 out2 shift h=>?_
  unfold XG at h
  refine Zg<|Tr<|Rm Y<|R2 ZgJ Y<|Za<|K4 0 3 4 9 Y<|If h Y (fun h=>?_) fun h=>?_
  ·
   exact Zf<|Zg<|Ze<|K3 0 3 4 Y<|Zk<|Rm Y<|Rm Y<|Rm Y<|bE h fun q h_q h=>Rq Y (ZbM (ov Y) (ov Y) h_q)<|Rq Y (Xn (ov Y) tI3 tI5 Y)<|R_q (.sl 5<|List.map R5 ([(u8 q)] : List Int)) Y (ZbG XJ (.cons (cvs (ov Y)<|Qm Y) Y (.cons (.b Y) .nil) .nil) Y Y)<|bE h fun l h_l h=>Rx Y (QQ (ov Y) (QT (ov Y) tZ_5) XJ Y Y Y (fun _=>Zc Y) Y h_l)<|Ra Y<|Za<|K3 0 3 4 Y<|Zk<|Rm Y<|R2 ZaV Y<|Ra Y<|Za<|⟨_, h, ES [some 0]⟩
  ·
   refine ZA<|?_
   replace h := lx h ▸ ho1
   exact ⟨_, h, ES [some 0]⟩
 ·
  refine I1 (fun out3=>⟨[(3, .own 0 out3.length)], [some ⟨5, List.map R5 out3⟩]⟩) h (fun h=>?_) fun out3 h=>?_
  ·
   refine Tr<|Rm Y<|bE h fun u h_u h=>Rq Y (ZmT (ov Y) Y Y XJ (oi<|ov Y) (oi<|ov Y) h_u)<|Rq Y (ZlC (ov Y) Y (List.length_map ..) XJ)<|Rm Y<|Za<|Ze<|?_
   obtain ⟨r2, hl2, ho2⟩ := QH h
   refine Zmy (τ := Option (List Int)) _ (fun b s=>Option.elim b (t2 (fun out4 i=>(⟨[(3, .own 0 out4.length), (20, .osl 0 out4.length (Int.toNat 2) (Int.toNat (6 - 2))), (21, .int .i64 ((Int.toNat (6 - 2) : Nat) : Int)), (22, .int .i64 i)], [some ⟨5, List.map R5 out4⟩]⟩ : St)) s) fun old2=>t2 (fun out4 i=>(⟨[(3, .own 1 out4.length), (20, .osl 0 old2.length (Int.toNat 2) (Int.toNat (6 - 2))), (21, .int .i64 ((Int.toNat (6 - 2) : Nat) : Int)), (22, .int .i64 i)], [some ⟨5, List.map R5 old2⟩, some ⟨5, List.map R5 out4⟩]⟩ : St)) s) (fun b s => ∃ tl, Option.getD b s.1 = out ++ tl) none _ hl2 Zls (Ent.sel [some 0] (sr 3 Y (.own _ Y)<|sr 20 Y (.osl _ _ _ Y)<|sd 21 Y Y<|sd 22 Y Y sn) (.cons Y (roM D5) .nil) Y Y) fun b2 n2 s2 hC h=>?_
   obtain ⟨out4, i⟩ := s2
   replace h := t2i h
   unfold XA at h
   rcases b2 with _ | old2
   ·
    replace hC : ∃ tl, out4 = out ++ tl := hC
    show T _ _ ⟨[(3, .own 0 out4.length), (20, .osl 0 out4.length (Int.toNat 2) (Int.toNat (6 - 2))), (21, .int .i64 ((Int.toNat (6 - 2) : Nat) : Int)), (22, .int .i64 i)], [some ⟨5, List.map R5 out4⟩]⟩ _
    refine Tr<|R2 ZD Y<|Za<|Zg<|If h Y (fun h=>?_) fun h=>?_
    ·
     refine Zf<|Zg<|Ze<|K4 3 20 21 22 Y<|Tr<|bE h fun u2 h_u2 h=>bE h fun x2 h_x2 h=>?_
     have h_x2P := ZjT hC h_x2
     refine Rq Y (ZlD (ov Y) (ov Y) XJ Y Y (Ze5 h_u).1 h_u2 h_x2P)<|Rq Y (Qc (ov Y) Y Y h_x2P tS5 Y)<|Ra Y<|Za<|K5 3 6 20 21 22 Y<|Zk<|Rm Y<|Rm Y<|R1 ZjA Y<|R_q (.sl 5<|List.map R5 ([(ZbB .u8 255 x2)] : List Int)) Y (ZbG XJ (.cons (cvs (ov Y)<|Qm Y) Y (.cons (.b Y) .nil) .nil) Y Y)<|bE h fun l2 h_l2 h=>Zmn (f := R5) (tp := 20) (ys := ([(ZbB .u8 255 x2)] : List Int)) Y (ov Y) (QT (ov Y) tZ_5) XJ Y Y Y (fun _=>Zc Y) Y (fun _=>nsR Y) h_l2 Y ?_ ?_
     ·
      exact Ra Y<|Za<|K4 3 20 21 22 Y<|Zk<|R2 ZP Y<|Rm Y<|Za<|⟨none, (l2, (i64 (i + 1))), Zmd hC h_l2, h, Ent.sel [some 0] (sr 3 Y (.own _ Y) <| sr 20 Y (.osl _ _ _ Y) <| sd 21 Y Y <| sd 22 Y Y <| sn) (.cons Y (roM D5) <| .nil) Y Y⟩
     ·
      exact Ra Y<|Za<|K4 3 20 21 22 Y<|Zk<|R2 ZP Y<|Rm Y<|Za<|⟨some out4, (l2, (i64 (i + 1))), hC, h, Ent.sel [some 0, some 1] (sr 3 Y (.own _ Y) <| sr 20 Y (.osl _ _ _ Y) <| sd 21 Y Y <| sd 22 Y Y <| sn) (.cons Y (roM D5) <| .cons Y (roM D5) <| .nil) Y Y⟩
    ·
     refine ZA<|?_
     replace h := lx h ▸ ho2
     exact ⟨_, h, ES [some 0]⟩
   ·
    replace hC : ∃ tl, old2 = out ++ tl := hC
    show T _ _ ⟨[(3, .own 1 out4.length), (20, .osl 0 old2.length (Int.toNat 2) (Int.toNat (6 - 2))), (21, .int .i64 ((Int.toNat (6 - 2) : Nat) : Int)), (22, .int .i64 i)], [some ⟨5, List.map R5 old2⟩, some ⟨5, List.map R5 out4⟩]⟩ _
    refine Tr<|R2 ZD Y<|Za<|Zg<|If h Y (fun h=>?_) fun h=>?_
    ·
     refine Zf<|Zg<|Ze<|K4 3 20 21 22 Y<|Tr<|bE h fun u2 h_u2 h=>bE h fun x2 h_x2 h=>?_
     have h_x2P := ZjT hC h_x2
     exact Rq Y (ZlD (ov Y) (ov Y) XJ Y Y (Ze5 h_u).1 h_u2 h_x2P)<|Rq Y (Qc (ov Y) Y Y h_x2P tS5 Y)<|Ra Y<|Za<|K5 3 6 20 21 22 Y<|Zk<|Rm Y<|Rm Y<|R1 ZjA Y<|R_q (.sl 5<|List.map R5 ([(ZbB .u8 255 x2)] : List Int)) Y (ZbG XJ (.cons (cvs (ov Y)<|Qm Y) Y (.cons (.b Y) .nil) .nil) Y Y)<|bE h fun l2 h_l2 h=>Rx Y (QQ (ov Y) (QT (ov Y) tZ_5) XJ Y Y Y (fun _=>Zc Y) Y h_l2)<|Ra Y<|Za<|K4 3 20 21 22 Y<|Zk<|R2 ZP Y<|Rm Y<|Za<|⟨some old2, (l2, (i64 (i + 1))), hC, h, Ent.sel [some 0, some 1] (sr 3 Y (.own _ Y) <| sr 20 Y (.osl _ _ _ Y) <| sd 21 Y Y <| sd 22 Y Y <| sn) (.cons Y (roM D5) <| .cons Y (roM D5) <| .nil) Y Y⟩
    ·
     refine ZA<|?_
     replace h := lx h ▸ ho2
     exact ⟨_, h, ES [some 1]⟩
  ·
   refine Tr<|Rm Y<|Ra Y<|Za<|?_
   obtain rfl := rt h
   exact Zi (ZN Y (.one<|.tmp Y<|View.ownM Y Y D5))
theorem Zcs {s1 : List Int} {s2 : List Int} {r : Bool} (h : QP s1 s2 = some r) :
 CSpec Tryd.prog gl0 50 [.sl 5 (List.map R5 s1), .sl 5 (List.map R5 s2)] (.bool r) := by
 unfold QP at h
 replace h := Qr h
 refine So Tryd.func50 Y fun w0 A=>Tr<|Ra Y<|Za<|Zg<|K2 0 1 Y<|Tr<|Rm Y<|Rl tZ_5 XJ Y<|Rm Y<|Rl tZ_5 XJ Y<|R2 Q4 Y<|Za<|K3 0 1 10 Y<|If h Y (fun h=>?_) fun h=>?_
 ·
  refine K0<|Tr<|Ra Y<|Za<|?_
  obtain rfl := rt h
  exact Zi (ZN Y (.one<|rb Y))
 ·
  refine Zf<|J0 (fun j => (.inr j)) ⟨[], []⟩ h (fun h=>?_) fun h=>?_
  ·
   refine K2 0 1 Y<|Tr<|Rm Y<|Rl tZ_5 XJ Y<|Rm Y<|Za<|Ze<|?_
   obtain ⟨r1, hl1, ho1⟩ := QH h
   refine L1 (fun i=>⟨[(0, .sl 5 (List.map R5 s1)), (1, .sl 5 (List.map R5 s2)), (12, .int .i64 (s1.length : Int)), (13, .int .i64 i)], []⟩) hl1 (ES []) fun n1 i h=>?_
   unfold QX at h
   refine Tr<|R2 ZD Y<|Za<|Zg<|If h Y (fun h=>?_) fun h=>?_
   ·
    refine Zf<|Zg<|Ze<|K4 0 1 12 13 Y<|Tr<|Rm Y<|Ra Y<|Za<|Zg<|K5 0 1 5 12 13 Y<|Qj (cw := md0) (by kernel_rfl)<|D1 0 Zb Y<|D1 1 Zb Y<|bE h fun x h_x h=>Dq 2 Y (ZQ (ov Y) (ov Y) XJ h_x)<|Dq 3 Y (Zd (ov Y) tS5 Y)<|D1 4 Zb Y<|D1 5 Zb Y<|bE h fun x2 h_x2 h=>Dq 6 Y (ZQ (ov Y) (ov Y) XJ h_x2)<|Dq 7 Y (Zd (ov Y) tS5 Y)<|D2 8 Q4 Y<|Dd<|K5 0 1 12 13 24 Y<|If h Y (fun h=>?_) fun h=>?_
    ·
     refine K0<|Tr<|Ra Y<|Za<|?_
     replace h := lx h ▸ ho1
     obtain rfl := rt h
     exact Zi (ZN Y (.one<|rb Y))
    ·
     exact Zf<|K4 0 1 12 13 Y<|Zk<|R2 ZP Y<|Rm Y<|Za<|⟨_, h, ES []⟩
   ·
    refine ZA<|?_
    replace h := lx h ▸ ho1
    exact ⟨(), h, ES []⟩
  ·
   replace h := elr h
   replace h := t0i h
   refine Tr<|Ra Y<|Za<|?_
   obtain rfl := rt h
   exact Zi (ZN Y (.one<|rb Y))
theorem Za7 {s : List Int} {r : Int × Bool × Bool} (h : JZ s = some r) :
 CSpec Tryd.prog gl0 33 [.sl 5 (List.map R5 s)] (.tuple [.int .i64 r.1, .bool r.2.1, .bool r.2.2]) := by
 unfold JZ at h
 replace h := Qr h
 refine So Tryd.func33 Y fun w0 A=>Tr<|Ra Y<|Ra Y<|Ra Y<|Za<|Zg<|K1 0 Y<|Tr<|Rm Y<|Rl tZ_5 XJ Y<|R2 ZD Y<|Za<|K2 0 9 Y<|If h Y (fun h=>?_) fun h=>?_
 ·
  refine K0<|Tr<|Ra Y<|Ra Y<|Ra Y<|Za<|?_
  obtain rfl := rt h
  exact Zi (ZN Y (.three (rb Y) (rb Y)<|rb Y))
 ·
  refine Zf<|K1 0 Y<|Tr<|Rm Y<|bE h fun l h_l h=>Rq Y (ZgG (ov Y) XJ on (oi<|ov Y) h_l)<|bE h fun v h_v h=>Rq Y (Zje (f := C5) (ov Y) ZgV tZ_5 Y h_v)<|Ra Y<|Za<|Zg<|K1 5 Y<|Qj (cw := md0) (by kernel_rfl)<|D1 0 Zb Y<|D1 1 ZC Y<|bE h fun x h_x h=>Dq 2 Y (Xk (ov Y) (ov Y) ZgV h_x)<|Dq 3 Y (Zd (ov Y) tS5<|Qu<|Xv (o := 0) (o' := ((Int.toNat 2) * 1)) (Zt arL)<|Xt h_x)<|Dq 4 Y (Xn (ov Y) tI5 tI3 Y)<|bE h fun q h_q h=>Dq 5 Y (Zdk (ov Y) (ov Y) h_q)<|D1 6 Zb Y<|D1 7 ZC Y<|bE h fun x2 h_x2 h=>Dq 8 Y (Xk (ov Y) (ov Y) ZgV h_x2)<|Dq 9 Y (Zd (ov Y) tS5<|Qu<|Xv (o := 0) (o' := ((Int.toNat 3) * 1)) (Zt arL)<|Xt h_x2)<|Dq 10 Y (Xn (ov Y) tI5 tI3 Y)<|bE h fun q2 h_q2 h=>Dq 11 Y (Zdk (ov Y) (ov Y) h_q2)<|D2 12 Zd5 Y<|D1 13 Zb Y<|D1 14 ZC Y<|bE h fun x3 h_x3 h=>Dq 15 Y (Xk (ov Y) (ov Y) ZgV h_x3)<|Dq 16 Y (Zd (ov Y) tS5<|Qu<|Xv (o := 0) (o' := ((Int.toNat 4) * 1)) (Zt arL)<|Xt h_x3)<|Dq 17 Y (Xn (ov Y) tI5 tI3 Y)<|bE h fun q3 h_q3 h=>Dq 18 Y (Zdk (ov Y) (ov Y) h_q3)<|D2 19 Zd5 Y<|D1 20 Zb Y<|D1 21 ZC Y<|bE h fun x4 h_x4 h=>Dq 22 Y (Xk (ov Y) (ov Y) ZgV h_x4)<|Dq 23 Y (Zd (ov Y) tS5<|Qu<|Xv (o := 0) (o' := ((Int.toNat 5) * 1)) (Zt arL)<|Xt h_x4)<|Dq 24 Y (Xn (ov Y) tI5 tI3 Y)<|D2 25 Zd5 Y<|D1 26 QC Y<|Dd<|Zg<|Zg<|K2 5 6 Y<|Qj (cw := md0) (by kernel_rfl)<|D1 0 Zb Y<|bE h fun y h_y h=>Dq 1 Y (Zq (QN h_y)<|.cons (ov Y) (.b Y)<|.cons (ov Y) (.b Y)<|.cons (ov Y) (.b Y) .nil)<|D1 2 XV Y<|D1 3 Zb Y<|Dq 4 Y (.guarded ((!y) == false) Y Y Y Y fun h => Zb<|ov Y)<|Dq 5 Y (.guarded ((!y) == false) Y Y Y Y fun h => ZC<|ow Y h)<|bE h fun l2 h_l2 h=>Dq 6 Y (.guarded ((!y) == false) Y Y Y Y fun h => ZjR (f := C5) (ow Y h) ZgV tZ_5 (Zt arL) Y on (oi<|ov Y)<|gdT h_l2 h)<|Dq 7 Y (.guarded ((!y) == false) Y Y Y Y fun h => Zb<|ov Y)<|bE h fun y2 h_y2 h=>Dq 8 Y (.guarded ((!y) == false) Y Y Y Y fun h => Zq (ZdA<|gdT h_y2 h)<|.cons (ow Y h) (.b Y) .nil)<|bE h fun y3 h_y3 h=>Dq 9 Y (.guarded ((!y) == false) Y Y Y Y fun h => Zq (Zcs<|gdT h_y3 h)<|.cons (ow Y h) (.b Y)<|.cons (ow Y h) (.b Y) .nil)<|Dq 10 Y (.guarded ((!y) == false) Y Y Y Y fun h => XV<|ow Y h)<|Dq 11 Y (ZbU (ov Y) fun hp=>ow Y<|gF hp)<|Dd<|K3 5 6 50 Y<|If h Y (fun h=>?_) fun h=>?_
  ·
   refine K0<|Tr<|Ra Y<|Ra Y<|Ra Y<|Za<|?_
   obtain rfl := rt h
   exact Zi (ZN Y (.three (rb Y) (rb Y)<|rb Y))
  ·
   refine Zf<|Zg<|K2 5 6 Y<|Qj (cw := md0) (by kernel_rfl)<|D1 0 Zb Y<|D1 1 Zb Y<|D1 2 ZC Y<|bE h fun x5 h_x5 h=>Dq 3 Y (Xk (ov Y) (ov Y) ZgV h_x5)<|Dq 4 Y (Zd (ov Y) tS5<|Qu<|Xv (o := 0) (o' := ((Int.toNat 10) * 1)) (Zt arL)<|Xt h_x5)<|D2 5 Q4 Y<|D1 6 QC Y<|D1 7 QC Y<|D1 8 QC Y<|Dd<|?_
   obtain rfl := rt h
   exact Zi (ZN Y (.three (rb Y) (rb Y)<|rb Y))
theorem XC {data : List Int} {a : Int} {b : Int} {cmp : Int → Int → Option Int} {r : (List Int)} {cmp_f : FuncId} {cmp_c : List AV} (cmp_d : cmp_c.all datB = true) (cmp_h : ∀ (z0 : Int) (z1 : Int) z, cmp z0 z1 = some z → CSpec Tryd.prog gl0 cmp_f ([.int .i64 z0, .int .i64 z1] ++ cmp_c) (.int .i64 z)) (h : Zu data a b cmp = some r) :
 GSpec Tryd.prog gl0 91 [.own 0 data.length, .int .i64 a, .int .i64 b, .fn cmp_f cmp_c] [some ⟨3, List.map R3 data⟩] (.tuple []) [some ⟨3, List.map R3 r⟩] := by
 unfold Zu at h
 replace h := Qr h
 refine Qz (by kernel_rfl) Tryd.func91 Y Y<|?_
 intro w0 A W φ0
 refine Tr<|Rm Y<|R2 ZP Y<|Ra Y<|Za<|Ze<|?_
 obtain ⟨r1, hl1, ho1⟩ := QH h
 refine L2 (fun o i=>⟨[(0, .own 0 o.length), (1, .int .i64 a), (2, .int .i64 b), (3, .fn cmp_f cmp_c), (8, .int .i64 i)], [some ⟨3, List.map R3 o⟩]⟩) hl1 (ES [some 0]<|sr 0 Y (.own _ Y)<|sd 1 Y Y<|sd 2 Y Y<|sr 3 Y (rFn<|rld cmp_d)<|sd 8 Y Y sn) fun n1 o i h=>?_
 unfold Zs at h
 refine Zg<|Tr<|Rm Y<|Rm Y<|R2 ZD Y<|Za<|K6 0 1 2 3 8 14 Y<|If h Y (fun h=>?_) fun h=>?_
 ·
  refine Zf<|I1 (fun o2=>⟨[(0, .own 0 o2.length), (1, .int .i64 a), (2, .int .i64 b), (3, .fn cmp_f cmp_c), (8, .int .i64 i)], [some ⟨3, List.map R3 o2⟩]⟩) h (fun h=>?_) fun o2 h=>?_
  ·
   refine Ze<|K5 0 1 2 3 8 Y<|Tr<|Rm Y<|Ra Y<|Za<|Ze<|?_
   obtain ⟨r2, hl2, ho2⟩ := QH h
   refine L2 (fun o3 j=>⟨[(0, .own 0 o3.length), (1, .int .i64 a), (2, .int .i64 b), (3, .fn cmp_f cmp_c), (8, .int .i64 i), (9, .int .i64 j)], [some ⟨3, List.map R3 o3⟩]⟩) hl2 (ES [some 0]<|sr 0 Y (.own _ Y)<|sd 1 Y Y<|sd 2 Y Y<|sr 3 Y (rFn<|rld cmp_d)<|sd 8 Y Y<|sd 9 Y Y sn) fun n2 o3 j h=>?_
   unfold Zv at h
   refine Zg<|Zg<|Qj (cw := md0) (by kernel_rfl)<|D1 0 Zb Y<|D1 1 Zb Y<|D2 2 ZaR Y<|D1 3 Zb Y<|Dq 4 Y (.guarded ((decide (a < j)) == true) Y Y Y Y fun h => Zb<|ov Y)<|Dq 5 Y (.guarded ((decide (a < j)) == true) Y Y Y Y fun h => Zb<|ov Y)<|Dq 6 Y (.guarded ((decide (a < j)) == true) Y Y Y Y fun h => Zb<|ov Y)<|bE h fun x h_x h=>Dq 7 Y (.guarded ((decide (a < j)) == true) Y Y Y Y fun h => Qb (ow Y h) (ow Y h) Qs Y Y<|gdT h_x h)<|Dq 8 Y (.guarded ((decide (a < j)) == true) Y Y Y Y fun h => Qc (ow Y h) Y Y (gdT h_x h) tS3 Y)<|Dq 9 Y (.guarded ((decide (a < j)) == true) Y Y Y Y fun h => Zb<|ov Y)<|Dq 10 Y (.guarded ((decide (a < j)) == true) Y Y Y Y fun h => Zb<|ov Y)<|Dq 11 Y (.guarded ((decide (a < j)) == true) Y Y Y Y fun h => Zj0 (ow Y h) (ov Y) Y)<|bE h fun x2 h_x2 h=>Dq 12 Y (.guarded ((decide (a < j)) == true) Y Y Y Y fun h => Qb (ow Y h) (ow Y h) Qs Y Y<|gdT h_x2 h)<|Dq 13 Y (.guarded ((decide (a < j)) == true) Y Y Y Y fun h => Qc (ow Y h) Y Y (gdT h_x2 h) tS3 Y)<|bE h fun y h_y h=>Dq 14 Y (.guarded ((decide (a < j)) == true) Y Y Y Y fun h => Zdc (ow Y h) cmp_d (cmp_h _ _ _<|gdT h_y h)<|.cons (ow Y h) (.b Y)<|.cons (ow Y h) (.b Y) .nil)<|Dq 15 Y (.guarded ((decide (a < j)) == true) Y Y Y Y fun h => ZD (ow Y h)<|ov Y)<|Dq 16 Y (Zcp (ov Y) fun hp=>ow Y<|gT hp)<|Dd<|K7 0 1 2 3 8 9 34 Y<|If h Y (fun h=>?_) fun h=>?_
   ·
    exact Zf<|Zg<|Ze<|K6 0 1 2 3 8 9 Y<|Qj (cw := md0) (by kernel_rfl)<|D1 0 Zb Y<|D1 1 Zb Y<|D1 5 Zb Y<|D1 6 Zb Y<|D2 7 ZaV Y<|bE h fun x3 h_x3 h=>Dq 8 Y (Qb (ov Y) (ov Y) Qs Y Y h_x3)<|Dq 9 Y (Qc (ov Y) Y Y h_x3 tS3 Y)<|D1 10 Zb Y<|D1 11 Zb Y<|bE h fun x4 h_x4 h=>Dq 12 Y (Qb (ov Y) (ov Y) Qs Y Y h_x4)<|Dq 13 Y (Qc (ov Y) Y Y h_x4 tS3 Y)<|bE h fun x5 h_x5 h=>Dq 14 Y (Qb (ov Y) (ov Y) Qs Y Y h_x5)<|Z0 2 _ Y (by kernel_rfl) Y Y (fun hp'=>Zb<|ov Y)<|Z0 3 _ Y (by kernel_rfl) Y Y (fun hp'=>Zb<|ov Y)<|Z0 4 _ Y (by kernel_rfl) Y Y (fun hp'=>Zj0 (ov Y) (ov Y) Y)<|Do 15 Y (Xl (u' := x3) (ov Y) (ov Y) (Zl tS3) Y Y h_x5 Y (Zc Y) Y)<|bE h fun x6 h_x6 h=>Dq 16 Y (Qb (ov Y) (ov Y) Qs Y ((List.length_set ..).trans Y) h_x6)<|Do 17 Y (Xl (u' := x4) (ov Y) (ov Y) (Zl tS3) Y ((List.length_set ..).trans Y) h_x6 Y (Zc Y) Y)<|Dd<|K6 0 1 2 3 8 9 Y<|Zk<|Rm Y<|R2 ZaV Y<|Ra Y<|Za<|⟨_, h, ES [some 0]<|sr 0 Y (ZcN (Eq.symm<|(List.length_set ..).trans<|(List.length_set ..).trans Y) Y)<|sd 1 Y Y<|sd 2 Y Y<|sr 3 Y (rFn<|rld cmp_d)<|sd 8 Y Y<|sd 9 Y Y sn⟩
   ·
    refine ZA<|?_
    replace h := lx h ▸ ho2
    exact ⟨_, h, ES [some 0]<|sr 0 Y (.own _ Y)<|sd 1 Y Y<|sd 2 Y Y<|sr 3 Y (rFn<|rld cmp_d)<|sd 8 Y Y sn⟩
  ·
   exact Zk<|Rm Y<|R2 ZP Y<|Ra Y<|Za<|⟨_, h, ES [some 0]<|sr 0 Y (.own _ Y)<|sd 1 Y Y<|sd 2 Y Y<|sr 3 Y (rFn<|rld cmp_d)<|sd 8 Y Y sn⟩
 ·
  refine ZA<|?_
  replace h := lx h ▸ ho1
  obtain rfl := rt h
  exact Zds [some 0] Y .nil (.cons Y (roM D3) .nil) Y Y<|QV rln
theorem Q2 {data : List Int} {a : Int} {b : Int} {n : Int} {cmp : Int → Int → Option Int} {r : (List Int)} {cmp_f : FuncId} {cmp_c : List AV} (cmp_d : cmp_c.all datB = true) (cmp_h : ∀ (z0 : Int) (z1 : Int) z, cmp z0 z1 = some z → CSpec Tryd.prog gl0 cmp_f ([.int .i64 z0, .int .i64 z1] ++ cmp_c) (.int .i64 z)) (h : Zw data a b n cmp = some r) :
 GSpec Tryd.prog gl0 95 [.own 0 data.length, .int .i64 a, .int .i64 b, .int .i64 n, .fn cmp_f cmp_c] [some ⟨3, List.map R3 data⟩] (.tuple []) [some ⟨3, List.map R3 r⟩] := by
 unfold Zw at h
 replace h := Qr h
 refine Qz (by kernel_rfl) Tryd.func95 Y Y<|?_
 intro w0 A W φ0
 refine K4 0 1 2 3 Y<|Tr<|Ra Y<|Za<|Ze<|?_
 obtain ⟨r1, hl1, ho1⟩ := QH h
 refine L2 (fun o i=>⟨[(0, .own 0 o.length), (1, .int .i64 a), (2, .int .i64 b), (3, .int .i64 n), (10, .int .i64 i)], [some ⟨3, List.map R3 o⟩]⟩) hl1 (ES [some 0]) fun n1 o i h=>?_
 unfold ZK at h
 refine Zg<|Tr<|Rm Y<|Rm Y<|R2 ZD Y<|Za<|K6 0 1 2 3 10 13 Y<|If h Y (fun h=>?_) fun h=>?_
 ·
  exact Zf<|Zg<|Ze<|K5 0 1 2 3 10 Y<|Qj (cw := md0) (by kernel_rfl)<|D1 0 Zb Y<|D1 1 Zb Y<|D1 2 Zb Y<|D2 3 ZP Y<|D1 8 Zb Y<|D1 9 Zb Y<|D1 10 Zb Y<|D2 11 ZP Y<|bE h fun x h_x h=>Dq 12 Y (Qb (ov Y) (ov Y) Qs Y Y h_x)<|Dq 13 Y (Qc (ov Y) Y Y h_x tS3 Y)<|D1 14 Zb Y<|D1 15 Zb Y<|D1 16 Zb Y<|D2 17 ZP Y<|bE h fun x2 h_x2 h=>Dq 18 Y (Qb (ov Y) (ov Y) Qs Y Y h_x2)<|Dq 19 Y (Qc (ov Y) Y Y h_x2 tS3 Y)<|bE h fun x3 h_x3 h=>Dq 20 Y (Qb (ov Y) (ov Y) Qs Y Y h_x3)<|Z0 4 _ Y (by kernel_rfl) Y Y (fun hp'=>Zb<|ov Y)<|Z0 5 _ Y (by kernel_rfl) Y Y (fun hp'=>Zb<|ov Y)<|Z0 6 _ Y (by kernel_rfl) Y Y (fun hp'=>Zb<|ov Y)<|Z0 7 _ Y (by kernel_rfl) Y Y (fun hp'=>Zhw (ov Y) (ov Y) Y)<|Do 21 Y (Xl (u' := x) (ov Y) (ov Y) (Zl tS3) Y Y h_x3 Y (Zc Y) Y)<|bE h fun x4 h_x4 h=>Dq 22 Y (Qb (ov Y) (ov Y) Qs Y ((List.length_set ..).trans Y) h_x4)<|Do 23 Y (Xl (u' := x2) (ov Y) (ov Y) (Zl tS3) Y ((List.length_set ..).trans Y) h_x4 Y (Zc Y) Y)<|Dd<|K5 0 1 2 3 10 Y<|Zk<|Rm Y<|R2 ZP Y<|Ra Y<|Za<|⟨_, h, ES [some 0]<|sr 0 Y (ZcN (Eq.symm<|(List.length_set ..).trans<|(List.length_set ..).trans Y) Y)<|sd 1 Y Y<|sd 2 Y Y<|sd 3 Y Y<|sd 10 Y Y sn⟩
 ·
  refine ZA<|?_
  replace h := lx h ▸ ho1
  obtain rfl := rt h
  exact Zds [some 0] Y .nil (.cons Y (roM D3) .nil) Y Y<|QV rln
theorem ZbY {data : List Int} {a : Int} {m : Int} {b : Int} {cmp : Int → Int → Option Int} {r : (List Int)} {cmp_f : FuncId} {cmp_c : List AV} (cmp_d : cmp_c.all datB = true) (cmp_h : ∀ (z0 : Int) (z1 : Int) z, cmp z0 z1 = some z → CSpec Tryd.prog gl0 cmp_f ([.int .i64 z0, .int .i64 z1] ++ cmp_c) (.int .i64 z)) (h : ZU data a m b cmp = some r) :
 GSpec Tryd.prog gl0 94 [.own 0 data.length, .int .i64 a, .int .i64 m, .int .i64 b, .fn cmp_f cmp_c] [some ⟨3, List.map R3 data⟩] (.tuple []) [some ⟨3, List.map R3 r⟩] := by
 unfold ZU at h
 replace h := Qr h
 refine Qz (by kernel_rfl) Tryd.func94 Y Y<|?_
 intro w0 A W φ0
 refine Tr<|Rm Y<|Rm Y<|R2 ZaV Y<|Ra Y<|Za<|K5 0 2 3 4 10 Y<|Tr<|Rm Y<|Rm Y<|R2 ZaV Y<|Ra Y<|Za<|I2 (fun o i=>⟨[(0, .own 0 o.length), (2, .int .i64 m), (4, .fn cmp_f cmp_c), (10, .int .i64 i)], [some ⟨3, List.map R3 o⟩]⟩) h (fun h=>?_) fun o i h=>?_
 ·
  refine Ze<|?_
  obtain ⟨r1, hl1, ho1⟩ := QH h
  refine L3 (fun o2 i2 j=>⟨[(0, .own 0 o2.length), (2, .int .i64 m), (4, .fn cmp_f cmp_c), (10, .int .i64 i2), (11, .int .i64 j)], [some ⟨3, List.map R3 o2⟩]⟩) hl1 (ES [some 0]<|sr 0 Y (.own _ Y)<|sd 2 Y Y<|sr 4 Y (rFn<|rld cmp_d)<|sd 10 Y Y<|sd 11 Y Y sn) fun n1 o2 i2 j h=>?_
  unfold ZT at h
  refine Zg<|Tr<|Rm Y<|Rm Y<|R2 Q4 Y<|Za<|K6 0 2 4 10 11 20 Y<|If h Y (fun h=>?_) fun h=>?_
  ·
   refine Zf<|Ze<|K5 0 2 4 10 11 Y<|Tr<|Rm Y<|Rm Y<|R2 ZaR Y<|Za<|K6 0 2 4 10 11 23 Y<|If h Y (fun h=>?_) fun h=>?_
   ·
    exact K5 0 2 4 10 11 Y<|Tr<|Rm Y<|Rm Y<|Rm Y<|R2 ZaV Y<|Rm Y<|Rm Y<|Rm Y<|bE h fun y h_y h=>Rx Y (ZY [0] (Q2 cmp_d cmp_h h_y) (.cons (ov Y) (.own _ Y)<|.cons (ov Y) (.dat Y)<|.cons (ov Y) (.dat Y)<|.cons (ov Y) (.dat Y)<|.cons (ov Y) (rFn<|rld cmp_d) .nil) (.cons Y (roM D3) .nil) Y (.lent 0 (.inl Y) Y (roM D3) .nil) Y Y<|QV<|rld Y)<|Za<|K5 0 2 4 10 11 Y<|Zk<|Rm Y<|Rm Y<|R2 ZaV Y<|Ra Y<|Za<|⟨_, h, ES [some 0]<|sr 0 Y (ZcN (Eq.symm<|Z3 h_y) Y)<|sd 2 Y Y<|sr 4 Y (rFn<|rld cmp_d)<|sd 10 Y Y<|sd 11 Y Y sn⟩
   ·
    exact K5 0 2 4 10 11 Y<|Tr<|Rm Y<|Rm Y<|Rm Y<|R2 ZaV Y<|Rm Y<|Rm Y<|R2 ZP Y<|Rm Y<|R2 ZaV Y<|Rm Y<|Rm Y<|bE h fun y2 h_y2 h=>Rx Y (ZY [0] (Q2 cmp_d cmp_h h_y2) (.cons (ov Y) (.own _ Y)<|.cons (ov Y) (.dat Y)<|.cons (ov Y) (.dat Y)<|.cons (ov Y) (.dat Y)<|.cons (ov Y) (rFn<|rld cmp_d) .nil) (.cons Y (roM D3) .nil) Y (.lent 0 (.inl Y) Y (roM D3) .nil) Y Y<|QV<|rld Y)<|Za<|K5 0 2 4 10 11 Y<|Zk<|Rm Y<|Rm Y<|R2 ZaV Y<|Ra Y<|Za<|⟨_, h, ES [some 0]<|sr 0 Y (ZcN (Eq.symm<|Z3 h_y2) Y)<|sd 2 Y Y<|sr 4 Y (rFn<|rld cmp_d)<|sd 10 Y Y<|sd 11 Y Y sn⟩
  ·
   refine ZA<|?_
   replace h := lx h ▸ ho1
   exact ⟨_, h, ES [some 0]<|sr 0 Y (.own _ Y)<|sd 2 Y Y<|sr 4 Y (rFn<|rld cmp_d)<|sd 10 Y Y sn⟩
 ·
  refine Zk<|Rm Y<|Rm Y<|Rm Y<|R2 ZaV Y<|Rm Y<|Rm Y<|Rm Y<|bE h fun y3 h_y3 h=>Rx Y (ZY [0] (Q2 cmp_d cmp_h h_y3) (.cons (ov Y) (.own _ Y)<|.cons (ov Y) (.dat Y)<|.cons (ov Y) (.dat Y)<|.cons (ov Y) (.dat Y)<|.cons (ov Y) (rFn<|rld cmp_d) .nil) (.cons Y (roM D3) .nil) Y (.lent 0 (.inl Y) Y (roM D3) .nil) Y Y<|QV<|rld Y)<|Za<|?_
  obtain rfl := rt h
  exact Zds [some 0] Y .nil (.cons Y (roM D3) .nil) Y Y<|QV rln
theorem Zbj {rec_ : List Int → Int → Int → Int → (Int → Int → Option Int) → Option (List Int)} {data : List Int} {a : Int} {m : Int} {b : Int} {cmp : Int → Int → Option Int} {r : (List Int)} {cmp_f : FuncId} {cmp_c : List AV} (cmp_d : cmp_c.all datB = true) (cmp_h : ∀ (z0 : Int) (z1 : Int) z, cmp z0 z1 = some z → CSpec Tryd.prog gl0 cmp_f ([.int .i64 z0, .int .i64 z1] ++ cmp_c) (.int .i64 z)) (ln_rec_ : ∀ {data : List Int} {a : Int} {m : Int} {b : Int} {cmp : Int → Int → Option Int} {r : (List Int)}, rec_ data a m b cmp = some r → r.length = data.length) (hrec : ∀ {data : List Int} {a : Int} {m : Int} {b : Int} {cmp : Int → Int → Option Int} {r : (List Int)} {cmp_f : FuncId} {cmp_c : List AV} (cmp_d : cmp_c.all datB = true) (cmp_h : ∀ (z0 : Int) (z1 : Int) z, cmp z0 z1 = some z → CSpec Tryd.prog gl0 cmp_f ([.int .i64 z0, .int .i64 z1] ++ cmp_c) (.int .i64 z)) (h : rec_ data a m b cmp = some r), GSpec Tryd.prog gl0 92 [.own 0 data.length, .int .i64 a, .int .i64 m, .int .i64 b, .fn cmp_f cmp_c] [some ⟨3, List.map R3 data⟩] (.tuple []) [some ⟨3, List.map R3 r⟩]) (h : ZS rec_ data a m b cmp = some r) :
 GSpec Tryd.prog gl0 92 [.own 0 data.length, .int .i64 a, .int .i64 m, .int .i64 b, .fn cmp_f cmp_c] [some ⟨3, List.map R3 data⟩] (.tuple []) [some ⟨3, List.map R3 r⟩] := by
 unfold ZS at h
 replace h := Qr h
 refine Qz (by kernel_rfl) Tryd.func92 Y Y<|?_
 intro w0 A W φ0
 refine Zg<|Tr<|Rm Y<|Rm Y<|R2 ZaV Y<|R2 Zbk Y<|Za<|K6 0 1 2 3 4 28 Y<|If h Y (fun h=>?_) fun h=>?_
 ·
  refine K5 0 1 2 3 4 Y<|Tr<|Rm Y<|Ra Y<|Za<|K5 0 1 3 4 10 Y<|Tr<|Rm Y<|Ra Y<|Za<|I1 (fun i=>⟨[(0, .own 0 data.length), (1, .int .i64 a), (10, .int .i64 i)], [some ⟨3, List.map R3 data⟩]⟩) h (fun h=>?_) fun i h=>?_
  ·
   refine Ze<|?_
   obtain ⟨r1, hl1, ho1⟩ := QH h
   refine L2 (fun i2 j=>⟨[(0, .own 0 data.length), (1, .int .i64 a), (4, .fn cmp_f cmp_c), (10, .int .i64 i2), (11, .int .i64 j)], [some ⟨3, List.map R3 data⟩]⟩) hl1 (ES [some 0]<|sr 0 Y (.own _ Y)<|sd 1 Y Y<|sr 4 Y (rFn<|rld cmp_d)<|sd 10 Y Y<|sd 11 Y Y sn) fun n1 i2 j h=>?_
   unfold ZX at h
   refine Zg<|Tr<|Rm Y<|Rm Y<|R2 ZD Y<|Za<|K6 0 1 4 10 11 33 Y<|If h Y (fun h=>?_) fun h=>?_
   ·
    refine Zf<|Ze<|K5 0 1 4 10 11 Y<|Tr<|Rm Y<|Rm Y<|R2 ZP Y<|Rq Y (Xn (ov Y) tI3 ZiA Y)<|bE h fun q h_q h=>Rq Y (ZbM (ov Y) (ov Y) h_q)<|Rq Y (Xn (ov Y) ZiA tI3 Y)<|Ra Y<|Za<|Zg<|K6 0 1 4 10 11 12 Y<|Qj (cw := md0) (by kernel_rfl)<|D1 0 Zb Y<|D1 1 Zb Y<|D1 2 Zb Y<|bE h fun x h_x h=>Dq 3 Y (Qb (ov Y) (ov Y) Qs Y Y h_x)<|Dq 4 Y (Qc (ov Y) Y Y h_x tS3 Y)<|D1 5 Zb Y<|D1 6 Zb Y<|bE h fun x2 h_x2 h=>Dq 7 Y (Qb (ov Y) (ov Y) Qs Y Y h_x2)<|Dq 8 Y (Qc (ov Y) Y Y h_x2 tS3 Y)<|bE h fun y h_y h=>Dq 9 Y (Zdc (ov Y) cmp_d (cmp_h _ _ _ h_y)<|.cons (ov Y) (.b Y)<|.cons (ov Y) (.b Y) .nil)<|D2 10 ZD Y<|Dd<|K7 0 1 4 10 11 12 50 Y<|If h Y (fun h=>?_) fun h=>?_
    ·
     exact K6 0 1 4 10 11 12 Y<|Zk<|Rm Y<|R2 ZP Y<|Ra Y<|Za<|⟨_, h, ES [some 0]<|sr 0 Y (.own _ Y)<|sd 1 Y Y<|sr 4 Y (rFn<|rld cmp_d)<|sd 10 Y Y<|sd 11 Y Y sn⟩
    ·
     exact K6 0 1 4 10 11 12 Y<|Zk<|Rm Y<|Ra Y<|Za<|⟨_, h, ES [some 0]<|sr 0 Y (.own _ Y)<|sd 1 Y Y<|sr 4 Y (rFn<|rld cmp_d)<|sd 10 Y Y<|sd 11 Y Y sn⟩
   ·
    refine ZA<|?_
    replace h := lx h ▸ ho1
    exact ⟨_, h, ES [some 0]⟩
  ·
   refine I1 (fun o=>⟨[], [some ⟨3, List.map R3 o⟩]⟩) h (fun h=>?_) fun o h=>?_
   ·
    refine Tr<|Rm Y<|Ra Y<|Za<|Ze<|?_
    obtain ⟨r2, hl2, ho2⟩ := QH h
    refine L2 (fun o2 k=>⟨[(0, .own 0 o2.length), (10, .int .i64 i), (13, .int .i64 k)], [some ⟨3, List.map R3 o2⟩]⟩) hl2 (ES [some 0]) fun n2 o2 k h=>?_
    unfold Zx at h
    refine Zg<|Tr<|Rm Y<|Rm Y<|R2 ZaV Y<|R2 ZD Y<|Za<|K4 0 10 13 58 Y<|If h Y (fun h=>?_) fun h=>?_
    ·
     exact Zf<|Zg<|Ze<|K3 0 10 13 Y<|Qj (cw := md0) (by kernel_rfl)<|D1 0 Zb Y<|D1 1 Zb Y<|D1 5 Zb Y<|D1 6 Zb Y<|D2 7 ZP Y<|bE h fun x3 h_x3 h=>Dq 8 Y (Qb (ov Y) (ov Y) Qs Y Y h_x3)<|Dq 9 Y (Qc (ov Y) Y Y h_x3 tS3 Y)<|D1 10 Zb Y<|D1 11 Zb Y<|bE h fun x4 h_x4 h=>Dq 12 Y (Qb (ov Y) (ov Y) Qs Y Y h_x4)<|Dq 13 Y (Qc (ov Y) Y Y h_x4 tS3 Y)<|bE h fun x5 h_x5 h=>Dq 14 Y (Qb (ov Y) (ov Y) Qs Y Y h_x5)<|Z0 2 _ Y (by kernel_rfl) Y Y (fun hp'=>Zb<|ov Y)<|Z0 3 _ Y (by kernel_rfl) Y Y (fun hp'=>Zb<|ov Y)<|Z0 4 _ Y (by kernel_rfl) Y Y (fun hp'=>Zhw (ov Y) (ov Y) Y)<|Do 15 Y (Xl (u' := x3) (ov Y) (ov Y) (Zl tS3) Y Y h_x5 Y (Zc Y) Y)<|bE h fun x6 h_x6 h=>Dq 16 Y (Qb (ov Y) (ov Y) Qs Y ((List.length_set ..).trans Y) h_x6)<|Do 17 Y (Xl (u' := x4) (ov Y) (ov Y) (Zl tS3) Y ((List.length_set ..).trans Y) h_x6 Y (Zc Y) Y)<|Dd<|K3 0 10 13 Y<|Zk<|Rm Y<|R2 ZP Y<|Ra Y<|Za<|⟨_, h, ES [some 0]<|sr 0 Y (ZcN (Eq.symm<|(List.length_set ..).trans<|(List.length_set ..).trans Y) Y)<|sd 10 Y Y<|sd 13 Y Y sn⟩
    ·
     refine ZA<|?_
     replace h := lx h ▸ ho2
     exact ⟨_, h, ES [some 0]⟩
   ·
    obtain rfl := rt h
    exact Zi<|ZaU [some 0] Y .nil (.cons Y (roM D3) .nil) Y Y<|QV rln
 ·
  refine Zf<|Zg<|K5 0 1 2 3 4 Y<|Tr<|Rm Y<|Rm Y<|R2 ZaV Y<|R2 Zbk Y<|Za<|K6 0 1 2 3 4 80 Y<|If h Y (fun h=>?_) fun h=>?_
  ·
   refine K4 0 1 2 4 Y<|Tr<|Rm Y<|Ra Y<|Za<|K4 0 2 4 14 Y<|Tr<|Rm Y<|Ra Y<|Za<|I1 (fun i3=>⟨[(0, .own 0 data.length), (2, .int .i64 m), (14, .int .i64 i3)], [some ⟨3, List.map R3 data⟩]⟩) h (fun h=>?_) fun i3 h=>?_
   ·
    refine Ze<|?_
    obtain ⟨r3, hl3, ho3⟩ := QH h
    refine L2 (fun i4 j2=>⟨[(0, .own 0 data.length), (2, .int .i64 m), (4, .fn cmp_f cmp_c), (14, .int .i64 i4), (15, .int .i64 j2)], [some ⟨3, List.map R3 data⟩]⟩) hl3 (ES [some 0]<|sr 0 Y (.own _ Y)<|sd 2 Y Y<|sr 4 Y (rFn<|rld cmp_d)<|sd 14 Y Y<|sd 15 Y Y sn) fun n3 i4 j2 h=>?_
    unfold ZW at h
    refine Zg<|Tr<|Rm Y<|Rm Y<|R2 ZD Y<|Za<|K6 0 2 4 14 15 85 Y<|If h Y (fun h=>?_) fun h=>?_
    ·
     refine Zf<|Ze<|K5 0 2 4 14 15 Y<|Tr<|Rm Y<|Rm Y<|R2 ZP Y<|Rq Y (Xn (ov Y) tI3 ZiA Y)<|bE h fun q2 h_q2 h=>Rq Y (ZbM (ov Y) (ov Y) h_q2)<|Rq Y (Xn (ov Y) ZiA tI3 Y)<|Ra Y<|Za<|Zg<|K6 0 2 4 14 15 16 Y<|Qj (cw := md0) (by kernel_rfl)<|D1 0 Zb Y<|D1 1 Zb Y<|D1 2 Zb Y<|bE h fun x7 h_x7 h=>Dq 3 Y (Qb (ov Y) (ov Y) Qs Y Y h_x7)<|Dq 4 Y (Qc (ov Y) Y Y h_x7 tS3 Y)<|D1 5 Zb Y<|D1 6 Zb Y<|bE h fun x8 h_x8 h=>Dq 7 Y (Qb (ov Y) (ov Y) Qs Y Y h_x8)<|Dq 8 Y (Qc (ov Y) Y Y h_x8 tS3 Y)<|bE h fun y2 h_y2 h=>Dq 9 Y (Zdc (ov Y) cmp_d (cmp_h _ _ _ h_y2)<|.cons (ov Y) (.b Y)<|.cons (ov Y) (.b Y) .nil)<|D2 10 ZD Y<|D1 11 XV Y<|Dd<|K7 0 2 4 14 15 16 103 Y<|If h Y (fun h=>?_) fun h=>?_
     ·
      exact K6 0 2 4 14 15 16 Y<|Zk<|Rm Y<|R2 ZP Y<|Ra Y<|Za<|⟨_, h, ES [some 0]<|sr 0 Y (.own _ Y)<|sd 2 Y Y<|sr 4 Y (rFn<|rld cmp_d)<|sd 14 Y Y<|sd 15 Y Y sn⟩
     ·
      exact K6 0 2 4 14 15 16 Y<|Zk<|Rm Y<|Ra Y<|Za<|⟨_, h, ES [some 0]<|sr 0 Y (.own _ Y)<|sd 2 Y Y<|sr 4 Y (rFn<|rld cmp_d)<|sd 14 Y Y<|sd 15 Y Y sn⟩
    ·
     refine ZA<|?_
     replace h := lx h ▸ ho3
     exact ⟨_, h, ES [some 0]⟩
   ·
    refine I1 (fun o3=>⟨[], [some ⟨3, List.map R3 o3⟩]⟩) h (fun h=>?_) fun o3 h=>?_
    ·
     refine Tr<|Rm Y<|Ra Y<|Za<|Ze<|?_
     obtain ⟨r4, hl4, ho4⟩ := QH h
     refine L2 (fun o4 k2=>⟨[(0, .own 0 o4.length), (14, .int .i64 i3), (17, .int .i64 k2)], [some ⟨3, List.map R3 o4⟩]⟩) hl4 (ES [some 0]) fun n4 o4 k2 h=>?_
     unfold Zz at h
     refine Zg<|Tr<|Rm Y<|Rm Y<|R2 ZaR Y<|Za<|K4 0 14 17 110 Y<|If h Y (fun h=>?_) fun h=>?_
     ·
      exact Zf<|Zg<|Ze<|K3 0 14 17 Y<|Qj (cw := md0) (by kernel_rfl)<|D1 0 Zb Y<|D1 1 Zb Y<|D1 5 Zb Y<|D1 6 Zb Y<|D2 7 ZaV Y<|bE h fun x9 h_x9 h=>Dq 8 Y (Qb (ov Y) (ov Y) Qs Y Y h_x9)<|Dq 9 Y (Qc (ov Y) Y Y h_x9 tS3 Y)<|D1 10 Zb Y<|D1 11 Zb Y<|bE h fun x10 h_x10 h=>Dq 12 Y (Qb (ov Y) (ov Y) Qs Y Y h_x10)<|Dq 13 Y (Qc (ov Y) Y Y h_x10 tS3 Y)<|bE h fun x11 h_x11 h=>Dq 14 Y (Qb (ov Y) (ov Y) Qs Y Y h_x11)<|Z0 2 _ Y (by kernel_rfl) Y Y (fun hp'=>Zb<|ov Y)<|Z0 3 _ Y (by kernel_rfl) Y Y (fun hp'=>Zb<|ov Y)<|Z0 4 _ Y (by kernel_rfl) Y Y (fun hp'=>Zj0 (ov Y) (ov Y) Y)<|Do 15 Y (Xl (u' := x9) (ov Y) (ov Y) (Zl tS3) Y Y h_x11 Y (Zc Y) Y)<|bE h fun x12 h_x12 h=>Dq 16 Y (Qb (ov Y) (ov Y) Qs Y ((List.length_set ..).trans Y) h_x12)<|Do 17 Y (Xl (u' := x10) (ov Y) (ov Y) (Zl tS3) Y ((List.length_set ..).trans Y) h_x12 Y (Zc Y) Y)<|Dd<|K3 0 14 17 Y<|Zk<|Rm Y<|R2 ZaV Y<|Ra Y<|Za<|⟨_, h, ES [some 0]<|sr 0 Y (ZcN (Eq.symm<|(List.length_set ..).trans<|(List.length_set ..).trans Y) Y)<|sd 14 Y Y<|sd 17 Y Y sn⟩
     ·
      refine ZA<|?_
      replace h := lx h ▸ ho4
      exact ⟨_, h, ES [some 0]⟩
    ·
     obtain rfl := rt h
     exact Zi<|ZaU [some 0] Y .nil (.cons Y (roM D3) .nil) Y Y<|QV rln
  ·
   refine Zf<|K5 0 1 2 3 4 Y<|Tr<|Rm Y<|Rm Y<|R2 ZP Y<|Rq Y (Xn (ov Y) tI3 ZiA Y)<|bE h fun q3 h_q3 h=>Rq Y (ZbM (ov Y) (ov Y) h_q3)<|Rq Y (Xn (ov Y) ZiA tI3 Y)<|Ra Y<|Za<|K6 0 1 2 3 4 18 Y<|Tr<|Rm Y<|Rm Y<|R2 ZP Y<|Ra Y<|Za<|K7 0 1 2 3 4 18 19 Y<|Tr<|Ra Y<|Ra Y<|Za<|I2 (fun start r_=>⟨[(0, .own 0 data.length), (1, .int .i64 a), (2, .int .i64 m), (3, .int .i64 b), (4, .fn cmp_f cmp_c), (18, .int .i64 (i64 q3)), (19, .int .i64 (i64 ((i64 q3) + m))), (20, .int .i64 start), (21, .int .i64 r_)], [some ⟨3, List.map R3 data⟩]⟩) h (fun h=>?_) fun start r_ h=>?_
   ·
    refine K7 0 1 2 3 4 18 19 Y<|Tr<|Rm Y<|Rm Y<|R2 ZaR Y<|Za<|K8 0 1 2 3 4 18 19 140 Y<|If h Y (fun h=>?_) fun h=>?_
    ·
     exact K7 0 1 2 3 4 18 19 Y<|Tr<|Rm Y<|Rm Y<|R2 ZaV Y<|Ra Y<|Za<|K8 0 1 2 3 4 18 19 20 Y<|Zk<|Rm Y<|Ra Y<|Za<|⟨_, h, ES [some 0]<|sr 0 Y (.own _ Y)<|sd 1 Y Y<|sd 2 Y Y<|sd 3 Y Y<|sr 4 Y (rFn<|rld cmp_d)<|sd 18 Y Y<|sd 19 Y Y<|sd 20 Y Y<|sd 21 Y Y sn⟩
    ·
     exact K7 0 1 2 3 4 18 19 Y<|Tr<|Rm Y<|Ra Y<|Za<|K8 0 1 2 3 4 18 19 20 Y<|Zk<|Rm Y<|Ra Y<|Za<|⟨_, h, ES [some 0]<|sr 0 Y (.own _ Y)<|sd 1 Y Y<|sd 2 Y Y<|sd 3 Y Y<|sr 4 Y (rFn<|rld cmp_d)<|sd 18 Y Y<|sd 19 Y Y<|sd 20 Y Y<|sd 21 Y Y sn⟩
   ·
    refine Tr<|Rm Y<|R2 ZaV Y<|Ra Y<|Za<|I1 (fun start2=>⟨[(0, .own 0 data.length), (1, .int .i64 a), (2, .int .i64 m), (3, .int .i64 b), (4, .fn cmp_f cmp_c), (18, .int .i64 (i64 q3)), (19, .int .i64 (i64 ((i64 q3) + m))), (20, .int .i64 start2)], [some ⟨3, List.map R3 data⟩]⟩) h (fun h=>?_) fun start2 h=>?_
    ·
     refine Ze<|?_
     obtain ⟨r5, hl5, ho5⟩ := QH h
     refine L2 (fun start3 r_2=>⟨[(0, .own 0 data.length), (1, .int .i64 a), (2, .int .i64 m), (3, .int .i64 b), (4, .fn cmp_f cmp_c), (18, .int .i64 (i64 q3)), (19, .int .i64 (i64 ((i64 q3) + m))), (20, .int .i64 start3), (21, .int .i64 r_2), (22, .int .i64 (i64 ((i64 ((i64 q3) + m)) - 1)))], [some ⟨3, List.map R3 data⟩]⟩) hl5 (ES [some 0]<|sr 0 Y (.own _ Y)<|sd 1 Y Y<|sd 2 Y Y<|sd 3 Y Y<|sr 4 Y (rFn<|rld cmp_d)<|sd 18 Y Y<|sd 19 Y Y<|sd 20 Y Y<|sd 21 Y Y<|sd 22 Y Y sn) fun n5 start3 r_2 h=>?_
     unfold Z5 at h
     refine Zg<|Tr<|Rm Y<|Rm Y<|R2 ZD Y<|Za<|K11 0 1 2 3 4 18 19 20 21 22 151 Y<|If h Y (fun h=>?_) fun h=>?_
     ·
      refine Zf<|Ze<|K10 0 1 2 3 4 18 19 20 21 22 Y<|Tr<|Rm Y<|Rm Y<|R2 ZP Y<|Rq Y (Xn (ov Y) tI3 ZiA Y)<|bE h fun q4 h_q4 h=>Rq Y (ZbM (ov Y) (ov Y) h_q4)<|Rq Y (Xn (ov Y) ZiA tI3 Y)<|Ra Y<|Za<|Zg<|K11 0 1 2 3 4 18 19 20 21 22 23 Y<|Qj (cw := md0) (by kernel_rfl)<|D1 0 Zb Y<|D1 1 Zb Y<|D1 2 Zb Y<|D1 3 Zb Y<|D2 4 ZaV Y<|bE h fun x13 h_x13 h=>Dq 5 Y (Qb (ov Y) (ov Y) Qs Y Y h_x13)<|Dq 6 Y (Qc (ov Y) Y Y h_x13 tS3 Y)<|D1 7 Zb Y<|D1 8 Zb Y<|bE h fun x14 h_x14 h=>Dq 9 Y (Qb (ov Y) (ov Y) Qs Y Y h_x14)<|Dq 10 Y (Qc (ov Y) Y Y h_x14 tS3 Y)<|bE h fun y3 h_y3 h=>Dq 11 Y (Zdc (ov Y) cmp_d (cmp_h _ _ _ h_y3)<|.cons (ov Y) (.b Y)<|.cons (ov Y) (.b Y) .nil)<|D2 12 ZD Y<|D1 13 XV Y<|Dd<|K12 0 1 2 3 4 18 19 20 21 22 23 171 Y<|If h Y (fun h=>?_) fun h=>?_
      ·
       exact K11 0 1 2 3 4 18 19 20 21 22 23 Y<|Zk<|Rm Y<|R2 ZP Y<|Ra Y<|Za<|⟨_, h, ES [some 0]<|sr 0 Y (.own _ Y)<|sd 1 Y Y<|sd 2 Y Y<|sd 3 Y Y<|sr 4 Y (rFn<|rld cmp_d)<|sd 18 Y Y<|sd 19 Y Y<|sd 20 Y Y<|sd 21 Y Y<|sd 22 Y Y sn⟩
      ·
       exact K11 0 1 2 3 4 18 19 20 21 22 23 Y<|Zk<|Rm Y<|Ra Y<|Za<|⟨_, h, ES [some 0]<|sr 0 Y (.own _ Y)<|sd 1 Y Y<|sd 2 Y Y<|sd 3 Y Y<|sr 4 Y (rFn<|rld cmp_d)<|sd 18 Y Y<|sd 19 Y Y<|sd 20 Y Y<|sd 21 Y Y<|sd 22 Y Y sn⟩
     ·
      refine ZA<|?_
      replace h := lx h ▸ ho5
      exact ⟨_, h, ES [some 0]<|sr 0 Y (.own _ Y)<|sd 1 Y Y<|sd 2 Y Y<|sd 3 Y Y<|sr 4 Y (rFn<|rld cmp_d)<|sd 18 Y Y<|sd 19 Y Y<|sd 20 Y Y sn⟩
    ·
     refine Tr<|Rm Y<|Rm Y<|R2 ZaV Y<|Ra Y<|Za<|I1 (fun o5=>⟨[(0, .own 0 o5.length), (1, .int .i64 a), (3, .int .i64 b), (4, .fn cmp_f cmp_c), (18, .int .i64 (i64 q3)), (20, .int .i64 start2), (24, .int .i64 (i64 ((i64 ((i64 q3) + m)) - start2)))], [some ⟨3, List.map R3 o5⟩]⟩) h (fun h=>?_) fun o5 h=>?_
     ·
      refine K8 0 1 2 3 4 18 20 24 Y<|Tr<|Rm Y<|Rm Y<|R2 ZD Y<|Rm Y<|Rq Y (.guarded ((decide (start2 < m)) == true) Y Y Y Y fun h => Zb<|ov Y)<|Rq Y (.guarded ((decide (start2 < m)) == true) Y Y Y Y fun h => Zb<|ov Y)<|Rq Y (.guarded ((decide (start2 < m)) == true) Y Y Y Y fun h => ZD (ow Y h)<|ow Y h)<|Rq Y (Zcp (ov Y) fun hp=>ow Y<|gT hp)<|Za<|K9 0 1 2 3 4 18 20 24 185 Y<|If h Y (fun h=>?_) fun h=>?_
      ·
       exact K8 0 1 2 3 4 18 20 24 Y<|Zk<|Rm Y<|Rm Y<|Rm Y<|Rm Y<|Rm Y<|bE h fun y4 h_y4 h=>Rx Y (ZY [0] (ZbY cmp_d cmp_h h_y4) (.cons (ov Y) (.own _ Y)<|.cons (ov Y) (.dat Y)<|.cons (ov Y) (.dat Y)<|.cons (ov Y) (.dat Y)<|.cons (ov Y) (rFn<|rld cmp_d) .nil) (.cons Y (roM D3) .nil) Y (.lent 0 (.inl Y) Y (roM D3) .nil) Y Y<|QV<|rld Y)<|Za<|⟨_, h, ES [some 0]<|sr 0 Y (ZcN (Eq.symm<|JI h_y4) Y)<|sd 1 Y Y<|sd 3 Y Y<|sr 4 Y (rFn<|rld cmp_d)<|sd 18 Y Y<|sd 20 Y Y<|sd 24 Y Y sn⟩
      ·
       exact Zf<|⟨_, h, ES [some 0]<|sr 0 Y (.own _ Y)<|sd 1 Y Y<|sd 3 Y Y<|sr 4 Y (rFn<|rld cmp_d)<|sd 18 Y Y<|sd 20 Y Y<|sd 24 Y Y sn⟩
     ·
      refine I1 (fun o6=>⟨[(0, .own 0 o6.length), (3, .int .i64 b), (4, .fn cmp_f cmp_c), (18, .int .i64 (i64 q3)), (24, .int .i64 (i64 ((i64 ((i64 q3) + m)) - start2)))], [some ⟨3, List.map R3 o6⟩]⟩) h (fun h=>?_) fun o6 h=>?_
      ·
       refine Tr<|Rm Y<|Rm Y<|R2 ZD Y<|Rm Y<|Rq Y (.guarded ((decide (a < start2)) == true) Y Y Y Y fun h => Zb<|ov Y)<|Rq Y (.guarded ((decide (a < start2)) == true) Y Y Y Y fun h => Zb<|ov Y)<|Rq Y (.guarded ((decide (a < start2)) == true) Y Y Y Y fun h => ZD (ow Y h)<|ow Y h)<|Rq Y (Zcp (ov Y) fun hp=>ow Y<|gT hp)<|Za<|K8 0 1 3 4 18 20 24 199 Y<|If h Y (fun h=>?_) fun h=>?_
       ·
        exact K7 0 1 3 4 18 20 24 Y<|Zk<|Rm Y<|Rm Y<|Rm Y<|Rm Y<|Rm Y<|bE h fun y5 h_y5 h=>Rx Y (ZY [0] (hrec cmp_d cmp_h h_y5) (.cons (ov Y) (.own _ Y)<|.cons (ov Y) (.dat Y)<|.cons (ov Y) (.dat Y)<|.cons (ov Y) (.dat Y)<|.cons (ov Y) (rFn<|rld cmp_d) .nil) (.cons Y (roM D3) .nil) Y (.lent 0 (.inl Y) Y (roM D3) .nil) Y Y<|QV<|rld Y)<|Za<|⟨_, h, ES [some 0]<|sr 0 Y (ZcN (Eq.symm<|ln_rec_ h_y5) Y)<|sd 3 Y Y<|sr 4 Y (rFn<|rld cmp_d)<|sd 18 Y Y<|sd 24 Y Y sn⟩
       ·
        exact Zf<|⟨_, h, ES [some 0]<|sr 0 Y (.own _ Y)<|sd 3 Y Y<|sr 4 Y (rFn<|rld cmp_d)<|sd 18 Y Y<|sd 24 Y Y sn⟩
      ·
       refine Tr<|Rm Y<|Rm Y<|R2 ZD Y<|Rm Y<|Rq Y (.guarded ((decide ((i64 q3) < (i64 ((i64 ((i64 q3) + m)) - start2)))) == true) Y Y Y Y fun h => Zb<|ov Y)<|Rq Y (.guarded ((decide ((i64 q3) < (i64 ((i64 ((i64 q3) + m)) - start2)))) == true) Y Y Y Y fun h => Zb<|ov Y)<|Rq Y (.guarded ((decide ((i64 q3) < (i64 ((i64 ((i64 q3) + m)) - start2)))) == true) Y Y Y Y fun h => ZD (ow Y h)<|ow Y h)<|Rq Y (Zcp (ov Y) fun hp=>ow Y<|gT hp)<|Za<|K6 0 3 4 18 24 213 Y<|If h Y (fun h=>?_) fun h=>?_
       ·
        refine K5 0 3 4 18 24 Y<|Zk<|Rm Y<|Rm Y<|Rm Y<|Rm Y<|Rm Y<|bE h fun y6 h_y6 h=>Rx Y (ZY [0] (hrec cmp_d cmp_h h_y6) (.cons (ov Y) (.own _ Y)<|.cons (ov Y) (.dat Y)<|.cons (ov Y) (.dat Y)<|.cons (ov Y) (.dat Y)<|.cons (ov Y) (rFn<|rld cmp_d) .nil) (.cons Y (roM D3) .nil) Y (.lent 0 (.inl Y) Y (roM D3) .nil) Y Y<|QV<|rld Y)<|Za<|?_
        obtain rfl := rt h
        exact Zds [some 0] Y .nil (.cons Y (roM D3) .nil) Y Y<|QV rln
       ·
        refine Zf<|?_
        obtain rfl := rt h
        exact Zds [some 0] Y .nil (.cons Y (roM D3) .nil) Y Y<|QV rln
theorem Ji {n_ : Nat} {data : List Int} {a : Int} {m : Int} {b : Int} {cmp : Int → Int → Option Int} {r : (List Int)} {cmp_f : FuncId} {cmp_c : List AV} (cmp_d : cmp_c.all datB = true) (cmp_h : ∀ (z0 : Int) (z1 : Int) z, cmp z0 z1 = some z → CSpec Tryd.prog gl0 cmp_f ([.int .i64 z0, .int .i64 z1] ++ cmp_c) (.int .i64 z)) (h : ZB n_ data a m b cmp = some r) :
 GSpec Tryd.prog gl0 92 [.own 0 data.length, .int .i64 a, .int .i64 m, .int .i64 b, .fn cmp_f cmp_c] [some ⟨3, List.map R3 data⟩] (.tuple []) [some ⟨3, List.map R3 r⟩] := by
 induction n_ generalizing data a m b cmp r cmp_f cmp_c with
 | zero => cases h
 | succ n ih => exact Zbj cmp_d cmp_h Z8 (fun cmp_d cmp_h h => ih cmp_d cmp_h h) h
theorem Zb0 {data : List Int} {n : Int} {cmp : Int → Int → Option Int} {r : (List Int)} {cmp_f : FuncId} {cmp_c : List AV} (cmp_d : cmp_c.all datB = true) (cmp_h : ∀ (z0 : Int) (z1 : Int) z, cmp z0 z1 = some z → CSpec Tryd.prog gl0 cmp_f ([.int .i64 z0, .int .i64 z1] ++ cmp_c) (.int .i64 z)) (h : Qh data n cmp = some r) :
 GSpec Tryd.prog gl0 82 [.own 0 data.length, .int .i64 n, .fn cmp_f cmp_c] [some ⟨3, List.map R3 data⟩] (.tuple []) [some ⟨3, List.map R3 r⟩] := by
 unfold Qh at h
 replace h := Qr h
 refine Qz (by kernel_rfl) Tryd.func82 Y Y<|?_
 intro w0 A W φ0
 refine Tr<|Ra Y<|Za<|Tr<|Rm Y<|Ra Y<|Ra Y<|Za<|I2 (fun o a=>⟨[(0, .own 0 o.length), (1, .int .i64 n), (2, .fn cmp_f cmp_c), (6, .int .i64 20), (7, .int .i64 a)], [some ⟨3, List.map R3 o⟩]⟩) h (fun h=>?_) fun o a h=>?_
 ·
  refine Ze<|?_
  obtain ⟨r1, hl1, ho1⟩ := QH h
  refine L3 (fun o2 a2 b=>⟨[(0, .own 0 o2.length), (1, .int .i64 n), (2, .fn cmp_f cmp_c), (6, .int .i64 20), (7, .int .i64 a2), (8, .int .i64 b)], [some ⟨3, List.map R3 o2⟩]⟩) hl1 (ES [some 0]<|sr 0 Y (.own _ Y)<|sd 1 Y Y<|sr 2 Y (rFn<|rld cmp_d)<|sd 6 Y Y<|sd 7 Y Y<|sd 8 Y Y sn) fun n1 o2 a2 b h=>?_
  unfold ZJ at h
  refine Zg<|Tr<|Rm Y<|Rm Y<|R2 ZjJ Y<|Za<|K7 0 1 2 6 7 8 13 Y<|If h Y (fun h=>?_) fun h=>?_
  ·
   exact Zf<|Ze<|K6 0 1 2 6 7 8 Y<|Tr<|Rm Y<|Rm Y<|Rm Y<|Rm Y<|bE h fun y h_y h=>Rx Y (ZY [0] (XC cmp_d cmp_h h_y) (.cons (ov Y) (.own _ Y)<|.cons (ov Y) (.dat Y)<|.cons (ov Y) (.dat Y)<|.cons (ov Y) (rFn<|rld cmp_d) .nil) (.cons Y (roM D3) .nil) Y (.lent 0 (.inl Y) Y (roM D3) .nil) Y Y<|QV<|rld Y)<|Za<|K6 0 1 2 6 7 8 Y<|Tr<|Rm Y<|Ra Y<|Za<|K6 0 1 2 6 7 8 Y<|Zk<|Rm Y<|Rm Y<|R2 ZP Y<|Ra Y<|Za<|⟨_, h, ES [some 0]<|sr 0 Y (ZcN (Eq.symm<|Qa h_y) Y)<|sd 1 Y Y<|sr 2 Y (rFn<|rld cmp_d)<|sd 6 Y Y<|sd 7 Y Y<|sd 8 Y Y sn⟩
  ·
   refine ZA<|?_
   replace h := lx h ▸ ho1
   exact ⟨_, h, ES [some 0]<|sr 0 Y (.own _ Y)<|sd 1 Y Y<|sr 2 Y (rFn<|rld cmp_d)<|sd 6 Y Y<|sd 7 Y Y sn⟩
 ·
  refine Tr<|Rm Y<|Rm Y<|Rm Y<|Rm Y<|bE h fun y2 h_y2 h=>Rx Y (ZY [0] (XC cmp_d cmp_h h_y2) (.cons (ov Y) (.own _ Y)<|.cons (ov Y) (.dat Y)<|.cons (ov Y) (.dat Y)<|.cons (ov Y) (rFn<|rld cmp_d) .nil) (.cons Y (roM D3) .nil) Y (.lent 0 (.inl Y) Y (roM D3) .nil) Y Y<|QV<|rld Y)<|Za<|Ze<|?_
  obtain ⟨r2, hl2, ho2⟩ := QH h
  refine L2 (fun o3 blockSize=>⟨[(0, .own 0 o3.length), (1, .int .i64 n), (2, .fn cmp_f cmp_c), (6, .int .i64 blockSize)], [some ⟨3, List.map R3 o3⟩]⟩) hl2 (ES [some 0]<|sr 0 Y (ZcN (Eq.symm<|Qa h_y2) Y)<|sd 1 Y Y<|sr 2 Y (rFn<|rld cmp_d)<|sd 6 Y Y sn) fun n2 o3 blockSize h=>?_
  unfold ZE at h
  refine Zg<|Tr<|Rm Y<|Rm Y<|R2 ZD Y<|Za<|K5 0 1 2 6 30 Y<|If h Y (fun h=>?_) fun h=>?_
  ·
   refine Zf<|Ze<|K4 0 1 2 6 Y<|Tr<|Rm Y<|R2 ZgU Y<|Ra Y<|Ra Y<|Za<|I2 (fun o4 a3=>⟨[(0, .own 0 o4.length), (1, .int .i64 n), (2, .fn cmp_f cmp_c), (6, .int .i64 blockSize), (7, .int .i64 a3)], [some ⟨3, List.map R3 o4⟩]⟩) h (fun h=>?_) fun o4 a3 h=>?_
   ·
    refine Ze<|?_
    obtain ⟨r3, hl3, ho3⟩ := QH h
    refine L3 (fun o5 a4 b2=>⟨[(0, .own 0 o5.length), (1, .int .i64 n), (2, .fn cmp_f cmp_c), (6, .int .i64 blockSize), (7, .int .i64 a4), (8, .int .i64 b2)], [some ⟨3, List.map R3 o5⟩]⟩) hl3 (ES [some 0]<|sr 0 Y (.own _ Y)<|sd 1 Y Y<|sr 2 Y (rFn<|rld cmp_d)<|sd 6 Y Y<|sd 7 Y Y<|sd 8 Y Y sn) fun n3 o5 a4 b2 h=>?_
    unfold ZF at h
    refine Zg<|Tr<|Rm Y<|Rm Y<|R2 ZjJ Y<|Za<|K7 0 1 2 6 7 8 35 Y<|If h Y (fun h=>?_) fun h=>?_
    ·
     exact Zf<|Ze<|K6 0 1 2 6 7 8 Y<|Tr<|Rm Y<|Rm Y<|Rm Y<|Rm Y<|R2 ZP Y<|Rm Y<|Rm Y<|bE h fun y3 h_y3 h=>Rx Y (ZY [0] (Ji cmp_d cmp_h h_y3) (.cons (ov Y) (.own _ Y)<|.cons (ov Y) (.dat Y)<|.cons (ov Y) (.dat Y)<|.cons (ov Y) (.dat Y)<|.cons (ov Y) (rFn<|rld cmp_d) .nil) (.cons Y (roM D3) .nil) Y (.lent 0 (.inl Y) Y (roM D3) .nil) Y Y<|QV<|rld Y)<|Za<|K6 0 1 2 6 7 8 Y<|Tr<|Rm Y<|Ra Y<|Za<|K6 0 1 2 6 7 8 Y<|Zk<|Rm Y<|Rm Y<|R2 ZgU Y<|R2 ZP Y<|Ra Y<|Za<|⟨_, h, ES [some 0]<|sr 0 Y (ZcN (Eq.symm<|Z8 h_y3) Y)<|sd 1 Y Y<|sr 2 Y (rFn<|rld cmp_d)<|sd 6 Y Y<|sd 7 Y Y<|sd 8 Y Y sn⟩
    ·
     refine ZA<|?_
     replace h := lx h ▸ ho3
     exact ⟨_, h, ES [some 0]<|sr 0 Y (.own _ Y)<|sd 1 Y Y<|sr 2 Y (rFn<|rld cmp_d)<|sd 6 Y Y<|sd 7 Y Y sn⟩
   ·
    refine Zg<|Tr<|Rm Y<|Rm Y<|R2 ZP Y<|Ra Y<|Za<|K6 0 1 2 6 7 9 Y<|Tr<|Rm Y<|Rm Y<|R2 ZD Y<|Za<|K7 0 1 2 6 7 9 54 Y<|If h Y (fun h=>?_) fun h=>?_
    ·
     exact K6 0 1 2 6 7 9 Y<|Zk<|Rm Y<|Rm Y<|Rm Y<|Rm Y<|Rm Y<|bE h fun y4 h_y4 h=>Rx Y (ZY [0] (Ji cmp_d cmp_h h_y4) (.cons (ov Y) (.own _ Y)<|.cons (ov Y) (.dat Y)<|.cons (ov Y) (.dat Y)<|.cons (ov Y) (.dat Y)<|.cons (ov Y) (rFn<|rld cmp_d) .nil) (.cons Y (roM D3) .nil) Y (.lent 0 (.inl Y) Y (roM D3) .nil) Y Y<|QV<|rld Y)<|Za<|K4 0 1 2 6 Y<|Zk<|Rm Y<|R2 ZgU Y<|Ra Y<|Za<|⟨_, h, ES [some 0]<|sr 0 Y (ZcN (Eq.symm<|Z8 h_y4) Y)<|sd 1 Y Y<|sr 2 Y (rFn<|rld cmp_d)<|sd 6 Y Y sn⟩
    ·
     exact Zf<|K4 0 1 2 6 Y<|Zk<|Rm Y<|R2 ZgU Y<|Ra Y<|Za<|⟨_, h, ES [some 0]<|sr 0 Y (.own _ Y)<|sd 1 Y Y<|sr 2 Y (rFn<|rld cmp_d)<|sd 6 Y Y sn⟩
  ·
   refine ZA<|?_
   replace h := lx h ▸ ho2
   obtain rfl := rt h
   exact Zds [some 0] Y .nil (.cons Y (roM D3) .nil) Y Y<|QV rln
theorem ZaZ {x : List Int} {cmp : Int → Int → Option Int} {r : (List Int)} {cmp_f : FuncId} {cmp_c : List AV} (cmp_d : cmp_c.all datB = true) (cmp_h : ∀ (z0 : Int) (z1 : Int) z, cmp z0 z1 = some z → CSpec Tryd.prog gl0 cmp_f ([.int .i64 z0, .int .i64 z1] ++ cmp_c) (.int .i64 z)) (h : ZO x cmp = some r) :
 GSpec Tryd.prog gl0 60 [.own 0 x.length, .fn cmp_f cmp_c] [some ⟨3, List.map R3 x⟩] (.tuple []) [some ⟨3, List.map R3 r⟩] := by
 unfold ZO at h
 replace h := Qr h
 refine Qz (by kernel_rfl) Tryd.func60 Y Y<|?_
 intro w0 A W φ0
 refine Zk<|Rm Y<|Rm Y<|Rq Y (ZeN (ov Y) Y Y Qs)<|Rm Y<|bE h fun y h_y h=>Rx Y (ZY [0] (Zb0 cmp_d cmp_h h_y) (.cons (ov Y) (.own _ Y)<|.cons (ov Y) (.dat Y)<|.cons (ov Y) (rFn<|rld cmp_d) .nil) (.cons Y (roM D3) .nil) Y (.lent 0 (.inl Y) Y (roM D3) .nil) Y Y<|QV<|rld Y)<|Za<|?_
 obtain rfl := rt h
 exact Zds [some 0] Y .nil (.cons Y (roM D3) .nil) Y Y<|QV rln
theorem ZcD {i : Int} {c0 : api_Memory} {r : Int} (h : X7 i c0 = some r) :
 CSpec Tryd.prog gl0 59 [.int .i64 i, .rp [.int .i64 c0.Slots, .int .i64 c0.Limit, .sl 47 (List.map R47 c0.Sectors), .sl 3 (List.map R3 c0.Wear), .sl 4 (List.map R4 c0.Bad)] 0] (.int .i64 r) := by
 unfold X7 at h
 replace h := Qr h
 refine So Tryd.func59 Y fun w0 A=>Tr<|Ra Y<|Za<|K2 0 1 Y<|Tr<|Rq Y (ZL (ov Y) Jp)<|Rq Y (Zd (ov Y) Zc5 Y)<|Rm Y<|bE h fun x h_x h=>Rq Y (ZQ (ov Y) (ov Y) ZbQ h_x)<|Rq Y (Zd (ov Y) ZeU Y)<|bE h fun y h_y h=>Rq Y (Zq (Za7 h_y)<|.cons (ov Y) (.b Y) .nil)<|Rm Y<|Rq Y (Zj (ov Y) Y)<|Rq Y (Zj (ov Y) Y)<|Rq Y (Zj (ov Y) Y)<|Ra Y<|Ra Y<|Ra Y<|Za<|K1 4 Y<|Tr<|Rm Y<|Ra Y<|Za<|?_
 obtain rfl := rt h
 exact Zi (ZN Y (.one<|rb Y))
theorem Ze9 {a : Int} {b : Int} {k : api_Memory} {r : Int} (h : X5 a b k = some r) :
 CSpec Tryd.prog gl0 61 [.int .i64 a, .int .i64 b, .rp [.fn 59 [.rp [.int .i64 k.Slots, .int .i64 k.Limit, .sl 47 (List.map R47 k.Sectors), .sl 3 (List.map R3 k.Wear), .sl 4 (List.map R4 k.Bad)] 0]] 0] (.int .i64 r) := by
 unfold X5 at h
 replace h := Qr h
 refine So Tryd.func61 Y fun w0 A=>Tr<|Ra Y<|Za<|Zg<|Qj (cw := md0) (by kernel_rfl)<|Dq 0 Y (Zd (ov Y) ZkB Y)<|D1 1 Zb Y<|bE h fun y h_y h=>Dq 2 Y (Zdc (ov Y) Y (ZcD h_y)<|.cons (ov Y) (.b Y) .nil)<|Dq 3 Y (Zd (ov Y) ZkB Y)<|D1 4 Zb Y<|bE h fun y2 h_y2 h=>Dq 5 Y (Zdc (ov Y) Y (ZcD h_y2)<|.cons (ov Y) (.b Y) .nil)<|D2 6 ZaV Y<|D1 7 QC Y<|Dd<|?_
 obtain rfl := rt h
 exact Zi (ZN Y (.one<|rb Y))
theorem Zdq {m : api_Memory} {r : (List Int)} (h : Xo m = some r) :
 CSpec Tryd.prog gl0 39 [.agg [.int .i64 m.Slots, .int .i64 m.Limit, .sl 47 (List.map R47 m.Sectors), .sl 3 (List.map R3 m.Wear), .sl 4 (List.map R4 m.Bad)]] (.sl 3 (List.map R3 r)) := by
 unfold Xo at h
 replace h := Qr h
 refine So Tryd.func39 Y fun w0 A=>Tr<|Rq Y (ZcG (cva<|ov Y) Y tZ_43 Y)<|Ra Y<|Za<|K1 1 Y<|Tr<|Ra Y<|Za<|Tr<|Rq Y (ZgR<|.cons (ov Y) .nil)<|Rx Y (Qk (row := [_]) 0 Y ZoI Y tZ_109)<|Rx Y (Zr (ov Y) (ov Y) (Zl ZkB) Y Y Y (Nat.le_of_ble_eq_true Y) (Zc Y) Y)<|Za<|I1 (fun out=>⟨[(3, .own 0 out.length), (4, .ptr 1 1 0 0)], [some ⟨3, List.map R3 out⟩, some ⟨109, [[.fn 59 [.rp [.int .i64 m.Slots, .int .i64 m.Limit, .sl 47 (List.map R47 m.Sectors), .sl 3 (List.map R3 m.Wear), .sl 4 (List.map R4 m.Bad)] 0]]]⟩]⟩) h (fun h=>?_) fun out h=>?_
 ·
  refine K3 1 3 4 Y<|Tr<|Rq Y (ZL (ov Y) Jp)<|Rq Y (Zd (ov Y) Zc5 Y)<|Rl tZ_47 ZbQ Y<|Rm Y<|Za<|Ze<|?_
  obtain ⟨r1, hl1, ho1⟩ := QH h
  refine L2 (fun out2 i=>⟨[(1, .rp [.int .i64 m.Slots, .int .i64 m.Limit, .sl 47 (List.map R47 m.Sectors), .sl 3 (List.map R3 m.Wear), .sl 4 (List.map R4 m.Bad)] 0), (3, .own 0 out2.length), (4, .ptr 1 1 0 0), (12, .sl 47 (List.map R47 m.Sectors)), (13, .int .i64 (m.Sectors.length : Int)), (14, .int .i64 i)], [some ⟨3, List.map R3 out2⟩, some ⟨109, [[.fn 59 [.rp [.int .i64 m.Slots, .int .i64 m.Limit, .sl 47 (List.map R47 m.Sectors), .sl 3 (List.map R3 m.Wear), .sl 4 (List.map R4 m.Bad)] 0]]]⟩]⟩) hl1 (ES [none, some 0] (hhp := .row 3<|.cons Y (ro1 (by exact tZ_109.symm)<|rlc (rFn<|rlc (.dat Y) rln) rln) .nil)) fun n1 out2 i h=>?_
  unfold Jy at h
  refine Tr<|R2 ZD Y<|Za<|Zg<|If h Y (fun h=>?_) fun h=>?_
  ·
   refine Zf<|Zg<|Ze<|K6 1 3 4 12 13 14 Y<|Tr<|Rm Y<|bE h fun x h_x h=>Rq Y (ZQ (ov Y) (ov Y) ZbQ h_x)<|Rq Y (Zd (ov Y) ZeU Y)<|Ra Y<|Ra Y<|Za<|K8 1 3 4 5 6 12 13 14 Y<|Tr<|Rm Y<|bE h fun y h_y h=>Rq Y (Zq (Za7 h_y)<|.cons (ov Y) (.b Y) .nil)<|Rm Y<|Rq Y (Zj (ov Y) Y)<|Rq Y (Zj (ov Y) Y)<|Rq Y (Zj (ov Y) Y)<|Ra Y<|Ra Y<|Ra Y<|Za<|K8 1 3 4 5 9 12 13 14 Y<|Tr<|Rm Y<|Rm Y<|Rq Y (.guarded (y.2.2 == true) Y Y Y Y fun h => ZL (ov Y) Zc7)<|Rq Y (.guarded (y.2.2 == true) Y Y Y Y fun h => Zd (ow Y h) Zhf Y)<|Rq Y (.guarded (y.2.2 == true) Y Y Y Y fun h => Zb<|ov Y)<|bE h fun x2 h_x2 h=>Rq Y (.guarded (y.2.2 == true) Y Y Y Y fun h => ZQ (ow Y h) (ow Y h) Zh1<|gdT h_x2 h)<|Rq Y (.guarded (y.2.2 == true) Y Y Y Y fun h => Zd (ow Y h) tS4 Y)<|Rq Y (.guarded (y.2.2 == true) Y Y Y Y fun h => XV<|ow Y h)<|Rq Y (Zcp (ov Y) fun hp=>ow Y<|gT hp)<|Za<|K8 1 3 4 5 12 13 14 33 Y<|If h Y (fun h=>?_) fun h=>?_
   ·
    exact K7 1 3 4 5 12 13 14 Y<|Zk<|Rm Y<|Rm Y<|R_q (.sl 3<|List.map R3 ([i] : List Int)) Y (ZbG Qs (.cons (cvs (ov Y)<|Qm Y) Y (.cons (.b Y) .nil) .nil) Y Y)<|bE h fun l h_l h=>Rx Y (QQ (ov Y) (QT (ov Y) tZ_3) Qs Y Y Y (fun _=>Zc Y) Y h_l)<|Ra Y<|Za<|K6 1 3 4 12 13 14 Y<|Zk<|R2 ZP Y<|Rm Y<|Za<|⟨_, h, ES [some 0, some 1] (hhp := .cons Y (roM D3)<|.cons Y (ro1 (by exact tZ_109.symm)<|rlc (rFn<|rlc (.dat Y) rln) rln) .nil)⟩
   ·
    exact Zf<|K6 1 3 4 12 13 14 Y<|Zk<|R2 ZP Y<|Rm Y<|Za<|⟨_, h, ES [some 0, some 1] (hhp := .cons Y (roM D3)<|.cons Y (ro1 (by exact tZ_109.symm)<|rlc (rFn<|rlc (.dat Y) rln) rln) .nil)⟩
  ·
   refine ZA<|?_
   replace h := lx h ▸ ho1
   exact ⟨_, h, ES [some 0, some 1] (hhp := .cons Y (roM D3)<|.cons Y (ro1 (by exact tZ_109.symm)<|rlc (rFn<|rlc (.dat Y) rln) rln) .nil)⟩
 ·
  refine Tr<|Rm Y<|QR (Ent.sel [some 0, none] (sr 3 Y (.own (r' := 0) _ Y)<|sr 4 Y (.frp ⟨Y, ⟨_, Y⟩, Y, Y⟩)<|sr 39 Y (.own (r' := 0) _ Y) sn) (.cons Y (roM D3)<|.row 109 .nil) Y Y)<|Rq Y (ZgR<|.cons (ov Y) .nil)<|bE h fun y2 h_y2 h=>Rx Y (ZY [0] (ZaZ Y (fun z0 z1 _ hz=>Ze9 hz) h_y2) (.cons (ov Y) (.own _ Y)<|.cons (ov Y) (.dat Y) .nil) (.cons Y (roM D3) .nil) Y (.lent 0 (.inl Y) Y (roM D3)<|.keep Y Y .nil) Y Y<|QV<|rld Y)<|Za<|K1 3 Y<|Tr<|Rm Y<|Ra Y<|Za<|?_
  obtain rfl := rt h
  exact Zi (ZN Y (.one<|.tmp Y<|View.ownM Y (Zbb h_y2) D3))
theorem ZdU {s : List Int} {i : Int} {r : (Vector Int 97)} (h : JU s i = some r) :
 CSpec Tryd.prog gl0 40 [.sl 5 (List.map R5 s), .int .i64 i] (.rp (List.map C5 r.toList) 0) := by
 unfold JU at h
 replace h := Qr h
 refine So Tryd.func40 Y fun w0 A=>Tr<|Ra Y<|Za<|K2 0 1 Y<|Tr<|Rm Y<|R2 ZgU Y<|R2 ZP Y<|Ra Y<|Za<|K2 0 5 Y<|Tr<|Rm Y<|Rm Y<|Rm Y<|R2 ZP Y<|bE h fun l h_l h=>Rq Y (ZgG (ov Y) XJ (oi<|ov Y) (oi<|ov Y) h_l)<|bE h fun v h_v h=>Rq Y (Zje (f := C5) (ov Y) Zjq tZ_5 Y h_v)<|Ra Y<|Za<|?_
 obtain rfl := rt h
 exact Zi (ZN Y (.one<|rb Y))
theorem ZbC {s : List Int} {f : Int → Option Bool} {r : Int} {f_f : FuncId} {f_c : List AV} (f_d : f_c.all datB = true) (f_h : ∀ (z0 : Int) z, f z0 = some z → CSpec Tryd.prog gl0 f_f ([.int .u8 z0] ++ f_c) (.bool z)) (h : QO s f = some r) :
 CSpec Tryd.prog gl0 83 [.sl 5 (List.map R5 s), .fn f_f f_c] (.int .i64 r) := by
 unfold QO at h
 replace h := Qr h
 refine So Tryd.func83 Y fun w0 A=>Tr<|Ra Y<|Za<|J0 (fun j => (.inr j)) ⟨[], []⟩ h (fun h=>?_) fun h=>?_
 ·
  refine K2 0 1 Y<|Tr<|Rm Y<|Rl tZ_5 XJ Y<|Rm Y<|Za<|Ze<|?_
  obtain ⟨r1, hl1, ho1⟩ := QH h
  refine L1 (fun i=>⟨[(0, .sl 5 (List.map R5 s)), (1, .fn f_f f_c), (7, .int .i64 (s.length : Int)), (8, .int .i64 i)], []⟩) hl1 (ES []<|sd 0 Y Y<|sr 1 Y (rFn<|rld f_d)<|sd 7 Y Y<|sd 8 Y Y sn) fun n1 i h=>?_
  unfold Z7 at h
  refine Tr<|R2 ZD Y<|Za<|Zg<|If h Y (fun h=>?_) fun h=>?_
  ·
   refine Zf<|Zg<|Ze<|K4 0 1 7 8 Y<|Tr<|Rm Y<|Ra Y<|Za<|K5 0 1 5 7 8 Y<|Tr<|Rm Y<|Rm Y<|Rm Y<|bE h fun x h_x h=>Rq Y (ZQ (ov Y) (ov Y) XJ h_x)<|Rq Y (Zd (ov Y) tS5 Y)<|bE h fun y h_y h=>Rq Y (Zdc (ov Y) f_d (f_h _ _ h_y)<|.cons (ov Y) (.b Y) .nil)<|Za<|K6 0 1 5 7 8 16 Y<|If h Y (fun h=>?_) fun h=>?_
   ·
    refine K1 5 Y<|Tr<|Rm Y<|Ra Y<|Za<|?_
    replace h := lx h ▸ ho1
    obtain rfl := rt h
    exact Zi (ZN Y (.one<|rb Y))
   ·
    exact Zf<|K4 0 1 7 8 Y<|Zk<|R2 ZP Y<|Rm Y<|Za<|⟨_, h, ES []<|sd 0 Y Y<|sr 1 Y (rFn<|rld f_d)<|sd 7 Y Y<|sd 8 Y Y sn⟩
  ·
   refine ZA<|?_
   replace h := lx h ▸ ho1
   exact ⟨(), h, ES []⟩
 ·
  replace h := elr h
  replace h := t0i h
  refine Tr<|Ra Y<|Za<|?_
  obtain rfl := rt h
  exact Zi (ZN Y (.one<|rb Y))
theorem Za1 {s : List Int} {f : Int → Option Bool} {r : Bool} {f_f : FuncId} {f_c : List AV} (f_d : f_c.all datB = true) (f_h : ∀ (z0 : Int) z, f z0 = some z → CSpec Tryd.prog gl0 f_f ([.int .u8 z0] ++ f_c) (.bool z)) (h : Z6 s f = some r) :
 CSpec Tryd.prog gl0 62 [.sl 5 (List.map R5 s), .fn f_f f_c] (.bool r) := by
 unfold Z6 at h
 replace h := Qr h
 refine So Tryd.func62 Y fun w0 A=>Tr<|Ra Y<|Za<|Tr<|Rm Y<|Rm Y<|bE h fun y h_y h=>Rq Y (Zq (ZbC f_d f_h h_y)<|.cons (ov Y) (.b Y)<|.cons (ov Y) (Dat.fnC<|.refl fun x hx => .b<|List.all_eq_true.1 f_d x hx) .nil)<|R2 ZgJ Y<|Ra Y<|Za<|?_
 obtain rfl := rt h
 exact Zi (ZN Y (.one<|rb Y))
theorem ZeT {b : Int} {r : Bool} (h : Jb b = some r) :
 CSpec Tryd.prog gl0 63 [.int .u8 b] (.bool r) := by
 unfold Jb at h
 replace h := Qr h
 refine So Tryd.func63 Y fun w0 A=>Tr<|Ra Y<|Za<|Tr<|Rm Y<|R2 Q4 Y<|Ra Y<|Za<|?_
 obtain rfl := rt h
 exact Zi (ZN Y (.one<|rb Y))
theorem Zdt {p : Vector Int 97} {r : Int} (h : J6 p = some r) :
 CSpec Tryd.prog gl0 41 [.rp (List.map C5 p.toList) 0] (.int .i64 r) := by
 unfold J6 at h
 replace h := Qr h
 refine So Tryd.func41 Y fun w0 A=>Tr<|Ra Y<|Za<|Zg<|Ze<|K1 0 Y<|Tr<|Rm Y<|R1 ZC Y<|bE h fun x h_x h=>Rq Y (Xk (ov Y) (ov Y) Zjq h_x)<|Rq Y (Zd (ov Y) tS5<|Qu<|Xv (o := 0) (o' := ((Int.toNat 96) * 1)) (Zt arL)<|Xt h_x)<|R2 Zbk Y<|Ra Y<|Za<|K2 0 3 Y<|If h Y (fun h=>?_) fun h=>?_
 ·
  refine K0<|Tr<|Ra Y<|Za<|?_
  obtain rfl := rt h
  exact Zi (ZN Y (.one<|rb Y))
 ·
  refine K1 0 Y<|Tr<|Rm Y<|R1 ZC Y<|bE h fun l h_l h=>Rq Y (ZjR (f := C5) (ov Y) Zjq tZ_5 (Zt arL) Y on on h_l)<|bE h fun y h_y h=>Rq Y (Zq (Za1 Y (fun z0 _ hz=>ZeT hz) h_y)<|.cons (ov Y) (.b Y)<|.cons (ov Y) .fn .nil)<|Ra Y<|Za<|K1 9 Y<|If h Y (fun h=>?_) fun h=>?_
  ·
   refine K0<|Tr<|Ra Y<|Za<|?_
   obtain rfl := rt h
   exact Zi (ZN Y (.one<|rb Y))
  ·
   refine Zf<|K0<|Tr<|Ra Y<|Za<|?_
   obtain rfl := rt h
   exact Zi (ZN Y (.one<|rb Y))
theorem Zfo {m : api_Memory} {r : ring_spot} (h : Zaw m = some r) :
 CSpec Tryd.prog gl0 32 [.agg [.int .i64 m.Slots, .int .i64 m.Limit, .sl 47 (List.map R47 m.Sectors), .sl 3 (List.map R3 m.Wear), .sl 4 (List.map R4 m.Bad)]] (.agg [.int .i64 r.sector, .int .i64 r.slot]) := by
 unfold Zaw at h
 replace h := Qr h
 refine So Tryd.func32 Y fun w0 A=>Tr<|Rq Y (ZcG (cva<|ov Y) Y tZ_43 Y)<|Rx Y (Qk (row := [_, _]) 0 Y Zkg Y tZ_83)<|Za<|K2 1 2 Y<|Tr<|Rq Y (Z9 (ov Y) J7 Y Y)<|bE h fun y h_y h=>Rq Y (Zq (Zdq h_y)<|.cons (ov Y) (.aggB Y) .nil)<|Ra Y<|Za<|Zg<|K3 1 2 3 Y<|Tr<|Rm Y<|Rl tZ_3 Qs Y<|R2 Zbk Y<|Za<|K4 1 2 3 10 Y<|If h Y (fun h=>?_) fun h=>?_
 ·
  refine K1 2 Y<|Tr<|Rq Y (Zbv (ys := [_, _]) Zl3 ZkS Zkg (.cons (cvs (ov Y)<|Qm Y) .nil) Y)<|Rx Y (Zr (ov Y) (ov Y) (ZI ZhE Y) Y Y Y (Nat.le_of_ble_eq_true Y) (Zc Y) Y)<|Za<|?_
  obtain rfl := rt h
  exact Zi (ZN Y (.one<|.agg Y Y Y Y ZhE Y Y<|pwB Y))
 ·
  refine Zf<|K3 1 2 3 Y<|Tr<|Rm Y<|Rm Y<|Rl tZ_3 Qs Y<|R2 ZaV Y<|bE h fun x h_x h=>Rq Y (ZQ (ov Y) (ov Y) Qs h_x)<|Rq Y (Zd (ov Y) tS3 Y)<|Rq Y (Zbv (ys := [_, _]) Zl3 ZkS Zkg (.cons (cvs (ov Y)<|Qm Y) .nil) Y)<|Rx Y (Qk (row := [_, _]) 1 Y Zkg Y tZ_83)<|Rx Y (Zr (ov Y) (ov Y) (ZI ZhE Y) Y Y Y (Nat.le_of_ble_eq_true Y) (Zc Y) Y)<|Za<|I1 (fun slot=>⟨[(2, .ptr 0 1 0 0), (4, .ptr 1 1 0 0)], [some ⟨83, [[.int .i64 0, .int .i64 0]]⟩, some ⟨83, [[.int .i64 x, .int .i64 slot]]⟩]⟩) h (fun h=>?_) fun slot h=>?_
  ·
   refine K3 1 2 4 Y<|Tr<|Rq Y (ZL (ov Y) Zd2)<|Rq Y (Zd (ov Y) tS3 Y)<|Rm Y<|Za<|Ze<|?_
   obtain ⟨r1, hl1, ho1⟩ := QH h
   refine L2 (fun slot2 i=>⟨[(1, .rp [.int .i64 m.Slots, .int .i64 m.Limit, .sl 47 (List.map R47 m.Sectors), .sl 3 (List.map R3 m.Wear), .sl 4 (List.map R4 m.Bad)] 0), (2, .ptr 0 1 0 0), (4, .ptr 1 1 0 0), (20, .int .i64 m.Slots), (21, .int .i64 i)], [some ⟨83, [[.int .i64 0, .int .i64 0]]⟩, some ⟨83, [[.int .i64 x, .int .i64 slot2]]⟩]⟩) hl1 (ES [some 0, some 1]) fun n1 slot2 i h=>?_
   unfold ZcU at h
   refine Tr<|R2 ZD Y<|Za<|Zg<|If h Y (fun h=>?_) fun h=>?_
   ·
    refine Zf<|Zg<|Ze<|K5 1 2 4 20 21 Y<|Tr<|Rm Y<|Ra Y<|Za<|K6 1 2 4 5 20 21 Y<|Tr<|Rq Y (ZL (ov Y) Jp)<|Rq Y (Zd (ov Y) Zc5 Y)<|Rq Y (Zo (ov Y) Y Y ZfD)<|Rq Y (ZM (ov Y) Y Y Y tS3 Y)<|bE h fun x2 h_x2 h=>Rq Y (ZQ (ov Y) (ov Y) ZbQ h_x2)<|Rq Y (Zd (ov Y) ZeU Y)<|Rm Y<|bE h fun y2 h_y2 h=>Rq Y (Zq (ZdU h_y2)<|.cons (ov Y) (.b Y)<|.cons (ov Y) (.b Y) .nil)<|bE h fun y3 h_y3 h=>Rq Y (Zq (Zdt h_y3)<|.cons (ov Y) (.b Y) .nil)<|R2 Q4 Y<|Za<|K7 1 2 4 5 20 21 33 Y<|If h Y (fun h=>?_) fun h=>?_
    ·
     exact K6 1 2 4 5 20 21 Y<|Zk<|Rm Y<|R2 ZP Y<|Rq Y (Zo (ov Y) Y Y Zg1)<|Rx Y (Zr (ov Y) (ov Y) (Zl tS3) Y Y Y (Nat.le_of_ble_eq_true Y) (Zc Y) Y)<|Za<|K5 1 2 4 20 21 Y<|Zk<|R2 ZP Y<|Rm Y<|Za<|⟨_, h, ES [some 0, some 1]⟩
    ·
     exact Zf<|K5 1 2 4 20 21 Y<|Zk<|R2 ZP Y<|Rm Y<|Za<|⟨_, h, ES [some 0, some 1]⟩
   ·
    refine ZA<|?_
    replace h := lx h ▸ ho1
    exact ⟨_, h, ES [some 0, some 1]⟩
  ·
   refine Tr<|Rq Y (Q9 (ov Y) Y Y Y ZhE Y Y)<|Rx Y (Zr (ov Y) (ov Y) (ZI ZhE Y) Y Y Y (Nat.le_of_ble_eq_true Y) (Zc Y) Y)<|Za<|?_
   obtain rfl := rt h
   exact Zi (ZN Y (.one<|.agg Y Y Y Y ZhE Y Y<|pwB Y))
theorem Zdo {l : List api_Memory} {copies : Int} {r : (Int) ⊕ (ring_Recorder × Int)} (h : ZaM l copies = some r) :
 GSpec Tryd.prog gl0 16 [.sl 43 (List.map R43 l), .int .i64 copies] [] (Sum.elim (fun r => .tuple [.lit (.pointer none), .int .i64 r]) (fun r => .tuple [.ptr 0 1 0 0, .int .i64 r.2]) r) (Sum.elim (fun r => []) (fun r => [some ⟨80, [[.own 1 r.1.bank.memories.length, .own 2 r.1.bank.spots.length, .int .i64 r.1.copies, .bool r.1.frozen, .bool r.1.stopped, .int .i64 r.1.last, .bool r.1.some_]]⟩, some ⟨43, List.map O43 r.1.bank.memories⟩, some ⟨83, List.map R83 r.1.bank.spots⟩]) r) := by
 unfold ZaM at h
 replace h := Qr h
 refine Qz (by kernel_rfl) Tryd.func16 Y Y<|?_
 intro w0 A W φ0
 refine Tr<|Ra Y<|Ra Y<|Za<|Zg<|K2 0 1 Y<|Tr<|Rm Y<|bE h fun y h_y h=>Rq Y (Zq (Zbr h_y)<|.cons (ov Y) (.b Y) .nil)<|Ra Y<|Za<|K3 0 1 6 Y<|Tr<|Rm Y<|R2 Q4 Y<|Za<|K4 0 1 6 17 Y<|If h Y (fun h=>?_) fun h=>?_
 ·
  refine K1 6 Y<|Tr<|Rm Y<|Ra Y<|Ra Y<|Za<|?_
  obtain rfl := rt h
  exact Zi<|ZaU [] Y (.cons (.tmp Y)<|.cons (.tmp Y) .nil) .nil Y Y<|QV<|rlc (.dat Y)<|rlc (.dat Y) rln
 ·
  refine Zf<|Zg<|K2 0 1 Y<|Tr<|Rm Y<|Rm Y<|Rl tZ_43 JV Y<|bE h fun y2 h_y2 h=>Rq Y (Zq (QN h_y2)<|.cons (ov Y) (.b Y)<|.cons (ov Y) (.b Y)<|.cons (ov Y) (.b Y) .nil)<|R1 XV Y<|Za<|K3 0 1 23 Y<|If h Y (fun h=>?_) fun h=>?_
  ·
   refine K0<|Tr<|Ra Y<|Ra Y<|Za<|?_
   obtain rfl := rt h
   exact Zi<|ZaU [] Y (.cons (.tmp Y)<|.cons (.tmp Y) .nil) .nil Y Y<|QV<|rlc (.dat Y)<|rlc (.dat Y) rln
  ·
   refine Zf<|K2 0 1 Y<|Tr<|Rm Y<|Rq Y (Zbv (ys := [_, _, _, _, _, _, _]) ZoC Zok Zpj (.cons (cvs (ov Y)<|Qm Y) .nil) Y)<|Rx Y (Zm9 0 Y (ov Y) Zpc Y)<|Ra Y<|Za<|K2 0 7 Y<|Tr<|Rm Y<|Rm Y<|bE h fun y3 h_y3 h=>Rx Y (ZY [] (Ze6 h_y3) (.cons (ov Y) (.dat Y) .nil) .nil Y (.keep Y Y<|.lent 0 (.inr ⟨Nat.le_of_ble_eq_true Y, Y⟩) Y (roO Xj) .nil) Y Y<|.own _<|.inr ⟨Nat.le_of_ble_eq_true Y, Y⟩)<|Rq Y (Zp (ov Y) Y Y)<|Rq Y (Zo (ov Y) Y Y ZdP)<|Rq Y (Zo (ov Y) Y Y Zdf)<|Rx Y (Zr (ov Y) (ov Y) (Zl ZhL) Y Y Y (Nat.le_of_ble_eq_true Y) (Zc Y) Y)<|Za<|I2 (fun spots frozen=>⟨[(7, .ptr 0 1 0 0)], [some ⟨80, [[.own 1 y3.length, .own 2 spots.length, .int .i64 copies, .bool frozen, .bool false, .int .i64 0, .bool false]]⟩, some ⟨43, List.map O43 y3⟩, some ⟨83, List.map R83 spots⟩]⟩) h (fun h=>?_) fun spots frozen h=>?_
   ·
    refine K1 7 Y<|QU [some ⟨80, [[.own 1 y3.length, .nils, .int .i64 copies, .bool false, .bool false, .int .i64 0, .bool false]]⟩, some ⟨43, List.map O43 y3⟩] Y<|Tr<|Rm Y<|Rq Y (Zp (ov Y) Y Y)<|Rq Y (Zo (ov Y) Y Y ZdP)<|Rq Y (Zo (ov Y) Y Y Zdf)<|Rq Y (ZM (ov Y) Y Y Y ZhL Y)<|Rq Y (ZeN (ov Y) Y Y JV)<|Rm Y<|Za<|Ze<|?_
    obtain ⟨r1, hl1, ho1⟩ := QH h
    refine L3 (fun spots2 frozen2 i=>⟨[(7, .ptr 0 1 0 0), (37, .own 1 y3.length), (38, .int .i64 (y3.length : Int)), (39, .int .i64 i)], [some ⟨80, [[.own 1 y3.length, .own 2 spots2.length, .int .i64 copies, .bool frozen2, .bool false, .int .i64 0, .bool false]]⟩, some ⟨43, List.map O43 y3⟩, some ⟨83, List.map R83 spots2⟩]⟩) hl1 (ES [some 0, some 1, none] (hhp := .cons Y (ro1 (by exact tZ_80.symm)<|rlc (.own _ Y)<|rlc (.row Y)<|rlc (.dat Y)<|rlc (.dat Y)<|rlc (.dat Y)<|rlc (.dat Y)<|rlc (.dat Y) rln)<|.cons Y (roO Xj)<|.row 83 .nil)) fun n1 spots2 frozen2 i h=>?_
    unfold Zar at h
    refine Tr<|R2 ZD Y<|Za<|Zg<|If h Y (fun h=>?_) fun h=>?_
    ·
     refine Zf<|Zg<|Ze<|K4 7 37 38 39 Y<|Tr<|bE h fun x h_x h=>Rq Y (Qb (ov Y) (ov Y) JV Y Y h_x)<|QR (Ent.focusH (r := 1) (j := 2) (e' := 47) (g := O47) (ys := x.Sectors) Y (Zy h_x).2 Y Zfn)<|QR (Ent.focusI (r := 1) (j := 3) (e' := 3) (g := R3) (ys := x.Wear) Y (Zy h_x).2 Y DR3)<|QR (Ent.focusI (r := 1) (j := 4) (e' := 4) (g := R4) (ys := x.Bad) Y (Zy h_x).2 Y DR4)<|Rq Y (Zlg (ov Y) Y Y (Zy h_x).2 J7 Y Y)<|Rx Y (Qk (row := [_, _, _, _, _]) 6 Y Zgs Y tZ_43)<|Rx Y (Zr (ov Y) (ov Y) (ZI J7 Y) Y Y Y (Nat.le_of_ble_eq_true Y) (Zc Y) Y)<|ZdQ [some ⟨80, [[.own 1 y3.length, .own 2 spots2.length, .int .i64 copies, .bool frozen2, .bool false, .int .i64 0, .bool false]]⟩, some ⟨43, List.set (List.map O43 y3) i.toNat [.int .i64 x.Slots, .int .i64 x.Limit, .own 3 x.Sectors.length, .own 4 x.Wear.length, .own 5 x.Bad.length]⟩, some ⟨83, List.map R83 spots2⟩, some ⟨47, List.map O47 x.Sectors⟩, some ⟨3, List.map R3 x.Wear⟩, some ⟨4, List.map R4 x.Bad⟩, some ⟨43, [[.int .i64 x.Slots, .int .i64 x.Limit, .own 3 x.Sectors.length, .own 4 x.Wear.length, .own 5 x.Bad.length]]⟩] Y<|Za<|K5 7 9 37 38 39 Y<|Tr<|Rq Y (Q9 (ov Y) Y Y Y J7 Y Y)<|bE h fun y4 h_y4 h=>Rq Y (J5 (Zfo h_y4) (.agg<|by simp only [List.mem_cons, List.not_mem_nil, or_false, forall_eq_or_imp, forall_eq]; exact ⟨.int, .int⟩)<|.cons (ov Y) (View.aggL<|.cons (Dat.view<|.b Y)<|.cons (Dat.view<|.b Y)<|.cons (View.ownO Y Y Zfn (fun x=>(D47 x).1) ZoU)<|.cons (View.ownM Y Y D3)<|.cons (View.ownM Y Y D4) .nil) .nil)<|Rx Y (Qk (row := [_, _]) 7 Y Zkg Y tZ_83)<|Rx Y (Zr (ov Y) (ov Y) (ZI ZhE Y) Y Y Y (Nat.le_of_ble_eq_true Y) (Zc Y) Y)<|ZdQ [some ⟨80, [[.own 1 y3.length, .own 2 spots2.length, .int .i64 copies, .bool frozen2, .bool false, .int .i64 0, .bool false]]⟩, some ⟨43, List.set (List.map O43 y3) i.toNat [.int .i64 x.Slots, .int .i64 x.Limit, .own 3 x.Sectors.length, .own 4 x.Wear.length, .own 5 x.Bad.length]⟩, some ⟨83, List.map R83 spots2⟩, some ⟨47, List.map O47 x.Sectors⟩, some ⟨3, List.map R3 x.Wear⟩, some ⟨4, List.map R4 x.Bad⟩, some ⟨43, [[.int .i64 x.Slots, .int .i64 x.Limit, .own 3 x.Sectors.length, .own 4 x.Wear.length, .own 5 x.Bad.length]]⟩, some ⟨83, [[.int .i64 y4.sector, .int .i64 y4.slot]]⟩] Y<|Za<|Zg<|K6 7 9 10 37 38 39 Y<|Qj (cw := md0) (by kernel_rfl)<|D1 1 Zb Y<|Dq 2 Y (Zp (ov Y) Y Y)<|Dq 3 Y (Zo (ov Y) Y Y ZdP)<|Dq 4 Y (Zo (ov Y) Y Y ZeH)<|Dq 5 Y (ZM (ov Y) Y Y Y Zjg Y)<|Dq 6 Y (Q9 (ov Y) Y Y Y ZhE Y Y)<|Zmg 7 (.sl 83<|List.map R83 ([y4] : List ring_spot)) Y (by kernel_rfl) Y Y (ZbG Zjk (.cons (cva<|ov Y) Y (pwD Y) .nil) Y Y)<|Z0 0 _ Y (by kernel_rfl) Y Y (fun hp'=>Zb<|ov Y)<|bE h fun l2 h_l2 h=>Do 8 Y (QQ (ov Y) (QT (ov Y) tZ_83) Zjk Y Y Y (fun _=>Zc Y) Y h_l2)<|Dq 9 Y (Zp (ov Y) Y Y)<|Dq 10 Y (Zo (ov Y) Y Y ZdP)<|Dq 11 Y (Zo (ov Y) Y Y ZeH)<|Do 12 Y (Zr (ov Y) (ov Y) (Zl Zjg) Y Y Y (Nat.le_of_ble_eq_true Y) (Zc Y) Y)<|Dd<|K6 7 9 10 37 38 39 Y<|QU [some ⟨80, [[.own 1 y3.length, .own 2 l2.length, .int .i64 copies, .bool frozen2, .bool false, .int .i64 0, .bool false]]⟩, some ⟨43, List.set (List.map O43 y3) i.toNat [.int .i64 x.Slots, .int .i64 x.Limit, .own 3 x.Sectors.length, .own 4 x.Wear.length, .own 5 x.Bad.length]⟩, some ⟨83, List.map R83 l2⟩, some ⟨47, List.map O47 x.Sectors⟩, some ⟨3, List.map R3 x.Wear⟩, some ⟨4, List.map R4 x.Bad⟩, some ⟨43, [[.int .i64 x.Slots, .int .i64 x.Limit, .own 3 x.Sectors.length, .own 4 x.Wear.length, .own 5 x.Bad.length]]⟩, some ⟨83, [[.int .i64 y4.sector, .int .i64 y4.slot]]⟩] Y<|Tr<|Rq Y (Zo (ov Y) Y Y ZfD)<|Rq Y (ZM (ov Y) Y Y Y tS3 Y)<|R2 ZgJ Y<|Za<|K7 7 9 10 37 38 39 59 Y<|If h Y (fun h=>?_) fun h=>?_
     ·
      exact K6 7 9 10 37 38 39 Y<|Tr<|Rq Y (Zo (ov Y) Y Y Jp)<|Rq Y (ZM (ov Y) Y Y Y Zc5 Y)<|Rq Y (Zo (ov Y) Y Y ZfD)<|Rq Y (ZM (ov Y) Y Y Y tS3 Y)<|bE h fun x2 h_x2 h=>Rq Y (Qb (ov Y) (ov Y) ZbQ Y Y h_x2)<|QR (Ent.focusH (r := 3) (j := 0) (e' := 5) (g := R5) (ys := x2) Y (Zy h_x2).2 Y DR5)<|Rq Y (ZbK (ov Y) Y Y (Zy h_x2).2 ZeU Y)<|bE h fun y5 h_y5 h=>Rq Y (J5 (Za7 h_y5) (.tuple<|by simp only [List.mem_cons, List.not_mem_nil, or_false, forall_eq_or_imp, forall_eq]; exact ⟨.int, .bool, .bool⟩)<|.cons (ov Y) (View.ownM Y Y D5) .nil)<|Rm Y<|Rq Y (Zj (ov Y) Y)<|Rq Y (Zj (ov Y) Y)<|Rq Y (Zj (ov Y) Y)<|Ra Y<|Ra Y<|Ra Y<|ZdQ [some ⟨80, [[.own 1 y3.length, .own 2 l2.length, .int .i64 copies, .bool frozen2, .bool false, .int .i64 0, .bool false]]⟩, some ⟨43, List.set (List.map O43 y3) i.toNat [.int .i64 x.Slots, .int .i64 x.Limit, .own 3 x.Sectors.length, .own 4 x.Wear.length, .own 5 x.Bad.length]⟩, some ⟨83, List.map R83 l2⟩, some ⟨47, List.set (List.map O47 x.Sectors) y4.sector.toNat [.own 8 x2.length]⟩, some ⟨3, List.map R3 x.Wear⟩, some ⟨4, List.map R4 x.Bad⟩, some ⟨43, [[.int .i64 x.Slots, .int .i64 x.Limit, .own 3 x.Sectors.length, .own 4 x.Wear.length, .own 5 x.Bad.length]]⟩, some ⟨83, [[.int .i64 y4.sector, .int .i64 y4.slot]]⟩, some ⟨5, List.map R5 x2⟩] Y<|QR (Ent.absorbH (r := 3) (j := 0) (q := 8) Y (Zy h_x2).2 Y Y (List.length_map ..) Y)<|QR (Ent.closeS (r := 3) Y (Zy h_x2).2 Y)<|QR (Ent.absorbH (r := 1) (j := 2) (q := 3) Y (Zy h_x).2 Y Y (List.length_map ..) Y)<|QR (Ent.absorbH (r := 1) (j := 3) (q := 4) Y (Zy h_x).2 Y Y (List.length_map ..) Y)<|QR (Ent.absorbH (r := 1) (j := 4) (q := 5) Y (Zy h_x).2 Y Y (List.length_map ..) Y)<|QR (Ent.closeS (r := 1) Y (Zy h_x).2 Y)<|Za<|K5 7 12 37 38 39 Y<|QU [some ⟨80, [[.own 1 y3.length, .own 2 l2.length, .int .i64 copies, .bool frozen2, .bool false, .int .i64 0, .bool false]]⟩, some ⟨43, List.map O43 y3⟩, some ⟨83, List.map R83 l2⟩, none, none, none, some ⟨43, [[.int .i64 x.Slots, .int .i64 x.Limit, .own 3 x.Sectors.length, .own 4 x.Wear.length, .own 5 x.Bad.length]]⟩, some ⟨83, [[.int .i64 y4.sector, .int .i64 y4.slot]]⟩, none] Y<|Zk<|Rm Y<|Rm Y<|Rq Y (Zp (ov Y) Y Y)<|Rq Y (Zo (ov Y) Y Y Zjb)<|Rq Y (ZM (ov Y) Y Y Y tS4 Y)<|Rm Y<|Rq Y (.guarded (frozen2 == false) Y Y Y Y fun h => Zb<|ov Y)<|Rq Y (ZbU (ov Y) fun hp=>ow Y<|gF hp)<|Rq Y (Zp (ov Y) Y Y)<|Rq Y (Zo (ov Y) Y Y Zjb)<|Rx Y (Zr (ov Y) (ov Y) (Zl tS4) Y Y Y (Nat.le_of_ble_eq_true Y) (Zc Y) Y)<|Za<|K4 7 37 38 39 Y<|QU [some ⟨80, [[.own 1 y3.length, .own 2 l2.length, .int .i64 copies, .bool (frozen2 || y5.2.1), .bool false, .int .i64 0, .bool false]]⟩, some ⟨43, List.map O43 y3⟩, some ⟨83, List.map R83 l2⟩, none, none, none, some ⟨43, [[.int .i64 x.Slots, .int .i64 x.Limit, .own 3 x.Sectors.length, .own 4 x.Wear.length, .own 5 x.Bad.length]]⟩, some ⟨83, [[.int .i64 y4.sector, .int .i64 y4.slot]]⟩, none] Y<|Zk<|R2 ZP Y<|Rm Y<|Za<|⟨_, h, ES [some 0, some 1, some 2] (hhp := .cons Y (ro1 (by exact tZ_80.symm)<|rlc (.own _ Y)<|rlc (.own _ Y)<|rlc (.dat Y)<|rlc (.dat Y)<|rlc (.dat Y)<|rlc (.dat Y)<|rlc (.dat Y) rln)<|.cons Y (roO Xj)<|.cons Y (roM D83) .nil)⟩
     ·
      exact Zf<|K4 7 37 38 39 Y<|Zk<|R2 ZP Y<|Rm Y<|QR (Ent.absorbH (r := 1) (j := 2) (q := 3) Y (Zy h_x).2 Y Y (List.length_map ..) Y)<|QR (Ent.absorbH (r := 1) (j := 3) (q := 4) Y (Zy h_x).2 Y Y (List.length_map ..) Y)<|QR (Ent.absorbH (r := 1) (j := 4) (q := 5) Y (Zy h_x).2 Y Y (List.length_map ..) Y)<|QR (Ent.closeS (r := 1) Y (Zy h_x).2 Y)<|Za<|⟨_, h, ES [some 0, some 1, some 2] (hhp := .cons Y (ro1 (by exact tZ_80.symm)<|rlc (.own _ Y)<|rlc (.own _ Y)<|rlc (.dat Y)<|rlc (.dat Y)<|rlc (.dat Y)<|rlc (.dat Y)<|rlc (.dat Y) rln)<|.cons Y (roO Xj)<|.cons Y (roM D83) .nil)⟩
    ·
     refine ZA<|?_
     replace h := lx h ▸ ho1
     exact ⟨_, h, ES [some 0, some 1, some 2] (hhp := .cons Y (ro1 (by exact tZ_80.symm)<|rlc (.own _ Y)<|rlc (.own _ Y)<|rlc (.dat Y)<|rlc (.dat Y)<|rlc (.dat Y)<|rlc (.dat Y)<|rlc (.dat Y) rln)<|.cons Y (roO Xj)<|.cons Y (roM D83) .nil)⟩
   ·
    refine Tr<|Rm Y<|Ra Y<|Ra Y<|Za<|?_
    obtain rfl := rt h
    exact Zi<|ZaU [some 0, some 1, some 2] Y (.cons (.tmp Y)<|.cons (.tmp Y) .nil) (.cons Y (ro1 (by exact tZ_80.symm)<|rlc (.own _ Y)<|rlc (.own _ Y)<|rlc (.dat Y)<|rlc (.dat Y)<|rlc (.dat Y)<|rlc (.dat Y)<|rlc (.dat Y) rln)<|.cons Y (roO Xj)<|.cons Y (roM D83) .nil) Y Y<|QV<|rlc (.ptr _ _ _ Y)<|rlc (.dat Y) rln
end Go.Proofs.YtjfoenlooacoiaaDoor
