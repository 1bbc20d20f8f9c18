/- A text of the proof: a verified executor of the program form, or the contracts of the functions that the law reaches. -/
import Derived.Test.YtnlmjeleocelgaaGreatDoorOkRc
set_option linter.all false
namespace Go.Proofs.YtnlmjeleocelgaaGreatDoor
open Go Go.Vx
set_option maxRecDepth 10000
set_option maxHeartbeats 1000000
set_option linter.unusedVariables false
theorem ZdR {r_ : ring_Recorder} {r : (List api_Memory)} (h : Xa r_ = some r) :
 GSpec Tryz.prog gl0 16 [.ptr 0 1 0 0] [some ⟨102, [[.own 1 r_.bank.memories.length, .own 2 r_.bank.spots.length, .int .i64 r_.copies, .bool r_.frozen, .bool r_.stopped, .int .i64 r_.last, .bool r_.some_]]⟩, some ⟨26, List.map O26 r_.bank.memories⟩, some ⟨105, List.map R105 r_.bank.spots⟩] (.sl 26 (List.map R26 r)) [some ⟨102, [[.sl 26 (List.map R26 r_.bank.memories), .own 3 r_.bank.spots.length, .int .i64 r_.copies, .bool r_.frozen, .bool r_.stopped, .int .i64 r_.last, .bool r_.some_]]⟩, none, none, some ⟨105, List.map R105 r_.bank.spots⟩] := by
 unfold Xa at h
 replace h := Qk h
 refine QZ (by kernel_rfl) Tryz.func16 Y Y<|?_
 intro w0 A W φ0
 refine ZgW (Ent.sel [some 0, some 1, some 2, some 1, some 2] (sr 0 Y (.ptr (r' := 0) _ _ _ Y) sn) (.cons Y (ro1 (by exact tZ_102.symm)<|rlc (.own (r' := 3) _ Y)<|rlc (.own (r' := 4) _ Y)<|rlc (.dat Y)<|rlc (.dat Y)<|rlc (.dat Y)<|rlc (.dat Y)<|rlc (.dat Y) rln)<|.dead<|.dead<|.cons Y (roO Jn)<|.cons Y (roM D105) .nil) Y Y)<|XC [some ⟨102, [[.own 3 r_.bank.memories.length, .own 4 r_.bank.spots.length, .int .i64 r_.copies, .bool r_.frozen, .bool r_.stopped, .int .i64 r_.last, .bool r_.some_]]⟩, none, none, some ⟨26, List.map O26 r_.bank.memories⟩, some ⟨105, List.map R105 r_.bank.spots⟩] Y<|Tr<|Ra Y<|Za<|Tr<|Rm Y<|Rq Y (ZA (ov Y) Y Y)<|Rq Y (Zi (ov Y) Y Y Zew)<|Rq Y (Zi (ov Y) Y Y ZdS)<|Rq Y (Zw (ov Y) Y Y Y Zku Y)<|bE h fun y h_y h=>Xn (Ent.meltO (r := 3) Y Jn (fun x=>(D26 x).1) ZlK)<|Xn (Ent.sel [some 0, some 1, some 2, none, some 4] (sr 0 Y (.ptr (r' := 0) _ _ _ Y)<|sd 2 Y Y<|sr 3 Y (.ptr (r' := 0) _ _ _ Y)<|sr 4 Y (.ptr (r' := 0) _ _ _ Y)<|sr 5 Y (.ptr (r' := 0) _ _ _ Y)<|sr 6 Y (.ptr (r' := 0) _ _ _ Y)<|sr 7 Y (Zp9 Y Y Y D26) sn) (.cons Y (ro1 (by exact tZ_102.symm)<|rlc (Zp9 Y Y Y D26)<|rlc (.own (r' := 4) _ Y)<|rlc (.dat Y)<|rlc (.dat Y)<|rlc (.dat Y)<|rlc (.dat Y)<|rlc (.dat Y) rln)<|.dead<|.dead<|.row 26<|.cons Y (roM D105) .nil) Y Y)<|Rq Y (Zn (ZiS h_y)<|.cons (ov Y) (.b Y) .nil)<|Ra Y<|Za<|?_
 obtain rfl := rt h
 exact Zo<|ZbQ [some 0, some 1, some 2, some 4] Y (.cons (.tmp Y) .nil) (.cons Y (ro1 (by exact tZ_102.symm)<|rlc (.dat Y)<|rlc (.own _ Y)<|rlc (.dat Y)<|rlc (.dat Y)<|rlc (.dat Y)<|rlc (.dat Y)<|rlc (.dat Y) rln)<|.dead<|.dead<|.cons Y (roM D105) .nil) Y Y<|.dat Y
theorem ZiO {p : Vector Int 96} {i : Int} {r : Int} (h : Zad p i = some r) :
 CSpec Tryz.prog gl0 139 [.rp (List.map C5 p.toList) 0, .int .i64 i] (.int .u16 r) := by
 unfold Zad at h
 replace h := Qk h
 refine So Tryz.func139 Y fun w0 A=>Tr<|Ra Y<|Za<|K2 0 1 Y<|Tr<|Rm Y<|bE h fun q h_q h=>Rq Y (Zc2 (ov Y) (ov Y) h_q)<|R2 Zds Y<|Ra Y<|Za<|Zg<|K3 0 1 5 Y<|Tr<|Rm Y<|bE h fun q2 h_q2 h=>Rq Y (Jr (ov Y) (ov Y) h_q2)<|R2 Zaw Y<|Za<|K3 0 5 11 Y<|If h Y (fun h=>?_) fun h=>?_
 ·
  refine Zg<|K2 0 5 Y<|Qd (cw := md0) (by kernel_rfl)<|D1 0 Zc Y<|D1 1 Zc Y<|D1 2 ZQ Y<|bE h fun x h_x h=>Dq 3 Y (QM (ov Y) (ov Y) ZeB h_x)<|Dq 4 Y (Zd (ov Y) tS5<|Qn<|Xe (o := 0) (o' := ((i64 (q * 3)).toNat * 1)) (Zq arL)<|Q9 h_x)<|Dq 5 Y (Z4 (ov Y) tI5 Zcx Y)<|bE h fun q3 h_q3 h=>Dq 6 Y (Ze9 (ov Y) (ov Y) h_q3)<|D1 7 Zc Y<|D1 8 Zc Y<|D2 9 ZF Y<|D1 10 ZQ Y<|bE h fun x2 h_x2 h=>Dq 11 Y (QM (ov Y) (ov Y) ZeB h_x2)<|Dq 12 Y (Zd (ov Y) tS5<|Qn<|Xe (o := 0) (o' := ((i64 ((i64 (q * 3)) + 1)).toNat * 1)) (Zq arL)<|Q9 h_x2)<|Dq 13 Y (Z4 (ov Y) tI5 Zcx Y)<|bE h fun q4 h_q4 h=>Dq 14 Y (ZaU (ov Y) (ov Y) h_q4)<|D2 15 ZgQ Y<|D1 16 Qp Y<|Dd<|?_
  obtain rfl := rt h
  exact Zo (ZG Y (.one<|rb Y))
 ·
  refine Zf<|Zg<|K2 0 5 Y<|Qd (cw := md0) (by kernel_rfl)<|D1 0 Zc Y<|D1 1 Zc Y<|D2 2 ZF Y<|D1 3 ZQ Y<|bE h fun x3 h_x3 h=>Dq 4 Y (QM (ov Y) (ov Y) ZeB h_x3)<|Dq 5 Y (Zd (ov Y) tS5<|Qn<|Xe (o := 0) (o' := ((i64 ((i64 (q * 3)) + 1)).toNat * 1)) (Zq arL)<|Q9 h_x3)<|Dq 6 Y (Z4 (ov Y) tI5 Zcx Y)<|D2 7 ZbO Y<|bE h fun q5 h_q5 h=>Dq 8 Y (Ze9 (ov Y) (ov Y) h_q5)<|D1 9 Zc Y<|D1 10 Zc Y<|D2 11 ZF Y<|D1 12 ZQ Y<|bE h fun x4 h_x4 h=>Dq 13 Y (QM (ov Y) (ov Y) ZeB h_x4)<|Dq 14 Y (Zd (ov Y) tS5<|Qn<|Xe (o := 0) (o' := ((i64 ((i64 (q * 3)) + 2)).toNat * 1)) (Zq arL)<|Q9 h_x4)<|Dq 15 Y (Z4 (ov Y) tI5 Zcx Y)<|D2 16 ZgQ Y<|D1 17 Qp Y<|Dd<|?_
  obtain rfl := rt h
  exact Zo (ZG Y (.one<|rb Y))
theorem ZjU {p : Vector Int 96} {r : (Vector Int 64)} (h : ZbS p = some r) :
 CSpec Tryz.prog gl0 118 [.rp (List.map C5 p.toList) 0] (.agg (List.map C40 r.toList)) := by
 unfold ZbS at h
 replace h := Qk h
 refine So Tryz.func118 Y fun w0 A=>Tr<|Rx Y (Z3 (row := (List.map C40 (Vector.replicate 64 0).toList)) 0 Y Zd8 Y tZ_42)<|Za<|Tr<|Rx Y (Z3 (row := (List.map C40 (Vector.replicate 64 0).toList)) 1 Y Zd8 Y tZ_42)<|Za<|I1 (fun f=>⟨[(2, .ptr 0 1 0 0), (3, .ptr 1 1 0 0)], [some ⟨42, [(List.map C40 (Vector.replicate 64 0).toList)]⟩, some ⟨42, [(List.map C40 f.toList)]⟩]⟩) h (fun h=>?_) fun f h=>?_
 ·
  refine Tr<|Rm Y<|Za<|Ze<|?_
  obtain ⟨r1, hl1, ho1⟩ := QE h
  refine L2 (fun f2 i=>⟨[(0, .rp (List.map C5 p.toList) 0), (2, .ptr 0 1 0 0), (3, .ptr 1 1 0 0), (5, .int .i64 i)], [some ⟨42, [(List.map C40 (Vector.replicate 64 0).toList)]⟩, some ⟨42, [(List.map C40 f2.toList)]⟩]⟩) hl1 (ES [some 0, some 1]) fun n1 f2 i h=>?_
  unfold JF at h
  refine Tr<|R2 ZD Y<|Za<|Zg<|If h Y (fun h=>?_) fun h=>?_
  ·
   exact Zf<|Zg<|Ze<|K4 0 2 3 5 Y<|Tr<|Rm Y<|Ra Y<|Za<|K5 0 2 3 4 5 Y<|Zp<|Rm Y<|Rm Y<|Rm Y<|bE h fun y h_y h=>Rq Y (Zn (ZiO h_y)<|.cons (ov Y) (.b Y)<|.cons (ov Y) (.b Y) .nil)<|bE h fun x h_x h=>Rq Y (JX (ov Y) (ov Y) Jk Y Y h_x)<|Rx Y (Zl (ov Y) (ov Y) (Zh Zae) Y Y Y (arB h_x) (Zb Y)<|arS h_x)<|Za<|K4 0 2 3 5 Y<|Zp<|R2 ZF Y<|Rm Y<|Za<|⟨_, h, ES [some 0, some 1]⟩
  ·
   refine Zz<|?_
   replace h := lx h ▸ ho1
   exact ⟨_, h, ES [some 0, some 1]⟩
 ·
  refine Tr<|Rq Y (Qe (ov Y) Y Y Y QR (ZW<|Zq arL) arL (hns := (nsM fun _ => Y)))<|Rx Y (Zl (ov Y) (ov Y) (Zv QR arL) Y Y Y (Xt (Zq arL) arL) (Zb<|arC fun _ => Y)<|QS<|Eq.trans arL<|Eq.symm arL)<|Za<|?_
  obtain rfl := rt h
  exact Zo (ZG Y (.one<|.agg Y Y Y Y QR (ZW<|Zq arL) arL (pwB<|arD fun _ => Y) (hns := (nsM fun _ => Y))))
theorem Zg1 {b : List Int} {r : (Vector Int 64) × Int} (h : Xg b = some r) :
 CSpec Tryz.prog gl0 79 [.sl 5 (List.map R5 b)] (.tuple [.agg (List.map C40 r.1.toList), .int .i64 r.2]) := by
 unfold Xg at h
 replace h := Qk h
 refine So Tryz.func79 Y fun w0 A=>Tr<|Rx Y (Z3 (row := (List.map C40 (Vector.replicate 64 0).toList)) 0 Y Zd8 Y tZ_42)<|Ra Y<|Za<|Zg<|K2 0 2 Y<|Tr<|Rm Y<|Rl tZ_5 QF Y<|R2 ZD Y<|Za<|K3 0 2 7 Y<|If h Y (fun h=>?_) fun h=>?_
 ·
  refine K1 2 Y<|Tr<|R_q (.agg<|List.map C40 (#v[0, 0, 0, 0, 0, 0, 0, 0, 0, 0, 0, 0, 0, 0, 0, 0, 0, 0, 0, 0, 0, 0, 0, 0, 0, 0, 0, 0, 0, 0, 0, 0, 0, 0, 0, 0, 0, 0, 0, 0, 0, 0, 0, 0, 0, 0, 0, 0, 0, 0, 0, 0, 0, 0, 0, 0, 0, 0, 0, 0, 0, 0, 0, 0] : Vector Int 64).toList) Y (ZbA (ys := [_, _, _, _, _, _, _, _, _, _, _, _, _, _, _, _, _, _, _, _, _, _, _, _, _, _, _, _, _, _, _, _, _, _, _, _, _, _, _, _, _, _, _, _, _, _, _, _, _, _, _, _, _, _, _, _, _, _, _, _, _, _, _, _]) Jk Zd8 .nil Y)<|Rx Y (Zl (ov Y) (ov Y) (Zv QR arL) Y Y Y (Xt (Zq arL) arL) (Zb<|arC fun _ => Y)<|QS<|Eq.trans arL<|Eq.symm arL)<|Ra Y<|Za<|?_
  obtain rfl := rt h
  exact Zo (ZG Y (.two (.agg Y Y Y Y QR (ZW<|Zq arL) arL (pwB<|arD fun _ => Y) (hns := (nsM fun _ => Y)))<|rb Y))
 ·
  refine Zf<|K2 0 2 Y<|Tr<|Rm Y<|bE h fun l h_l h=>Rq Y (Zgj (ov Y) QF on (oi<|ov Y) h_l)<|bE h fun v h_v h=>Rq Y (Zlv (f := C5) (ov Y) ZeB tZ_5 Y h_v)<|Rq Y (Z6 (ov Y) ZoR (ZW<|Zq arL) arL)<|Rx Y (Z3 (row := (List.map C5 (Vector.replicate 96 0).toList)) 1 Y ZoY Y tZ_157)<|Rx Y (Zl (ov Y) (ov Y) (Zv ZoR arL) Y Y Y (Xt (Zq arL) arL) (Zb<|arC fun _ => Y)<|QS<|Eq.trans arL<|Eq.symm arL)<|Za<|K2 2 4 Y<|Tr<|bE h fun y h_y h=>Rq Y (ZdL (ZjU h_y) (Zlq fun _=>.int)<|.cons (ov Y) (View.ptr Y Y Y (pwB<|arD fun _ => Y) (hns := (nsM fun _ => Y))) .nil)<|Rx Y (Zl (ov Y) (ov Y) (Zv QR arL) Y Y Y (Xt (Zq arL) arL) (Zb<|arC fun _ => Y)<|QS<|Eq.trans arL<|Eq.symm arL)<|Ra Y<|Za<|?_
  obtain rfl := rt h
  exact Zo (ZG Y (.two (.agg Y Y Y Y QR (ZW<|Zq arL) arL (pwB<|arD fun _ => Y) (hns := (nsM fun _ => Y)))<|rb Y))
theorem ZfI {l : List api_Memory} {r : (List api_Kept) × Int} (h : JD l = some r) :
 CSpec Tryz.prog gl0 26 [.sl 26 (List.map R26 l)] (.tuple [.sl 65 (List.map R65 r.1), .int .i64 r.2]) := by
 unfold JD at h
 replace h := Qk h
 refine So Tryz.func26 Y fun w0 A=>Tr<|Ra Y<|Ra Y<|Za<|Zg<|K1 0 Y<|Tr<|Rm Y<|bE h fun y h_y h=>Rq Y (Zn (Zc4 h_y)<|.cons (ov Y) (.b Y) .nil)<|Ra Y<|Za<|K2 0 4 Y<|Tr<|Rm Y<|R2 Q2 Y<|Za<|K3 0 4 20 Y<|If h Y (fun h=>?_) fun h=>?_
 ·
  refine K1 4 Y<|Tr<|Rm Y<|Ra Y<|Ra Y<|Za<|?_
  obtain rfl := rt h
  exact Zo (ZG Y (.two (.tmp Y<|View.nils 65)<|rb Y))
 ·
  refine Zf<|K1 0 Y<|Tr<|Ra Y<|Za<|I1 (fun out=>⟨[(5, .own 0 out.length)], [some ⟨65, List.map R65 out⟩]⟩) h (fun h=>?_) fun out h=>?_
  ·
   refine Tr<|Rm Y<|Rl tZ_26 Zaz Y<|Rm Y<|Za<|Ze<|?_
   obtain ⟨r1, hl1, ho1⟩ := QE h
   refine L2 (fun out2 i=>⟨[(5, .own 0 out2.length), (22, .sl 26 (List.map R26 l)), (23, .int .i64 (l.length : Int)), (24, .int .i64 i)], [some ⟨65, List.map R65 out2⟩]⟩) hl1 (ES [none]) fun n1 out2 i h=>?_
   unfold XO at h
   refine Tr<|R2 ZD Y<|Za<|Zg<|If h Y (fun h=>?_) fun h=>?_
   ·
    refine Zf<|I1 (fun out3=>⟨[(5, .own 0 out3.length), (22, .sl 26 (List.map R26 l)), (23, .int .i64 (l.length : Int)), (24, .int .i64 i)], [some ⟨65, List.map R65 out3⟩]⟩) h (fun h=>?_) fun out3 h=>?_
    ·
     refine Ze<|K4 5 22 23 24 Y<|Tr<|Rm Y<|bE h fun x h_x h=>Rq Y (ZS (ov Y) (ov Y) Zaz h_x)<|Rq Y (Z6 (ov Y) X5 Y Y)<|Rx Y (Z3 (row := [_, _, _, _, _]) 1 Y Zdx Y tZ_26)<|Ra Y<|Rx Y (Zl (ov Y) (ov Y) (Zv X5 Y) Y Y Y (Nat.le_of_ble_eq_true Y) (Zb Y) Y)<|Za<|K6 5 6 7 22 23 24 Y<|Tr<|Rq Y (Qe (ov Y) Y Y Y X5 Y Y)<|bE h fun y2 h_y2 h=>Rq Y (Zn (ZfJ h_y2)<|.cons (ov Y) (.aggB Y) .nil)<|Rl tZ_3 QK Y<|Rm Y<|Za<|Ze<|?_
     obtain ⟨r2, hl2, ho2⟩ := QE h
     refine L2 (fun out4 i2=>⟨[(5, .own 0 out4.length), (6, .int .i64 i), (7, .ptr 1 1 0 0), (22, .sl 26 (List.map R26 l)), (23, .int .i64 (l.length : Int)), (24, .int .i64 i), (30, .sl 3 (List.map R3 y2)), (31, .int .i64 (y2.length : Int)), (32, .int .i64 i2)], [some ⟨65, List.map R65 out4⟩, some ⟨26, [[.int .i64 x.Slots, .int .i64 x.Limit, .sl 49 (List.map R49 x.Sectors), .sl 3 (List.map R3 x.Wear), .sl 4 (List.map R4 x.Bad)]]⟩]⟩) hl2 (ES [some 0, some 1]) fun n2 out4 i2 h=>?_
     unfold XS at h
     refine Tr<|R2 ZD Y<|Za<|Zg<|If h Y (fun h=>?_) fun h=>?_
     ·
      refine Zf<|I1 (fun out5=>⟨[(5, .own 0 out5.length), (6, .int .i64 i), (7, .ptr 1 1 0 0), (22, .sl 26 (List.map R26 l)), (23, .int .i64 (l.length : Int)), (24, .int .i64 i), (30, .sl 3 (List.map R3 y2)), (31, .int .i64 (y2.length : Int)), (32, .int .i64 i2)], [some ⟨65, List.map R65 out5⟩, some ⟨26, [[.int .i64 x.Slots, .int .i64 x.Limit, .sl 49 (List.map R49 x.Sectors), .sl 3 (List.map R3 x.Wear), .sl 4 (List.map R4 x.Bad)]]⟩]⟩) h (fun h=>?_) fun out5 h=>?_
      ·
       refine Ze<|K9 5 6 7 22 23 24 30 31 32 Y<|Tr<|bE h fun x2 h_x2 h=>Rq Y (ZS (ov Y) (ov Y) QK h_x2)<|Rq Y (Zd (ov Y) tS3 Y)<|Ra Y<|Za<|K10 5 6 7 9 22 23 24 30 31 32 Y<|Tr<|Rq Y (Zi (ov Y) Y Y ZP)<|Rq Y (Zw (ov Y) Y Y Y Qw Y)<|Rm Y<|bE h fun x3 h_x3 h=>Rq Y (ZS (ov Y) (ov Y) Qm h_x3)<|Rq Y (Zd (ov Y) ZfN Y)<|bE h fun y3 h_y3 h=>Rq Y (Zn (Zb6 h_y3)<|.cons (ov Y) (.b Y) .nil)<|Rm Y<|Rq Y (Zj (ov Y) Y)<|Rq Y (Zj (ov Y) Y)<|Rq Y (Zj (ov Y) Y)<|Ra Y<|Ra Y<|Ra Y<|Za<|K11 5 6 7 9 10 22 23 24 30 31 32 Y<|Tr<|Rq Y (Zi (ov Y) Y Y ZeK)<|Rq Y (Zw (ov Y) Y Y Y tS3 Y)<|Rm Y<|Za<|Ze<|?_
       obtain ⟨r3, hl3, ho3⟩ := QE h
       refine L2 (fun out6 i3=>⟨[(5, .own 0 out6.length), (6, .int .i64 i), (7, .ptr 1 1 0 0), (9, .int .i64 x2), (10, .int .i64 y3.1), (22, .sl 26 (List.map R26 l)), (23, .int .i64 (l.length : Int)), (24, .int .i64 i), (30, .sl 3 (List.map R3 y2)), (31, .int .i64 (y2.length : Int)), (32, .int .i64 i2), (47, .int .i64 x.Slots), (48, .int .i64 i3)], [some ⟨65, List.map R65 out6⟩, some ⟨26, [[.int .i64 x.Slots, .int .i64 x.Limit, .sl 49 (List.map R49 x.Sectors), .sl 3 (List.map R3 x.Wear), .sl 4 (List.map R4 x.Bad)]]⟩]⟩) hl3 (ES [some 0, some 1]) fun n3 out6 i3 h=>?_
       unfold XR at h
       refine Tr<|R2 ZD Y<|Za<|Zg<|If h Y (fun h=>?_) fun h=>?_
       ·
        refine Zf<|Zg<|Ze<|Xk (kc 5 Y<|kc 6 Y<|kc 7 Y<|kc 9 Y<|kc 10 Y<|kc 22 Y<|kc 23 Y<|kc 24 Y<|kc 30 Y<|kc 31 Y<|kc 32 Y<|kc 47 Y<|kc 48 Y kn) Y<|Tr<|Rm Y<|Ra Y<|Za<|Xk (kc 5 Y<|kc 6 Y<|kc 7 Y<|kc 9 Y<|kc 10 Y<|kc 13 Y<|kc 22 Y<|kc 23 Y<|kc 24 Y<|kc 30 Y<|kc 31 Y<|kc 32 Y<|kc 47 Y<|kc 48 Y kn) Y<|Tr<|Rq Y (Zi (ov Y) Y Y ZP)<|Rq Y (Zw (ov Y) Y Y Y Qw Y)<|Rm Y<|bE h fun x4 h_x4 h=>Rq Y (ZS (ov Y) (ov Y) Qm h_x4)<|Rq Y (Zd (ov Y) ZfN Y)<|Rm Y<|bE h fun y4 h_y4 h=>Rq Y (Zn (Zf9 h_y4)<|.cons (ov Y) (.b Y)<|.cons (ov Y) (.b Y) .nil)<|Ra Y<|Za<|Xk (kc 5 Y<|kc 6 Y<|kc 7 Y<|kc 9 Y<|kc 10 Y<|kc 13 Y<|kc 14 Y<|kc 22 Y<|kc 23 Y<|kc 24 Y<|kc 30 Y<|kc 31 Y<|kc 32 Y<|kc 47 Y<|kc 48 Y kn) Y<|Tr<|Rm Y<|bE h fun y5 h_y5 h=>Rq Y (Zn (Zfy h_y5)<|.cons (ov Y) (.b Y) .nil)<|R2 Zaw Y<|Za<|Xk (kc 5 Y<|kc 6 Y<|kc 7 Y<|kc 9 Y<|kc 10 Y<|kc 13 Y<|kc 14 Y<|kc 22 Y<|kc 23 Y<|kc 24 Y<|kc 30 Y<|kc 31 Y<|kc 32 Y<|kc 47 Y<|kc 48 Y<|kc 60 Y kn) Y<|If h Y (fun h=>?_) fun h=>?_
        ·
         exact Xk (kc 5 Y<|kc 6 Y<|kc 7 Y<|kc 9 Y<|kc 10 Y<|kc 13 Y<|kc 14 Y<|kc 22 Y<|kc 23 Y<|kc 24 Y<|kc 30 Y<|kc 31 Y<|kc 32 Y<|kc 47 Y<|kc 48 Y kn) Y<|Tr<|Rm Y<|R1 ZQ Y<|bE h fun l2 h_l2 h=>Rq Y (Zl2 (f := C5) (ov Y) ZlX tZ_5 (Zq arL) Y on on h_l2)<|bE h fun y6 h_y6 h=>Rq Y (Zn (Zg1 h_y6)<|.cons (ov Y) (.b Y) .nil)<|Rm Y<|Rq Y (Zj (ov Y) Y)<|Rq Y (Zj (ov Y) Y)<|Rx Y (Z3 (row := (List.map C40 (Vector.replicate 64 0).toList)) 2 Y Zd8 Y tZ_42)<|Rx Y (Zl (ov Y) (ov Y) (Zv QR arL) Y Y Y (Xt (Zq arL) arL) (Zb<|arC fun _ => Y)<|QS<|Eq.trans arL<|Eq.symm arL)<|Ra Y<|Za<|Xk (kc 5 Y<|kc 6 Y<|kc 7 Y<|kc 9 Y<|kc 10 Y<|kc 13 Y<|kc 15 Y<|kc 22 Y<|kc 23 Y<|kc 24 Y<|kc 30 Y<|kc 31 Y<|kc 32 Y<|kc 47 Y<|kc 48 Y kn) Y<|Zp<|Rm Y<|Rm Y<|Rm Y<|Rm Y<|Rm Y<|Rq Y (Qe (ov Y) Y Y Y QR (ZW<|Zq arL) arL (hns := (nsM fun _ => Y)))<|Rq Y (ZkV (zr := (.int .i64 0) :: (.int .i64 0) :: (.int .i64 0) :: (.int .i64 0) :: ((List.map C40 (Vector.replicate 64 0).toList) ++ ([]))) ZoS ZoV ZmI (by kernel_rfl) (.cons (cvs (ov Y)<|Zk Y)<|.cons (cvs (ov Y)<|Zk Y)<|.cons (cvs (ov Y)<|Zk Y)<|.cons (cvs (ov Y)<|Zk Y)<|.cons (cva<|ov Y) .nil)<|Zdd Y Y at1 pt2<|Zdd Y Y at3 pt4<|Zdd Y Y at5 pt6<|Zdd Y Y at7 pt8<|Zdd Y arL at9 Zqd ZmV)<|R_q (.sl 65<|List.map R65 ([(api_Kept.mk i x2 y3.1 i3 y6.1)] : List api_Kept)) Y (Xw ZcV (.cons (cva<|ov Y) Q8 (pwD Ze7) .nil) Y Y)<|bE h fun l3 h_l3 h=>Rx Y (Qo (ov Y) (QD (ov Y) tZ_65) ZcV Y Y Y (fun x=>Zb<|E65 x) Y h_l3)<|Ra Y<|Za<|Xk (kc 5 Y<|kc 6 Y<|kc 7 Y<|kc 9 Y<|kc 10 Y<|kc 22 Y<|kc 23 Y<|kc 24 Y<|kc 30 Y<|kc 31 Y<|kc 32 Y<|kc 47 Y<|kc 48 Y kn) Y<|Zp<|R2 ZF Y<|Rm Y<|Za<|⟨_, h, ES [some 0, some 1]⟩
        ·
         exact Zf<|Xk (kc 5 Y<|kc 6 Y<|kc 7 Y<|kc 9 Y<|kc 10 Y<|kc 22 Y<|kc 23 Y<|kc 24 Y<|kc 30 Y<|kc 31 Y<|kc 32 Y<|kc 47 Y<|kc 48 Y kn) Y<|Zp<|R2 ZF Y<|Rm Y<|Za<|⟨_, h, ES [some 0, some 1]⟩
       ·
        refine Zz<|?_
        replace h := lx h ▸ ho3
        exact ⟨_, h, ES [some 0, some 1]⟩
      ·
       exact Zp<|R2 ZF Y<|Rm Y<|Za<|⟨_, h, ES [some 0, some 1]⟩
     ·
      refine Zz<|?_
      replace h := lx h ▸ ho2
      exact ⟨_, h, ES [some 0]⟩
    ·
     exact Zp<|R2 ZF Y<|Rm Y<|Za<|⟨_, h, ES [some 0]⟩
   ·
    refine Zz<|?_
    replace h := lx h ▸ ho1
    exact ⟨_, h, ES [some 0]⟩
  ·
   refine Tr<|Rm Y<|Ra Y<|Ra Y<|Za<|?_
   obtain rfl := rt h
   exact Zo (ZG Y (.two (.tmp Y<|View.ownM Y Y D65)<|rb Y))
theorem ZmD {xs r : List Int} (h : ZgY xs = some r) :
    GSpec Tryz.prog gl0 83 [.own 0 xs.length] [some ⟨3, List.map R3 xs⟩] (.tuple []) [some ⟨3, List.map R3 r⟩] :=
  ZnJ (g := R3) (fun _ => rfl) (by kernel_rfl) tZ_3 (fun _ _ _ _ _ h1 h2 h3 => Any.slices_Sort_int Tryz.lays189 _ _ _ _ _ h1 h2 h3) (fun p c w => Any.slices_Sort_int_none Tryz.lays189 p c w) h
theorem Zgi {l : List api_Memory} {r : (List (Vector Int 64)) × Int} (h : J5 l = some r) :
 CSpec Tryz.prog gl0 29 [.sl 26 (List.map R26 l)] (.tuple [.sl 42 (List.map R42 r.1), .int .i64 r.2]) := by
 unfold J5 at h
 replace h := Qk h
 refine So Tryz.func29 Y fun w0 A=>Tr<|Ra Y<|Ra Y<|Za<|K1 0 Y<|Tr<|Rm Y<|bE h fun y h_y h=>Rq Y (Zn (ZfI h_y)<|.cons (ov Y) (.b Y) .nil)<|Rm Y<|Rq Y (Zj (ov Y) Y)<|Rq Y (Zj (ov Y) Y)<|Ra Y<|Ra Y<|Za<|Zg<|K2 4 5 Y<|Tr<|Rm Y<|R2 Q2 Y<|Za<|K3 4 5 23 Y<|If h Y (fun h=>?_) fun h=>?_
 ·
  refine K1 5 Y<|Tr<|Rm Y<|Ra Y<|Ra Y<|Za<|?_
  obtain rfl := rt h
  exact Zo (ZG Y (.two (.tmp Y<|View.nils 42)<|rb Y))
 ·
  refine Zf<|K1 4 Y<|Tr<|Rx Y (Zmu 0 Y Zkv)<|Ra Y<|Za<|K2 4 6 Y<|Tr<|Ra Y<|Za<|I2 (fun best numbers=>⟨[(6, .mref 0 1), (7, .own 1 numbers.length)], [some ⟨127, [[.mcon (List.map (Zbu FK3 ZgJ) best)]]⟩, some ⟨3, List.map R3 numbers⟩]⟩) h (fun h=>?_) fun best numbers h=>?_
  ·
   refine Tr<|Rm Y<|Rl tZ_65 ZcV Y<|Rm Y<|Za<|Ze<|?_
   obtain ⟨r1, hl1, ho1⟩ := QE h
   refine L3 (fun best2 numbers2 i=>⟨[(6, .mref 0 1), (7, .own 1 numbers2.length), (26, .sl 65 (List.map R65 y.1)), (27, .int .i64 (y.1.length : Int)), (28, .int .i64 i)], [some ⟨127, [[.mcon (List.map (Zbu FK3 ZgJ) best2)]]⟩, some ⟨3, List.map R3 numbers2⟩]⟩) hl1 (ES [some 0, none] (hhp := .cons Y (Zhz (fk := FK3) (fv := ZgJ) (m := ([] : List (Int × api_Kept))) tZ_127 (fun _=>.dat Y) fun _=>.ren<|ZfQ<|rld Ze7)<|.row 3 .nil)) fun n1 best2 numbers2 i h=>?_
   unfold QY at h
   refine Tr<|R2 ZD Y<|Za<|Zg<|If h Y (fun h=>?_) fun h=>?_
   ·
    refine Zf<|Zg<|Ze<|K5 6 7 26 27 28 Y<|Tr<|bE h fun x h_x h=>Rq Y (ZS (ov Y) (ov Y) ZcV h_x)<|Rq Y (Z6 (ov Y) Zhc (ZW<|Zq Q8) Q8)<|Rx Y (Z3 (row := (.int .i64 0) :: (.int .i64 0) :: (.int .i64 0) :: (.int .i64 0) :: ((List.map C40 (Vector.replicate 64 0).toList) ++ ([]))) 2 Y ZmI (by kernel_rfl)<|by exact Eq.symm (Eq.trans (b := 68) Q8 tZ_65.symm))<|Rx Y (Zl (ov Y) (ov Y) (Zv Zhc Q8) Y Y Y (Xt (Zq Q8) Q8) (Zb ZlO)<|QS<|Eq.trans Q8<|Eq.symm Q8)<|Za<|Zg<|K6 6 7 9 26 27 28 Y<|Tr<|Rq Y (Zi (ov Y) Y Y Zhf)<|Rq Y (Qe (ov Y) Y Y Y QR (ZW at9) arL (hns := (nsM fun _ => Y)))<|bE h fun y2 h_y2 h=>Rq Y (Zn (Zf3 h_y2)<|.cons (ov Y) (.aggB<|arD fun _ => Y) .nil)<|Rl tZ_149 Zat Y<|R2 Za8 Y<|Za<|K7 6 7 9 26 27 28 36 Y<|If h Y (fun h=>?_) fun h=>?_
    ·
     exact Zz<|K5 6 7 26 27 28 Y<|Zp<|R2 ZF Y<|Rm Y<|Za<|⟨_, h, ES [some 0, some 1] (hhp := .cons Y (Zhz (fk := FK3) (fv := ZgJ) (m := best2) tZ_127 (fun _=>.dat Y) fun _=>.ren<|ZfQ<|rld Ze7)<|.cons Y (roM D3) .nil)⟩
    ·
     refine Zf<|K6 6 7 9 26 27 28 Y<|Tr<|Rq Y (Zi (ov Y) Y Y Zhf)<|Rq Y (Qe (ov Y) Y Y Y QR (ZW at9) arL (hns := (nsM fun _ => Y)))<|bE h fun y3 h_y3 h=>Rq Y (Zn (ZfF h_y3)<|.cons (ov Y) (.aggB<|arD fun _ => Y) .nil)<|Rm Y<|Rq Y (Zj (ov Y) Y)<|Rq Y (Zj (ov Y) Y)<|Ra Y<|Ra Y<|Za<|K7 6 7 9 10 26 27 28 Y<|Tr<|Rm Y<|Rm Y<|bE h fun o h_o h=>Rq Y (Zqb (m := best2) (fk := FK3) (fv := ZgJ) (k := y3.1) (z0 := (api_Kept.mk 0 0 0 0 (Vector.replicate 64 0))) (ov Y) (ov Y) Zkv Zpn Y (fun _=>.b Y) (Zli ZoZ Y) (fun _ _=>Y) h_o)<|Rm Y<|Rq Y (Zj (ov Y) Y)<|Rq Y (Zj (ov Y) Y)<|Rx Y (Z3 (row := (.int .i64 0) :: (.int .i64 0) :: (.int .i64 0) :: (.int .i64 0) :: ((List.map C40 (Vector.replicate 64 0).toList) ++ ([]))) 3 Y ZmI (by kernel_rfl)<|by exact Eq.symm (Eq.trans (b := 68) Q8 tZ_65.symm))<|Rx Y (Zl (ov Y) (ov Y) (Zv Zhc Q8) Y Y Y (Xt (Zq Q8) Q8) (Zb ZlO)<|QS<|Eq.trans Q8<|Eq.symm Q8)<|Ra Y<|Za<|I1 (fun numbers3=>⟨[(6, .mref 0 1), (7, .own 1 numbers3.length), (9, .ptr 2 1 0 0), (10, .int .i64 y3.1), (12, .ptr 3 1 0 0), (13, .bool o.isSome), (26, .sl 65 (List.map R65 y.1)), (27, .int .i64 (y.1.length : Int)), (28, .int .i64 i)], [some ⟨127, [[.mcon (List.map (Zbu FK3 ZgJ) best2)]]⟩, some ⟨3, List.map R3 numbers3⟩, some ⟨65, [(.int .i64 x.Memory) :: (.int .i64 x.Sector) :: (.int .i64 x.Sequence) :: (.int .i64 x.Slot) :: ((List.map C40 x.Frame.toList) ++ ([]))]⟩, some ⟨65, [(.int .i64 ((o.getD (api_Kept.mk 0 0 0 0 (Vector.replicate 64 0))).Memory)) :: (.int .i64 ((o.getD (api_Kept.mk 0 0 0 0 (Vector.replicate 64 0))).Sector)) :: (.int .i64 ((o.getD (api_Kept.mk 0 0 0 0 (Vector.replicate 64 0))).Sequence)) :: (.int .i64 ((o.getD (api_Kept.mk 0 0 0 0 (Vector.replicate 64 0))).Slot)) :: ((List.map C40 ((o.getD (api_Kept.mk 0 0 0 0 (Vector.replicate 64 0))).Frame).toList) ++ ([]))]⟩]⟩) h (fun h=>?_) fun numbers3 h=>?_
     ·
      refine K9 6 7 9 10 12 13 26 27 28 Y<|Tr<|Rm Y<|R1 XN Y<|Za<|K10 6 7 9 10 12 13 26 27 28 50 Y<|If h Y (fun h=>?_) fun h=>?_
      ·
       exact K9 6 7 9 10 12 13 26 27 28 Y<|Zp<|Rm Y<|Rm Y<|R_q (.sl 3<|List.map R3 ([y3.1] : List Int)) Y (Xw QK (.cons (cvs (ov Y)<|Zk Y) Y (.cons (.b Y) .nil) .nil) Y Y)<|bE h fun l2 h_l2 h=>Rx Y (Qo (ov Y) (QD (ov Y) tZ_3) QK Y Y Y (fun _=>Zb Y) Y h_l2)<|Ra Y<|Za<|⟨_, h, ES [some 0, some 1, some 2, some 3] (hhp := .cons Y (Zhz (fk := FK3) (fv := ZgJ) (m := best2) tZ_127 (fun _=>.dat Y) fun _=>.ren<|ZfQ<|rld Ze7)<|.cons Y (roM D3)<|.cons Y (ro1 (by exact Eq.trans (b := 68) Q8 tZ_65.symm)<|rld Ze7)<|.cons Y (ro1 (by exact Eq.trans (b := 68) Q8 tZ_65.symm)<|rld Ze7) .nil)⟩
      ·
       exact Zf<|⟨_, h, ES [some 0, some 1, some 2, some 3] (hhp := .cons Y (Zhz (fk := FK3) (fv := ZgJ) (m := best2) tZ_127 (fun _=>.dat Y) fun _=>.ren<|ZfQ<|rld Ze7)<|.cons Y (roM D3)<|.cons Y (ro1 (by exact Eq.trans (b := 68) Q8 tZ_65.symm)<|rld Ze7)<|.cons Y (ro1 (by exact Eq.trans (b := 68) Q8 tZ_65.symm)<|rld Ze7) .nil)⟩
     ·
      refine Tr<|Rm Y<|R1 XN Y<|Rm Y<|Rq Y (.guarded ((!o.isSome) == false) Y Y Y Y fun h => Zi (ov Y) Y Y Zko)<|Rq Y (.guarded ((!o.isSome) == false) Y Y Y Y fun h => Zw (ow Y h) Y Y Y tS3<|Qn at5)<|Rq Y (.guarded ((!o.isSome) == false) Y Y Y Y fun h => Zi (ov Y) Y Y Zko)<|Rq Y (.guarded ((!o.isSome) == false) Y Y Y Y fun h => Zw (ow Y h) Y Y Y tS3<|Qn at5)<|Rq Y (.guarded ((!o.isSome) == false) Y Y Y Y fun h => Za8 (ow Y h)<|ow Y h)<|Rq Y (Zdw (ov Y) fun hp=>ow Y<|gF hp)<|Za<|K8 6 7 9 10 26 27 28 63 Y<|If h Y (fun h=>?_) fun h=>?_
      ·
       exact K7 6 7 9 10 26 27 28 Y<|Zp<|Rm Y<|Rm Y<|Rq Y (Qe (ov Y) Y Y Y Zhc (ZW<|Zq Q8) Q8 (hns := Zm8))<|Rx Y (Znh (m := best2) (fk := FK3) (fv := ZgJ) (k := y3.1) (v := x) (ov Y) (ov Y) (ov Y) Zkv Zpn Y fun _=>.b Y)<|Za<|K5 6 7 26 27 28 Y<|Zp<|R2 ZF Y<|Rm Y<|Za<|⟨_, h, ES [some 0, some 1] (hhp := .cons Y (Zhz (fk := FK3) (fv := ZgJ) (m := (Zg9 kqI best2 y3.1 x)) tZ_127 (fun _=>.dat Y) fun _=>.ren<|ZfQ<|rld Ze7)<|.cons Y (roM D3) .nil)⟩
      ·
       exact Zf<|K5 6 7 26 27 28 Y<|Zp<|R2 ZF Y<|Rm Y<|Za<|⟨_, h, ES [some 0, some 1] (hhp := .cons Y (Zhz (fk := FK3) (fv := ZgJ) (m := best2) tZ_127 (fun _=>.dat Y) fun _=>.ren<|ZfQ<|rld Ze7)<|.cons Y (roM D3) .nil)⟩
   ·
    refine Zz<|?_
    replace h := lx h ▸ ho1
    exact ⟨_, h, ES [some 0, some 1] (hhp := .cons Y (Zhz (fk := FK3) (fv := ZgJ) (m := best2) tZ_127 (fun _=>.dat Y) fun _=>.ren<|ZfQ<|rld Ze7)<|.cons Y (roM D3) .nil)⟩
  ·
   refine Tr<|Rm Y<|bE h fun y4 h_y4 h=>Rx Y (ZO [1] (ZmD h_y4) (.cons (ov Y) (.own _ Y) .nil) (.cons Y (roM D3) .nil) Y (.keep Y Y<|.lent 0 (.inl Y) Y (roM D3) .nil) Y Y<|Xz<|rld Y)<|Za<|K2 6 7 Y<|Tr<|Ra Y<|Za<|I1 (fun out=>⟨[(14, .own 0 out.length)], [some ⟨42, List.map R42 out⟩]⟩) h (fun h=>?_) fun out h=>?_
   ·
    refine Tr<|Rm Y<|Rq Y (Zc0 (ov Y) Y (Zjd h_y4) QK)<|Rm Y<|Za<|Ze<|?_
    obtain ⟨r2, hl2, ho2⟩ := QE h
    refine L2 (fun out2 i2=>⟨[(6, .mref 0 1), (14, .own 1 out2.length), (70, .own 2 y4.length), (71, .int .i64 (y4.length : Int)), (72, .int .i64 i2)], [some ⟨127, [[.mcon (List.map (Zbu FK3 ZgJ) best)]]⟩, some ⟨42, List.map R42 out2⟩, some ⟨3, List.map R3 y4⟩]⟩) hl2 (Ent.sel [some 0, none, some 1] (sr 6 Y (.mref _ Y)<|sr 14 Y (.row Y)<|sr 70 Y (Zdv (Eq.symm<|Zjd h_y4) Y)<|sd 71 Y Y<|sd 72 Y Y sn) (.cons Y (Zhz (fk := FK3) (fv := ZgJ) (m := best) tZ_127 (fun _=>.dat Y) fun _=>.ren<|ZfQ<|rld Ze7)<|.row 42<|.cons Y (roM D3) .nil) Y Y) fun n2 out2 i2 h=>?_
    unfold Jj at h
    refine Tr<|R2 ZD Y<|Za<|Zg<|If h Y (fun h=>?_) fun h=>?_
    ·
     exact Zf<|Zg<|Ze<|K5 6 14 70 71 72 Y<|Tr<|bE h fun x2 h_x2 h=>Rq Y (Qh (ov Y) (ov Y) QK Y Y h_x2)<|Rq Y (Qu (ov Y) Y Y h_x2 tS3 Y)<|Ra Y<|Za<|K6 6 14 16 70 71 72 Y<|Zp<|Rm Y<|Rm Y<|Rm Y<|bE h fun o2 h_o2 h=>Rq Y (ZpW (m := best) (fk := FK3) (fv := ZgJ) (k := x2) (z0 := (api_Kept.mk 0 0 0 0 (Vector.replicate 64 0))) (ov Y) (ov Y) Zkv Zpn Y (fun _=>.b Y) (Zli ZoZ Y) (fun _ _=>Y) h_o2)<|Rq Y (Zna (ov Y) ZoE at9)<|R_q (.sl 42<|List.map R42 ([o2.Frame] : List (Vector Int 64))) Y (Xw ZjI (.cons (cva<|ov Y) arL (pwD<|arD fun _ => Y) .nil) Y Y)<|bE h fun l3 h_l3 h=>Rx Y (Qo (ov Y) (QD (ov Y) tZ_42) ZjI Y Y Y (fun x=>Zb<|E42 x) Y h_l3)<|Ra Y<|Za<|K5 6 14 70 71 72 Y<|Zp<|R2 ZF Y<|Rm Y<|Za<|⟨_, h, ES [some 0, some 1, some 2] (hhp := .cons Y (Zhz (fk := FK3) (fv := ZgJ) (m := best) tZ_127 (fun _=>.dat Y) fun _=>.ren<|ZfQ<|rld Ze7)<|.cons Y (roM D42)<|.cons Y (roM D3) .nil)⟩
    ·
     refine Zz<|?_
     replace h := lx h ▸ ho2
     exact ⟨_, h, ES [some 1]⟩
   ·
    refine Tr<|Rm Y<|Ra Y<|Ra Y<|Za<|?_
    obtain rfl := rt h
    exact Zo (ZG Y (.two (.tmp Y<|View.ownM Y Y D42)<|rb Y))
theorem Zkz  {r : Bool} (h : ZdX  = some r) :
 CSpec Tryz.prog gl0 13 [] (.bool r) := by
 unfold ZdX at h
 replace h := Qk h
 refine So Tryz.func13 Y fun w0 A=>Tr<|Ra Y<|Za<|K0<|Tr<|bE h fun l h_l h=>Rx Y (ZbF [none] (r := 0) (f := R3) (z0 := 0) Y (ov Y) (ov Y) QK Y tZ3 Y Y h_l)<|bE h fun y h_y h=>Rq Y (ZdL (Zk7 h_y) (.tuple<|by simp only [List.mem_cons, List.not_mem_nil, or_false, forall_eq_or_imp, forall_eq]; exact ⟨(Zlq (fun _ => .int)), .int⟩)<|.cons (ov Y) (Dat.view<|.b Y)<|.cons (ov Y) (View.ownM Y Y D3) .nil)<|Rm Y<|Rq Y (Zj (ov Y) Y)<|Rq Y (Zj (ov Y) Y)<|Rx Y (Z3 (row := (List.map C40 (Vector.replicate 64 0).toList)) 1 Y Zd8 Y tZ_42)<|Rx Y (Zl (ov Y) (ov Y) (Zv QR arL) Y Y Y (Xt (Zq arL) arL) (Zb<|arC fun _ => Y)<|QS<|Eq.trans arL<|Eq.symm arL)<|Ra Y<|Za<|K1 1 Y<|Tr<|bE h fun y2 h_y2 h=>Rq Y (Zn (ZhC h_y2)<|.cons (ov Y) (.b Y)<|.cons (ov Y) (.b Y)<|.cons (ov Y) (.b Y) .nil)<|Rm Y<|Rq Y (Zj (ov Y) Y)<|Rq Y (Zj (ov Y) Y)<|Rx Y (Z3 (row := [_, _, _, _, _]) 2 Y Zdx Y tZ_26)<|Rx Y (Zl (ov Y) (ov Y) (Zv X5 Y) Y Y Y (Nat.le_of_ble_eq_true Y) (Zb Y) Y)<|Ra Y<|Za<|Zg<|K3 1 3 4 Y<|Tr<|Rm Y<|R2 Q2 Y<|Za<|K3 1 3 20 Y<|If h Y (fun h=>?_) fun h=>?_
 ·
  refine K0<|Tr<|Ra Y<|Za<|?_
  obtain rfl := rt h
  exact Zo (ZG Y (.one<|rb Y))
 ·
  refine Zf<|K2 1 3 Y<|Tr<|Rq Y (Qe (ov Y) Y Y Y X5 Y Y)<|R_q (.sl 26<|List.map R26 ([y2.1] : List api_Memory)) Y (Xw Zaz (.cons (cva<|ov Y) Y (pwD Y) .nil) Y Y)<|bE h fun y3 h_y3 h=>?_
  rcases y3 with y3 | y3
  ·
   replace h := ell h
   refine Rx Y (ZO [] (ZgO h_y3) (.cons (ov Y) (.dat Y)<|.cons (ov Y) (.dat Y) .nil) .nil Y (.keep Y Y<|.keep Y Y<|.keep Y Y .nil) Y Y<|Xz<|rlc (.dat Y)<|rlc (.dat Y) rln)<|Rm Y<|Rq Y (Zj (ov Y) Y)<|Rq Y (Zj (ov Y) Y)<|Ra Y<|Ra Y<|Za<|Zg<|K3 1 4 5 Y<|Tr<|Rm Y<|R2 Q2 Y<|Za<|K3 1 5 28 Y<|If h Y (fun h=>?_) fun h=>?_
   ·
    refine K0<|Tr<|Ra Y<|Za<|?_
    obtain rfl := rt h
    exact Zo (ZG Y (.one<|rb Y))
   ·
    exact Zf<|(Znb h).elim
  ·
   replace h := elr h
   refine Rx Y (ZO [] (ZgB h_y3) (.cons (ov Y) (.dat Y)<|.cons (ov Y) (.dat Y) .nil) .nil Y (.keep Y Y<|.keep Y Y<|.keep Y Y<|.lent 0 (.inr ⟨Nat.le_of_ble_eq_true Y, Y⟩) Y (ro1 (by exact tZ_102.symm)<|rlc (.own _<|.inr ⟨Nat.le_of_ble_eq_true Y, Y⟩)<|rlc (.own _<|.inr ⟨Nat.le_of_ble_eq_true Y, Y⟩)<|rlc (.dat Y)<|rlc (.dat Y)<|rlc (.dat Y)<|rlc (.dat Y)<|rlc (.dat Y) rln)<|.lent 1 (.inr ⟨Nat.le_of_ble_eq_true Y, Y⟩) Y (roO Jn)<|.lent 2 (.inr ⟨Nat.le_of_ble_eq_true Y, Y⟩) Y (roM D105) .nil) Y Y<|Xz<|rlc (.ptr _ _ _<|.inr ⟨Nat.le_of_ble_eq_true Y, Y⟩)<|rlc (.dat Y) rln)<|Rm Y<|Rq Y (Zj (ov Y) Y)<|Rq Y (Zj (ov Y) Y)<|Ra Y<|Ra Y<|Za<|Zg<|K3 1 4 5 Y<|XC [some ⟨3, List.map R3 l⟩, some ⟨42, [(List.map C40 y.1.toList)]⟩, some ⟨26, [[.int .i64 y2.1.Slots, .int .i64 y2.1.Limit, .sl 49 (List.map R49 y2.1.Sectors), .sl 3 (List.map R3 y2.1.Wear), .sl 4 (List.map R4 y2.1.Bad)]]⟩, some ⟨102, [[.own 4 y3.1.bank.memories.length, .own 5 y3.1.bank.spots.length, .int .i64 y3.1.copies, .bool y3.1.frozen, .bool y3.1.stopped, .int .i64 y3.1.last, .bool y3.1.some_]]⟩, some ⟨26, List.map O26 y3.1.bank.memories⟩, some ⟨105, List.map R105 y3.1.bank.spots⟩] Y<|Tr<|Rm Y<|R2 Q2 Y<|Za<|K3 1 5 28 Y<|If h Y (fun h=>?_) fun h=>?_
   ·
    refine K0<|Tr<|Ra Y<|Za<|?_
    obtain rfl := rt h
    exact Zo (ZG Y (.one<|rb Y))
   ·
    refine Zf<|K2 1 5 Y<|Tr<|Rm Y<|Rq Y (Qe (ov Y) Y Y Y QR (ZW<|Zq arL) arL (hns := (nsM fun _ => Y)))<|bE h fun y4 h_y4 h=>Rx Y (ZO [3, 4, 5] (Zet h_y4) (.cons (ov Y) (.ptr _ _ _ Y)<|.cons (ov Y) (ZfQ<|rld<|arD fun _ => Y)<|.cons (ov Y) (.dat Y) .nil) (.cons Y (ro1 (by exact tZ_102.symm)<|rlc (.own _ Y)<|rlc (.own _ Y)<|rlc (.dat Y)<|rlc (.dat Y)<|rlc (.dat Y)<|rlc (.dat Y)<|rlc (.dat Y) rln)<|.cons Y (roO Jn)<|.cons Y (roM D105) .nil) Y (.keep Y Y<|.keep Y Y<|.keep Y Y<|.lent 0 (.inl Y) Y (ro1 (by exact tZ_102.symm)<|rlc (.own _<|.inr ⟨Nat.le_of_ble_eq_true Y, Y⟩)<|rlc (.own _<|.inr ⟨Nat.le_of_ble_eq_true Y, Y⟩)<|rlc (.dat Y)<|rlc (.dat Y)<|rlc (.dat Y)<|rlc (.dat Y)<|rlc (.dat Y) rln)<|.none<|.none<|.lent 3 (.inr ⟨Nat.le_of_ble_eq_true Y, Y⟩) Y (roO Jn)<|.lent 4 (.inr ⟨Nat.le_of_ble_eq_true Y, Y⟩) Y (roM D105) .nil) Y Y<|Xz<|rld Y)<|Rm Y<|Rq Y (Zj (ov Y) Y)<|Rq Y (Zj (ov Y) Y)<|Rq Y (Zj (ov Y) Y)<|Ra Y<|Ra Y<|Ra Y<|Za<|K5 1 4 5 6 7 Y<|XC [some ⟨3, List.map R3 l⟩, some ⟨42, [(List.map C40 y.1.toList)]⟩, some ⟨26, [[.int .i64 y2.1.Slots, .int .i64 y2.1.Limit, .sl 49 (List.map R49 y2.1.Sectors), .sl 3 (List.map R3 y2.1.Wear), .sl 4 (List.map R4 y2.1.Bad)]]⟩, some ⟨102, [[.own 6 y4.2.2.2.bank.memories.length, .own 7 y4.2.2.2.bank.spots.length, .int .i64 y4.2.2.2.copies, .bool y4.2.2.2.frozen, .bool y4.2.2.2.stopped, .int .i64 y4.2.2.2.last, .bool y4.2.2.2.some_]]⟩, none, none, some ⟨26, List.map O26 y4.2.2.2.bank.memories⟩, some ⟨105, List.map R105 y4.2.2.2.bank.spots⟩] Y<|Tr<|Rm Y<|bE h fun y5 h_y5 h=>Rx Y (ZO [3, 6, 7] (ZdR h_y5) (.cons (ov Y) (.ptr _ _ _ Y) .nil) (.cons Y (ro1 (by exact tZ_102.symm)<|rlc (.own _ Y)<|rlc (.own _ Y)<|rlc (.dat Y)<|rlc (.dat Y)<|rlc (.dat Y)<|rlc (.dat Y)<|rlc (.dat Y) rln)<|.cons Y (roO Jn)<|.cons Y (roM D105) .nil) Y (.keep Y Y<|.keep Y Y<|.keep Y Y<|.lent 0 (.inl Y) Y (ro1 (by exact tZ_102.symm)<|rlc (.dat Y)<|rlc (.own _<|.inr ⟨Nat.le_of_ble_eq_true Y, Y⟩)<|rlc (.dat Y)<|rlc (.dat Y)<|rlc (.dat Y)<|rlc (.dat Y)<|rlc (.dat Y) rln)<|.none<|.none<|.none<|.none<|.lent 3 (.inr ⟨Nat.le_of_ble_eq_true Y, Y⟩) Y (roM D105) .nil) Y Y<|.dat Y)<|bE h fun y6 h_y6 h=>Rq Y (Zn (Zgi h_y6)<|.cons (ov Y) (.b Y) .nil)<|Rm Y<|Rq Y (Zj (ov Y) Y)<|Rq Y (Zj (ov Y) Y)<|Ra Y<|Ra Y<|Za<|Zg<|K6 1 4 6 7 8 9 Y<|Qd (cw := md0) (by kernel_rfl)<|D1 0 Zc Y<|D2 1 Zaw Y<|D1 2 Zc Y<|Dq 3 Y (.guarded ((decide (y4.1 = 1)) == true) Y Y Y Y fun h => Zc<|ov Y)<|Dq 4 Y (Zb4 (ov Y) fun hp=>ow Y<|gT hp)<|D1 5 Zc Y<|Dq 6 Y (.guarded (((decide (y4.1 = 1)) && y4.2.1) == true) Y Y Y Y fun h => Zc<|ov Y)<|Dq 7 Y (.guarded (((decide (y4.1 = 1)) && y4.2.1) == true) Y Y Y Y fun h => Zaw (ow Y h)<|ov Y)<|Dq 8 Y (Zb4 (ov Y) fun hp=>ow Y<|gT hp)<|D1 9 Zc Y<|Dq 10 Y (.guarded ((((decide (y4.1 = 1)) && y4.2.1) && (decide (y4.2.2.1 = 0))) == true) Y Y Y Y fun h => Zc<|ov Y)<|Dq 11 Y (.guarded ((((decide (y4.1 = 1)) && y4.2.1) && (decide (y4.2.2.1 = 0))) == true) Y Y Y Y fun h => Zaw (ow Y h)<|ov Y)<|Dq 12 Y (Zb4 (ov Y) fun hp=>ow Y<|gT hp)<|D1 13 Zc Y<|Dq 14 Y (.guarded (((((decide (y4.1 = 1)) && y4.2.1) && (decide (y4.2.2.1 = 0))) && (decide (y6.2 = 0))) == true) Y Y Y Y fun h => Zc<|ov Y)<|Dq 15 Y (.guarded (((((decide (y4.1 = 1)) && y4.2.1) && (decide (y4.2.2.1 = 0))) && (decide (y6.2 = 0))) == true) Y Y Y Y fun h => ZjN (QD (ow Y h) tZ_42) ZjI<|Zfn _ _)<|Dq 16 Y (.guarded (((((decide (y4.1 = 1)) && y4.2.1) && (decide (y4.2.2.1 = 0))) && (decide (y6.2 = 0))) == true) Y Y Y Y fun h => Zaw (ow Y h)<|ov Y)<|Dq 17 Y (Zb4 (ov Y) fun hp=>ow Y<|gT hp)<|D1 18 Zc Y<|Dq 19 Y (.guarded ((((((decide (y4.1 = 1)) && y4.2.1) && (decide (y4.2.2.1 = 0))) && (decide (y6.2 = 0))) && (decide ((y6.1.length : Int) = 1))) == true) Y Y Y Y fun h => Zc<|ov Y)<|bE h fun x h_x h=>Dq 20 Y (.guarded ((((((decide (y4.1 = 1)) && y4.2.1) && (decide (y4.2.2.1 = 0))) && (decide (y6.2 = 0))) && (decide ((y6.1.length : Int) = 1))) == true) Y Y Y Y fun h => ZS (ow Y h) (ov Y) ZjI<|gdT h_x h)<|Dq 21 Y (.guarded ((((((decide (y4.1 = 1)) && y4.2.1) && (decide (y4.2.2.1 = 0))) && (decide (y6.2 = 0))) && (decide ((y6.1.length : Int) = 1))) == true) Y Y Y Y fun h => Z6 (ow Y h) QR (ZW<|Zq arL) arL)<|Dq 22 Y (.guarded ((((((decide (y4.1 = 1)) && y4.2.1) && (decide (y4.2.2.1 = 0))) && (decide (y6.2 = 0))) && (decide ((y6.1.length : Int) = 1))) == true) Y Y Y Y fun h => Qe (ov Y) Y Y Y QR (ZW<|Zq arL) arL (hns := (nsM fun _ => Y)))<|Dq 23 Y (.guarded ((((((decide (y4.1 = 1)) && y4.2.1) && (decide (y4.2.2.1 = 0))) && (decide (y6.2 = 0))) && (decide ((y6.1.length : Int) = 1))) == true) Y Y Y Y fun h => ZpO Zo9 (ow Y h) (ow Y h) (.aggB<|arD fun _ => Y) (.aggB<|arD fun _ => Y) (fkV fun _ => Y) (fkV fun _ => Y)<|eqV fun _ _ => Y)<|Dq 24 Y (Zb4 (ov Y) fun hp=>ow Y<|gT hp)<|D1 25 Qp Y<|Dd<|?_
    obtain rfl := rt h
    exact Zo (ZG Y (.one<|rb Y))
theorem ZgU {l : List api_Memory} {r : Int} (h : ZbL l = some r) :
 CSpec Tryz.prog gl0 80 [.sl 26 (List.map R26 l)] (.int .i64 r) := by
 unfold ZbL at h
 replace h := Qk h
 refine So Tryz.func80 Y fun w0 A=>Tr<|Ra Y<|Za<|Zg<|K1 0 Y<|Tr<|Rm Y<|Rl tZ_26 Zaz Y<|R2 Zaw Y<|Rm Y<|Rq Y (.guarded ((decide ((l.length : Int) = 0)) == false) Y Y Y Y fun h => Zc<|ov Y)<|Rq Y (.guarded ((decide ((l.length : Int) = 0)) == false) Y Y Y Y fun h => ZjN (QD (ow Y h) tZ_26) Zaz<|Zfn _ _)<|Rq Y (.guarded ((decide ((l.length : Int) = 0)) == false) Y Y Y Y fun h => Za8 (ow Y h)<|ov Y)<|Rq Y (Zdw (ov Y) fun hp=>ow Y<|gF hp)<|Za<|K2 0 13 Y<|If h Y (fun h=>?_) fun h=>?_
 ·
  refine K0<|Tr<|Ra Y<|Za<|?_
  obtain rfl := rt h
  exact Zo (ZG Y (.one<|rb Y))
 ·
  refine Zf<|J0 (fun j => (.inr j)) ⟨[], []⟩ h (fun h=>?_) fun h=>?_
  ·
   refine K1 0 Y<|Tr<|Rm Y<|Rl tZ_26 Zaz Y<|Rm Y<|Za<|Ze<|?_
   obtain ⟨r1, hl1, ho1⟩ := QE h
   refine L1 (fun i=>⟨[(14, .sl 26 (List.map R26 l)), (15, .int .i64 (l.length : Int)), (16, .int .i64 i)], []⟩) hl1 (ES []) fun n1 i h=>?_
   unfold Zc9 at h
   refine Tr<|R2 ZD Y<|Za<|Zg<|If h Y (fun h=>?_) fun h=>?_
   ·
    refine Zf<|Zg<|Ze<|K3 14 15 16 Y<|Tr<|bE h fun x h_x h=>Rq Y (ZS (ov Y) (ov Y) Zaz h_x)<|Rq Y (Z6 (ov Y) X5 Y Y)<|Rx Y (Z3 (row := [_, _, _, _, _]) 0 Y Zdx Y tZ_26)<|Rx Y (Zl (ov Y) (ov Y) (Zv X5 Y) Y Y Y (Nat.le_of_ble_eq_true Y) (Zb Y) Y)<|Za<|K4 4 14 15 16 Y<|Tr<|Rq Y (Qe (ov Y) Y Y Y X5 Y Y)<|bE h fun y h_y h=>Rq Y (Zn (ZgI h_y)<|.cons (ov Y) (.aggB Y) .nil)<|Ra Y<|Za<|K4 5 14 15 16 Y<|Tr<|Rm Y<|R2 Q2 Y<|Za<|K5 5 14 15 16 23 Y<|If h Y (fun h=>?_) fun h=>?_
    ·
     refine K1 5 Y<|Tr<|Rm Y<|Ra Y<|Za<|?_
     replace h := lx h ▸ ho1
     obtain rfl := rt h
     exact Zo (ZG Y (.one<|rb Y))
    ·
     exact Zf<|K3 14 15 16 Y<|Zp<|R2 ZF Y<|Rm Y<|Za<|⟨_, h, ES []⟩
   ·
    refine Zz<|?_
    replace h := lx h ▸ ho1
    exact ⟨(), h, ES []⟩
  ·
   replace h := elr h
   replace h := t0i h
   refine Tr<|Ra Y<|Za<|?_
   obtain rfl := rt h
   exact Zo (ZG Y (.one<|rb Y))
theorem ZhL {s : List Int} {i : Int} {r : (List Int)} (h : ZdY s i = some r) :
 CSpec Tryz.prog gl0 92 [.sl 5 (List.map R5 s), .int .i64 i] (.sl 5 (List.map R5 r)) := by
 unfold ZdY at h
 replace h := Qk h
 refine So Tryz.func92 Y fun w0 A=>Tr<|Ra Y<|Za<|Tr<|Rm Y<|Rm Y<|R2 Zds Y<|R2 ZF Y<|Rm Y<|R2 ZF Y<|R2 Zds Y<|R2 ZF Y<|bE h fun l h_l h=>Rq Y (Zgj (ov Y) QF (oi<|ov Y) (oi<|ov Y) h_l)<|Ra Y<|Za<|?_
 obtain rfl := rt h
 exact Zo (ZG Y (.one<|rb Y))
theorem Zj3 {s : List Int} {i : Int} {r : Int} (h : Zea s i = some r) :
 CSpec Tryz.prog gl0 82 [.sl 5 (List.map R5 s), .int .i64 i] (.int .i64 r) := by
 unfold Zea at h
 replace h := Qk h
 refine So Tryz.func82 Y fun w0 A=>Tr<|Ra Y<|Za<|K2 0 1 Y<|Tr<|Rm Y<|Rm Y<|bE h fun y h_y h=>Rq Y (Zn (ZhL h_y)<|.cons (ov Y) (.b Y)<|.cons (ov Y) (.b Y) .nil)<|Ra Y<|Za<|Zg<|K1 5 Y<|Tr<|Rm Y<|bE h fun x h_x h=>Rq Y (ZS (ov Y) (ov Y) QF h_x)<|Rq Y (Zd (ov Y) tS5 Y)<|R2 Zaw Y<|Za<|K2 5 14 Y<|If h Y (fun h=>?_) fun h=>?_
 ·
  refine K0<|Tr<|Ra Y<|Za<|?_
  obtain rfl := rt h
  exact Zo (ZG Y (.one<|rb Y))
 ·
  refine Zf<|J0 (fun j => (.inr j)) ⟨[], []⟩ h (fun h=>?_) fun h=>?_
  ·
   refine K1 5 Y<|Tr<|Rm Y<|Rl tZ_5 QF Y<|Rm Y<|Za<|Ze<|?_
   obtain ⟨r1, hl1, ho1⟩ := QE h
   refine L1 (fun i2=>⟨[(15, .sl 5 (List.map R5 y)), (16, .int .i64 (y.length : Int)), (17, .int .i64 i2)], []⟩) hl1 (ES []) fun n1 i2 h=>?_
   unfold ZbD at h
   refine Tr<|R2 ZD Y<|Za<|Zg<|If h Y (fun h=>?_) fun h=>?_
   ·
    refine Zf<|Zg<|Ze<|K3 15 16 17 Y<|Tr<|bE h fun x2 h_x2 h=>Rq Y (ZS (ov Y) (ov Y) QF h_x2)<|Rq Y (Zd (ov Y) tS5 Y)<|Ra Y<|Za<|K4 7 15 16 17 Y<|Tr<|Rm Y<|R2 Q2 Y<|Za<|K4 15 16 17 22 Y<|If h Y (fun h=>?_) fun h=>?_
    ·
     refine K0<|Tr<|Ra Y<|Za<|?_
     replace h := lx h ▸ ho1
     obtain rfl := rt h
     exact Zo (ZG Y (.one<|rb Y))
    ·
     exact Zf<|K3 15 16 17 Y<|Zp<|R2 ZF Y<|Rm Y<|Za<|⟨_, h, ES []⟩
   ·
    refine Zz<|?_
    replace h := lx h ▸ ho1
    exact ⟨(), h, ES []⟩
  ·
   replace h := elr h
   replace h := t0i h
   refine Tr<|Ra Y<|Za<|?_
   obtain rfl := rt h
   exact Zo (ZG Y (.one<|rb Y))
theorem ZjV {s : List Int} {r : Int} (h : Zed s = some r) :
 CSpec Tryz.prog gl0 90 [.sl 5 (List.map R5 s)] (.int .i64 r) := by
 unfold Zed at h
 replace h := Qk h
 refine So Tryz.func90 Y fun w0 A=>Tr<|Ra Y<|Za<|K1 0 Y<|Tr<|Rm Y<|Rl tZ_5 QF Y<|R2 Za4 Y<|Ra Y<|Za<|Zg<|K1 3 Y<|Tr<|Rm Y<|R2 ZhU Y<|Rm Y<|Rq Y (.guarded ((decide ((i64 ((s.length : Int) - 16)) ≤ 0)) == false) Y Y Y Y fun h => Zc<|ov Y)<|bE h fun q h_q h=>Rq Y (.guarded ((decide ((i64 ((s.length : Int) - 16)) ≤ 0)) == false) Y Y Y Y fun h => Jr (ow Y h) (ov Y)<|gdT h_q h)<|Rq Y (.guarded ((decide ((i64 ((s.length : Int) - 16)) ≤ 0)) == false) Y Y Y Y fun h => Q2 (ow Y h)<|ov Y)<|Rq Y (Zdw (ov Y) fun hp=>ow Y<|gF hp)<|Za<|K2 3 13 Y<|If h Y (fun h=>?_) fun h=>?_
 ·
  refine K0<|Tr<|Ra Y<|Za<|?_
  obtain rfl := rt h
  exact Zo (ZG Y (.one<|rb Y))
 ·
  refine Zf<|K1 3 Y<|Tr<|Rm Y<|bE h fun q2 h_q2 h=>Rq Y (Zc2 (ov Y) (ov Y) h_q2)<|Ra Y<|Za<|?_
  obtain rfl := rt h
  exact Zo (ZG Y (.one<|rb Y))
theorem Zj7 {b : List Int} {r : (Vector Int 64)} (h : Zec b = some r) :
 CSpec Tryz.prog gl0 124 [.sl 5 (List.map R5 b)] (.agg (List.map C40 r.toList)) := by
 unfold Zec at h
 replace h := Qk h
 refine So Tryz.func124 Y fun w0 A=>Tr<|Rx Y (Z3 (row := (List.map C40 (Vector.replicate 64 0).toList)) 0 Y Zd8 Y tZ_42)<|Za<|Tr<|R_q (.agg<|List.map C40 (#v[0, 0, 0, 0, 0, 0, 0, 0, 0, 0, 0, 0, 0, 0, 0, 0, 0, 0, 0, 0, 0, 0, 0, 0, 0, 0, 0, 0, 0, 0, 0, 0, 0, 0, 0, 0, 0, 0, 0, 0, 0, 0, 0, 0, 0, 0, 0, 0, 0, 0, 0, 0, 0, 0, 0, 0, 0, 0, 0, 0, 0, 0, 0, 0] : Vector Int 64).toList) Y (ZbA (ys := [_, _, _, _, _, _, _, _, _, _, _, _, _, _, _, _, _, _, _, _, _, _, _, _, _, _, _, _, _, _, _, _, _, _, _, _, _, _, _, _, _, _, _, _, _, _, _, _, _, _, _, _, _, _, _, _, _, _, _, _, _, _, _, _]) Jk Zd8 .nil Y)<|Rx Y (Z3 (row := (List.map C40 (Vector.replicate 64 0).toList)) 1 Y Zd8 Y tZ_42)<|Rx Y (Zl (ov Y) (ov Y) (Zv QR arL) Y Y Y (Xt (Zq arL) arL) (Zb<|arC fun _ => Y)<|QS<|Eq.trans arL<|Eq.symm arL)<|Za<|I1 (fun f=>⟨[(2, .ptr 0 1 0 0), (3, .ptr 1 1 0 0)], [some ⟨42, [(List.map C40 (Vector.replicate 64 0).toList)]⟩, some ⟨42, [(List.map C40 f.toList)]⟩]⟩) h (fun h=>?_) fun f h=>?_
 ·
  refine K3 0 2 3 Y<|Tr<|Rm Y<|Za<|Ze<|?_
  obtain ⟨r1, hl1, ho1⟩ := QE h
  refine L2 (fun f2 i=>⟨[(0, .sl 5 (List.map R5 b)), (2, .ptr 0 1 0 0), (3, .ptr 1 1 0 0), (9, .int .i64 i)], [some ⟨42, [(List.map C40 (Vector.replicate 64 0).toList)]⟩, some ⟨42, [(List.map C40 f2.toList)]⟩]⟩) hl1 (ES [some 0, some 1]) fun n1 f2 i h=>?_
  unfold Zbv at h
  refine Tr<|R2 ZD Y<|Za<|Zg<|If h Y (fun h=>?_) fun h=>?_
  ·
   refine Zf<|I1 (fun f3=>⟨[(0, .sl 5 (List.map R5 b)), (2, .ptr 0 1 0 0), (3, .ptr 1 1 0 0), (9, .int .i64 i)], [some ⟨42, [(List.map C40 (Vector.replicate 64 0).toList)]⟩, some ⟨42, [(List.map C40 f3.toList)]⟩]⟩) h (fun h=>?_) fun f3 h=>?_
   ·
    refine Ze<|K4 0 2 3 9 Y<|Tr<|Rm Y<|Ra Y<|Za<|K5 0 2 3 4 9 Y<|Tr<|Rm Y<|Za<|Ze<|?_
    obtain ⟨r2, hl2, ho2⟩ := QE h
    refine L2 (fun f4 i2=>⟨[(0, .sl 5 (List.map R5 b)), (2, .ptr 0 1 0 0), (3, .ptr 1 1 0 0), (4, .int .i64 i), (9, .int .i64 i), (12, .int .i64 i2)], [some ⟨42, [(List.map C40 (Vector.replicate 64 0).toList)]⟩, some ⟨42, [(List.map C40 f4.toList)]⟩]⟩) hl2 (ES [some 0, some 1]) fun n2 f4 i2 h=>?_
    unfold JL at h
    refine Tr<|R2 ZD Y<|Za<|Zg<|If h Y (fun h=>?_) fun h=>?_
    ·
     refine Zf<|Zg<|Ze<|K6 0 2 3 4 9 12 Y<|Tr<|Rm Y<|Ra Y<|Za<|K7 0 2 3 4 5 9 12 Y<|Tr<|Rm Y<|R2 Zds Y<|Rm Y<|R2 ZF Y<|Ra Y<|Za<|K7 0 2 3 4 6 9 12 Y<|Tr<|Rm Y<|Rm Y<|bE h fun q h_q h=>Rq Y (Zc2 (ov Y) (ov Y) h_q)<|bE h fun x h_x h=>Rq Y (ZS (ov Y) (ov Y) QF h_x)<|Rq Y (Zd (ov Y) tS5 Y)<|Rq Y (Z4 (ov Y) tI5 tI3 Y)<|bE h fun q2 h_q2 h=>Rq Y (Zc2 (ov Y) (ov Y) h_q2)<|Ra Y<|Za<|I1 (fun half=>⟨[(0, .sl 5 (List.map R5 b)), (2, .ptr 0 1 0 0), (3, .ptr 1 1 0 0), (4, .int .i64 i), (7, .int .i64 half), (9, .int .i64 i), (12, .int .i64 i2)], [some ⟨42, [(List.map C40 (Vector.replicate 64 0).toList)]⟩, some ⟨42, [(List.map C40 f4.toList)]⟩]⟩) h (fun h=>?_) fun half h=>?_
     ·
      refine K8 0 2 3 4 6 7 9 12 Y<|Tr<|Rm Y<|bE h fun q3 h_q3 h=>Rq Y (Jr (ov Y) (ov Y) h_q3)<|R2 Zaw Y<|Za<|K9 0 2 3 4 6 7 9 12 28 Y<|If h Y (fun h=>?_) fun h=>?_
      ·
       exact K8 0 2 3 4 6 7 9 12 Y<|Zp<|Rm Y<|Rm Y<|bE h fun q4 h_q4 h=>Rq Y (Zc2 (ov Y) (ov Y) h_q4)<|bE h fun x2 h_x2 h=>Rq Y (ZS (ov Y) (ov Y) QF h_x2)<|Rq Y (Zd (ov Y) tS5 Y)<|Rq Y (Z4 (ov Y) tI5 tI3 Y)<|bE h fun q5 h_q5 h=>Rq Y (Jr (ov Y) (ov Y) h_q5)<|Ra Y<|Za<|⟨_, h, ES [some 0, some 1]⟩
      ·
       exact Zf<|⟨_, h, ES [some 0, some 1]⟩
     ·
      exact Zp<|Rm Y<|Rm Y<|bE h fun x3 h_x3 h=>Rq Y (JX (ov Y) (ov Y) Jk Y Y h_x3)<|Rq Y (Zw (ov Y) Y Y Y Zae<|Qn<|Xe (o := 0) (o' := (i.toNat * 1)) (Zq arL)<|Q9 h_x3)<|R2 Zds Y<|Rm Y<|Rq Y (Z4 (ov Y) tI3 Zcx Y)<|R2 ZF Y<|bE h fun x4 h_x4 h=>Rq Y (JX (ov Y) (ov Y) Jk Y Y h_x4)<|Rx Y (Zl (ov Y) (ov Y) (Zh Zae) Y Y Y (arB h_x4) (Zb Y)<|arS h_x4)<|Za<|K6 0 2 3 4 9 12 Y<|Zp<|R2 ZF Y<|Rm Y<|Za<|⟨_, h, ES [some 0, some 1]⟩
    ·
     refine Zz<|?_
     replace h := lx h ▸ ho2
     exact ⟨_, h, ES [some 0, some 1]⟩
   ·
    exact Zp<|R2 ZF Y<|Rm Y<|Za<|⟨_, h, ES [some 0, some 1]⟩
  ·
   refine Zz<|?_
   replace h := lx h ▸ ho1
   exact ⟨_, h, ES [some 0, some 1]⟩
 ·
  refine Tr<|Rq Y (Qe (ov Y) Y Y Y QR (ZW<|Zq arL) arL (hns := (nsM fun _ => Y)))<|Rx Y (Zl (ov Y) (ov Y) (Zv QR arL) Y Y Y (Xt (Zq arL) arL) (Zb<|arC fun _ => Y)<|QS<|Eq.trans arL<|Eq.symm arL)<|Za<|?_
  obtain rfl := rt h
  exact Zo (ZG Y (.one<|.agg Y Y Y Y QR (ZW<|Zq arL) arL (pwB<|arD fun _ => Y) (hns := (nsM fun _ => Y))))
theorem ZhJ {b : List Int} {r : (Vector Int 64) × Int} (h : ZaV b = some r) :
 CSpec Tryz.prog gl0 91 [.sl 5 (List.map R5 b)] (.tuple [.agg (List.map C40 r.1.toList), .int .i64 r.2]) := by
 unfold ZaV at h
 replace h := Qk h
 refine So Tryz.func91 Y fun w0 A=>Tr<|Rx Y (Z3 (row := (List.map C40 (Vector.replicate 64 0).toList)) 0 Y Zd8 Y tZ_42)<|Ra Y<|Za<|Zg<|K2 0 2 Y<|Tr<|Rm Y<|Rl tZ_5 QF Y<|R2 ZD Y<|Za<|K3 0 2 6 Y<|If h Y (fun h=>?_) fun h=>?_
 ·
  refine K1 2 Y<|Tr<|R_q (.agg<|List.map C40 (#v[0, 0, 0, 0, 0, 0, 0, 0, 0, 0, 0, 0, 0, 0, 0, 0, 0, 0, 0, 0, 0, 0, 0, 0, 0, 0, 0, 0, 0, 0, 0, 0, 0, 0, 0, 0, 0, 0, 0, 0, 0, 0, 0, 0, 0, 0, 0, 0, 0, 0, 0, 0, 0, 0, 0, 0, 0, 0, 0, 0, 0, 0, 0, 0] : Vector Int 64).toList) Y (ZbA (ys := [_, _, _, _, _, _, _, _, _, _, _, _, _, _, _, _, _, _, _, _, _, _, _, _, _, _, _, _, _, _, _, _, _, _, _, _, _, _, _, _, _, _, _, _, _, _, _, _, _, _, _, _, _, _, _, _, _, _, _, _, _, _, _, _]) Jk Zd8 .nil Y)<|Rx Y (Zl (ov Y) (ov Y) (Zv QR arL) Y Y Y (Xt (Zq arL) arL) (Zb<|arC fun _ => Y)<|QS<|Eq.trans arL<|Eq.symm arL)<|Ra Y<|Za<|?_
  obtain rfl := rt h
  exact Zo (ZG Y (.two (.agg Y Y Y Y QR (ZW<|Zq arL) arL (pwB<|arD fun _ => Y) (hns := (nsM fun _ => Y)))<|rb Y))
 ·
  refine Zf<|K2 0 2 Y<|Tr<|Rm Y<|bE h fun y h_y h=>Rq Y (Zn (Zj7 h_y)<|.cons (ov Y) (.b Y) .nil)<|Rx Y (Zl (ov Y) (ov Y) (Zv QR arL) Y Y Y (Xt (Zq arL) arL) (Zb<|arC fun _ => Y)<|QS<|Eq.trans arL<|Eq.symm arL)<|Ra Y<|Za<|?_
  obtain rfl := rt h
  exact Zo (ZG Y (.two (.agg Y Y Y Y QR (ZW<|Zq arL) arL (pwB<|arD fun _ => Y) (hns := (nsM fun _ => Y)))<|rb Y))
theorem Zhu {s : List Int} {i : Int} {r : (Vector Int 64) × Int} (h : ZaR s i = some r) :
 CSpec Tryz.prog gl0 40 [.sl 5 (List.map R5 s), .int .i64 i] (.tuple [.agg (List.map C40 r.1.toList), .int .i64 r.2]) := by
 unfold ZaR at h
 replace h := Qk h
 refine So Tryz.func40 Y fun w0 A=>Tr<|Rx Y (Z3 (row := (List.map C40 (Vector.replicate 64 0).toList)) 0 Y Zd8 Y tZ_42)<|Ra Y<|Za<|K3 0 1 4 Y<|Tr<|Rm Y<|bE h fun y h_y h=>Rq Y (Zn (ZjV h_y)<|.cons (ov Y) (.b Y) .nil)<|Ra Y<|Za<|Zg<|K4 0 1 4 6 Y<|Tr<|Rm Y<|R2 ZD Y<|Za<|K5 0 1 4 6 10 Y<|If h Y (fun h=>?_) fun h=>?_
 ·
  refine K1 4 Y<|Tr<|R_q (.agg<|List.map C40 (#v[0, 0, 0, 0, 0, 0, 0, 0, 0, 0, 0, 0, 0, 0, 0, 0, 0, 0, 0, 0, 0, 0, 0, 0, 0, 0, 0, 0, 0, 0, 0, 0, 0, 0, 0, 0, 0, 0, 0, 0, 0, 0, 0, 0, 0, 0, 0, 0, 0, 0, 0, 0, 0, 0, 0, 0, 0, 0, 0, 0, 0, 0, 0, 0] : Vector Int 64).toList) Y (ZbA (ys := [_, _, _, _, _, _, _, _, _, _, _, _, _, _, _, _, _, _, _, _, _, _, _, _, _, _, _, _, _, _, _, _, _, _, _, _, _, _, _, _, _, _, _, _, _, _, _, _, _, _, _, _, _, _, _, _, _, _, _, _, _, _, _, _]) Jk Zd8 .nil Y)<|Rx Y (Zl (ov Y) (ov Y) (Zv QR arL) Y Y Y (Xt (Zq arL) arL) (Zb<|arC fun _ => Y)<|QS<|Eq.trans arL<|Eq.symm arL)<|Ra Y<|Za<|?_
  obtain rfl := rt h
  exact Zo (ZG Y (.two (.agg Y Y Y Y QR (ZW<|Zq arL) arL (pwB<|arD fun _ => Y) (hns := (nsM fun _ => Y)))<|rb Y))
 ·
  refine Zf<|Zg<|K4 0 1 4 6 Y<|Tr<|Rm Y<|Rm Y<|R2 Za4 Y<|bE h fun y2 h_y2 h=>Rq Y (Zn (XV h_y2)<|.cons (ov Y) (.b Y)<|.cons (ov Y) (.b Y)<|.cons (ov Y) (.b Y) .nil)<|Za<|K4 0 1 4 15 Y<|If h Y (fun h=>?_) fun h=>?_
  ·
   refine K1 4 Y<|Tr<|R_q (.agg<|List.map C40 (#v[0, 0, 0, 0, 0, 0, 0, 0, 0, 0, 0, 0, 0, 0, 0, 0, 0, 0, 0, 0, 0, 0, 0, 0, 0, 0, 0, 0, 0, 0, 0, 0, 0, 0, 0, 0, 0, 0, 0, 0, 0, 0, 0, 0, 0, 0, 0, 0, 0, 0, 0, 0, 0, 0, 0, 0, 0, 0, 0, 0, 0, 0, 0, 0] : Vector Int 64).toList) Y (ZbA (ys := [_, _, _, _, _, _, _, _, _, _, _, _, _, _, _, _, _, _, _, _, _, _, _, _, _, _, _, _, _, _, _, _, _, _, _, _, _, _, _, _, _, _, _, _, _, _, _, _, _, _, _, _, _, _, _, _, _, _, _, _, _, _, _, _]) Jk Zd8 .nil Y)<|Rx Y (Zl (ov Y) (ov Y) (Zv QR arL) Y Y Y (Xt (Zq arL) arL) (Zb<|arC fun _ => Y)<|QS<|Eq.trans arL<|Eq.symm arL)<|Ra Y<|Za<|?_
   obtain rfl := rt h
   exact Zo (ZG Y (.two (.agg Y Y Y Y QR (ZW<|Zq arL) arL (pwB<|arD fun _ => Y) (hns := (nsM fun _ => Y)))<|rb Y))
  ·
   refine Zf<|K3 0 1 4 Y<|Tr<|Rm Y<|Rm Y<|bE h fun y3 h_y3 h=>Rq Y (Zn (ZhL h_y3)<|.cons (ov Y) (.b Y)<|.cons (ov Y) (.b Y) .nil)<|bE h fun y4 h_y4 h=>Rq Y (Zn (ZhJ h_y4)<|.cons (ov Y) (.b Y) .nil)<|Rq Y (Zj (ov Y) Y)<|Rq Y (Zj (ov Y) Y)<|Rx Y (Zl (ov Y) (ov Y) (Zv QR arL) Y Y Y (Xt (Zq arL) arL) (Zb<|arC fun _ => Y)<|QS<|Eq.trans arL<|Eq.symm arL)<|Ra Y<|Za<|?_
   obtain rfl := rt h
   exact Zo (ZG Y (.two (.agg Y Y Y Y QR (ZW<|Zq arL) arL (pwB<|arD fun _ => Y) (hns := (nsM fun _ => Y)))<|rb Y))
theorem ZfC {l : List api_Memory} {r : (List api_Kept) × Int} (h : Zbh l = some r) :
 CSpec Tryz.prog gl0 27 [.sl 26 (List.map R26 l)] (.tuple [.sl 65 (List.map R65 r.1), .int .i64 r.2]) := by
 unfold Zbh at h
 replace h := Qk h
 refine So Tryz.func27 Y fun w0 A=>Tr<|Ra Y<|Ra Y<|Za<|Zg<|K1 0 Y<|Tr<|Rm Y<|bE h fun y h_y h=>Rq Y (Zn (ZgU h_y)<|.cons (ov Y) (.b Y) .nil)<|Ra Y<|Za<|K2 0 4 Y<|Tr<|Rm Y<|R2 Q2 Y<|Za<|K3 0 4 19 Y<|If h Y (fun h=>?_) fun h=>?_
 ·
  refine K1 4 Y<|Tr<|Rm Y<|Ra Y<|Ra Y<|Za<|?_
  obtain rfl := rt h
  exact Zo (ZG Y (.two (.tmp Y<|View.nils 65)<|rb Y))
 ·
  refine Zf<|K1 0 Y<|Tr<|Ra Y<|Za<|I1 (fun out=>⟨[(5, .own 0 out.length)], [some ⟨65, List.map R65 out⟩]⟩) h (fun h=>?_) fun out h=>?_
  ·
   refine Tr<|Rm Y<|Rl tZ_26 Zaz Y<|Rm Y<|Za<|Ze<|?_
   obtain ⟨r1, hl1, ho1⟩ := QE h
   refine L2 (fun out2 i=>⟨[(5, .own 0 out2.length), (21, .sl 26 (List.map R26 l)), (22, .int .i64 (l.length : Int)), (23, .int .i64 i)], [some ⟨65, List.map R65 out2⟩]⟩) hl1 (ES [none]) fun n1 out2 i h=>?_
   unfold Zap at h
   refine Tr<|R2 ZD Y<|Za<|Zg<|If h Y (fun h=>?_) fun h=>?_
   ·
    refine Zf<|I1 (fun out3=>⟨[(5, .own 0 out3.length), (21, .sl 26 (List.map R26 l)), (22, .int .i64 (l.length : Int)), (23, .int .i64 i)], [some ⟨65, List.map R65 out3⟩]⟩) h (fun h=>?_) fun out3 h=>?_
    ·
     refine Ze<|K4 5 21 22 23 Y<|Tr<|Rm Y<|bE h fun x h_x h=>Rq Y (ZS (ov Y) (ov Y) Zaz h_x)<|Rq Y (Z6 (ov Y) X5 Y Y)<|Rx Y (Z3 (row := [_, _, _, _, _]) 1 Y Zdx Y tZ_26)<|Ra Y<|Rx Y (Zl (ov Y) (ov Y) (Zv X5 Y) Y Y Y (Nat.le_of_ble_eq_true Y) (Zb Y) Y)<|Za<|K6 5 6 7 21 22 23 Y<|Tr<|Rq Y (Qe (ov Y) Y Y Y X5 Y Y)<|bE h fun y2 h_y2 h=>Rq Y (Zn (ZjO h_y2)<|.cons (ov Y) (.aggB Y) .nil)<|Rl tZ_3 QK Y<|Rm Y<|Za<|Ze<|?_
     obtain ⟨r2, hl2, ho2⟩ := QE h
     refine L2 (fun out4 i2=>⟨[(5, .own 0 out4.length), (6, .int .i64 i), (7, .ptr 1 1 0 0), (21, .sl 26 (List.map R26 l)), (22, .int .i64 (l.length : Int)), (23, .int .i64 i), (29, .sl 3 (List.map R3 y2)), (30, .int .i64 (y2.length : Int)), (31, .int .i64 i2)], [some ⟨65, List.map R65 out4⟩, some ⟨26, [[.int .i64 x.Slots, .int .i64 x.Limit, .sl 49 (List.map R49 x.Sectors), .sl 3 (List.map R3 x.Wear), .sl 4 (List.map R4 x.Bad)]]⟩]⟩) hl2 (ES [some 0, some 1]) fun n2 out4 i2 h=>?_
     unfold Zas at h
     refine Tr<|R2 ZD Y<|Za<|Zg<|If h Y (fun h=>?_) fun h=>?_
     ·
      refine Zf<|I1 (fun out5=>⟨[(5, .own 0 out5.length), (6, .int .i64 i), (7, .ptr 1 1 0 0), (21, .sl 26 (List.map R26 l)), (22, .int .i64 (l.length : Int)), (23, .int .i64 i), (29, .sl 3 (List.map R3 y2)), (30, .int .i64 (y2.length : Int)), (31, .int .i64 i2)], [some ⟨65, List.map R65 out5⟩, some ⟨26, [[.int .i64 x.Slots, .int .i64 x.Limit, .sl 49 (List.map R49 x.Sectors), .sl 3 (List.map R3 x.Wear), .sl 4 (List.map R4 x.Bad)]]⟩]⟩) h (fun h=>?_) fun out5 h=>?_
      ·
       refine Ze<|K9 5 6 7 21 22 23 29 30 31 Y<|Tr<|bE h fun x2 h_x2 h=>Rq Y (ZS (ov Y) (ov Y) QK h_x2)<|Rq Y (Zd (ov Y) tS3 Y)<|Ra Y<|Za<|K10 5 6 7 9 21 22 23 29 30 31 Y<|Tr<|Rq Y (Zi (ov Y) Y Y ZP)<|Rq Y (Zw (ov Y) Y Y Y Qw Y)<|Rm Y<|bE h fun x3 h_x3 h=>Rq Y (ZS (ov Y) (ov Y) Qm h_x3)<|Rq Y (Zd (ov Y) ZfN Y)<|bE h fun y3 h_y3 h=>Rq Y (Zn (Zfb h_y3)<|.cons (ov Y) (.b Y) .nil)<|Rm Y<|Rq Y (Zj (ov Y) Y)<|Rq Y (Zj (ov Y) Y)<|Rq Y (Zj (ov Y) Y)<|Ra Y<|Ra Y<|Ra Y<|Za<|K11 5 6 7 9 10 21 22 23 29 30 31 Y<|Tr<|Rq Y (Zi (ov Y) Y Y ZeK)<|Rq Y (Zw (ov Y) Y Y Y tS3 Y)<|Rm Y<|Za<|Ze<|?_
       obtain ⟨r3, hl3, ho3⟩ := QE h
       refine L2 (fun out6 i3=>⟨[(5, .own 0 out6.length), (6, .int .i64 i), (7, .ptr 1 1 0 0), (9, .int .i64 x2), (10, .int .i64 y3.1), (21, .sl 26 (List.map R26 l)), (22, .int .i64 (l.length : Int)), (23, .int .i64 i), (29, .sl 3 (List.map R3 y2)), (30, .int .i64 (y2.length : Int)), (31, .int .i64 i2), (46, .int .i64 x.Slots), (47, .int .i64 i3)], [some ⟨65, List.map R65 out6⟩, some ⟨26, [[.int .i64 x.Slots, .int .i64 x.Limit, .sl 49 (List.map R49 x.Sectors), .sl 3 (List.map R3 x.Wear), .sl 4 (List.map R4 x.Bad)]]⟩]⟩) hl3 (ES [some 0, some 1]) fun n3 out6 i3 h=>?_
       unfold Zax at h
       refine Tr<|R2 ZD Y<|Za<|Zg<|If h Y (fun h=>?_) fun h=>?_
       ·
        refine Zf<|Zg<|Ze<|Xk (kc 5 Y<|kc 6 Y<|kc 7 Y<|kc 9 Y<|kc 10 Y<|kc 21 Y<|kc 22 Y<|kc 23 Y<|kc 29 Y<|kc 30 Y<|kc 31 Y<|kc 46 Y<|kc 47 Y kn) Y<|Tr<|Rm Y<|Ra Y<|Za<|Xk (kc 5 Y<|kc 6 Y<|kc 7 Y<|kc 9 Y<|kc 10 Y<|kc 13 Y<|kc 21 Y<|kc 22 Y<|kc 23 Y<|kc 29 Y<|kc 30 Y<|kc 31 Y<|kc 46 Y<|kc 47 Y kn) Y<|Tr<|Rq Y (Zi (ov Y) Y Y ZP)<|Rq Y (Zw (ov Y) Y Y Y Qw Y)<|Rm Y<|bE h fun x4 h_x4 h=>Rq Y (ZS (ov Y) (ov Y) Qm h_x4)<|Rq Y (Zd (ov Y) ZfN Y)<|Rm Y<|bE h fun y4 h_y4 h=>Rq Y (Zn (Zj3 h_y4)<|.cons (ov Y) (.b Y)<|.cons (ov Y) (.b Y) .nil)<|R2 Zaw Y<|Za<|Xk (kc 5 Y<|kc 6 Y<|kc 7 Y<|kc 9 Y<|kc 10 Y<|kc 13 Y<|kc 21 Y<|kc 22 Y<|kc 23 Y<|kc 29 Y<|kc 30 Y<|kc 31 Y<|kc 46 Y<|kc 47 Y<|kc 57 Y kn) Y<|If h Y (fun h=>?_) fun h=>?_
        ·
         exact Xk (kc 5 Y<|kc 6 Y<|kc 7 Y<|kc 9 Y<|kc 10 Y<|kc 13 Y<|kc 21 Y<|kc 22 Y<|kc 23 Y<|kc 29 Y<|kc 30 Y<|kc 31 Y<|kc 46 Y<|kc 47 Y kn) Y<|Tr<|Rq Y (Zi (ov Y) Y Y ZP)<|Rq Y (Zw (ov Y) Y Y Y Qw Y)<|Rm Y<|bE h fun x5 h_x5 h=>Rq Y (ZS (ov Y) (ov Y) Qm h_x5)<|Rq Y (Zd (ov Y) ZfN Y)<|Rm Y<|bE h fun y5 h_y5 h=>Rq Y (Zn (Zhu h_y5)<|.cons (ov Y) (.b Y)<|.cons (ov Y) (.b Y) .nil)<|Rm Y<|Rq Y (Zj (ov Y) Y)<|Rq Y (Zj (ov Y) Y)<|Rx Y (Z3 (row := (List.map C40 (Vector.replicate 64 0).toList)) 2 Y Zd8 Y tZ_42)<|Rx Y (Zl (ov Y) (ov Y) (Zv QR arL) Y Y Y (Xt (Zq arL) arL) (Zb<|arC fun _ => Y)<|QS<|Eq.trans arL<|Eq.symm arL)<|Ra Y<|Za<|Xk (kc 5 Y<|kc 6 Y<|kc 7 Y<|kc 9 Y<|kc 10 Y<|kc 13 Y<|kc 14 Y<|kc 21 Y<|kc 22 Y<|kc 23 Y<|kc 29 Y<|kc 30 Y<|kc 31 Y<|kc 46 Y<|kc 47 Y kn) Y<|Zp<|Rm Y<|Rm Y<|Rm Y<|Rm Y<|Rm Y<|Rq Y (Qe (ov Y) Y Y Y QR (ZW<|Zq arL) arL (hns := (nsM fun _ => Y)))<|Rq Y (ZkV (zr := (.int .i64 0) :: (.int .i64 0) :: (.int .i64 0) :: (.int .i64 0) :: ((List.map C40 (Vector.replicate 64 0).toList) ++ ([]))) ZoS ZoV ZmI (by kernel_rfl) (.cons (cvs (ov Y)<|Zk Y)<|.cons (cvs (ov Y)<|Zk Y)<|.cons (cvs (ov Y)<|Zk Y)<|.cons (cvs (ov Y)<|Zk Y)<|.cons (cva<|ov Y) .nil)<|Zdd Y Y at1 pt2<|Zdd Y Y at3 pt4<|Zdd Y Y at5 pt6<|Zdd Y Y at7 pt8<|Zdd Y arL at9 Zqd ZmV)<|R_q (.sl 65<|List.map R65 ([(api_Kept.mk i x2 y3.1 i3 y5.1)] : List api_Kept)) Y (Xw ZcV (.cons (cva<|ov Y) Q8 (pwD Ze7) .nil) Y Y)<|bE h fun l2 h_l2 h=>Rx Y (Qo (ov Y) (QD (ov Y) tZ_65) ZcV Y Y Y (fun x=>Zb<|E65 x) Y h_l2)<|Ra Y<|Za<|Xk (kc 5 Y<|kc 6 Y<|kc 7 Y<|kc 9 Y<|kc 10 Y<|kc 21 Y<|kc 22 Y<|kc 23 Y<|kc 29 Y<|kc 30 Y<|kc 31 Y<|kc 46 Y<|kc 47 Y kn) Y<|Zp<|R2 ZF Y<|Rm Y<|Za<|⟨_, h, ES [some 0, some 1]⟩
        ·
         exact Zf<|Xk (kc 5 Y<|kc 6 Y<|kc 7 Y<|kc 9 Y<|kc 10 Y<|kc 21 Y<|kc 22 Y<|kc 23 Y<|kc 29 Y<|kc 30 Y<|kc 31 Y<|kc 46 Y<|kc 47 Y kn) Y<|Zp<|R2 ZF Y<|Rm Y<|Za<|⟨_, h, ES [some 0, some 1]⟩
       ·
        refine Zz<|?_
        replace h := lx h ▸ ho3
        exact ⟨_, h, ES [some 0, some 1]⟩
      ·
       exact Zp<|R2 ZF Y<|Rm Y<|Za<|⟨_, h, ES [some 0, some 1]⟩
     ·
      refine Zz<|?_
      replace h := lx h ▸ ho2
      exact ⟨_, h, ES [some 0]⟩
    ·
     exact Zp<|R2 ZF Y<|Rm Y<|Za<|⟨_, h, ES [some 0]⟩
   ·
    refine Zz<|?_
    replace h := lx h ▸ ho1
    exact ⟨_, h, ES [some 0]⟩
  ·
   refine Tr<|Rm Y<|Ra Y<|Ra Y<|Za<|?_
   obtain rfl := rt h
   exact Zo (ZG Y (.two (.tmp Y<|View.ownM Y Y D65)<|rb Y))
theorem Zb3 {s1 : List api_Kept} {s2 : List api_Kept} {r : Bool} (h : Qt s1 s2 = some r) :
 CSpec Tryz.prog gl0 28 [.sl 65 (List.map R65 s1), .sl 65 (List.map R65 s2)] (.bool r) := by
 unfold Qt at h
 replace h := Qk h
 refine So Tryz.func28 Y fun w0 A=>Tr<|Ra Y<|Za<|Zg<|K2 0 1 Y<|Tr<|Rm Y<|Rl tZ_65 ZcV Y<|Rm Y<|Rl tZ_65 ZcV Y<|R2 Q2 Y<|Za<|K3 0 1 10 Y<|If h Y (fun h=>?_) fun h=>?_
 ·
  refine K0<|Tr<|Ra Y<|Za<|?_
  obtain rfl := rt h
  exact Zo (ZG Y (.one<|rb Y))
 ·
  refine Zf<|J0 (fun j => (.inr j)) ⟨[], []⟩ h (fun h=>?_) fun h=>?_
  ·
   refine K2 0 1 Y<|Tr<|Rm Y<|Rl tZ_65 ZcV Y<|Rm Y<|Za<|Ze<|?_
   obtain ⟨r1, hl1, ho1⟩ := QE h
   refine L1 (fun i=>⟨[(0, .sl 65 (List.map R65 s1)), (1, .sl 65 (List.map R65 s2)), (12, .int .i64 (s1.length : Int)), (13, .int .i64 i)], []⟩) hl1 (ES []) fun n1 i h=>?_
   unfold Qj at h
   refine Tr<|R2 ZD Y<|Za<|Zg<|If h Y (fun h=>?_) fun h=>?_
   ·
    refine Zf<|Zg<|Ze<|K4 0 1 12 13 Y<|Tr<|Rm Y<|Ra Y<|Za<|Zg<|K5 0 1 5 12 13 Y<|Qd (cw := md0) (by kernel_rfl)<|D1 0 Zc Y<|D1 1 Zc Y<|bE h fun x h_x h=>Dq 2 Y (ZS (ov Y) (ov Y) ZcV h_x)<|Dq 3 Y (Z6 (ov Y) Zhc (ZW<|Zq Q8) Q8)<|D1 4 Zc Y<|D1 5 Zc Y<|bE h fun x2 h_x2 h=>Dq 6 Y (ZS (ov Y) (ov Y) ZcV h_x2)<|Dq 7 Y (Z6 (ov Y) Zhc (ZW<|Zq Q8) Q8)<|Dq 8 Y (ZmY Zqg (ov Y) (ov Y) (.aggB Ze7) (.aggB Ze7) (fkC Y<|fkC Y<|fkC Y<|fkC Y<|fkA (fkV fun _ => Y) fkN) (fkC Y<|fkC Y<|fkC Y<|fkC Y<|fkA (fkV fun _ => Y) fkN)<|eqC Y<|eqC Y<|eqC Y<|eqC Y<|eqA (Eq.trans arL<|Eq.symm arL) (eqV fun _ _ => Y) eqN)<|Dd<|K5 0 1 12 13 24 Y<|If h Y (fun h=>?_) fun h=>?_
    ·
     refine K0<|Tr<|Ra Y<|Za<|?_
     replace h := lx h ▸ ho1
     obtain rfl := rt h
     exact Zo (ZG Y (.one<|rb Y))
    ·
     exact Zf<|K4 0 1 12 13 Y<|Zp<|R2 ZF Y<|Rm Y<|Za<|⟨_, h, ES []⟩
   ·
    refine Zz<|?_
    replace h := lx h ▸ ho1
    exact ⟨(), h, ES []⟩
  ·
   replace h := elr h
   replace h := t0i h
   refine Tr<|Ra Y<|Za<|?_
   obtain rfl := rt h
   exact Zo (ZG Y (.one<|rb Y))
theorem ZjX {f : Vector Int 64} {r : (List api_Flaw)} (h : Zem f = some r) :
 CSpec Tryz.prog gl0 121 [.agg (List.map C40 f.toList)] (.sl 149 (List.map R149 r)) := by
 unfold Zem at h
 replace h := Qk h
 refine So Tryz.func121 Y fun w0 A=>Tr<|Rq Y (ZbM (cva<|ov Y) arL tZ_42<|arD fun _ => Y)<|Ra Y<|Za<|K1 1 Y<|Tr<|Ra Y<|Za<|I1 (fun out=>⟨[(1, .rp (List.map C40 f.toList) 0), (3, .own 0 out.length)], [some ⟨149, List.map R149 out⟩]⟩) h (fun h=>?_) fun out h=>?_
 ·
  refine Tr<|Rq Y (Z6 (ov Y) QR (ZW<|Zq arL) arL)<|Rm Y<|Za<|Ze<|?_
  obtain ⟨r1, hl1, ho1⟩ := QE h
  refine L2 (fun out2 i=>⟨[(1, .rp (List.map C40 f.toList) 0), (3, .own 0 out2.length), (7, .agg (List.map C40 f.toList)), (8, .int .i64 i)], [some ⟨149, List.map R149 out2⟩]⟩) hl1 (ES [none]) fun n1 out2 i h=>?_
  unfold Zbx at h
  refine Tr<|R2 ZD Y<|Za<|Zg<|If h Y (fun h=>?_) fun h=>?_
  ·
   refine Zf<|Zg<|Ze<|K4 1 3 7 8 Y<|Tr<|Rm Y<|bE h fun x h_x h=>Rq Y (Zif (ov Y) (ov Y) Jk Zae h_x)<|Ra Y<|Ra Y<|Za<|K6 1 3 4 5 7 8 Y<|Tr<|Rm Y<|R2 Za8 Y<|Za<|K6 1 3 4 7 8 13 Y<|If h Y (fun h=>?_) fun h=>?_
   ·
    exact K5 1 3 4 7 8 Y<|Zp<|Rm Y<|Rm Y<|Rq Y (Xm (ys := [_, _]) ZeO ZeP ZgT (.cons (cvs (ov Y)<|Zk Y)<|.cons (cvs (ov Y)<|Zk Y) .nil) Y)<|R_q (.sl 149<|List.map R149 ([(api_Flaw.mk i 5)] : List api_Flaw)) Y (Xw Zat (.cons (cva<|ov Y) Y (pwD Y) .nil) Y Y)<|bE h fun l h_l h=>Rx Y (Qo (ov Y) (QD (ov Y) tZ_149) Zat Y Y Y (fun _=>Zb Y) Y h_l)<|Ra Y<|Za<|K4 1 3 7 8 Y<|Zp<|R2 ZF Y<|Rm Y<|Za<|⟨_, h, ES [some 0]⟩
   ·
    exact Zf<|K4 1 3 7 8 Y<|Zp<|R2 ZF Y<|Rm Y<|Za<|⟨_, h, ES [some 0]⟩
  ·
   refine Zz<|?_
   replace h := lx h ▸ ho1
   exact ⟨_, h, ES [some 0]⟩
 ·
  refine Zg<|Tr<|Rm Y<|Rq Y (Zc0 (ov Y) Y Y Zat)<|R2 Za8 Y<|Za<|K3 1 3 22 Y<|If h Y (fun h=>?_) fun h=>?_
  ·
   refine K1 3 Y<|Tr<|Rm Y<|Ra Y<|Za<|?_
   obtain rfl := rt h
   exact Zo (ZG Y (.one<|.tmp Y<|View.ownM Y Y D149))
  ·
   refine Zf<|I1 (fun out3=>⟨[(1, .rp (List.map C40 f.toList) 0), (3, .own 0 out3.length)], [some ⟨149, List.map R149 out3⟩]⟩) h (fun h=>?_) fun out3 h=>?_
   ·
    refine Zg<|K2 1 3 Y<|Qd (cw := md0) (by kernel_rfl)<|bE h fun x2 h_x2 h=>Dq 0 Y (QM (ov Y) (ov Y) Jk h_x2)<|Dq 1 Y (Zd (ov Y) Zae<|Qn<|Xe (o := 0) (o' := ((Int.toNat 0) * 1)) (Zq arL)<|Q9 h_x2)<|Dq 2 Y (Z4 (ov Y) Zcx tI3 Y)<|Dq 3 Y (Z6 (ov Y) QR (ZW<|Zq arL) arL)<|bE h fun y h_y h=>Dq 4 Y (Zn (ZcP h_y)<|.cons (ov Y) (.aggB<|arD fun _ => Y) .nil)<|bE h fun y2 h_y2 h=>Dq 5 Y (Zn (Zga h_y2)<|.cons (ov Y) (.b Y) .nil)<|D2 6 Q2 Y<|Dd<|K3 1 3 30 Y<|If h Y (fun h=>?_) fun h=>?_
    ·
     exact K2 1 3 Y<|Zp<|Rm Y<|Rq Y (Xm (ys := [_, _]) ZeO ZeP ZgT (.cons (cvs (ov Y)<|Zk Y)<|.cons (cvs (ov Y)<|Zk Y) .nil) Y)<|R_q (.sl 149<|List.map R149 ([(api_Flaw.mk 0 1)] : List api_Flaw)) Y (Xw Zat (.cons (cva<|ov Y) Y (pwD Y) .nil) Y Y)<|bE h fun l2 h_l2 h=>Rx Y (Qo (ov Y) (QD (ov Y) tZ_149) Zat Y Y Y (fun _=>Zb Y) Y h_l2)<|Ra Y<|Za<|⟨_, h, ES [some 0]⟩
    ·
     exact Zf<|⟨_, h, ES [some 0]⟩
   ·
    refine I1 (fun out4=>⟨[(1, .rp (List.map C40 f.toList) 0), (3, .own 0 out4.length)], [some ⟨149, List.map R149 out4⟩]⟩) h (fun h=>?_) fun out4 h=>?_
    ·
     refine Tr<|Ra Y<|Za<|Ze<|?_
     obtain ⟨r2, hl2, ho2⟩ := QE h
     refine L2 (fun out5 i2=>⟨[(1, .rp (List.map C40 f.toList) 0), (3, .own 0 out5.length), (6, .int .i64 i2)], [some ⟨149, List.map R149 out5⟩]⟩) hl2 (ES [some 0]) fun n2 out5 i2 h=>?_
     unfold Zbq at h
     refine Zg<|Tr<|Rm Y<|R2 ZD Y<|Za<|K4 1 3 6 36 Y<|If h Y (fun h=>?_) fun h=>?_
     ·
      refine Zf<|Zg<|Ze<|K3 1 3 6 Y<|Tr<|Rm Y<|bE h fun x3 h_x3 h=>Rq Y (QM (ov Y) (ov Y) Jk h_x3)<|Rq Y (Zd (ov Y) Zae<|Qn<|Xe (o := 0) (o' := (i2.toNat * 1)) (Zq arL)<|Q9 h_x3)<|Rq Y (Z4 (ov Y) Zcx tI3 Y)<|bE h fun y3 h_y3 h=>Rq Y (Zn (Zgp h_y3)<|.cons (ov Y) (.b Y) .nil)<|R1 XN Y<|Za<|K4 1 3 6 44 Y<|If h Y (fun h=>?_) fun h=>?_
      ·
       exact K3 1 3 6 Y<|Zp<|Rm Y<|Rm Y<|Rq Y (Xm (ys := [_, _]) ZeO ZeP ZgT (.cons (cvs (ov Y)<|Zk Y)<|.cons (cvs (ov Y)<|Zk Y) .nil) Y)<|R_q (.sl 149<|List.map R149 ([(api_Flaw.mk i2 2)] : List api_Flaw)) Y (Xw Zat (.cons (cva<|ov Y) Y (pwD Y) .nil) Y Y)<|bE h fun l3 h_l3 h=>Rx Y (Qo (ov Y) (QD (ov Y) tZ_149) Zat Y Y Y (fun _=>Zb Y) Y h_l3)<|Ra Y<|Za<|K3 1 3 6 Y<|Zp<|Rm Y<|R2 ZF Y<|Ra Y<|Za<|⟨_, h, ES [some 0]⟩
      ·
       exact Zf<|K3 1 3 6 Y<|Zp<|Rm Y<|R2 ZF Y<|Ra Y<|Za<|⟨_, h, ES [some 0]⟩
     ·
      refine Zz<|?_
      replace h := lx h ▸ ho2
      exact ⟨_, h, ES [some 0]⟩
    ·
     refine I1 (fun out6=>⟨[(1, .rp (List.map C40 f.toList) 0), (3, .own 0 out6.length)], [some ⟨149, List.map R149 out6⟩]⟩) h (fun h=>?_) fun out6 h=>?_
     ·
      refine Zg<|Qd (cw := md0) (by kernel_rfl)<|bE h fun x4 h_x4 h=>Dq 0 Y (QM (ov Y) (ov Y) Jk h_x4)<|Dq 1 Y (Zd (ov Y) Zae<|Qn<|Xe (o := 0) (o' := ((Int.toNat 61) * 1)) (Zq arL)<|Q9 h_x4)<|Dq 2 Y (Z4 (ov Y) Zcx tI3 Y)<|bE h fun q h_q h=>Dq 3 Y (Jr (ov Y) (ov Y) h_q)<|Dq 4 Y (Z6 (ov Y) QR (ZW<|Zq arL) arL)<|bE h fun y4 h_y4 h=>Dq 5 Y (Zn (ZiL h_y4)<|.cons (ov Y) (.aggB<|arD fun _ => Y) .nil)<|D2 6 Q2 Y<|Dd<|K3 1 3 56 Y<|If h Y (fun h=>?_) fun h=>?_
      ·
       exact K2 1 3 Y<|Zp<|Rm Y<|Rq Y (Xm (ys := [_, _]) ZeO ZeP ZgT (.cons (cvs (ov Y)<|Zk Y)<|.cons (cvs (ov Y)<|Zk Y) .nil) Y)<|R_q (.sl 149<|List.map R149 ([(api_Flaw.mk 61 3)] : List api_Flaw)) Y (Xw Zat (.cons (cva<|ov Y) Y (pwD Y) .nil) Y Y)<|bE h fun l4 h_l4 h=>Rx Y (Qo (ov Y) (QD (ov Y) tZ_149) Zat Y Y Y (fun _=>Zb Y) Y h_l4)<|Ra Y<|Za<|⟨_, h, ES [some 0]⟩
      ·
       exact Zf<|⟨_, h, ES [some 0]⟩
     ·
      refine Zg<|Zg<|Qd (cw := md0) (by kernel_rfl)<|bE h fun x5 h_x5 h=>Dq 0 Y (QM (ov Y) (ov Y) Jk h_x5)<|Dq 1 Y (Zd (ov Y) Zae<|Qn<|Xe (o := 0) (o' := ((Int.toNat 62) * 1)) (Zq arL)<|Q9 h_x5)<|Dq 2 Y (Z4 (ov Y) Zcx tI3 Y)<|bE h fun q2 h_q2 h=>Dq 3 Y (Jr (ov Y) (ov Y) h_q2)<|D2 4 Zds Y<|bE h fun x6 h_x6 h=>Dq 5 Y (QM (ov Y) (ov Y) Jk h_x6)<|Dq 6 Y (Zd (ov Y) Zae<|Qn<|Xe (o := 0) (o' := ((Int.toNat 63) * 1)) (Zq arL)<|Q9 h_x6)<|Dq 7 Y (Z4 (ov Y) Zcx tI3 Y)<|bE h fun q3 h_q3 h=>Dq 8 Y (Jr (ov Y) (ov Y) h_q3)<|D2 9 ZF Y<|Dq 10 Y (Z6 (ov Y) QR (ZW<|Zq arL) arL)<|bE h fun y5 h_y5 h=>Dq 11 Y (Zn (ZgR h_y5)<|.cons (ov Y) (.aggB<|arD fun _ => Y) .nil)<|D2 12 Q2 Y<|Dd<|K2 3 73 Y<|If h Y (fun h=>?_) fun h=>?_
      ·
       refine K1 3 Y<|Zp<|Rm Y<|Rq Y (Xm (ys := [_, _]) ZeO ZeP ZgT (.cons (cvs (ov Y)<|Zk Y)<|.cons (cvs (ov Y)<|Zk Y) .nil) Y)<|R_q (.sl 149<|List.map R149 ([(api_Flaw.mk 62 4)] : List api_Flaw)) Y (Xw Zat (.cons (cva<|ov Y) Y (pwD Y) .nil) Y Y)<|bE h fun l5 h_l5 h=>Rx Y (Qo (ov Y) (QD (ov Y) tZ_149) Zat Y Y Y (fun _=>Zb Y) Y h_l5)<|Ra Y<|Za<|K1 3 Y<|Tr<|Rm Y<|Ra Y<|Za<|?_
       obtain rfl := rt h
       exact Zo (ZG Y (.one<|.tmp Y<|View.ownM Y Y D149))
      ·
       refine Zf<|K1 3 Y<|Tr<|Rm Y<|Ra Y<|Za<|?_
       obtain rfl := rt h
       exact Zo (ZG Y (.one<|.tmp Y<|View.ownM Y Y D149))
theorem Zj9 {f : Vector Int 64} {r : Bool} (h : ZcU f = some r) :
 CSpec Tryz.prog gl0 84 [.agg (List.map C40 f.toList)] (.bool r) := by
 unfold ZcU at h
 replace h := Qk h
 refine So Tryz.func84 Y fun w0 A=>Tr<|Rq Y (ZbM (cva<|ov Y) arL tZ_42<|arD fun _ => Y)<|Ra Y<|Za<|K2 1 2 Y<|Tr<|Rq Y (Z6 (ov Y) QR (ZW<|Zq arL) arL)<|bE h fun y h_y h=>Rq Y (Zn (ZjX h_y)<|.cons (ov Y) (.aggB<|arD fun _ => Y) .nil)<|Rl tZ_149 Zat Y<|R2 Zaw Y<|Ra Y<|Za<|?_
 obtain rfl := rt h
 exact Zo (ZG Y (.one<|rb Y))
theorem ZgX {w : Int} {r : Bool} (h : Zc5 w = some r) :
 CSpec Tryz.prog gl0 122 [.int .u16 w] (.bool r) := by
 unfold Zc5 at h
 replace h := Qk h
 refine So Tryz.func122 Y fun w0 A=>Tr<|Ra Y<|Za<|Tr<|Rm Y<|R2 ZhU Y<|Rm Y<|Rq Y (.guarded ((decide (w ≤ 4095)) == true) Y Y Y Y fun h => Zc<|ov Y)<|Rq Y (.guarded ((decide (w ≤ 4095)) == true) Y Y Y Y fun h => Z4 (ow Y h) Zcx tI3 Y)<|bE h fun y h_y h=>Rq Y (.guarded ((decide (w ≤ 4095)) == true) Y Y Y Y fun h => Zn (Zgp<|gdT h_y h)<|.cons (ow Y h) (.b Y) .nil)<|Rq Y (Zb4 (ov Y) fun hp=>ow Y<|gT hp)<|Ra Y<|Za<|?_
 obtain rfl := rt h
 exact Zo (ZG Y (.one<|rb Y))
theorem Zej {f : Vector Int 64} {r : Int × Bool} (h : Jz f = some r) :
 CSpec Tryz.prog gl0 85 [.agg (List.map C40 f.toList)] (.tuple [.int .i64 r.1, .bool r.2]) := by
 unfold Jz at h
 replace h := Qk h
 refine So Tryz.func85 Y fun w0 A=>Tr<|Rq Y (ZbM (cva<|ov Y) arL tZ_42<|arD fun _ => Y)<|Ra Y<|Ra Y<|Za<|Zg<|K1 1 Y<|Tr<|bE h fun x h_x h=>Rq Y (QM (ov Y) (ov Y) Jk h_x)<|Rq Y (Zd (ov Y) Zae<|Qn<|Xe (o := 0) (o' := ((Int.toNat 1) * 1)) (Zq arL)<|Q9 h_x)<|bE h fun y h_y h=>Rq Y (Zn (ZgX h_y)<|.cons (ov Y) (.b Y) .nil)<|R1 XN Y<|Rm Y<|bE h fun x2 h_x2 h=>Rq Y (.guarded ((!y) == false) Y Y Y Y fun h => QM (ov Y) (ov Y) Jk<|gdT h_x2 h)<|Rq Y (.guarded ((!y) == false) Y Y Y Y fun h => Zd (ow Y h) Zae<|Qn<|Xe (o := 0) (o' := ((Int.toNat 2) * 1)) (Zq arL)<|Q9<|gdT h_x2 h)<|bE h fun y2 h_y2 h=>Rq Y (.guarded ((!y) == false) Y Y Y Y fun h => Zn (ZgX<|gdT h_y2 h)<|.cons (ow Y h) (.b Y) .nil)<|Rq Y (.guarded ((!y) == false) Y Y Y Y fun h => XN<|ow Y h)<|Rq Y (Zdw (ov Y) fun hp=>ow Y<|gF hp)<|Za<|K2 1 13 Y<|If h Y (fun h=>?_) fun h=>?_
 ·
  refine K0<|Tr<|Ra Y<|Ra Y<|Za<|?_
  obtain rfl := rt h
  exact Zo (ZG Y (.two (rb Y)<|rb Y))
 ·
  refine Zf<|K1 1 Y<|Tr<|Rq Y (Z6 (ov Y) QR (ZW<|Zq arL) arL)<|bE h fun y3 h_y3 h=>Rq Y (Zn (ZcP h_y3)<|.cons (ov Y) (.aggB<|arD fun _ => Y) .nil)<|Ra Y<|Ra Y<|Za<|?_
  obtain rfl := rt h
  exact Zo (ZG Y (.two (rb Y)<|rb Y))
theorem Zji {l : List api_Memory} {r : (List (Vector Int 64)) × Int} (h : Zdf l = some r) :
 CSpec Tryz.prog gl0 30 [.sl 26 (List.map R26 l)] (.tuple [.sl 42 (List.map R42 r.1), .int .i64 r.2]) := by
 unfold Zdf at h
 replace h := Qk h
 refine So Tryz.func30 Y fun w0 A=>Tr<|Ra Y<|Ra Y<|Za<|K1 0 Y<|Tr<|Rm Y<|bE h fun y h_y h=>Rq Y (Zn (ZfC h_y)<|.cons (ov Y) (.b Y) .nil)<|Rm Y<|Rq Y (Zj (ov Y) Y)<|Rq Y (Zj (ov Y) Y)<|Ra Y<|Ra Y<|Za<|Zg<|K2 4 5 Y<|Tr<|Rm Y<|R2 Q2 Y<|Za<|K3 4 5 25 Y<|If h Y (fun h=>?_) fun h=>?_
 ·
  refine K1 5 Y<|Tr<|Rm Y<|Ra Y<|Ra Y<|Za<|?_
  obtain rfl := rt h
  exact Zo (ZG Y (.two (.tmp Y<|View.nils 42)<|rb Y))
 ·
  refine Zf<|K1 4 Y<|Tr<|Ra Y<|Za<|I1 (fun best=>⟨[(6, .own 0 best.length)], [some ⟨65, List.map R65 best⟩]⟩) h (fun h=>?_) fun best h=>?_
  ·
   refine Tr<|Rm Y<|Rl tZ_65 ZcV Y<|Rm Y<|Za<|Ze<|?_
   obtain ⟨r1, hl1, ho1⟩ := QE h
   refine L2 (fun best2 i=>⟨[(6, .own 0 best2.length), (27, .sl 65 (List.map R65 y.1)), (28, .int .i64 (y.1.length : Int)), (29, .int .i64 i)], [some ⟨65, List.map R65 best2⟩]⟩) hl1 (ES [none]) fun n1 best2 i h=>?_
   unfold XB at h
   refine Tr<|R2 ZD Y<|Za<|Zg<|If h Y (fun h=>?_) fun h=>?_
   ·
    refine Zf<|I1 (fun best3=>⟨[(6, .own 0 best3.length), (27, .sl 65 (List.map R65 y.1)), (28, .int .i64 (y.1.length : Int)), (29, .int .i64 i)], [some ⟨65, List.map R65 best3⟩]⟩) h (fun h=>?_) fun best3 h=>?_
    ·
     refine Ze<|K4 6 27 28 29 Y<|Tr<|bE h fun x h_x h=>Rq Y (ZS (ov Y) (ov Y) ZcV h_x)<|Rq Y (Z6 (ov Y) Zhc (ZW<|Zq Q8) Q8)<|Rx Y (Z3 (row := (.int .i64 0) :: (.int .i64 0) :: (.int .i64 0) :: (.int .i64 0) :: ((List.map C40 (Vector.replicate 64 0).toList) ++ ([]))) 1 Y ZmI (by kernel_rfl)<|by exact Eq.symm (Eq.trans (b := 68) Q8 tZ_65.symm))<|Rx Y (Zl (ov Y) (ov Y) (Zv Zhc Q8) Y Y Y (Xt (Zq Q8) Q8) (Zb ZlO)<|QS<|Eq.trans Q8<|Eq.symm Q8)<|Za<|Zg<|K5 6 8 27 28 29 Y<|Tr<|Rq Y (Zi (ov Y) Y Y Zhf)<|Rq Y (Qe (ov Y) Y Y Y QR (ZW at9) arL (hns := (nsM fun _ => Y)))<|bE h fun y2 h_y2 h=>Rq Y (Zn (Zj9 h_y2)<|.cons (ov Y) (.aggB<|arD fun _ => Y) .nil)<|R1 XN Y<|Za<|K6 6 8 27 28 29 36 Y<|If h Y (fun h=>?_) fun h=>?_
     ·
      exact Zz<|⟨_, h, ES [some 0]⟩
     ·
      refine Zf<|K5 6 8 27 28 29 Y<|Tr<|Rq Y (Zi (ov Y) Y Y Zhf)<|Rq Y (Qe (ov Y) Y Y Y QR (ZW at9) arL (hns := (nsM fun _ => Y)))<|bE h fun y3 h_y3 h=>Rq Y (Zn (Zej h_y3)<|.cons (ov Y) (.aggB<|arD fun _ => Y) .nil)<|Rm Y<|Rq Y (Zj (ov Y) Y)<|Rq Y (Zj (ov Y) Y)<|Ra Y<|Ra Y<|Za<|K6 6 8 9 27 28 29 Y<|Tr<|Ra Y<|Za<|I1 (fun at_=>⟨[(6, .own 0 best2.length), (8, .ptr 1 1 0 0), (9, .int .i64 y3.1), (11, .int .i64 at_), (27, .sl 65 (List.map R65 y.1)), (28, .int .i64 (y.1.length : Int)), (29, .int .i64 i)], [some ⟨65, List.map R65 best2⟩, some ⟨65, [(.int .i64 x.Memory) :: (.int .i64 x.Sector) :: (.int .i64 x.Sequence) :: (.int .i64 x.Slot) :: ((List.map C40 x.Frame.toList) ++ ([]))]⟩]⟩) h (fun h=>?_) fun at_ h=>?_
      ·
       refine Ze<|?_
       obtain ⟨r2, hl2, ho2⟩ := QE h
       refine L1 (fun at_2=>⟨[(6, .own 0 best2.length), (8, .ptr 1 1 0 0), (9, .int .i64 y3.1), (11, .int .i64 at_2), (27, .sl 65 (List.map R65 y.1)), (28, .int .i64 (y.1.length : Int)), (29, .int .i64 i)], [some ⟨65, List.map R65 best2⟩, some ⟨65, [(.int .i64 x.Memory) :: (.int .i64 x.Sector) :: (.int .i64 x.Sequence) :: (.int .i64 x.Slot) :: ((List.map C40 x.Frame.toList) ++ ([]))]⟩]⟩) hl2 (ES [some 0, some 1]) fun n2 at_2 h=>?_
       unfold ZaP at h
       refine Zg<|Tr<|Rm Y<|Rm Y<|Rq Y (Zc0 (ov Y) Y Y ZcV)<|R2 ZD Y<|Za<|K8 6 8 9 11 27 28 29 46 Y<|If h Y (fun h=>?_) fun h=>?_
       ·
        refine Zf<|Ze<|Zg<|K7 6 8 9 11 27 28 29 Y<|Tr<|Rm Y<|Rm Y<|bE h fun x2 h_x2 h=>Rq Y (Qh (ov Y) (ov Y) ZcV Y Y h_x2)<|Rq Y (Zbd (ov Y) Y Y Zhf)<|Rq Y (Zjy (ov Y) Y Y h_x2 QR (ZW at9) arL (hns := (nsM fun _ => Y)))<|bE h fun y4 h_y4 h=>Rq Y (Zn (Zej h_y4)<|.cons (ov Y) (.aggB<|arD fun _ => Y) .nil)<|Rm Y<|Rq Y (Zj (ov Y) Y)<|Rq Y (Zj (ov Y) Y)<|Ra Y<|Ra Y<|Za<|K8 6 8 9 11 12 27 28 29 Y<|Tr<|Rm Y<|Rm Y<|R2 ZhA Y<|Za<|K8 6 8 9 11 27 28 29 58 Y<|If h Y (fun h=>?_) fun h=>?_
        ·
         refine Zz<|?_
         replace h := lx h ▸ ho2
         exact ⟨_, h, ES [some 0, some 1]⟩
        ·
         exact Zf<|K7 6 8 9 11 27 28 29 Y<|Zp<|Rm Y<|R2 ZF Y<|Ra Y<|Za<|⟨_, h, ES [some 0, some 1]⟩
       ·
        refine Zz<|?_
        replace h := lx h ▸ ho2
        exact ⟨_, h, ES [some 0, some 1]⟩
      ·
       refine J0 (fun j => (.inr j)) ⟨[(6, .own 0 best2.length), (8, .ptr 1 1 0 0), (11, .int .i64 at_), (27, .sl 65 (List.map R65 y.1)), (28, .int .i64 (y.1.length : Int)), (29, .int .i64 i)], [some ⟨65, List.map R65 best2⟩, some ⟨65, [(.int .i64 x.Memory) :: (.int .i64 x.Sector) :: (.int .i64 x.Sequence) :: (.int .i64 x.Slot) :: ((List.map C40 x.Frame.toList) ++ ([]))]⟩]⟩ h (fun h=>?_) fun h=>?_
       ·
        refine Tr<|Rm Y<|Rm Y<|Rq Y (Zc0 (ov Y) Y Y ZcV)<|R2 ZD Y<|Za<|K8 6 8 9 11 27 28 29 64 Y<|If h Y (fun h=>?_) fun h=>?_
        ·
         refine K7 6 8 9 11 27 28 29 Y<|Tr<|Rm Y<|Rm Y<|bE h fun x3 h_x3 h=>Rq Y (Qh (ov Y) (ov Y) ZcV Y Y h_x3)<|Rq Y (Zbd (ov Y) Y Y Zhf)<|Rq Y (Zjy (ov Y) Y Y h_x3 QR (ZW at9) arL (hns := (nsM fun _ => Y)))<|bE h fun y5 h_y5 h=>Rq Y (Zn (Zej h_y5)<|.cons (ov Y) (.aggB<|arD fun _ => Y) .nil)<|Rm Y<|Rq Y (Zj (ov Y) Y)<|Rq Y (Zj (ov Y) Y)<|Ra Y<|Ra Y<|Za<|K8 6 8 9 11 14 27 28 29 Y<|Tr<|Rm Y<|Rm Y<|R2 Zaw Y<|Za<|K7 6 8 11 27 28 29 76 Y<|If h Y (fun h=>?_) fun h=>?_
         ·
          refine Zg<|Zg<|K6 6 8 11 27 28 29 Y<|Qd (cw := md0) (by kernel_rfl)<|Dq 0 Y (Zi (ov Y) Y Y Zko)<|Dq 1 Y (Zw (ov Y) Y Y Y tS3<|Qn at5)<|D1 2 Zc Y<|D1 3 Zc Y<|bE h fun x4 h_x4 h=>Dq 4 Y (Qh (ov Y) (ov Y) ZcV Y Y h_x4)<|Dq 5 Y (Zbd (ov Y) Y Y Zko)<|Dq 6 Y (Qu (ov Y) Y Y h_x4 tS3<|Qn at5)<|D2 7 Za8 Y<|Dd<|K7 6 8 11 27 28 29 84 Y<|If h Y (fun h=>?_) fun h=>?_
          ·
           exact K6 6 8 11 27 28 29 Y<|Zp<|Rm Y<|Rm Y<|Rq Y (Qe (ov Y) Y Y Y Zhc (ZW<|Zq Q8) Q8 (hns := Zm8))<|bE h fun x5 h_x5 h=>Rq Y (Qh (ov Y) (ov Y) ZcV Y Y h_x5)<|Rx Y (Xo (u' := x) (ov Y) (ov Y) (Zv Zhc Q8) Y Y h_x5 (Nat.ble_eq_true_of_le<|Xt (Zq Q8) Q8) (Zb ZlO)<|QS<|Eq.trans Q8<|Eq.symm Q8)<|Za<|Zz<|⟨_, h, ES [some 0]<|sr 6 Y (Zdv (Eq.symm<|(List.length_set ..).trans Y) Y)<|sd 27 Y Y<|sd 28 Y Y<|sd 29 Y Y sn⟩
          ·
           exact Zf<|Zz<|⟨_, h, ES [some 0]⟩
         ·
          exact Zf<|⟨(), h, ES [some 0, some 1]⟩
        ·
         exact Zf<|⟨(), h, ES [some 0, some 1]⟩
       ·
        replace h := elr h
        replace h := t0i h
        exact Tr<|Rm Y<|Rq Y (Qe (ov Y) Y Y Y Zhc (ZW<|Zq Q8) Q8 (hns := Zm8))<|R_q (.sl 65<|List.map R65 ([x] : List api_Kept)) Y (Xw ZcV (.cons (cva<|ov Y) Q8 (pwD Ze7) .nil) Y Y)<|bE h fun l2 h_l2 h=>Rx Y (Qo (ov Y) (QD (ov Y) tZ_65) ZcV Y Y Y (fun x=>Zb<|E65 x) Y h_l2)<|Ra Y<|Za<|Zg<|K6 6 8 11 27 28 29 Y<|Qd (cw := md0) (by kernel_rfl)<|D1 0 Zc Y<|D1 1 Zc Y<|D2 2 ZF Y<|bE h fun u h_u h=>Dq 3 Y (Zo6 (ov Y) Y Y ZcV (oi<|ov Y) on h_u)<|D1 4 Zc Y<|D1 5 Zc Y<|bE h fun u2 h_u2 h=>Dq 6 Y (Zo6 (ov Y) Y Y ZcV (oi<|ov Y) on h_u2)<|Do 7 Y (ZoM (ov Y) (ov Y) Y Y D65 E65 ZcV (JY h_u)<|JY h_u2)<|Dd<|K6 6 8 11 27 28 29 Y<|Zp<|Rm Y<|Rm Y<|Rq Y (Qe (ov Y) Y Y Y Zhc (ZW<|Zq Q8) Q8 (hns := Zm8))<|bE h fun x6 h_x6 h=>Rq Y (Qh (ov Y) (ov Y) ZcV Y ((JE (JY h_u) (JY h_u2)).trans Y) h_x6)<|Rx Y (Xo (u' := x) (ov Y) (ov Y) (Zv Zhc Q8) Y ((JE (JY h_u) (JY h_u2)).trans Y) h_x6 (Nat.ble_eq_true_of_le<|Xt (Zq Q8) Q8) (Zb ZlO)<|QS<|Eq.trans Q8<|Eq.symm Q8)<|Za<|⟨_, h, ES [some 0]<|sr 6 Y (Zdv (Eq.symm<|(List.length_set ..).trans<|(JE (JY h_u) (JY h_u2)).trans Y) Y)<|sd 27 Y Y<|sd 28 Y Y<|sd 29 Y Y sn⟩
    ·
     exact Zp<|R2 ZF Y<|Rm Y<|Za<|⟨_, h, ES [some 0]⟩
   ·
    refine Zz<|?_
    replace h := lx h ▸ ho1
    exact ⟨_, h, ES [some 0]⟩
  ·
   refine Tr<|Ra Y<|Za<|I1 (fun out=>⟨[(16, .own 0 out.length)], [some ⟨42, List.map R42 out⟩]⟩) h (fun h=>?_) fun out h=>?_
   ·
    refine Tr<|Rm Y<|Rq Y (Zc0 (ov Y) Y Y ZcV)<|Rm Y<|Za<|Ze<|?_
    obtain ⟨r3, hl3, ho3⟩ := QE h
    refine L2 (fun out2 i2=>⟨[(16, .own 0 out2.length), (106, .own 1 best.length), (107, .int .i64 (best.length : Int)), (108, .int .i64 i2)], [some ⟨42, List.map R42 out2⟩, some ⟨65, List.map R65 best⟩]⟩) hl3 (ES [none, some 0]) fun n3 out2 i2 h=>?_
    unfold Za6 at h
    refine Tr<|R2 ZD Y<|Za<|Zg<|If h Y (fun h=>?_) fun h=>?_
    ·
     exact Zf<|Zg<|Ze<|K4 16 106 107 108 Y<|Tr<|bE h fun x7 h_x7 h=>Rq Y (Qh (ov Y) (ov Y) ZcV Y Y h_x7)<|Rq Y (Zjy (ov Y) Y Y h_x7 Zhc (ZW<|Zq Q8) Q8 (hns := Zm8))<|Rx Y (Z3 (row := (.int .i64 0) :: (.int .i64 0) :: (.int .i64 0) :: (.int .i64 0) :: ((List.map C40 (Vector.replicate 64 0).toList) ++ ([]))) 2 Y ZmI (by kernel_rfl)<|by exact Eq.symm (Eq.trans (b := 68) Q8 tZ_65.symm))<|Rx Y (Zl (ov Y) (ov Y) (Zv Zhc Q8) Y Y Y (Xt (Zq Q8) Q8) (Zb ZlO)<|QS<|Eq.trans Q8<|Eq.symm Q8)<|Za<|K5 16 18 106 107 108 Y<|Zp<|Rm Y<|Rq Y (Zi (ov Y) Y Y Zhf)<|Rq Y (Qe (ov Y) Y Y Y QR (ZW at9) arL (hns := (nsM fun _ => Y)))<|R_q (.sl 42<|List.map R42 ([x7.Frame] : List (Vector Int 64))) Y (Xw ZjI (.cons (cva<|ov Y) arL (pwD<|arD fun _ => Y) .nil) Y Y)<|bE h fun l3 h_l3 h=>Rx Y (Qo (ov Y) (QD (ov Y) tZ_42) ZjI Y Y Y (fun x=>Zb<|E42 x) Y h_l3)<|Ra Y<|Za<|K4 16 106 107 108 Y<|Zp<|R2 ZF Y<|Rm Y<|Za<|⟨_, h, ES [some 0, some 1]⟩
    ·
     refine Zz<|?_
     replace h := lx h ▸ ho3
     exact ⟨_, h, ES [some 0]⟩
   ·
    refine Tr<|Rm Y<|Ra Y<|Ra Y<|Za<|?_
    obtain rfl := rt h
    exact Zo (ZG Y (.two (.tmp Y<|View.ownM Y Y D42)<|rb Y))
theorem Zbt {s1 : List (Vector Int 64)} {s2 : List (Vector Int 64)} {r : Bool} (h : Ql s1 s2 = some r) :
 CSpec Tryz.prog gl0 31 [.sl 42 (List.map R42 s1), .sl 42 (List.map R42 s2)] (.bool r) := by
 unfold Ql at h
 replace h := Qk h
 refine So Tryz.func31 Y fun w0 A=>Tr<|Ra Y<|Za<|Zg<|K2 0 1 Y<|Tr<|Rm Y<|Rl tZ_42 ZjI Y<|Rm Y<|Rl tZ_42 ZjI Y<|R2 Q2 Y<|Za<|K3 0 1 10 Y<|If h Y (fun h=>?_) fun h=>?_
 ·
  refine K0<|Tr<|Ra Y<|Za<|?_
  obtain rfl := rt h
  exact Zo (ZG Y (.one<|rb Y))
 ·
  refine Zf<|J0 (fun j => (.inr j)) ⟨[], []⟩ h (fun h=>?_) fun h=>?_
  ·
   refine K2 0 1 Y<|Tr<|Rm Y<|Rl tZ_42 ZjI Y<|Rm Y<|Za<|Ze<|?_
   obtain ⟨r1, hl1, ho1⟩ := QE h
   refine L1 (fun i=>⟨[(0, .sl 42 (List.map R42 s1)), (1, .sl 42 (List.map R42 s2)), (12, .int .i64 (s1.length : Int)), (13, .int .i64 i)], []⟩) hl1 (ES []) fun n1 i h=>?_
   unfold Qa at h
   refine Tr<|R2 ZD Y<|Za<|Zg<|If h Y (fun h=>?_) fun h=>?_
   ·
    refine Zf<|Zg<|Ze<|K4 0 1 12 13 Y<|Tr<|Rm Y<|Ra Y<|Za<|Zg<|K5 0 1 5 12 13 Y<|Qd (cw := md0) (by kernel_rfl)<|D1 0 Zc Y<|D1 1 Zc Y<|bE h fun x h_x h=>Dq 2 Y (ZS (ov Y) (ov Y) ZjI h_x)<|Dq 3 Y (Z6 (ov Y) QR (ZW<|Zq arL) arL)<|D1 4 Zc Y<|D1 5 Zc Y<|bE h fun x2 h_x2 h=>Dq 6 Y (ZS (ov Y) (ov Y) ZjI h_x2)<|Dq 7 Y (Z6 (ov Y) QR (ZW<|Zq arL) arL)<|Dq 8 Y (ZmY Zo9 (ov Y) (ov Y) (.aggB<|arD fun _ => Y) (.aggB<|arD fun _ => Y) (fkV fun _ => Y) (fkV fun _ => Y)<|eqV fun _ _ => Y)<|Dd<|K5 0 1 12 13 24 Y<|If h Y (fun h=>?_) fun h=>?_
    ·
     refine K0<|Tr<|Ra Y<|Za<|?_
     replace h := lx h ▸ ho1
     obtain rfl := rt h
     exact Zo (ZG Y (.one<|rb Y))
    ·
     exact Zf<|K4 0 1 12 13 Y<|Zp<|R2 ZF Y<|Rm Y<|Za<|⟨_, h, ES []⟩
   ·
    refine Zz<|?_
    replace h := lx h ▸ ho1
    exact ⟨(), h, ES []⟩
  ·
   replace h := elr h
   replace h := t0i h
   refine Tr<|Ra Y<|Za<|?_
   obtain rfl := rt h
   exact Zo (ZG Y (.one<|rb Y))
theorem Zib {l : List api_Memory} {copies : Int} {r : Int × Int} (h : Zbw l copies = some r) :
 CSpec Tryz.prog gl0 32 [.sl 26 (List.map R26 l), .int .i64 copies] (.tuple [.int .i64 r.1, .int .i64 r.2]) := by
 unfold Zbw at h
 replace h := Qk h
 refine So Tryz.func32 Y fun w0 A=>Tr<|Ra Y<|Ra Y<|Za<|Zg<|K2 0 1 Y<|Tr<|Rm Y<|bE h fun y h_y h=>Rq Y (Zn (Zc4 h_y)<|.cons (ov Y) (.b Y) .nil)<|Ra Y<|Za<|K3 0 1 6 Y<|Tr<|Rm Y<|R2 Q2 Y<|Za<|K4 0 1 6 17 Y<|If h Y (fun h=>?_) fun h=>?_
 ·
  refine K1 6 Y<|Tr<|Rm Y<|Ra Y<|Ra Y<|Za<|?_
  obtain rfl := rt h
  exact Zo (ZG Y (.two (rb Y)<|rb Y))
 ·
  refine Zf<|Zg<|K2 0 1 Y<|Tr<|Rm Y<|Rm Y<|Rl tZ_26 Zaz Y<|bE h fun y2 h_y2 h=>Rq Y (Zn (QG h_y2)<|.cons (ov Y) (.b Y)<|.cons (ov Y) (.b Y)<|.cons (ov Y) (.b Y) .nil)<|R1 XN Y<|Za<|K3 0 1 23 Y<|If h Y (fun h=>?_) fun h=>?_
  ·
   refine K0<|Tr<|Ra Y<|Ra Y<|Za<|?_
   obtain rfl := rt h
   exact Zo (ZG Y (.two (rb Y)<|rb Y))
  ·
   refine Zf<|K2 0 1 Y<|Tr<|Ra Y<|Za<|I1 (fun least=>⟨[(0, .sl 26 (List.map R26 l)), (1, .int .i64 copies), (7, .int .i64 least)], []⟩) h (fun h=>?_) fun least h=>?_
   ·
    refine Tr<|Rm Y<|Rl tZ_26 Zaz Y<|Rm Y<|Za<|Ze<|?_
    obtain ⟨r1, hl1, ho1⟩ := QE h
    refine L2 (fun least2 i=>⟨[(0, .sl 26 (List.map R26 l)), (1, .int .i64 copies), (7, .int .i64 least2), (24, .sl 26 (List.map R26 l)), (25, .int .i64 (l.length : Int)), (26, .int .i64 i)], []⟩) hl1 (ES []) fun n1 least2 i h=>?_
    unfold ring_Capacity_L1 at h
    refine Tr<|R2 ZD Y<|Za<|Zg<|If h Y (fun h=>?_) fun h=>?_
    ·
     refine Zf<|Zg<|Ze<|K6 0 1 7 24 25 26 Y<|Tr<|bE h fun x h_x h=>Rq Y (ZS (ov Y) (ov Y) Zaz h_x)<|Rq Y (Z6 (ov Y) X5 Y Y)<|Rx Y (Z3 (row := [_, _, _, _, _]) 0 Y Zdx Y tZ_26)<|Rx Y (Zl (ov Y) (ov Y) (Zv X5 Y) Y Y Y (Nat.le_of_ble_eq_true Y) (Zb Y) Y)<|Za<|K7 0 1 7 9 24 25 26 Y<|Tr<|Ra Y<|Za<|I1 (fun good=>⟨[(0, .sl 26 (List.map R26 l)), (1, .int .i64 copies), (7, .int .i64 least2), (9, .ptr 0 1 0 0), (10, .int .i64 good), (24, .sl 26 (List.map R26 l)), (25, .int .i64 (l.length : Int)), (26, .int .i64 i)], [some ⟨26, [[.int .i64 x.Slots, .int .i64 x.Limit, .sl 49 (List.map R49 x.Sectors), .sl 3 (List.map R3 x.Wear), .sl 4 (List.map R4 x.Bad)]]⟩]⟩) h (fun h=>?_) fun good h=>?_
     ·
      refine Tr<|Rq Y (Zi (ov Y) Y Y ZeI)<|Rq Y (Zw (ov Y) Y Y Y ZjR Y)<|Rl tZ_4 ZgF Y<|Rm Y<|Za<|Ze<|?_
      obtain ⟨r2, hl2, ho2⟩ := QE h
      refine L2 (fun good2 i2=>⟨[(0, .sl 26 (List.map R26 l)), (1, .int .i64 copies), (7, .int .i64 least2), (9, .ptr 0 1 0 0), (10, .int .i64 good2), (24, .sl 26 (List.map R26 l)), (25, .int .i64 (l.length : Int)), (26, .int .i64 i), (31, .sl 4 (List.map R4 x.Bad)), (32, .int .i64 (x.Bad.length : Int)), (33, .int .i64 i2)], [some ⟨26, [[.int .i64 x.Slots, .int .i64 x.Limit, .sl 49 (List.map R49 x.Sectors), .sl 3 (List.map R3 x.Wear), .sl 4 (List.map R4 x.Bad)]]⟩]⟩) hl2 (ES [some 0]) fun n2 good2 i2 h=>?_
      unfold JS at h
      refine Tr<|R2 ZD Y<|Za<|Zg<|If h Y (fun h=>?_) fun h=>?_
      ·
       refine Zf<|Zg<|Ze<|K11 0 1 7 9 10 24 25 26 31 32 33 Y<|Tr<|bE h fun x2 h_x2 h=>Rq Y (ZS (ov Y) (ov Y) ZgF h_x2)<|Rq Y (Zd (ov Y) tS4 Y)<|Ra Y<|Za<|K12 0 1 7 9 10 12 24 25 26 31 32 33 Y<|Tr<|Rm Y<|R1 XN Y<|Za<|K12 0 1 7 9 10 24 25 26 31 32 33 38 Y<|If h Y (fun h=>?_) fun h=>?_
       ·
        exact K11 0 1 7 9 10 24 25 26 31 32 33 Y<|Zp<|Rm Y<|R2 ZF Y<|Ra Y<|Za<|K11 0 1 7 9 10 24 25 26 31 32 33 Y<|Zp<|R2 ZF Y<|Rm Y<|Za<|⟨_, h, ES [some 0]⟩
       ·
        exact Zf<|K11 0 1 7 9 10 24 25 26 31 32 33 Y<|Zp<|R2 ZF Y<|Rm Y<|Za<|⟨_, h, ES [some 0]⟩
      ·
       refine Zz<|?_
       replace h := lx h ▸ ho2
       exact ⟨_, h, ES [some 0]⟩
     ·
      refine Tr<|Rm Y<|R2 Za4 Y<|Rq Y (Zk6 (ov Y) (ov Y) Y)<|Rq Y (Zi (ov Y) Y Y ZeK)<|Rq Y (Zw (ov Y) Y Y Y tS3 Y)<|R2 Zds Y<|Ra Y<|Za<|K7 0 1 7 13 24 25 26 Y<|Tr<|Rm Y<|R2 ZD Y<|Rm Y<|Rq Y (.guarded ((decide (least2 < 0)) == false) Y Y Y Y fun h => Zc<|ov Y)<|Rq Y (.guarded ((decide (least2 < 0)) == false) Y Y Y Y fun h => Zc<|ov Y)<|Rq Y (.guarded ((decide (least2 < 0)) == false) Y Y Y Y fun h => ZD (ow Y h)<|ow Y h)<|Rq Y (Zdw (ov Y) fun hp=>ow Y<|gF hp)<|Za<|K8 0 1 7 13 24 25 26 54 Y<|If h Y (fun h=>?_) fun h=>?_
      ·
       exact K7 0 1 7 13 24 25 26 Y<|Zp<|Rm Y<|Ra Y<|Za<|K6 0 1 7 24 25 26 Y<|Zp<|R2 ZF Y<|Rm Y<|Za<|⟨_, h, ES []⟩
      ·
       exact Zf<|K6 0 1 7 24 25 26 Y<|Zp<|R2 ZF Y<|Rm Y<|Za<|⟨_, h, ES []⟩
    ·
     refine Zz<|?_
     replace h := lx h ▸ ho1
     exact ⟨_, h, ES []⟩
   ·
    refine Tr<|Rm Y<|Rm Y<|Rl tZ_26 Zaz Y<|R2 Zds Y<|Rm Y<|bE h fun q h_q h=>Rq Y (Zc2 (ov Y) (ov Y) h_q)<|Ra Y<|Ra Y<|Za<|?_
    obtain rfl := rt h
    exact Zo (ZG Y (.two (rb Y)<|rb Y))
theorem Zic {l : List api_Memory} {copies : Int} {r : Int × Int} (h : ZbC l copies = some r) :
 CSpec Tryz.prog gl0 33 [.sl 26 (List.map R26 l), .int .i64 copies] (.tuple [.int .i64 r.1, .int .i64 r.2]) := by
 unfold ZbC at h
 replace h := Qk h
 refine So Tryz.func33 Y fun w0 A=>Tr<|Ra Y<|Ra Y<|Za<|Zg<|K2 0 1 Y<|Tr<|Rm Y<|bE h fun y h_y h=>Rq Y (Zn (ZgU h_y)<|.cons (ov Y) (.b Y) .nil)<|Ra Y<|Za<|K3 0 1 6 Y<|Tr<|Rm Y<|R2 Q2 Y<|Za<|K4 0 1 6 17 Y<|If h Y (fun h=>?_) fun h=>?_
 ·
  refine K1 6 Y<|Tr<|Rm Y<|Ra Y<|Ra Y<|Za<|?_
  obtain rfl := rt h
  exact Zo (ZG Y (.two (rb Y)<|rb Y))
 ·
  refine Zf<|Zg<|K2 0 1 Y<|Tr<|Rm Y<|Rm Y<|Rl tZ_26 Zaz Y<|bE h fun y2 h_y2 h=>Rq Y (Zn (XV h_y2)<|.cons (ov Y) (.b Y)<|.cons (ov Y) (.b Y)<|.cons (ov Y) (.b Y) .nil)<|Za<|K3 0 1 22 Y<|If h Y (fun h=>?_) fun h=>?_
  ·
   refine K0<|Tr<|Ra Y<|Ra Y<|Za<|?_
   obtain rfl := rt h
   exact Zo (ZG Y (.two (rb Y)<|rb Y))
  ·
   refine Zf<|K2 0 1 Y<|Tr<|Ra Y<|Za<|I1 (fun least=>⟨[(0, .sl 26 (List.map R26 l)), (1, .int .i64 copies), (7, .int .i64 least)], []⟩) h (fun h=>?_) fun least h=>?_
   ·
    refine Tr<|Rm Y<|Rl tZ_26 Zaz Y<|Rm Y<|Za<|Ze<|?_
    obtain ⟨r1, hl1, ho1⟩ := QE h
    refine L2 (fun least2 i=>⟨[(0, .sl 26 (List.map R26 l)), (1, .int .i64 copies), (7, .int .i64 least2), (23, .sl 26 (List.map R26 l)), (24, .int .i64 (l.length : Int)), (25, .int .i64 i)], []⟩) hl1 (ES []) fun n1 least2 i h=>?_
    unfold ZcN at h
    refine Tr<|R2 ZD Y<|Za<|Zg<|If h Y (fun h=>?_) fun h=>?_
    ·
     refine Zf<|Zg<|Ze<|K6 0 1 7 23 24 25 Y<|Tr<|bE h fun x h_x h=>Rq Y (ZS (ov Y) (ov Y) Zaz h_x)<|Rq Y (Z6 (ov Y) X5 Y Y)<|Rx Y (Z3 (row := [_, _, _, _, _]) 0 Y Zdx Y tZ_26)<|Rx Y (Zl (ov Y) (ov Y) (Zv X5 Y) Y Y Y (Nat.le_of_ble_eq_true Y) (Zb Y) Y)<|Za<|K7 0 1 7 9 23 24 25 Y<|Tr<|Ra Y<|Za<|I1 (fun good=>⟨[(0, .sl 26 (List.map R26 l)), (1, .int .i64 copies), (7, .int .i64 least2), (9, .ptr 0 1 0 0), (10, .int .i64 good), (23, .sl 26 (List.map R26 l)), (24, .int .i64 (l.length : Int)), (25, .int .i64 i)], [some ⟨26, [[.int .i64 x.Slots, .int .i64 x.Limit, .sl 49 (List.map R49 x.Sectors), .sl 3 (List.map R3 x.Wear), .sl 4 (List.map R4 x.Bad)]]⟩]⟩) h (fun h=>?_) fun good h=>?_
     ·
      refine Tr<|Rq Y (Zi (ov Y) Y Y ZeI)<|Rq Y (Zw (ov Y) Y Y Y ZjR Y)<|Rl tZ_4 ZgF Y<|Rm Y<|Za<|Ze<|?_
      obtain ⟨r2, hl2, ho2⟩ := QE h
      refine L2 (fun good2 i2=>⟨[(0, .sl 26 (List.map R26 l)), (1, .int .i64 copies), (7, .int .i64 least2), (9, .ptr 0 1 0 0), (10, .int .i64 good2), (23, .sl 26 (List.map R26 l)), (24, .int .i64 (l.length : Int)), (25, .int .i64 i), (30, .sl 4 (List.map R4 x.Bad)), (31, .int .i64 (x.Bad.length : Int)), (32, .int .i64 i2)], [some ⟨26, [[.int .i64 x.Slots, .int .i64 x.Limit, .sl 49 (List.map R49 x.Sectors), .sl 3 (List.map R3 x.Wear), .sl 4 (List.map R4 x.Bad)]]⟩]⟩) hl2 (ES [some 0]) fun n2 good2 i2 h=>?_
      unfold ZeY at h
      refine Tr<|R2 ZD Y<|Za<|Zg<|If h Y (fun h=>?_) fun h=>?_
      ·
       refine Zf<|Zg<|Ze<|K11 0 1 7 9 10 23 24 25 30 31 32 Y<|Tr<|bE h fun x2 h_x2 h=>Rq Y (ZS (ov Y) (ov Y) ZgF h_x2)<|Rq Y (Zd (ov Y) tS4 Y)<|Ra Y<|Za<|K12 0 1 7 9 10 12 23 24 25 30 31 32 Y<|Tr<|Rm Y<|R1 XN Y<|Za<|K12 0 1 7 9 10 23 24 25 30 31 32 37 Y<|If h Y (fun h=>?_) fun h=>?_
       ·
        exact K11 0 1 7 9 10 23 24 25 30 31 32 Y<|Zp<|Rm Y<|R2 ZF Y<|Ra Y<|Za<|K11 0 1 7 9 10 23 24 25 30 31 32 Y<|Zp<|R2 ZF Y<|Rm Y<|Za<|⟨_, h, ES [some 0]⟩
       ·
        exact Zf<|K11 0 1 7 9 10 23 24 25 30 31 32 Y<|Zp<|R2 ZF Y<|Rm Y<|Za<|⟨_, h, ES [some 0]⟩
      ·
       refine Zz<|?_
       replace h := lx h ▸ ho2
       exact ⟨_, h, ES [some 0]⟩
     ·
      refine Tr<|Rm Y<|R2 Za4 Y<|Rq Y (Zk6 (ov Y) (ov Y) Y)<|Rq Y (Zi (ov Y) Y Y ZeK)<|Rq Y (Zw (ov Y) Y Y Y tS3 Y)<|R2 Zds Y<|Ra Y<|Za<|K7 0 1 7 13 23 24 25 Y<|Tr<|Rm Y<|R2 ZD Y<|Rm Y<|Rq Y (.guarded ((decide (least2 < 0)) == false) Y Y Y Y fun h => Zc<|ov Y)<|Rq Y (.guarded ((decide (least2 < 0)) == false) Y Y Y Y fun h => Zc<|ov Y)<|Rq Y (.guarded ((decide (least2 < 0)) == false) Y Y Y Y fun h => ZD (ow Y h)<|ow Y h)<|Rq Y (Zdw (ov Y) fun hp=>ow Y<|gF hp)<|Za<|K8 0 1 7 13 23 24 25 53 Y<|If h Y (fun h=>?_) fun h=>?_
      ·
       exact K7 0 1 7 13 23 24 25 Y<|Zp<|Rm Y<|Ra Y<|Za<|K6 0 1 7 23 24 25 Y<|Zp<|R2 ZF Y<|Rm Y<|Za<|⟨_, h, ES []⟩
      ·
       exact Zf<|K6 0 1 7 23 24 25 Y<|Zp<|R2 ZF Y<|Rm Y<|Za<|⟨_, h, ES []⟩
    ·
     refine Zz<|?_
     replace h := lx h ▸ ho1
     exact ⟨_, h, ES []⟩
   ·
    refine Tr<|Rm Y<|Rm Y<|Rl tZ_26 Zaz Y<|R2 Zds Y<|Rm Y<|bE h fun q h_q h=>Rq Y (Zc2 (ov Y) (ov Y) h_q)<|Ra Y<|Ra Y<|Za<|?_
    obtain rfl := rt h
    exact Zo (ZG Y (.two (rb Y)<|rb Y))
theorem ZcY {l : List api_Memory} {copies : Int} {r : Bool} (h : Q6 l copies = some r) :
 CSpec Tryz.prog gl0 6 [.sl 26 (List.map R26 l), .int .i64 copies] (.bool r) := by
 unfold Q6 at h
 replace h := Qk h
 refine So Tryz.func6 Y fun w0 A=>Tr<|Ra Y<|Za<|K2 0 1 Y<|Tr<|Rm Y<|bE h fun y h_y h=>Rq Y (Zn (ZfI h_y)<|.cons (ov Y) (.b Y) .nil)<|Rm Y<|Rq Y (Zj (ov Y) Y)<|Rq Y (Zj (ov Y) Y)<|Ra Y<|Ra Y<|Za<|K4 0 1 5 6 Y<|Tr<|Rm Y<|bE h fun y2 h_y2 h=>Rq Y (Zn (ZfC h_y2)<|.cons (ov Y) (.b Y) .nil)<|Rm Y<|Rq Y (Zj (ov Y) Y)<|Rq Y (Zj (ov Y) Y)<|Ra Y<|Ra Y<|Za<|Zg<|K6 0 1 5 6 7 8 Y<|Tr<|Rm Y<|Rm Y<|R2 Q2 Y<|Rm Y<|Rq Y (.guarded ((!decide (y.2 = y2.2)) == false) Y Y Y Y fun h => Zc<|ov Y)<|Rq Y (.guarded ((!decide (y.2 = y2.2)) == false) Y Y Y Y fun h => Zc<|ov Y)<|bE h fun y3 h_y3 h=>Rq Y (.guarded ((!decide (y.2 = y2.2)) == false) Y Y Y Y fun h => Zn (Zb3<|gdT h_y3 h)<|.cons (ow Y h) (.b Y)<|.cons (ow Y h) (.b Y) .nil)<|Rq Y (.guarded ((!decide (y.2 = y2.2)) == false) Y Y Y Y fun h => XN<|ow Y h)<|Rq Y (Zdw (ov Y) fun hp=>ow Y<|gF hp)<|Za<|K3 0 1 31 Y<|If h Y (fun h=>?_) fun h=>?_
 ·
  refine K0<|Tr<|Ra Y<|Za<|?_
  obtain rfl := rt h
  exact Zo (ZG Y (.one<|rb Y))
 ·
  refine Zf<|K2 0 1 Y<|Tr<|Rm Y<|bE h fun y4 h_y4 h=>Rq Y (Zn (Zgi h_y4)<|.cons (ov Y) (.b Y) .nil)<|Rm Y<|Rq Y (Zj (ov Y) Y)<|Rq Y (Zj (ov Y) Y)<|Ra Y<|Ra Y<|Za<|K4 0 1 6 9 Y<|Tr<|Rm Y<|bE h fun y5 h_y5 h=>Rq Y (Zn (Zji h_y5)<|.cons (ov Y) (.b Y) .nil)<|Rm Y<|Rq Y (Zj (ov Y) Y)<|Rq Y (Zj (ov Y) Y)<|Ra Y<|Ra Y<|Za<|Zg<|K6 0 1 6 8 9 10 Y<|Tr<|Rm Y<|Rm Y<|R2 Q2 Y<|Rm Y<|Rq Y (.guarded ((!decide (y4.2 = y5.2)) == false) Y Y Y Y fun h => Zc<|ov Y)<|Rq Y (.guarded ((!decide (y4.2 = y5.2)) == false) Y Y Y Y fun h => Zc<|ov Y)<|bE h fun y6 h_y6 h=>Rq Y (.guarded ((!decide (y4.2 = y5.2)) == false) Y Y Y Y fun h => Zn (Zbt<|gdT h_y6 h)<|.cons (ow Y h) (.b Y)<|.cons (ow Y h) (.b Y) .nil)<|Rq Y (.guarded ((!decide (y4.2 = y5.2)) == false) Y Y Y Y fun h => XN<|ow Y h)<|Rq Y (Zdw (ov Y) fun hp=>ow Y<|gF hp)<|Za<|K3 0 1 50 Y<|If h Y (fun h=>?_) fun h=>?_
  ·
   refine K0<|Tr<|Ra Y<|Za<|?_
   obtain rfl := rt h
   exact Zo (ZG Y (.one<|rb Y))
  ·
   refine Zf<|K2 0 1 Y<|Tr<|Rm Y<|Rm Y<|bE h fun y7 h_y7 h=>Rq Y (Zn (Zib h_y7)<|.cons (ov Y) (.b Y)<|.cons (ov Y) (.b Y) .nil)<|Rm Y<|Rq Y (Zj (ov Y) Y)<|Rq Y (Zj (ov Y) Y)<|Ra Y<|Ra Y<|Za<|K4 0 1 6 11 Y<|Tr<|Rm Y<|Rm Y<|bE h fun y8 h_y8 h=>Rq Y (Zn (Zic h_y8)<|.cons (ov Y) (.b Y)<|.cons (ov Y) (.b Y) .nil)<|Rm Y<|Rq Y (Zj (ov Y) Y)<|Rq Y (Zj (ov Y) Y)<|Ra Y<|Ra Y<|Za<|K4 6 8 11 12 Y<|Tr<|Rm Y<|Rm Y<|R2 Zaw Y<|Rm Y<|Rq Y (.guarded ((decide (y7.1 = y8.1)) == true) Y Y Y Y fun h => Zc<|ov Y)<|Rq Y (.guarded ((decide (y7.1 = y8.1)) == true) Y Y Y Y fun h => Zc<|ov Y)<|Rq Y (.guarded ((decide (y7.1 = y8.1)) == true) Y Y Y Y fun h => Zaw (ow Y h)<|ow Y h)<|Rq Y (Zb4 (ov Y) fun hp=>ow Y<|gT hp)<|Rm Y<|bE h fun y9 h_y9 h=>Rq Y (.guarded (((decide (y7.1 = y8.1)) && (decide (y7.2 = y8.2))) == true) Y Y Y Y fun h => Zn (Zkz<|gdT h_y9 h) .nil)<|Rq Y (Zb4 (ov Y) fun hp=>ow Y<|gT hp)<|Ra Y<|Za<|?_
   obtain rfl := rt h
   exact Zo (ZG Y (.one<|rb Y))
end Go.Proofs.YtnlmjeleocelgaaGreatDoor
