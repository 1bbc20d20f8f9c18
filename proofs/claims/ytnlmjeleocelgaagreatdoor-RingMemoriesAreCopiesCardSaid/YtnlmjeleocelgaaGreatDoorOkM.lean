/- A text of the proof: a verified executor of the program form, or the contracts of the functions that the law reaches. -/
import Derived.Test.YtnlmjeleocelgaaGreatDoorOkMc
set_option linter.all false
namespace Go.Proofs.YtnlmjeleocelgaaGreatDoor
open Go Go.Vx
set_option maxRecDepth 10000
set_option maxHeartbeats 1000000
set_option linter.unusedVariables false
theorem ZdB {r_ : ring_Recorder} {r : (List api_Memory)} (h : Qb r_ = some r) :
 GSpec Tryz.prog gl0 16 [.ptr 0 1 0 0] [some ⟨102, [[.own 1 r_.bank.memories.length, .own 2 r_.bank.spots.length, .int .i64 r_.copies, .bool r_.frozen, .bool r_.stopped, .int .i64 r_.last, .bool r_.some_]]⟩, some ⟨26, List.map O26 r_.bank.memories⟩, some ⟨105, List.map R105 r_.bank.spots⟩] (.sl 26 (List.map R26 r)) [some ⟨102, [[.sl 26 (List.map R26 r_.bank.memories), .own 3 r_.bank.spots.length, .int .i64 r_.copies, .bool r_.frozen, .bool r_.stopped, .int .i64 r_.last, .bool r_.some_]]⟩, none, none, some ⟨105, List.map R105 r_.bank.spots⟩] := by
 unfold Qb at h
 replace h := QF h
 refine QO (by kernel_rfl) Tryz.func16 Y Y<|?_
 intro w0 A W φ0
 refine ZfV (Ent.sel [some 0, some 1, some 2, some 1, some 2] (sr 0 Y (.ptr (r' := 0) _ _ _ Y) sn) (.cons Y (ro1 (by exact tZ_102.symm)<|rlc (.own (r' := 3) _ Y)<|rlc (.own (r' := 4) _ Y)<|rlc (.dat Y)<|rlc (.dat Y)<|rlc (.dat Y)<|rlc (.dat Y)<|rlc (.dat Y) rln)<|.dead<|.dead<|.cons Y (roO QR)<|.cons Y (roM D105) .nil) Y Y)<|QP [some ⟨102, [[.own 3 r_.bank.memories.length, .own 4 r_.bank.spots.length, .int .i64 r_.copies, .bool r_.frozen, .bool r_.stopped, .int .i64 r_.last, .bool r_.some_]]⟩, none, none, some ⟨26, List.map O26 r_.bank.memories⟩, some ⟨105, List.map R105 r_.bank.spots⟩] Y<|Tr<|Ra Y<|Za<|Tr<|Rm Y<|Rq Y (ZB (ov Y) Y Y)<|Rq Y (Zf (ov Y) Y Y ZdE)<|Rq Y (Zf (ov Y) Y Y ZcN)<|Rq Y (Zu (ov Y) Y Y Y ZjN Y)<|bE h fun y h_y h=>Xf (Ent.meltO (r := 3) Y QR (fun x=>(D26 x).1) Zju)<|Xf (Ent.sel [some 0, some 1, some 2, none, some 4] (sr 0 Y (.ptr (r' := 0) _ _ _ Y)<|sd 2 Y Y<|sr 3 Y (.ptr (r' := 0) _ _ _ Y)<|sr 4 Y (.ptr (r' := 0) _ _ _ Y)<|sr 5 Y (.ptr (r' := 0) _ _ _ Y)<|sr 6 Y (.ptr (r' := 0) _ _ _ Y)<|sr 7 Y (Zqk Y Y Y D26) sn) (.cons Y (ro1 (by exact tZ_102.symm)<|rlc (Zqk Y Y Y D26)<|rlc (.own (r' := 4) _ Y)<|rlc (.dat Y)<|rlc (.dat Y)<|rlc (.dat Y)<|rlc (.dat Y)<|rlc (.dat Y) rln)<|.dead<|.dead<|.row 26<|.cons Y (roM D105) .nil) Y Y)<|Rq Y (Zw (ZiD h_y)<|.cons (ov Y) (.b Y) .nil)<|Ra Y<|Za<|?_
 obtain rfl := rt h
 exact Zp<|Za2 [some 0, some 1, some 2, some 4] Y (.cons (.tmp Y) .nil) (.cons Y (ro1 (by exact tZ_102.symm)<|rlc (.dat Y)<|rlc (.own _ Y)<|rlc (.dat Y)<|rlc (.dat Y)<|rlc (.dat Y)<|rlc (.dat Y)<|rlc (.dat Y) rln)<|.dead<|.dead<|.cons Y (roM D105) .nil) Y Y<|.dat Y
theorem ZiA {p : Vector Int 96} {i : Int} {r : Int} (h : ZbR p i = some r) :
 CSpec Tryz.prog gl0 139 [.rp (List.map C5 p.toList) 0, .int .i64 i] (.int .u16 r) := by
 unfold ZbR at h
 replace h := QF h
 refine So Tryz.func139 Y fun w0 A=>Tr<|Ra Y<|Za<|K2 0 1 Y<|Tr<|Rm Y<|bE h fun q h_q h=>Rq Y (ZgL (ov Y) (ov Y) h_q)<|R2 ZgG Y<|Ra Y<|Za<|Zj<|K3 0 1 5 Y<|Tr<|Rm Y<|bE h fun q2 h_q2 h=>Rq Y (Za4 (ov Y) (ov Y) h_q2)<|R2 ZbU Y<|Za<|K3 0 5 11 Y<|If h Y (fun h=>?_) fun h=>?_
 ·
  refine Zj<|K2 0 5 Y<|QH (cw := md0) (by kernel_rfl)<|D1 0 Zc Y<|D1 1 Zc Y<|D1 2 ZQ Y<|bE h fun x h_x h=>Dq 3 Y (Xx (ov Y) (ov Y) Zeb h_x)<|Dq 4 Y (Ze (ov Y) tS5<|Q0<|Ji (o := 0) (o' := ((i64 (q * 3)).toNat * 1)) (Zz arL)<|Jb h_x)<|Dq 5 Y (QA (ov Y) tI5 Zd7 Y)<|bE h fun q3 h_q3 h=>Dq 6 Y (Ze0 (ov Y) (ov Y) h_q3)<|D1 7 Zc Y<|D1 8 Zc Y<|D2 9 ZX Y<|D1 10 ZQ Y<|bE h fun x2 h_x2 h=>Dq 11 Y (Xx (ov Y) (ov Y) Zeb h_x2)<|Dq 12 Y (Ze (ov Y) tS5<|Q0<|Ji (o := 0) (o' := ((i64 ((i64 (q * 3)) + 1)).toNat * 1)) (Zz arL)<|Jb h_x2)<|Dq 13 Y (QA (ov Y) tI5 Zd7 Y)<|bE h fun q4 h_q4 h=>Dq 14 Y (Za5 (ov Y) (ov Y) h_q4)<|D2 15 Zgu Y<|D1 16 Q1 Y<|Dd<|?_
  obtain rfl := rt h
  exact Zp (Z5 Y (.one<|rb Y))
 ·
  refine Zi<|Zj<|K2 0 5 Y<|QH (cw := md0) (by kernel_rfl)<|D1 0 Zc Y<|D1 1 Zc Y<|D2 2 ZX Y<|D1 3 ZQ Y<|bE h fun x3 h_x3 h=>Dq 4 Y (Xx (ov Y) (ov Y) Zeb h_x3)<|Dq 5 Y (Ze (ov Y) tS5<|Q0<|Ji (o := 0) (o' := ((i64 ((i64 (q * 3)) + 1)).toNat * 1)) (Zz arL)<|Jb h_x3)<|Dq 6 Y (QA (ov Y) tI5 Zd7 Y)<|D2 7 Zby Y<|bE h fun q5 h_q5 h=>Dq 8 Y (Ze0 (ov Y) (ov Y) h_q5)<|D1 9 Zc Y<|D1 10 Zc Y<|D2 11 ZX Y<|D1 12 ZQ Y<|bE h fun x4 h_x4 h=>Dq 13 Y (Xx (ov Y) (ov Y) Zeb h_x4)<|Dq 14 Y (Ze (ov Y) tS5<|Q0<|Ji (o := 0) (o' := ((i64 ((i64 (q * 3)) + 2)).toNat * 1)) (Zz arL)<|Jb h_x4)<|Dq 15 Y (QA (ov Y) tI5 Zd7 Y)<|D2 16 Zgu Y<|D1 17 Q1 Y<|Dd<|?_
  obtain rfl := rt h
  exact Zp (Z5 Y (.one<|rb Y))
theorem ZjM {p : Vector Int 96} {r : (Vector Int 64)} (h : Zd0 p = some r) :
 CSpec Tryz.prog gl0 118 [.rp (List.map C5 p.toList) 0] (.agg (List.map C40 r.toList)) := by
 unfold Zd0 at h
 replace h := QF h
 refine So Tryz.func118 Y fun w0 A=>Tr<|Rx Y (Qf (row := (List.map C40 (Vector.replicate 64 0).toList)) 0 Y Zhg Y tZ_42)<|Za<|Tr<|Rx Y (Qf (row := (List.map C40 (Vector.replicate 64 0).toList)) 1 Y Zhg Y tZ_42)<|Za<|I1 (fun f=>⟨[(2, .ptr 0 1 0 0), (3, .ptr 1 1 0 0)], [some ⟨42, [(List.map C40 (Vector.replicate 64 0).toList)]⟩, some ⟨42, [(List.map C40 f.toList)]⟩]⟩) h (fun h=>?_) fun f h=>?_
 ·
  refine Tr<|Rm Y<|Za<|Zg<|?_
  obtain ⟨r1, hl1, ho1⟩ := Xj h
  refine L2 (fun f2 i=>⟨[(0, .rp (List.map C5 p.toList) 0), (2, .ptr 0 1 0 0), (3, .ptr 1 1 0 0), (5, .int .i64 i)], [some ⟨42, [(List.map C40 (Vector.replicate 64 0).toList)]⟩, some ⟨42, [(List.map C40 f2.toList)]⟩]⟩) hl1 (ES [some 0, some 1]) fun n1 f2 i h=>?_
  unfold ZcP at h
  refine Tr<|R2 ZY Y<|Za<|Zj<|If h Y (fun h=>?_) fun h=>?_
  ·
   exact Zi<|Zj<|Zg<|K4 0 2 3 5 Y<|Tr<|Rm Y<|Ra Y<|Za<|K5 0 2 3 4 5 Y<|Zt<|Rm Y<|Rm Y<|Rm Y<|bE h fun y h_y h=>Rq Y (Zw (ZiA h_y)<|.cons (ov Y) (.b Y)<|.cons (ov Y) (.b Y) .nil)<|bE h fun x h_x h=>Rq Y (Zas (ov Y) (ov Y) Za1 Y Y h_x)<|Rx Y (Zh (ov Y) (ov Y) (Zd ZbX) Y Y Y (arB h_x) (Zb Y)<|arS h_x)<|Za<|K4 0 2 3 5 Y<|Zt<|R2 ZX Y<|Rm Y<|Za<|⟨_, h, ES [some 0, some 1]⟩
  ·
   refine ZS<|?_
   replace h := lx h ▸ ho1
   exact ⟨_, h, ES [some 0, some 1]⟩
 ·
  refine Tr<|Rq Y (QB (ov Y) Y Y Y JW (Xc<|Zz arL) arL (hns := (nsM fun _ => Y)))<|Rx Y (Zh (ov Y) (ov Y) (ZC JW arL) Y Y Y (Za9 (Zz arL) arL) (Zb<|arC fun _ => Y)<|JS<|Eq.trans arL<|Eq.symm arL)<|Za<|?_
  obtain rfl := rt h
  exact Zp (Z5 Y (.one<|.agg Y Y Y Y JW (Xc<|Zz arL) arL (pwB<|arD fun _ => Y) (hns := (nsM fun _ => Y))))
theorem ZgE {b : List Int} {r : (Vector Int 64) × Int} (h : Zan b = some r) :
 CSpec Tryz.prog gl0 79 [.sl 5 (List.map R5 b)] (.tuple [.agg (List.map C40 r.1.toList), .int .i64 r.2]) := by
 unfold Zan at h
 replace h := QF h
 refine So Tryz.func79 Y fun w0 A=>Tr<|Rx Y (Qf (row := (List.map C40 (Vector.replicate 64 0).toList)) 0 Y Zhg Y tZ_42)<|Ra Y<|Za<|Zj<|K2 0 2 Y<|Tr<|Rm Y<|Rl tZ_5 QU Y<|R2 ZY Y<|Za<|K3 0 2 7 Y<|If h Y (fun h=>?_) fun h=>?_
 ·
  refine K1 2 Y<|Tr<|R_q (.agg<|List.map C40 (#v[0, 0, 0, 0, 0, 0, 0, 0, 0, 0, 0, 0, 0, 0, 0, 0, 0, 0, 0, 0, 0, 0, 0, 0, 0, 0, 0, 0, 0, 0, 0, 0, 0, 0, 0, 0, 0, 0, 0, 0, 0, 0, 0, 0, 0, 0, 0, 0, 0, 0, 0, 0, 0, 0, 0, 0, 0, 0, 0, 0, 0, 0, 0, 0] : Vector Int 64).toList) Y (Zez (ys := [_, _, _, _, _, _, _, _, _, _, _, _, _, _, _, _, _, _, _, _, _, _, _, _, _, _, _, _, _, _, _, _, _, _, _, _, _, _, _, _, _, _, _, _, _, _, _, _, _, _, _, _, _, _, _, _, _, _, _, _, _, _, _, _]) Za1 Zhg .nil Y)<|Rx Y (Zh (ov Y) (ov Y) (ZC JW arL) Y Y Y (Za9 (Zz arL) arL) (Zb<|arC fun _ => Y)<|JS<|Eq.trans arL<|Eq.symm arL)<|Ra Y<|Za<|?_
  obtain rfl := rt h
  exact Zp (Z5 Y (.two (.agg Y Y Y Y JW (Xc<|Zz arL) arL (pwB<|arD fun _ => Y) (hns := (nsM fun _ => Y)))<|rb Y))
 ·
  refine Zi<|K2 0 2 Y<|Tr<|Rm Y<|bE h fun l h_l h=>Rq Y (ZiT (ov Y) QU on (oi<|ov Y) h_l)<|bE h fun v h_v h=>Rq Y (ZlH (f := C5) (ov Y) Zeb tZ_5 Y h_v)<|Rq Y (Q6 (ov Y) ZoX (Xc<|Zz arL) arL)<|Rx Y (Qf (row := (List.map C5 (Vector.replicate 96 0).toList)) 1 Y Zo3 Y tZ_157)<|Rx Y (Zh (ov Y) (ov Y) (ZC ZoX arL) Y Y Y (Za9 (Zz arL) arL) (Zb<|arC fun _ => Y)<|JS<|Eq.trans arL<|Eq.symm arL)<|Za<|K2 2 4 Y<|Tr<|bE h fun y h_y h=>Rq Y (Zch (ZjM h_y) (ZkJ fun _=>.int)<|.cons (ov Y) (View.ptr Y Y Y (pwB<|arD fun _ => Y) (hns := (nsM fun _ => Y))) .nil)<|Rx Y (Zh (ov Y) (ov Y) (ZC JW arL) Y Y Y (Za9 (Zz arL) arL) (Zb<|arC fun _ => Y)<|JS<|Eq.trans arL<|Eq.symm arL)<|Ra Y<|Za<|?_
  obtain rfl := rt h
  exact Zp (Z5 Y (.two (.agg Y Y Y Y JW (Xc<|Zz arL) arL (pwB<|arD fun _ => Y) (hns := (nsM fun _ => Y)))<|rb Y))
theorem Ziv {l : List api_Memory} {r : (List api_Kept) × Int} (h : Zb7 l = some r) :
 CSpec Tryz.prog gl0 26 [.sl 26 (List.map R26 l)] (.tuple [.sl 65 (List.map R65 r.1), .int .i64 r.2]) := by
 unfold Zb7 at h
 replace h := QF h
 refine So Tryz.func26 Y fun w0 A=>Tr<|Ra Y<|Ra Y<|Za<|Zj<|K1 0 Y<|Tr<|Rm Y<|bE h fun y h_y h=>Rq Y (Zw (ZeN h_y)<|.cons (ov Y) (.b Y) .nil)<|Ra Y<|Za<|K2 0 4 Y<|Tr<|Rm Y<|R2 Jc Y<|Za<|K3 0 4 20 Y<|If h Y (fun h=>?_) fun h=>?_
 ·
  refine K1 4 Y<|Tr<|Rm Y<|Ra Y<|Ra Y<|Za<|?_
  obtain rfl := rt h
  exact Zp (Z5 Y (.two (.tmp Y<|View.nils 65)<|rb Y))
 ·
  refine Zi<|K1 0 Y<|Tr<|Ra Y<|Za<|I1 (fun out=>⟨[(5, .own 0 out.length)], [some ⟨65, List.map R65 out⟩]⟩) h (fun h=>?_) fun out h=>?_
  ·
   refine Tr<|Rm Y<|Rl tZ_26 Zbh Y<|Rm Y<|Za<|Zg<|?_
   obtain ⟨r1, hl1, ho1⟩ := Xj h
   refine L2 (fun out2 i=>⟨[(5, .own 0 out2.length), (22, .sl 26 (List.map R26 l)), (23, .int .i64 (l.length : Int)), (24, .int .i64 i)], [some ⟨65, List.map R65 out2⟩]⟩) hl1 (ES [none]) fun n1 out2 i h=>?_
   unfold Zbj at h
   refine Tr<|R2 ZY Y<|Za<|Zj<|If h Y (fun h=>?_) fun h=>?_
   ·
    refine Zi<|I1 (fun out3=>⟨[(5, .own 0 out3.length), (22, .sl 26 (List.map R26 l)), (23, .int .i64 (l.length : Int)), (24, .int .i64 i)], [some ⟨65, List.map R65 out3⟩]⟩) h (fun h=>?_) fun out3 h=>?_
    ·
     refine Zg<|K4 5 22 23 24 Y<|Tr<|Rm Y<|bE h fun x h_x h=>Rq Y (Ql (ov Y) (ov Y) Zbh h_x)<|Rq Y (Q6 (ov Y) XS Y Y)<|Rx Y (Qf (row := [_, _, _, _, _]) 1 Y Zc4 Y tZ_26)<|Ra Y<|Rx Y (Zh (ov Y) (ov Y) (ZC XS Y) Y Y Y (Nat.le_of_ble_eq_true Y) (Zb Y) Y)<|Za<|K6 5 6 7 22 23 24 Y<|Tr<|Rq Y (QB (ov Y) Y Y Y XS Y Y)<|bE h fun y2 h_y2 h=>Rq Y (Zw (Zfl h_y2)<|.cons (ov Y) (.aggB Y) .nil)<|Rl tZ_3 Q3 Y<|Rm Y<|Za<|Zg<|?_
     obtain ⟨r2, hl2, ho2⟩ := Xj h
     refine L2 (fun out4 i2=>⟨[(5, .own 0 out4.length), (6, .int .i64 i), (7, .ptr 1 1 0 0), (22, .sl 26 (List.map R26 l)), (23, .int .i64 (l.length : Int)), (24, .int .i64 i), (30, .sl 3 (List.map R3 y2)), (31, .int .i64 (y2.length : Int)), (32, .int .i64 i2)], [some ⟨65, List.map R65 out4⟩, some ⟨26, [[.int .i64 x.Slots, .int .i64 x.Limit, .sl 49 (List.map R49 x.Sectors), .sl 3 (List.map R3 x.Wear), .sl 4 (List.map R4 x.Bad)]]⟩]⟩) hl2 (ES [some 0, some 1]) fun n2 out4 i2 h=>?_
     unfold Zbm at h
     refine Tr<|R2 ZY Y<|Za<|Zj<|If h Y (fun h=>?_) fun h=>?_
     ·
      refine Zi<|I1 (fun out5=>⟨[(5, .own 0 out5.length), (6, .int .i64 i), (7, .ptr 1 1 0 0), (22, .sl 26 (List.map R26 l)), (23, .int .i64 (l.length : Int)), (24, .int .i64 i), (30, .sl 3 (List.map R3 y2)), (31, .int .i64 (y2.length : Int)), (32, .int .i64 i2)], [some ⟨65, List.map R65 out5⟩, some ⟨26, [[.int .i64 x.Slots, .int .i64 x.Limit, .sl 49 (List.map R49 x.Sectors), .sl 3 (List.map R3 x.Wear), .sl 4 (List.map R4 x.Bad)]]⟩]⟩) h (fun h=>?_) fun out5 h=>?_
      ·
       refine Zg<|K9 5 6 7 22 23 24 30 31 32 Y<|Tr<|bE h fun x2 h_x2 h=>Rq Y (Ql (ov Y) (ov Y) Q3 h_x2)<|Rq Y (Ze (ov Y) tS3 Y)<|Ra Y<|Za<|K10 5 6 7 9 22 23 24 30 31 32 Y<|Tr<|Rq Y (Zf (ov Y) Y Y ZF)<|Rq Y (Zu (ov Y) Y Y Y Qc Y)<|Rm Y<|bE h fun x3 h_x3 h=>Rq Y (Ql (ov Y) (ov Y) ZZ h_x3)<|Rq Y (Ze (ov Y) ZgI Y)<|bE h fun y3 h_y3 h=>Rq Y (Zw (Zb4 h_y3)<|.cons (ov Y) (.b Y) .nil)<|Rm Y<|Rq Y (Zn (ov Y) Y)<|Rq Y (Zn (ov Y) Y)<|Rq Y (Zn (ov Y) Y)<|Ra Y<|Ra Y<|Ra Y<|Za<|K11 5 6 7 9 10 22 23 24 30 31 32 Y<|Tr<|Rq Y (Zf (ov Y) Y Y Zgw)<|Rq Y (Zu (ov Y) Y Y Y tS3 Y)<|Rm Y<|Za<|Zg<|?_
       obtain ⟨r3, hl3, ho3⟩ := Xj h
       refine L2 (fun out6 i3=>⟨[(5, .own 0 out6.length), (6, .int .i64 i), (7, .ptr 1 1 0 0), (9, .int .i64 x2), (10, .int .i64 y3.1), (22, .sl 26 (List.map R26 l)), (23, .int .i64 (l.length : Int)), (24, .int .i64 i), (30, .sl 3 (List.map R3 y2)), (31, .int .i64 (y2.length : Int)), (32, .int .i64 i2), (47, .int .i64 x.Slots), (48, .int .i64 i3)], [some ⟨65, List.map R65 out6⟩, some ⟨26, [[.int .i64 x.Slots, .int .i64 x.Limit, .sl 49 (List.map R49 x.Sectors), .sl 3 (List.map R3 x.Wear), .sl 4 (List.map R4 x.Bad)]]⟩]⟩) hl3 (ES [some 0, some 1]) fun n3 out6 i3 h=>?_
       unfold Zbo at h
       refine Tr<|R2 ZY Y<|Za<|Zj<|If h Y (fun h=>?_) fun h=>?_
       ·
        refine Zi<|Zj<|Zg<|JL (kc 5 Y<|kc 6 Y<|kc 7 Y<|kc 9 Y<|kc 10 Y<|kc 22 Y<|kc 23 Y<|kc 24 Y<|kc 30 Y<|kc 31 Y<|kc 32 Y<|kc 47 Y<|kc 48 Y kn) Y<|Tr<|Rm Y<|Ra Y<|Za<|JL (kc 5 Y<|kc 6 Y<|kc 7 Y<|kc 9 Y<|kc 10 Y<|kc 13 Y<|kc 22 Y<|kc 23 Y<|kc 24 Y<|kc 30 Y<|kc 31 Y<|kc 32 Y<|kc 47 Y<|kc 48 Y kn) Y<|Tr<|Rq Y (Zf (ov Y) Y Y ZF)<|Rq Y (Zu (ov Y) Y Y Y Qc Y)<|Rm Y<|bE h fun x4 h_x4 h=>Rq Y (Ql (ov Y) (ov Y) ZZ h_x4)<|Rq Y (Ze (ov Y) ZgI Y)<|Rm Y<|bE h fun y4 h_y4 h=>Rq Y (Zw (ZfX h_y4)<|.cons (ov Y) (.b Y)<|.cons (ov Y) (.b Y) .nil)<|Ra Y<|Za<|JL (kc 5 Y<|kc 6 Y<|kc 7 Y<|kc 9 Y<|kc 10 Y<|kc 13 Y<|kc 14 Y<|kc 22 Y<|kc 23 Y<|kc 24 Y<|kc 30 Y<|kc 31 Y<|kc 32 Y<|kc 47 Y<|kc 48 Y kn) Y<|Tr<|Rm Y<|bE h fun y5 h_y5 h=>Rq Y (Zw (Zfi h_y5)<|.cons (ov Y) (.b Y) .nil)<|R2 ZbU Y<|Za<|JL (kc 5 Y<|kc 6 Y<|kc 7 Y<|kc 9 Y<|kc 10 Y<|kc 13 Y<|kc 14 Y<|kc 22 Y<|kc 23 Y<|kc 24 Y<|kc 30 Y<|kc 31 Y<|kc 32 Y<|kc 47 Y<|kc 48 Y<|kc 60 Y kn) Y<|If h Y (fun h=>?_) fun h=>?_
        ·
         exact JL (kc 5 Y<|kc 6 Y<|kc 7 Y<|kc 9 Y<|kc 10 Y<|kc 13 Y<|kc 14 Y<|kc 22 Y<|kc 23 Y<|kc 24 Y<|kc 30 Y<|kc 31 Y<|kc 32 Y<|kc 47 Y<|kc 48 Y kn) Y<|Tr<|Rm Y<|R1 ZQ Y<|bE h fun l2 h_l2 h=>Rq Y (ZlU (f := C5) (ov Y) ZlZ tZ_5 (Zz arL) Y on on h_l2)<|bE h fun y6 h_y6 h=>Rq Y (Zw (ZgE h_y6)<|.cons (ov Y) (.b Y) .nil)<|Rm Y<|Rq Y (Zn (ov Y) Y)<|Rq Y (Zn (ov Y) Y)<|Rx Y (Qf (row := (List.map C40 (Vector.replicate 64 0).toList)) 2 Y Zhg Y tZ_42)<|Rx Y (Zh (ov Y) (ov Y) (ZC JW arL) Y Y Y (Za9 (Zz arL) arL) (Zb<|arC fun _ => Y)<|JS<|Eq.trans arL<|Eq.symm arL)<|Ra Y<|Za<|JL (kc 5 Y<|kc 6 Y<|kc 7 Y<|kc 9 Y<|kc 10 Y<|kc 13 Y<|kc 15 Y<|kc 22 Y<|kc 23 Y<|kc 24 Y<|kc 30 Y<|kc 31 Y<|kc 32 Y<|kc 47 Y<|kc 48 Y kn) Y<|Zt<|Rm Y<|Rm Y<|Rm Y<|Rm Y<|Rm Y<|Rq Y (QB (ov Y) Y Y Y JW (Xc<|Zz arL) arL (hns := (nsM fun _ => Y)))<|Rq Y (Znt (zr := (.int .i64 0) :: (.int .i64 0) :: (.int .i64 0) :: (.int .i64 0) :: ((List.map C40 (Vector.replicate 64 0).toList) ++ ([]))) Zqs ZqS ZpT (by kernel_rfl) (.cons (cvs (ov Y)<|Zm Y)<|.cons (cvs (ov Y)<|Zm Y)<|.cons (cvs (ov Y)<|Zm Y)<|.cons (cvs (ov Y)<|Zm Y)<|.cons (cva<|ov Y) .nil)<|Zhl Y Y at1 pt2<|Zhl Y Y at3 pt4<|Zhl Y Y at5 pt6<|Zhl Y Y at7 pt8<|Zhl Y arL at9 Zq7 ZpU)<|R_q (.sl 65<|List.map R65 ([(api_Kept.mk i x2 y3.1 i3 y6.1)] : List api_Kept)) Y (Zal Zow (.cons (cva<|ov Y) Zd3 (pwD Zgz) .nil) Y Y)<|bE h fun l3 h_l3 h=>Rx Y (XT (ov Y) (QY (ov Y) tZ_65) Zow Y Y Y (fun x=>Zb<|E65 x) Y h_l3)<|Ra Y<|Za<|JL (kc 5 Y<|kc 6 Y<|kc 7 Y<|kc 9 Y<|kc 10 Y<|kc 22 Y<|kc 23 Y<|kc 24 Y<|kc 30 Y<|kc 31 Y<|kc 32 Y<|kc 47 Y<|kc 48 Y kn) Y<|Zt<|R2 ZX Y<|Rm Y<|Za<|⟨_, h, ES [some 0, some 1]⟩
        ·
         exact Zi<|JL (kc 5 Y<|kc 6 Y<|kc 7 Y<|kc 9 Y<|kc 10 Y<|kc 22 Y<|kc 23 Y<|kc 24 Y<|kc 30 Y<|kc 31 Y<|kc 32 Y<|kc 47 Y<|kc 48 Y kn) Y<|Zt<|R2 ZX Y<|Rm Y<|Za<|⟨_, h, ES [some 0, some 1]⟩
       ·
        refine ZS<|?_
        replace h := lx h ▸ ho3
        exact ⟨_, h, ES [some 0, some 1]⟩
      ·
       exact Zt<|R2 ZX Y<|Rm Y<|Za<|⟨_, h, ES [some 0, some 1]⟩
     ·
      refine ZS<|?_
      replace h := lx h ▸ ho2
      exact ⟨_, h, ES [some 0]⟩
    ·
     exact Zt<|R2 ZX Y<|Rm Y<|Za<|⟨_, h, ES [some 0]⟩
   ·
    refine ZS<|?_
    replace h := lx h ▸ ho1
    exact ⟨_, h, ES [some 0]⟩
  ·
   refine Tr<|Rm Y<|Ra Y<|Ra Y<|Za<|?_
   obtain rfl := rt h
   exact Zp (Z5 Y (.two (.tmp Y<|View.ownM Y Y D65)<|rb Y))
theorem ZmS {xs r : List Int} (h : Zic xs = some r) :
    GSpec Tryz.prog gl0 83 [.own 0 xs.length] [some ⟨3, List.map R3 xs⟩] (.tuple []) [some ⟨3, List.map R3 r⟩] :=
  Zn7 (g := R3) (fun _ => rfl) (by kernel_rfl) tZ_3 (fun _ _ _ _ _ h1 h2 h3 => Any.slices_Sort_int Tryz.lays189 _ _ _ _ _ h1 h2 h3) (fun p c w => Any.slices_Sort_int_none Tryz.lays189 p c w) h
theorem Zjr {l : List api_Memory} {r : (List (Vector Int 64)) × Int} (h : Zc3 l = some r) :
 CSpec Tryz.prog gl0 29 [.sl 26 (List.map R26 l)] (.tuple [.sl 42 (List.map R42 r.1), .int .i64 r.2]) := by
 unfold Zc3 at h
 replace h := QF h
 refine So Tryz.func29 Y fun w0 A=>Tr<|Ra Y<|Ra Y<|Za<|K1 0 Y<|Tr<|Rm Y<|bE h fun y h_y h=>Rq Y (Zw (Ziv h_y)<|.cons (ov Y) (.b Y) .nil)<|Rm Y<|Rq Y (Zn (ov Y) Y)<|Rq Y (Zn (ov Y) Y)<|Ra Y<|Ra Y<|Za<|Zj<|K2 4 5 Y<|Tr<|Rm Y<|R2 Jc Y<|Za<|K3 4 5 23 Y<|If h Y (fun h=>?_) fun h=>?_
 ·
  refine K1 5 Y<|Tr<|Rm Y<|Ra Y<|Ra Y<|Za<|?_
  obtain rfl := rt h
  exact Zp (Z5 Y (.two (.tmp Y<|View.nils 42)<|rb Y))
 ·
  refine Zi<|K1 4 Y<|Tr<|Rx Y (ZmK 0 Y ZkD)<|Ra Y<|Za<|K2 4 6 Y<|Tr<|Ra Y<|Za<|I2 (fun best numbers=>⟨[(6, .mref 0 1), (7, .own 1 numbers.length)], [some ⟨127, [[.mcon (List.map (Zbe FK3 Zgl) best)]]⟩, some ⟨3, List.map R3 numbers⟩]⟩) h (fun h=>?_) fun best numbers h=>?_
  ·
   refine Tr<|Rm Y<|Rl tZ_65 Zow Y<|Rm Y<|Za<|Zg<|?_
   obtain ⟨r1, hl1, ho1⟩ := Xj h
   refine L3 (fun best2 numbers2 i=>⟨[(6, .mref 0 1), (7, .own 1 numbers2.length), (26, .sl 65 (List.map R65 y.1)), (27, .int .i64 (y.1.length : Int)), (28, .int .i64 i)], [some ⟨127, [[.mcon (List.map (Zbe FK3 Zgl) best2)]]⟩, some ⟨3, List.map R3 numbers2⟩]⟩) hl1 (ES [some 0, none] (hhp := .cons Y (Zhm (fk := FK3) (fv := Zgl) (m := ([] : List (Int × api_Kept))) tZ_127 (fun _=>.dat Y) fun _=>.ren<|Zd2<|rld Zgz)<|.row 3 .nil)) fun n1 best2 numbers2 i h=>?_
   unfold Zck at h
   refine Tr<|R2 ZY Y<|Za<|Zj<|If h Y (fun h=>?_) fun h=>?_
   ·
    refine Zi<|Zj<|Zg<|K5 6 7 26 27 28 Y<|Tr<|bE h fun x h_x h=>Rq Y (Ql (ov Y) (ov Y) Zow h_x)<|Rq Y (Q6 (ov Y) Zoq (Xc<|Zz Zd3) Zd3)<|Rx Y (Qf (row := (.int .i64 0) :: (.int .i64 0) :: (.int .i64 0) :: (.int .i64 0) :: ((List.map C40 (Vector.replicate 64 0).toList) ++ ([]))) 2 Y ZpT (by kernel_rfl)<|by exact Eq.symm (Eq.trans (b := 68) Zd3 tZ_65.symm))<|Rx Y (Zh (ov Y) (ov Y) (ZC Zoq Zd3) Y Y Y (Za9 (Zz Zd3) Zd3) (Zb ZpY)<|JS<|Eq.trans Zd3<|Eq.symm Zd3)<|Za<|Zj<|K6 6 7 9 26 27 28 Y<|Tr<|Rq Y (Zf (ov Y) Y Y Znw)<|Rq Y (QB (ov Y) Y Y Y JW (Xc at9) arL (hns := (nsM fun _ => Y)))<|bE h fun y2 h_y2 h=>Rq Y (Zw (ZfK h_y2)<|.cons (ov Y) (.aggB<|arD fun _ => Y) .nil)<|Rl tZ_149 ZeQ Y<|R2 Zde Y<|Za<|K7 6 7 9 26 27 28 36 Y<|If h Y (fun h=>?_) fun h=>?_
    ·
     exact ZS<|K5 6 7 26 27 28 Y<|Zt<|R2 ZX Y<|Rm Y<|Za<|⟨_, h, ES [some 0, some 1] (hhp := .cons Y (Zhm (fk := FK3) (fv := Zgl) (m := best2) tZ_127 (fun _=>.dat Y) fun _=>.ren<|Zd2<|rld Zgz)<|.cons Y (roM D3) .nil)⟩
    ·
     refine Zi<|K6 6 7 9 26 27 28 Y<|Tr<|Rq Y (Zf (ov Y) Y Y Znw)<|Rq Y (QB (ov Y) Y Y Y JW (Xc at9) arL (hns := (nsM fun _ => Y)))<|bE h fun y3 h_y3 h=>Rq Y (Zw (Zfk h_y3)<|.cons (ov Y) (.aggB<|arD fun _ => Y) .nil)<|Rm Y<|Rq Y (Zn (ov Y) Y)<|Rq Y (Zn (ov Y) Y)<|Ra Y<|Ra Y<|Za<|K7 6 7 9 10 26 27 28 Y<|Tr<|Rm Y<|Rm Y<|bE h fun o h_o h=>Rq Y (ZqQ (m := best2) (fk := FK3) (fv := Zgl) (k := y3.1) (z0 := (api_Kept.mk 0 0 0 0 (Vector.replicate 64 0))) (ov Y) (ov Y) ZkD Zpy Y (fun _=>.b Y) (Zla Zo8 Y) (fun _ _=>Y) h_o)<|Rm Y<|Rq Y (Zn (ov Y) Y)<|Rq Y (Zn (ov Y) Y)<|Rx Y (Qf (row := (.int .i64 0) :: (.int .i64 0) :: (.int .i64 0) :: (.int .i64 0) :: ((List.map C40 (Vector.replicate 64 0).toList) ++ ([]))) 3 Y ZpT (by kernel_rfl)<|by exact Eq.symm (Eq.trans (b := 68) Zd3 tZ_65.symm))<|Rx Y (Zh (ov Y) (ov Y) (ZC Zoq Zd3) Y Y Y (Za9 (Zz Zd3) Zd3) (Zb ZpY)<|JS<|Eq.trans Zd3<|Eq.symm Zd3)<|Ra Y<|Za<|I1 (fun numbers3=>⟨[(6, .mref 0 1), (7, .own 1 numbers3.length), (9, .ptr 2 1 0 0), (10, .int .i64 y3.1), (12, .ptr 3 1 0 0), (13, .bool o.isSome), (26, .sl 65 (List.map R65 y.1)), (27, .int .i64 (y.1.length : Int)), (28, .int .i64 i)], [some ⟨127, [[.mcon (List.map (Zbe FK3 Zgl) best2)]]⟩, some ⟨3, List.map R3 numbers3⟩, some ⟨65, [(.int .i64 x.Memory) :: (.int .i64 x.Sector) :: (.int .i64 x.Sequence) :: (.int .i64 x.Slot) :: ((List.map C40 x.Frame.toList) ++ ([]))]⟩, some ⟨65, [(.int .i64 ((o.getD (api_Kept.mk 0 0 0 0 (Vector.replicate 64 0))).Memory)) :: (.int .i64 ((o.getD (api_Kept.mk 0 0 0 0 (Vector.replicate 64 0))).Sector)) :: (.int .i64 ((o.getD (api_Kept.mk 0 0 0 0 (Vector.replicate 64 0))).Sequence)) :: (.int .i64 ((o.getD (api_Kept.mk 0 0 0 0 (Vector.replicate 64 0))).Slot)) :: ((List.map C40 ((o.getD (api_Kept.mk 0 0 0 0 (Vector.replicate 64 0))).Frame).toList) ++ ([]))]⟩]⟩) h (fun h=>?_) fun numbers3 h=>?_
     ·
      refine K9 6 7 9 10 12 13 26 27 28 Y<|Tr<|Rm Y<|R1 J7 Y<|Za<|K10 6 7 9 10 12 13 26 27 28 50 Y<|If h Y (fun h=>?_) fun h=>?_
      ·
       exact K9 6 7 9 10 12 13 26 27 28 Y<|Zt<|Rm Y<|Rm Y<|R_q (.sl 3<|List.map R3 ([y3.1] : List Int)) Y (Zal Q3 (.cons (cvs (ov Y)<|Zm Y) Y (.cons (.b Y) .nil) .nil) Y Y)<|bE h fun l2 h_l2 h=>Rx Y (XT (ov Y) (QY (ov Y) tZ_3) Q3 Y Y Y (fun _=>Zb Y) Y h_l2)<|Ra Y<|Za<|⟨_, h, ES [some 0, some 1, some 2, some 3] (hhp := .cons Y (Zhm (fk := FK3) (fv := Zgl) (m := best2) tZ_127 (fun _=>.dat Y) fun _=>.ren<|Zd2<|rld Zgz)<|.cons Y (roM D3)<|.cons Y (ro1 (by exact Eq.trans (b := 68) Zd3 tZ_65.symm)<|rld Zgz)<|.cons Y (ro1 (by exact Eq.trans (b := 68) Zd3 tZ_65.symm)<|rld Zgz) .nil)⟩
      ·
       exact Zi<|⟨_, h, ES [some 0, some 1, some 2, some 3] (hhp := .cons Y (Zhm (fk := FK3) (fv := Zgl) (m := best2) tZ_127 (fun _=>.dat Y) fun _=>.ren<|Zd2<|rld Zgz)<|.cons Y (roM D3)<|.cons Y (ro1 (by exact Eq.trans (b := 68) Zd3 tZ_65.symm)<|rld Zgz)<|.cons Y (ro1 (by exact Eq.trans (b := 68) Zd3 tZ_65.symm)<|rld Zgz) .nil)⟩
     ·
      refine Tr<|Rm Y<|R1 J7 Y<|Rm Y<|Rq Y (.guarded ((!o.isSome) == false) Y Y Y Y fun h => Zf (ov Y) Y Y ZmX)<|Rq Y (.guarded ((!o.isSome) == false) Y Y Y Y fun h => Zu (ow Y h) Y Y Y tS3<|Q0 at5)<|Rq Y (.guarded ((!o.isSome) == false) Y Y Y Y fun h => Zf (ov Y) Y Y ZmX)<|Rq Y (.guarded ((!o.isSome) == false) Y Y Y Y fun h => Zu (ow Y h) Y Y Y tS3<|Q0 at5)<|Rq Y (.guarded ((!o.isSome) == false) Y Y Y Y fun h => Zde (ow Y h)<|ow Y h)<|Rq Y (ZhW (ov Y) fun hp=>ow Y<|gF hp)<|Za<|K8 6 7 9 10 26 27 28 63 Y<|If h Y (fun h=>?_) fun h=>?_
      ·
       exact K7 6 7 9 10 26 27 28 Y<|Zt<|Rm Y<|Rm Y<|Rq Y (QB (ov Y) Y Y Y Zoq (Xc<|Zz Zd3) Zd3 (hns := Zrb))<|Rx Y (Zm5 (m := best2) (fk := FK3) (fv := Zgl) (k := y3.1) (v := x) (ov Y) (ov Y) (ov Y) ZkD Zpy Y fun _=>.b Y)<|Za<|K5 6 7 26 27 28 Y<|Zt<|R2 ZX Y<|Rm Y<|Za<|⟨_, h, ES [some 0, some 1] (hhp := .cons Y (Zhm (fk := FK3) (fv := Zgl) (m := (Zlg kqI best2 y3.1 x)) tZ_127 (fun _=>.dat Y) fun _=>.ren<|Zd2<|rld Zgz)<|.cons Y (roM D3) .nil)⟩
      ·
       exact Zi<|K5 6 7 26 27 28 Y<|Zt<|R2 ZX Y<|Rm Y<|Za<|⟨_, h, ES [some 0, some 1] (hhp := .cons Y (Zhm (fk := FK3) (fv := Zgl) (m := best2) tZ_127 (fun _=>.dat Y) fun _=>.ren<|Zd2<|rld Zgz)<|.cons Y (roM D3) .nil)⟩
   ·
    refine ZS<|?_
    replace h := lx h ▸ ho1
    exact ⟨_, h, ES [some 0, some 1] (hhp := .cons Y (Zhm (fk := FK3) (fv := Zgl) (m := best2) tZ_127 (fun _=>.dat Y) fun _=>.ren<|Zd2<|rld Zgz)<|.cons Y (roM D3) .nil)⟩
  ·
   refine Tr<|Rm Y<|bE h fun y4 h_y4 h=>Rx Y (ZH [1] (ZmS h_y4) (.cons (ov Y) (.own _ Y) .nil) (.cons Y (roM D3) .nil) Y (.keep Y Y<|.lent 0 (.inl Y) Y (roM D3) .nil) Y Y<|Xw<|rld Y)<|Za<|K2 6 7 Y<|Tr<|Ra Y<|Za<|I1 (fun out=>⟨[(14, .own 0 out.length)], [some ⟨42, List.map R42 out⟩]⟩) h (fun h=>?_) fun out h=>?_
   ·
    refine Tr<|Rm Y<|Rq Y (ZfR (ov Y) Y (Zjs h_y4) Q3)<|Rm Y<|Za<|Zg<|?_
    obtain ⟨r2, hl2, ho2⟩ := Xj h
    refine L2 (fun out2 i2=>⟨[(6, .mref 0 1), (14, .own 1 out2.length), (70, .own 2 y4.length), (71, .int .i64 (y4.length : Int)), (72, .int .i64 i2)], [some ⟨127, [[.mcon (List.map (Zbe FK3 Zgl) best)]]⟩, some ⟨42, List.map R42 out2⟩, some ⟨3, List.map R3 y4⟩]⟩) hl2 (Ent.sel [some 0, none, some 1] (sr 6 Y (.mref _ Y)<|sr 14 Y (.row Y)<|sr 70 Y (ZdX (Eq.symm<|Zjs h_y4) Y)<|sd 71 Y Y<|sd 72 Y Y sn) (.cons Y (Zhm (fk := FK3) (fv := Zgl) (m := best) tZ_127 (fun _=>.dat Y) fun _=>.ren<|Zd2<|rld Zgz)<|.row 42<|.cons Y (roM D3) .nil) Y Y) fun n2 out2 i2 h=>?_
    unfold ZbG at h
    refine Tr<|R2 ZY Y<|Za<|Zj<|If h Y (fun h=>?_) fun h=>?_
    ·
     exact Zi<|Zj<|Zg<|K5 6 14 70 71 72 Y<|Tr<|bE h fun x2 h_x2 h=>Rq Y (QI (ov Y) (ov Y) Q3 Y Y h_x2)<|Rq Y (QG (ov Y) Y Y h_x2 tS3 Y)<|Ra Y<|Za<|K6 6 14 16 70 71 72 Y<|Zt<|Rm Y<|Rm Y<|Rm Y<|bE h fun o2 h_o2 h=>Rq Y (ZqI (m := best) (fk := FK3) (fv := Zgl) (k := x2) (z0 := (api_Kept.mk 0 0 0 0 (Vector.replicate 64 0))) (ov Y) (ov Y) ZkD Zpy Y (fun _=>.b Y) (Zla Zo8 Y) (fun _ _=>Y) h_o2)<|Rq Y (ZnX (ov Y) Zov at9)<|R_q (.sl 42<|List.map R42 ([o2.Frame] : List (Vector Int 64))) Y (Zal ZoL (.cons (cva<|ov Y) arL (pwD<|arD fun _ => Y) .nil) Y Y)<|bE h fun l3 h_l3 h=>Rx Y (XT (ov Y) (QY (ov Y) tZ_42) ZoL Y Y Y (fun x=>Zb<|E42 x) Y h_l3)<|Ra Y<|Za<|K5 6 14 70 71 72 Y<|Zt<|R2 ZX Y<|Rm Y<|Za<|⟨_, h, ES [some 0, some 1, some 2] (hhp := .cons Y (Zhm (fk := FK3) (fv := Zgl) (m := best) tZ_127 (fun _=>.dat Y) fun _=>.ren<|Zd2<|rld Zgz)<|.cons Y (roM D42)<|.cons Y (roM D3) .nil)⟩
    ·
     refine ZS<|?_
     replace h := lx h ▸ ho2
     exact ⟨_, h, ES [some 1]⟩
   ·
    refine Tr<|Rm Y<|Ra Y<|Ra Y<|Za<|?_
    obtain rfl := rt h
    exact Zp (Z5 Y (.two (.tmp Y<|View.ownM Y Y D42)<|rb Y))
theorem ZeZ  {r : Bool} (h : ZbD  = some r) :
 CSpec Tryz.prog gl0 13 [] (.bool r) := by
 unfold ZbD at h
 replace h := QF h
 refine So Tryz.func13 Y fun w0 A=>Tr<|Ra Y<|Za<|K0<|Tr<|bE h fun l h_l h=>Rx Y (Zbn [none] (r := 0) (f := R3) (z0 := 0) Y (ov Y) (ov Y) Q3 Y tZ3 Y Y h_l)<|bE h fun y h_y h=>Rq Y (Zch (ZkZ h_y) (.tuple<|by simp only [List.mem_cons, List.not_mem_nil, or_false, forall_eq_or_imp, forall_eq]; exact ⟨(ZkJ (fun _ => .int)), .int⟩)<|.cons (ov Y) (Dat.view<|.b Y)<|.cons (ov Y) (View.ownM Y Y D3) .nil)<|Rm Y<|Rq Y (Zn (ov Y) Y)<|Rq Y (Zn (ov Y) Y)<|Rx Y (Qf (row := (List.map C40 (Vector.replicate 64 0).toList)) 1 Y Zhg Y tZ_42)<|Rx Y (Zh (ov Y) (ov Y) (ZC JW arL) Y Y Y (Za9 (Zz arL) arL) (Zb<|arC fun _ => Y)<|JS<|Eq.trans arL<|Eq.symm arL)<|Ra Y<|Za<|K1 1 Y<|Tr<|bE h fun y2 h_y2 h=>Rq Y (Zw (ZgZ h_y2)<|.cons (ov Y) (.b Y)<|.cons (ov Y) (.b Y)<|.cons (ov Y) (.b Y) .nil)<|Rm Y<|Rq Y (Zn (ov Y) Y)<|Rq Y (Zn (ov Y) Y)<|Rx Y (Qf (row := [_, _, _, _, _]) 2 Y Zc4 Y tZ_26)<|Rx Y (Zh (ov Y) (ov Y) (ZC XS Y) Y Y Y (Nat.le_of_ble_eq_true Y) (Zb Y) Y)<|Ra Y<|Za<|Zj<|K3 1 3 4 Y<|Tr<|Rm Y<|R2 Jc Y<|Za<|K3 1 3 20 Y<|If h Y (fun h=>?_) fun h=>?_
 ·
  refine K0<|Tr<|Ra Y<|Za<|?_
  obtain rfl := rt h
  exact Zp (Z5 Y (.one<|rb Y))
 ·
  refine Zi<|K2 1 3 Y<|Tr<|Rq Y (QB (ov Y) Y Y Y XS Y Y)<|R_q (.sl 26<|List.map R26 ([y2.1] : List api_Memory)) Y (Zal Zbh (.cons (cva<|ov Y) Y (pwD Y) .nil) Y Y)<|bE h fun y3 h_y3 h=>?_
  rcases y3 with y3 | y3
  ·
   replace h := ell h
   refine Rx Y (ZH [] (Zdt h_y3) (.cons (ov Y) (.dat Y)<|.cons (ov Y) (.dat Y) .nil) .nil Y (.keep Y Y<|.keep Y Y<|.keep Y Y .nil) Y Y<|Xw<|rlc (.dat Y)<|rlc (.dat Y) rln)<|Rm Y<|Rq Y (Zn (ov Y) Y)<|Rq Y (Zn (ov Y) Y)<|Ra Y<|Ra Y<|Za<|Zj<|K3 1 4 5 Y<|Tr<|Rm Y<|R2 Jc Y<|Za<|K3 1 5 28 Y<|If h Y (fun h=>?_) fun h=>?_
   ·
    refine K0<|Tr<|Ra Y<|Za<|?_
    obtain rfl := rt h
    exact Zp (Z5 Y (.one<|rb Y))
   ·
    exact Zi<|(Zmf h).elim
  ·
   replace h := elr h
   refine Rx Y (ZH [] (Zds h_y3) (.cons (ov Y) (.dat Y)<|.cons (ov Y) (.dat Y) .nil) .nil Y (.keep Y Y<|.keep Y Y<|.keep Y Y<|.lent 0 (.inr ⟨Nat.le_of_ble_eq_true Y, Y⟩) Y (ro1 (by exact tZ_102.symm)<|rlc (.own _<|.inr ⟨Nat.le_of_ble_eq_true Y, Y⟩)<|rlc (.own _<|.inr ⟨Nat.le_of_ble_eq_true Y, Y⟩)<|rlc (.dat Y)<|rlc (.dat Y)<|rlc (.dat Y)<|rlc (.dat Y)<|rlc (.dat Y) rln)<|.lent 1 (.inr ⟨Nat.le_of_ble_eq_true Y, Y⟩) Y (roO QR)<|.lent 2 (.inr ⟨Nat.le_of_ble_eq_true Y, Y⟩) Y (roM D105) .nil) Y Y<|Xw<|rlc (.ptr _ _ _<|.inr ⟨Nat.le_of_ble_eq_true Y, Y⟩)<|rlc (.dat Y) rln)<|Rm Y<|Rq Y (Zn (ov Y) Y)<|Rq Y (Zn (ov Y) Y)<|Ra Y<|Ra Y<|Za<|Zj<|K3 1 4 5 Y<|QP [some ⟨3, List.map R3 l⟩, some ⟨42, [(List.map C40 y.1.toList)]⟩, some ⟨26, [[.int .i64 y2.1.Slots, .int .i64 y2.1.Limit, .sl 49 (List.map R49 y2.1.Sectors), .sl 3 (List.map R3 y2.1.Wear), .sl 4 (List.map R4 y2.1.Bad)]]⟩, some ⟨102, [[.own 4 y3.1.bank.memories.length, .own 5 y3.1.bank.spots.length, .int .i64 y3.1.copies, .bool y3.1.frozen, .bool y3.1.stopped, .int .i64 y3.1.last, .bool y3.1.some_]]⟩, some ⟨26, List.map O26 y3.1.bank.memories⟩, some ⟨105, List.map R105 y3.1.bank.spots⟩] Y<|Tr<|Rm Y<|R2 Jc Y<|Za<|K3 1 5 28 Y<|If h Y (fun h=>?_) fun h=>?_
   ·
    refine K0<|Tr<|Ra Y<|Za<|?_
    obtain rfl := rt h
    exact Zp (Z5 Y (.one<|rb Y))
   ·
    refine Zi<|K2 1 5 Y<|Tr<|Rm Y<|Rq Y (QB (ov Y) Y Y Y JW (Xc<|Zz arL) arL (hns := (nsM fun _ => Y)))<|bE h fun y4 h_y4 h=>Rx Y (ZH [3, 4, 5] (ZaX h_y4) (.cons (ov Y) (.ptr _ _ _ Y)<|.cons (ov Y) (Zd2<|rld<|arD fun _ => Y)<|.cons (ov Y) (.dat Y) .nil) (.cons Y (ro1 (by exact tZ_102.symm)<|rlc (.own _ Y)<|rlc (.own _ Y)<|rlc (.dat Y)<|rlc (.dat Y)<|rlc (.dat Y)<|rlc (.dat Y)<|rlc (.dat Y) rln)<|.cons Y (roO QR)<|.cons Y (roM D105) .nil) Y (.keep Y Y<|.keep Y Y<|.keep Y Y<|.lent 0 (.inl Y) Y (ro1 (by exact tZ_102.symm)<|rlc (.own _<|.inr ⟨Nat.le_of_ble_eq_true Y, Y⟩)<|rlc (.own _<|.inr ⟨Nat.le_of_ble_eq_true Y, Y⟩)<|rlc (.dat Y)<|rlc (.dat Y)<|rlc (.dat Y)<|rlc (.dat Y)<|rlc (.dat Y) rln)<|.none<|.none<|.lent 3 (.inr ⟨Nat.le_of_ble_eq_true Y, Y⟩) Y (roO QR)<|.lent 4 (.inr ⟨Nat.le_of_ble_eq_true Y, Y⟩) Y (roM D105) .nil) Y Y<|Xw<|rld Y)<|Rm Y<|Rq Y (Zn (ov Y) Y)<|Rq Y (Zn (ov Y) Y)<|Rq Y (Zn (ov Y) Y)<|Ra Y<|Ra Y<|Ra Y<|Za<|K5 1 4 5 6 7 Y<|QP [some ⟨3, List.map R3 l⟩, some ⟨42, [(List.map C40 y.1.toList)]⟩, some ⟨26, [[.int .i64 y2.1.Slots, .int .i64 y2.1.Limit, .sl 49 (List.map R49 y2.1.Sectors), .sl 3 (List.map R3 y2.1.Wear), .sl 4 (List.map R4 y2.1.Bad)]]⟩, some ⟨102, [[.own 6 y4.2.2.2.bank.memories.length, .own 7 y4.2.2.2.bank.spots.length, .int .i64 y4.2.2.2.copies, .bool y4.2.2.2.frozen, .bool y4.2.2.2.stopped, .int .i64 y4.2.2.2.last, .bool y4.2.2.2.some_]]⟩, none, none, some ⟨26, List.map O26 y4.2.2.2.bank.memories⟩, some ⟨105, List.map R105 y4.2.2.2.bank.spots⟩] Y<|Tr<|Rm Y<|bE h fun y5 h_y5 h=>Rx Y (ZH [3, 6, 7] (ZdB h_y5) (.cons (ov Y) (.ptr _ _ _ Y) .nil) (.cons Y (ro1 (by exact tZ_102.symm)<|rlc (.own _ Y)<|rlc (.own _ Y)<|rlc (.dat Y)<|rlc (.dat Y)<|rlc (.dat Y)<|rlc (.dat Y)<|rlc (.dat Y) rln)<|.cons Y (roO QR)<|.cons Y (roM D105) .nil) Y (.keep Y Y<|.keep Y Y<|.keep Y Y<|.lent 0 (.inl Y) Y (ro1 (by exact tZ_102.symm)<|rlc (.dat Y)<|rlc (.own _<|.inr ⟨Nat.le_of_ble_eq_true Y, Y⟩)<|rlc (.dat Y)<|rlc (.dat Y)<|rlc (.dat Y)<|rlc (.dat Y)<|rlc (.dat Y) rln)<|.none<|.none<|.none<|.none<|.lent 3 (.inr ⟨Nat.le_of_ble_eq_true Y, Y⟩) Y (roM D105) .nil) Y Y<|.dat Y)<|bE h fun y6 h_y6 h=>Rq Y (Zw (Zjr h_y6)<|.cons (ov Y) (.b Y) .nil)<|Rm Y<|Rq Y (Zn (ov Y) Y)<|Rq Y (Zn (ov Y) Y)<|Ra Y<|Ra Y<|Za<|Zj<|K6 1 4 6 7 8 9 Y<|QH (cw := md0) (by kernel_rfl)<|D1 0 Zc Y<|D2 1 ZbU Y<|D1 2 Zc Y<|Dq 3 Y (.guarded ((decide (y4.1 = 1)) == true) Y Y Y Y fun h => Zc<|ov Y)<|Dq 4 Y (ZaZ (ov Y) fun hp=>ow Y<|gT hp)<|D1 5 Zc Y<|Dq 6 Y (.guarded (((decide (y4.1 = 1)) && y4.2.1) == true) Y Y Y Y fun h => Zc<|ov Y)<|Dq 7 Y (.guarded (((decide (y4.1 = 1)) && y4.2.1) == true) Y Y Y Y fun h => ZbU (ow Y h)<|ov Y)<|Dq 8 Y (ZaZ (ov Y) fun hp=>ow Y<|gT hp)<|D1 9 Zc Y<|Dq 10 Y (.guarded ((((decide (y4.1 = 1)) && y4.2.1) && (decide (y4.2.2.1 = 0))) == true) Y Y Y Y fun h => Zc<|ov Y)<|Dq 11 Y (.guarded ((((decide (y4.1 = 1)) && y4.2.1) && (decide (y4.2.2.1 = 0))) == true) Y Y Y Y fun h => ZbU (ow Y h)<|ov Y)<|Dq 12 Y (ZaZ (ov Y) fun hp=>ow Y<|gT hp)<|D1 13 Zc Y<|Dq 14 Y (.guarded (((((decide (y4.1 = 1)) && y4.2.1) && (decide (y4.2.2.1 = 0))) && (decide (y6.2 = 0))) == true) Y Y Y Y fun h => Zc<|ov Y)<|Dq 15 Y (.guarded (((((decide (y4.1 = 1)) && y4.2.1) && (decide (y4.2.2.1 = 0))) && (decide (y6.2 = 0))) == true) Y Y Y Y fun h => ZkH (QY (ow Y h) tZ_42) ZoL<|ZgX _ _)<|Dq 16 Y (.guarded (((((decide (y4.1 = 1)) && y4.2.1) && (decide (y4.2.2.1 = 0))) && (decide (y6.2 = 0))) == true) Y Y Y Y fun h => ZbU (ow Y h)<|ov Y)<|Dq 17 Y (ZaZ (ov Y) fun hp=>ow Y<|gT hp)<|D1 18 Zc Y<|Dq 19 Y (.guarded ((((((decide (y4.1 = 1)) && y4.2.1) && (decide (y4.2.2.1 = 0))) && (decide (y6.2 = 0))) && (decide ((y6.1.length : Int) = 1))) == true) Y Y Y Y fun h => Zc<|ov Y)<|bE h fun x h_x h=>Dq 20 Y (.guarded ((((((decide (y4.1 = 1)) && y4.2.1) && (decide (y4.2.2.1 = 0))) && (decide (y6.2 = 0))) && (decide ((y6.1.length : Int) = 1))) == true) Y Y Y Y fun h => Ql (ow Y h) (ov Y) ZoL<|gdT h_x h)<|Dq 21 Y (.guarded ((((((decide (y4.1 = 1)) && y4.2.1) && (decide (y4.2.2.1 = 0))) && (decide (y6.2 = 0))) && (decide ((y6.1.length : Int) = 1))) == true) Y Y Y Y fun h => Q6 (ow Y h) JW (Xc<|Zz arL) arL)<|Dq 22 Y (.guarded ((((((decide (y4.1 = 1)) && y4.2.1) && (decide (y4.2.2.1 = 0))) && (decide (y6.2 = 0))) && (decide ((y6.1.length : Int) = 1))) == true) Y Y Y Y fun h => QB (ov Y) Y Y Y JW (Xc<|Zz arL) arL (hns := (nsM fun _ => Y)))<|Dq 23 Y (.guarded ((((((decide (y4.1 = 1)) && y4.2.1) && (decide (y4.2.2.1 = 0))) && (decide (y6.2 = 0))) && (decide ((y6.1.length : Int) = 1))) == true) Y Y Y Y fun h => ZpW ZqN (ow Y h) (ow Y h) (.aggB<|arD fun _ => Y) (.aggB<|arD fun _ => Y) (fkV fun _ => Y) (fkV fun _ => Y)<|eqV fun _ _ => Y)<|Dq 24 Y (ZaZ (ov Y) fun hp=>ow Y<|gT hp)<|D1 25 Q1 Y<|Dd<|?_
    obtain rfl := rt h
    exact Zp (Z5 Y (.one<|rb Y))
theorem Zc6 {r_ : ring_Recorder} {r : (List api_Memory)} (h : Qb r_ = some r) :
 GSpec Tryz.prog gl0 16 [.ptr 0 1 0 0] [some ⟨102, [[.own 1 r_.bank.memories.length, .own 2 r_.bank.spots.length, .int .i64 r_.copies, .bool r_.frozen, .bool r_.stopped, .int .i64 r_.last, .bool r_.some_]]⟩, some ⟨26, List.map O26 r_.bank.memories⟩, some ⟨105, List.map R105 r_.bank.spots⟩] (.own 5 r.length) [some ⟨102, [[.own 3 r_.bank.memories.length, .own 4 r_.bank.spots.length, .int .i64 r_.copies, .bool r_.frozen, .bool r_.stopped, .int .i64 r_.last, .bool r_.some_]]⟩, none, none, some ⟨26, List.map O26 r_.bank.memories⟩, some ⟨105, List.map R105 r_.bank.spots⟩, some ⟨26, List.map O26 r⟩] := by
 unfold Qb at h
 replace h := QF h
 refine QO (by kernel_rfl) Tryz.func16 Y Y<|?_
 intro w0 A W φ0
 refine ZfV (Ent.sel [some 0, some 1, some 2, some 1, some 2] (sr 0 Y (.ptr (r' := 0) _ _ _ Y) sn) (.cons Y (ro1 (by exact tZ_102.symm)<|rlc (.own (r' := 3) _ Y)<|rlc (.own (r' := 4) _ Y)<|rlc (.dat Y)<|rlc (.dat Y)<|rlc (.dat Y)<|rlc (.dat Y)<|rlc (.dat Y) rln)<|.dead<|.dead<|.cons Y (roO QR)<|.cons Y (roM D105) .nil) Y Y)<|QP [some ⟨102, [[.own 3 r_.bank.memories.length, .own 4 r_.bank.spots.length, .int .i64 r_.copies, .bool r_.frozen, .bool r_.stopped, .int .i64 r_.last, .bool r_.some_]]⟩, none, none, some ⟨26, List.map O26 r_.bank.memories⟩, some ⟨105, List.map R105 r_.bank.spots⟩] Y<|Tr<|Ra Y<|Za<|Tr<|Rm Y<|Rq Y (ZB (ov Y) Y Y)<|Rq Y (Zf (ov Y) Y Y ZdE)<|Rq Y (Zf (ov Y) Y Y ZcN)<|Rq Y (Zu (ov Y) Y Y Y ZjN Y)<|bE h fun y h_y h=>Rx Y (Zoe (Zej h_y) (.cons (ov Y) (View.ownO Y Y QR (fun x=>(D26 x).1) Zju) .nil) (.keep Y Y<|.none<|.none<|.keep Y Y<|.keep Y Y<|.lent 0 (.inr ⟨Nat.le_of_ble_eq_true Y, Y⟩) Y (roO QR) .nil) Y (.own _<|.inr ⟨Nat.le_of_ble_eq_true Y, Y⟩) Y<|.cons (frM QR) .nil)<|Ra Y<|Za<|?_
 obtain rfl := rt h
 exact Zp<|Za2 [some 0, some 1, some 2, some 3, some 4, some 5] Y (.cons (.tmp Y) .nil) (.cons Y (ro1 (by exact tZ_102.symm)<|rlc (.own _ Y)<|rlc (.own _ Y)<|rlc (.dat Y)<|rlc (.dat Y)<|rlc (.dat Y)<|rlc (.dat Y)<|rlc (.dat Y) rln)<|.dead<|.dead<|.cons Y (roO QR)<|.cons Y (roM D105)<|.cons Y (roO QR) .nil) Y Y<|.own _ Y
theorem Qm {s1 : List api_Memory} {s2 : List api_Memory} {eq : api_Memory → api_Memory → Option Bool} {r : Bool} {eq_f : FuncId} {eq_c : List AV} (eq_d : eq_c.all datB = true) (eq_h : ∀ (z0 : api_Memory) (z1 : api_Memory) z, eq z0 z1 = some z → CSpec Tryz.prog gl0 eq_f ([.agg [.int .i64 z0.Slots, .int .i64 z0.Limit, .sl 49 (List.map R49 z0.Sectors), .sl 3 (List.map R3 z0.Wear), .sl 4 (List.map R4 z0.Bad)], .agg [.int .i64 z1.Slots, .int .i64 z1.Limit, .sl 49 (List.map R49 z1.Sectors), .sl 3 (List.map R3 z1.Wear), .sl 4 (List.map R4 z1.Bad)]] ++ eq_c) (.bool z)) (h : Zr s1 s2 eq = some r) :
 CSpec Tryz.prog gl0 18 [.sl 26 (List.map R26 s1), .sl 26 (List.map R26 s2), .fn eq_f eq_c] (.bool r) := by
 unfold Zr at h
 replace h := QF h
 refine So Tryz.func18 Y fun w0 A=>Tr<|Ra Y<|Za<|Zj<|K3 0 1 2 Y<|Tr<|Rm Y<|Rl tZ_26 Zbh Y<|Rm Y<|Rl tZ_26 Zbh Y<|R2 Jc Y<|Za<|K4 0 1 2 14 Y<|If h Y (fun h=>?_) fun h=>?_
 ·
  refine K0<|Tr<|Ra Y<|Za<|?_
  obtain rfl := rt h
  exact Zp (Z5 Y (.one<|rb Y))
 ·
  refine Zi<|J0 (fun j => (.inr j)) ⟨[], []⟩ h (fun h=>?_) fun h=>?_
  ·
   refine K3 0 1 2 Y<|Tr<|Rm Y<|Rl tZ_26 Zbh Y<|Rm Y<|Za<|Zg<|?_
   obtain ⟨r1, hl1, ho1⟩ := Xj h
   refine L1 (fun i=>⟨[(1, .sl 26 (List.map R26 s2)), (2, .fn eq_f eq_c), (15, .sl 26 (List.map R26 s1)), (16, .int .i64 (s1.length : Int)), (17, .int .i64 i)], []⟩) hl1 (ES []<|sd 1 Y Y<|sr 2 Y (rFn<|rld eq_d)<|sd 15 Y Y<|sd 16 Y Y<|sd 17 Y Y sn) fun n1 i h=>?_
   unfold Zv at h
   refine Tr<|R2 ZY Y<|Za<|Zj<|If h Y (fun h=>?_) fun h=>?_
   ·
    refine Zi<|Zj<|Zg<|K5 1 2 15 16 17 Y<|Tr<|Rm Y<|bE h fun x h_x h=>Rq Y (Ql (ov Y) (ov Y) Zbh h_x)<|Rq Y (Q6 (ov Y) XS Y Y)<|Rx Y (Qf (row := [_, _, _, _, _]) 0 Y Zc4 Y tZ_26)<|Ra Y<|Rx Y (Zh (ov Y) (ov Y) (ZC XS Y) Y Y Y (Nat.le_of_ble_eq_true Y) (Zb Y) Y)<|Za<|K7 1 2 7 8 15 16 17 Y<|Tr<|Rm Y<|Rm Y<|bE h fun x2 h_x2 h=>Rq Y (Ql (ov Y) (ov Y) Zbh h_x2)<|Rq Y (Q6 (ov Y) XS Y Y)<|Rx Y (Qf (row := [_, _, _, _, _]) 1 Y Zc4 Y tZ_26)<|Rx Y (Zh (ov Y) (ov Y) (ZC XS Y) Y Y Y (Nat.le_of_ble_eq_true Y) (Zb Y) Y)<|Za<|K7 1 2 8 9 15 16 17 Y<|Tr<|Rm Y<|Rq Y (QB (ov Y) Y Y Y XS Y Y)<|Rq Y (QB (ov Y) Y Y Y XS Y Y)<|bE h fun y h_y h=>Rq Y (Zdw (ov Y) eq_d (eq_h _ _ _ h_y)<|.cons (ov Y) (.aggB Y)<|.cons (ov Y) (.aggB Y) .nil)<|R1 J7 Y<|Za<|K6 1 2 15 16 17 30 Y<|If h Y (fun h=>?_) fun h=>?_
    ·
     refine K0<|Tr<|Ra Y<|Za<|?_
     replace h := lx h ▸ ho1
     obtain rfl := rt h
     exact Zp (Z5 Y (.one<|rb Y))
    ·
     exact Zi<|K5 1 2 15 16 17 Y<|Zt<|R2 ZX Y<|Rm Y<|Za<|⟨_, h, ES []<|sd 1 Y Y<|sr 2 Y (rFn<|rld eq_d)<|sd 15 Y Y<|sd 16 Y Y<|sd 17 Y Y sn⟩
   ·
    refine ZS<|?_
    replace h := lx h ▸ ho1
    exact ⟨(), h, ES []⟩
  ·
   replace h := elr h
   replace h := t0i h
   refine Tr<|Ra Y<|Za<|?_
   obtain rfl := rt h
   exact Zp (Z5 Y (.one<|rb Y))
theorem ZaA {s1 : List (List Int)} {s2 : List (List Int)} {eq : (List Int) → (List Int) → Option Bool} {r : Bool} {eq_f : FuncId} {eq_c : List AV} (eq_d : eq_c.all datB = true) (eq_h : ∀ (z0 : List Int) (z1 : List Int) z, eq z0 z1 = some z → CSpec Tryz.prog gl0 eq_f ([.sl 5 (List.map R5 z0), .sl 5 (List.map R5 z1)] ++ eq_c) (.bool z)) (h : Z8 s1 s2 eq = some r) :
 CSpec Tryz.prog gl0 59 [.sl 49 (List.map R49 s1), .sl 49 (List.map R49 s2), .fn eq_f eq_c] (.bool r) := by
 unfold Z8 at h
 replace h := QF h
 refine So Tryz.func59 Y fun w0 A=>Tr<|Ra Y<|Za<|Zj<|K3 0 1 2 Y<|Tr<|Rm Y<|Rl tZ_49 ZZ Y<|Rm Y<|Rl tZ_49 ZZ Y<|R2 Jc Y<|Za<|K4 0 1 2 14 Y<|If h Y (fun h=>?_) fun h=>?_
 ·
  refine K0<|Tr<|Ra Y<|Za<|?_
  obtain rfl := rt h
  exact Zp (Z5 Y (.one<|rb Y))
 ·
  refine Zi<|J0 (fun j => (.inr j)) ⟨[], []⟩ h (fun h=>?_) fun h=>?_
  ·
   refine K3 0 1 2 Y<|Tr<|Rm Y<|Rl tZ_49 ZZ Y<|Rm Y<|Za<|Zg<|?_
   obtain ⟨r1, hl1, ho1⟩ := Xj h
   refine L1 (fun i=>⟨[(1, .sl 49 (List.map R49 s2)), (2, .fn eq_f eq_c), (15, .sl 49 (List.map R49 s1)), (16, .int .i64 (s1.length : Int)), (17, .int .i64 i)], []⟩) hl1 (ES []<|sd 1 Y Y<|sr 2 Y (rFn<|rld eq_d)<|sd 15 Y Y<|sd 16 Y Y<|sd 17 Y Y sn) fun n1 i h=>?_
   unfold Qk at h
   refine Tr<|R2 ZY Y<|Za<|Zj<|If h Y (fun h=>?_) fun h=>?_
   ·
    refine Zi<|Zj<|Zg<|K5 1 2 15 16 17 Y<|Tr<|Rm Y<|bE h fun x h_x h=>Rq Y (Ql (ov Y) (ov Y) ZZ h_x)<|Rq Y (Ze (ov Y) ZgI Y)<|Ra Y<|Ra Y<|Za<|K7 1 2 7 8 15 16 17 Y<|Tr<|Rm Y<|Rm Y<|bE h fun x2 h_x2 h=>Rq Y (Ql (ov Y) (ov Y) ZZ h_x2)<|Rq Y (Ze (ov Y) ZgI Y)<|Ra Y<|Za<|K7 1 2 8 9 15 16 17 Y<|Tr<|Rm Y<|Rm Y<|Rm Y<|bE h fun y h_y h=>Rq Y (Zdw (ov Y) eq_d (eq_h _ _ _ h_y)<|.cons (ov Y) (.b Y)<|.cons (ov Y) (.b Y) .nil)<|R1 J7 Y<|Za<|K6 1 2 15 16 17 30 Y<|If h Y (fun h=>?_) fun h=>?_
    ·
     refine K0<|Tr<|Ra Y<|Za<|?_
     replace h := lx h ▸ ho1
     obtain rfl := rt h
     exact Zp (Z5 Y (.one<|rb Y))
    ·
     exact Zi<|K5 1 2 15 16 17 Y<|Zt<|R2 ZX Y<|Rm Y<|Za<|⟨_, h, ES []<|sd 1 Y Y<|sr 2 Y (rFn<|rld eq_d)<|sd 15 Y Y<|sd 16 Y Y<|sd 17 Y Y sn⟩
   ·
    refine ZS<|?_
    replace h := lx h ▸ ho1
    exact ⟨(), h, ES []⟩
  ·
   replace h := elr h
   replace h := t0i h
   refine Tr<|Ra Y<|Za<|?_
   obtain rfl := rt h
   exact Zp (Z5 Y (.one<|rb Y))
theorem Zi3 {a : List Int} {b : List Int} {r : Bool} (h : Zc5 a b = some r) :
 CSpec Tryz.prog gl0 22 [.sl 5 (List.map R5 a), .sl 5 (List.map R5 b)] (.bool r) := by
 unfold Zc5 at h
 replace h := QF h
 refine So Tryz.func22 Y fun w0 A=>Tr<|Ra Y<|Za<|Tr<|Rm Y<|Rq Y (ZlX (f := R5) (QY (ov Y) tZ_5) (fun _=>Y) QU ZlQ Zqm)<|Rm Y<|Rq Y (ZlX (f := R5) (QY (ov Y) tZ_5) (fun _=>Y) QU ZlQ Zqm)<|R2 Znn Y<|Ra Y<|Za<|?_
 obtain rfl := rt h
 exact Zp (Z5 Y (.one<|rb Y))
theorem ZeO {s1 : List Int} {s2 : List Int} {r : Bool} (h : XI s1 s2 = some r) :
 CSpec Tryz.prog gl0 38 [.sl 3 (List.map R3 s1), .sl 3 (List.map R3 s2)] (.bool r) := by
 unfold XI at h
 replace h := QF h
 refine So Tryz.func38 Y fun w0 A=>Tr<|Ra Y<|Za<|Zj<|K2 0 1 Y<|Tr<|Rm Y<|Rl tZ_3 Q3 Y<|Rm Y<|Rl tZ_3 Q3 Y<|R2 Jc Y<|Za<|K3 0 1 10 Y<|If h Y (fun h=>?_) fun h=>?_
 ·
  refine K0<|Tr<|Ra Y<|Za<|?_
  obtain rfl := rt h
  exact Zp (Z5 Y (.one<|rb Y))
 ·
  refine Zi<|J0 (fun j => (.inr j)) ⟨[], []⟩ h (fun h=>?_) fun h=>?_
  ·
   refine K2 0 1 Y<|Tr<|Rm Y<|Rl tZ_3 Q3 Y<|Rm Y<|Za<|Zg<|?_
   obtain ⟨r1, hl1, ho1⟩ := Xj h
   refine L1 (fun i=>⟨[(0, .sl 3 (List.map R3 s1)), (1, .sl 3 (List.map R3 s2)), (12, .int .i64 (s1.length : Int)), (13, .int .i64 i)], []⟩) hl1 (ES []) fun n1 i h=>?_
   unfold XV at h
   refine Tr<|R2 ZY Y<|Za<|Zj<|If h Y (fun h=>?_) fun h=>?_
   ·
    refine Zi<|Zj<|Zg<|K4 0 1 12 13 Y<|Tr<|Rm Y<|Ra Y<|Za<|Zj<|K5 0 1 5 12 13 Y<|QH (cw := md0) (by kernel_rfl)<|D1 0 Zc Y<|D1 1 Zc Y<|bE h fun x h_x h=>Dq 2 Y (Ql (ov Y) (ov Y) Q3 h_x)<|Dq 3 Y (Ze (ov Y) tS3 Y)<|D1 4 Zc Y<|D1 5 Zc Y<|bE h fun x2 h_x2 h=>Dq 6 Y (Ql (ov Y) (ov Y) Q3 h_x2)<|Dq 7 Y (Ze (ov Y) tS3 Y)<|D2 8 Jc Y<|Dd<|K5 0 1 12 13 24 Y<|If h Y (fun h=>?_) fun h=>?_
    ·
     refine K0<|Tr<|Ra Y<|Za<|?_
     replace h := lx h ▸ ho1
     obtain rfl := rt h
     exact Zp (Z5 Y (.one<|rb Y))
    ·
     exact Zi<|K4 0 1 12 13 Y<|Zt<|R2 ZX Y<|Rm Y<|Za<|⟨_, h, ES []⟩
   ·
    refine ZS<|?_
    replace h := lx h ▸ ho1
    exact ⟨(), h, ES []⟩
  ·
   replace h := elr h
   replace h := t0i h
   refine Tr<|Ra Y<|Za<|?_
   obtain rfl := rt h
   exact Zp (Z5 Y (.one<|rb Y))
theorem Zd6 {s1 : List Bool} {s2 : List Bool} {r : Bool} (h : Xk s1 s2 = some r) :
 CSpec Tryz.prog gl0 60 [.sl 4 (List.map R4 s1), .sl 4 (List.map R4 s2)] (.bool r) := by
 unfold Xk at h
 replace h := QF h
 refine So Tryz.func60 Y fun w0 A=>Tr<|Ra Y<|Za<|Zj<|K2 0 1 Y<|Tr<|Rm Y<|Rl tZ_4 ZfA Y<|Rm Y<|Rl tZ_4 ZfA Y<|R2 Jc Y<|Za<|K3 0 1 10 Y<|If h Y (fun h=>?_) fun h=>?_
 ·
  refine K0<|Tr<|Ra Y<|Za<|?_
  obtain rfl := rt h
  exact Zp (Z5 Y (.one<|rb Y))
 ·
  refine Zi<|J0 (fun j => (.inr j)) ⟨[], []⟩ h (fun h=>?_) fun h=>?_
  ·
   refine K2 0 1 Y<|Tr<|Rm Y<|Rl tZ_4 ZfA Y<|Rm Y<|Za<|Zg<|?_
   obtain ⟨r1, hl1, ho1⟩ := Xj h
   refine L1 (fun i=>⟨[(0, .sl 4 (List.map R4 s1)), (1, .sl 4 (List.map R4 s2)), (12, .int .i64 (s1.length : Int)), (13, .int .i64 i)], []⟩) hl1 (ES []) fun n1 i h=>?_
   unfold Xz at h
   refine Tr<|R2 ZY Y<|Za<|Zj<|If h Y (fun h=>?_) fun h=>?_
   ·
    refine Zi<|Zj<|Zg<|K4 0 1 12 13 Y<|Tr<|Rm Y<|Ra Y<|Za<|Zj<|K5 0 1 5 12 13 Y<|QH (cw := md0) (by kernel_rfl)<|D1 0 Zc Y<|D1 1 Zc Y<|bE h fun x h_x h=>Dq 2 Y (Ql (ov Y) (ov Y) ZfA h_x)<|Dq 3 Y (Ze (ov Y) tS4 Y)<|D1 4 Zc Y<|D1 5 Zc Y<|bE h fun x2 h_x2 h=>Dq 6 Y (Ql (ov Y) (ov Y) ZfA h_x2)<|Dq 7 Y (Ze (ov Y) tS4 Y)<|Dq 8 Y (ZkP .neq (by simp) (ov Y) (ov Y) tB4)<|Dd<|K5 0 1 12 13 24 Y<|If h Y (fun h=>?_) fun h=>?_
    ·
     refine K0<|Tr<|Ra Y<|Za<|?_
     replace h := lx h ▸ ho1
     obtain rfl := rt h
     exact Zp (Z5 Y (.one<|rb Y))
    ·
     exact Zi<|K4 0 1 12 13 Y<|Zt<|R2 ZX Y<|Rm Y<|Za<|⟨_, h, ES []⟩
   ·
    refine ZS<|?_
    replace h := lx h ▸ ho1
    exact ⟨(), h, ES []⟩
  ·
   replace h := elr h
   replace h := t0i h
   refine Tr<|Ra Y<|Za<|?_
   obtain rfl := rt h
   exact Zp (Z5 Y (.one<|rb Y))
theorem ZdY {a : api_Memory} {b : api_Memory} {r : Bool} (h : Xt a b = some r) :
 CSpec Tryz.prog gl0 12 [.agg [.int .i64 a.Slots, .int .i64 a.Limit, .sl 49 (List.map R49 a.Sectors), .sl 3 (List.map R3 a.Wear), .sl 4 (List.map R4 a.Bad)], .agg [.int .i64 b.Slots, .int .i64 b.Limit, .sl 49 (List.map R49 b.Sectors), .sl 3 (List.map R3 b.Wear), .sl 4 (List.map R4 b.Bad)]] (.bool r) := by
 unfold Xt at h
 replace h := QF h
 refine So Tryz.func12 Y fun w0 A=>Tr<|Rq Y (ZcB (cva<|ov Y) Y tZ_26 Y)<|Rq Y (ZcB (cva<|ov Y) Y tZ_26 Y)<|Ra Y<|Za<|K3 2 3 4 Y<|Tr<|Rq Y (ZT (ov Y) Zgw)<|Rq Y (Ze (ov Y) tS3 Y)<|Rq Y (ZT (ov Y) Zgw)<|Rq Y (Ze (ov Y) tS3 Y)<|R2 ZbU Y<|Rm Y<|Rq Y (.guarded ((decide (a.Slots = b.Slots)) == true) Y Y Y Y fun h => ZT (ov Y) ZjD)<|Rq Y (.guarded ((decide (a.Slots = b.Slots)) == true) Y Y Y Y fun h => Ze (ow Y h) tS3 Y)<|Rq Y (.guarded ((decide (a.Slots = b.Slots)) == true) Y Y Y Y fun h => ZT (ov Y) ZjD)<|Rq Y (.guarded ((decide (a.Slots = b.Slots)) == true) Y Y Y Y fun h => Ze (ow Y h) tS3 Y)<|Rq Y (.guarded ((decide (a.Slots = b.Slots)) == true) Y Y Y Y fun h => ZbU (ow Y h)<|ow Y h)<|Rq Y (ZaZ (ov Y) fun hp=>ow Y<|gT hp)<|Rm Y<|Rq Y (.guarded (((decide (a.Slots = b.Slots)) && (decide (a.Limit = b.Limit))) == true) Y Y Y Y fun h => ZT (ov Y) ZF)<|Rq Y (.guarded (((decide (a.Slots = b.Slots)) && (decide (a.Limit = b.Limit))) == true) Y Y Y Y fun h => Ze (ow Y h) Qc Y)<|Rq Y (.guarded (((decide (a.Slots = b.Slots)) && (decide (a.Limit = b.Limit))) == true) Y Y Y Y fun h => ZT (ov Y) ZF)<|Rq Y (.guarded (((decide (a.Slots = b.Slots)) && (decide (a.Limit = b.Limit))) == true) Y Y Y Y fun h => Ze (ow Y h) Qc Y)<|bE h fun y h_y h=>Rq Y (.guarded (((decide (a.Slots = b.Slots)) && (decide (a.Limit = b.Limit))) == true) Y Y Y Y fun h => Zw (ZaA Y (fun z0 z1 _ hz=>Zi3 hz)<|gdT h_y h)<|.cons (ow Y h) (.b Y)<|.cons (ow Y h) (.b Y)<|.cons (ov Y) .fn .nil)<|Rq Y (ZaZ (ov Y) fun hp=>ow Y<|gT hp)<|Rm Y<|Rq Y (.guarded ((((decide (a.Slots = b.Slots)) && (decide (a.Limit = b.Limit))) && y) == true) Y Y Y Y fun h => ZT (ov Y) ZdZ)<|Rq Y (.guarded ((((decide (a.Slots = b.Slots)) && (decide (a.Limit = b.Limit))) && y) == true) Y Y Y Y fun h => Ze (ow Y h) Zje Y)<|Rq Y (.guarded ((((decide (a.Slots = b.Slots)) && (decide (a.Limit = b.Limit))) && y) == true) Y Y Y Y fun h => ZT (ov Y) ZdZ)<|Rq Y (.guarded ((((decide (a.Slots = b.Slots)) && (decide (a.Limit = b.Limit))) && y) == true) Y Y Y Y fun h => Ze (ow Y h) Zje Y)<|bE h fun y2 h_y2 h=>Rq Y (.guarded ((((decide (a.Slots = b.Slots)) && (decide (a.Limit = b.Limit))) && y) == true) Y Y Y Y fun h => Zw (ZeO<|gdT h_y2 h)<|.cons (ow Y h) (.b Y)<|.cons (ow Y h) (.b Y) .nil)<|Rq Y (ZaZ (ov Y) fun hp=>ow Y<|gT hp)<|Rm Y<|Rq Y (.guarded (((((decide (a.Slots = b.Slots)) && (decide (a.Limit = b.Limit))) && y) && y2) == true) Y Y Y Y fun h => ZT (ov Y) Zes)<|Rq Y (.guarded (((((decide (a.Slots = b.Slots)) && (decide (a.Limit = b.Limit))) && y) && y2) == true) Y Y Y Y fun h => Ze (ow Y h) Zjw Y)<|Rq Y (.guarded (((((decide (a.Slots = b.Slots)) && (decide (a.Limit = b.Limit))) && y) && y2) == true) Y Y Y Y fun h => ZT (ov Y) Zes)<|Rq Y (.guarded (((((decide (a.Slots = b.Slots)) && (decide (a.Limit = b.Limit))) && y) && y2) == true) Y Y Y Y fun h => Ze (ow Y h) Zjw Y)<|bE h fun y3 h_y3 h=>Rq Y (.guarded (((((decide (a.Slots = b.Slots)) && (decide (a.Limit = b.Limit))) && y) && y2) == true) Y Y Y Y fun h => Zw (Zd6<|gdT h_y3 h)<|.cons (ow Y h) (.b Y)<|.cons (ow Y h) (.b Y) .nil)<|Rq Y (ZaZ (ov Y) fun hp=>ow Y<|gT hp)<|Ra Y<|Za<|?_
 obtain rfl := rt h
 exact Zp (Z5 Y (.one<|rb Y))
theorem Zc7 {l : List api_Memory} {copies : Int} {deeds : List law3_Deed} {r : Bool} (h : Xp l copies deeds = some r) :
 CSpec Tryz.prog gl0 4 [.sl 26 (List.map R26 l), .int .i64 copies, .sl 44 (List.map R44 deeds)] (.bool r) := by
 unfold Xp at h
 replace h := QF h
 refine So Tryz.func4 Y fun w0 A=>Tr<|Ra Y<|Za<|K3 0 1 2 Y<|Tr<|Ra Y<|Za<|I1 (fun old=>⟨[(0, .sl 26 (List.map R26 l)), (1, .int .i64 copies), (2, .sl 44 (List.map R44 deeds)), (7, .own 0 old.length)], [some ⟨26, List.map O26 old⟩]⟩) h (fun h=>?_) fun old h=>?_
 ·
  refine Tr<|Rm Y<|Rl tZ_26 Zbh Y<|Rm Y<|Za<|Zg<|?_
  obtain ⟨r1, hl1, ho1⟩ := Xj h
  refine L2 (fun old2 i=>⟨[(0, .sl 26 (List.map R26 l)), (1, .int .i64 copies), (2, .sl 44 (List.map R44 deeds)), (7, .own 0 old2.length), (15, .sl 26 (List.map R26 l)), (16, .int .i64 (l.length : Int)), (17, .int .i64 i)], [some ⟨26, List.map O26 old2⟩]⟩) hl1 (ES [none]) fun n1 old2 i h=>?_
  unfold Qw at h
  refine Tr<|R2 ZY Y<|Za<|Zj<|If h Y (fun h=>?_) fun h=>?_
  ·
   exact Zi<|Zj<|Zg<|K7 0 1 2 7 15 16 17 Y<|Tr<|bE h fun x h_x h=>Rq Y (Ql (ov Y) (ov Y) Zbh h_x)<|Rq Y (Q6 (ov Y) XS Y Y)<|Rx Y (Qf (row := [_, _, _, _, _]) 1 Y Zc4 Y tZ_26)<|Rx Y (Zh (ov Y) (ov Y) (ZC XS Y) Y Y Y (Nat.le_of_ble_eq_true Y) (Zb Y) Y)<|Za<|K8 0 1 2 7 9 15 16 17 Y<|QP [some ⟨26, List.map O26 old2⟩, some ⟨26, [[.int .i64 x.Slots, .int .i64 x.Limit, .sl 49 (List.map R49 x.Sectors), .sl 3 (List.map R3 x.Wear), .sl 4 (List.map R4 x.Bad)]]⟩] Y<|Zt<|Rm Y<|Rq Y (QB (ov Y) Y Y Y XS Y Y)<|bE h fun y h_y h=>Rx Y (ZH [] (Zi0 h_y) (.cons (ov Y) (Zd2<|rld Y) .nil) .nil Y (.keep Y Y<|.keep Y Y<|.lent 0 (.inr ⟨Nat.le_of_ble_eq_true Y, Y⟩) Y (roO Xi)<|.lent 1 (.inr ⟨Nat.le_of_ble_eq_true Y, Y⟩) Y (roM D3)<|.lent 2 (.inr ⟨Nat.le_of_ble_eq_true Y, Y⟩) Y (roM D4) .nil) Y Y<|Zd2<|rlc (.dat Y)<|rlc (.dat Y)<|rlc (.own _<|.inr ⟨Nat.le_of_ble_eq_true Y, Y⟩)<|rlc (.own _<|.inr ⟨Nat.le_of_ble_eq_true Y, Y⟩)<|rlc (.own _<|.inr ⟨Nat.le_of_ble_eq_true Y, Y⟩) rln)<|Rx Y (Qn (r := 5) Y Zbh (.cons (cva<|ov Y) Y .nil) Y Y)<|bE h fun l2 h_l2 h=>Rx Y (ZA (f := O26) (ov Y) (ZV (o := ⟨26, [[.int .i64 y.Slots, .int .i64 y.Limit, .own 2 y.Sectors.length, .own 3 y.Wear.length, .own 4 y.Bad.length]]⟩) (ov Y) Y Y tZ_26) Zbh Y Y (Zb Y) Y h_l2)<|Ra Y<|ZeS [some ⟨26, List.set (List.map O26 l2) old2.length [.int .i64 y.Slots, .int .i64 y.Limit, .own 2 y.Sectors.length, .own 3 y.Wear.length, .own 4 y.Bad.length]⟩, some ⟨26, [[.int .i64 x.Slots, .int .i64 x.Limit, .sl 49 (List.map R49 x.Sectors), .sl 3 (List.map R3 x.Wear), .sl 4 (List.map R4 x.Bad)]]⟩, some ⟨49, List.map O49 y.Sectors⟩, some ⟨3, List.map R3 y.Wear⟩, some ⟨4, List.map R4 y.Bad⟩, some ⟨26, [[.int .i64 y.Slots, .int .i64 y.Limit, .own 2 y.Sectors.length, .own 3 y.Wear.length, .own 4 y.Bad.length]]⟩] Y<|Xf (Ent.absorbH (r := 0) (j := 2) (q := 2) Y (Zk h_l2) Y Y (List.length_map ..) Y)<|Xf (Ent.absorbH (r := 0) (j := 3) (q := 3) Y (Zk h_l2) Y Y (List.length_map ..) Y)<|Xf (Ent.absorbH (r := 0) (j := 4) (q := 4) Y (Zk h_l2) Y Y (List.length_map ..) Y)<|Xf (Ent.closeS (r := 0) Y (Zk h_l2) Y)<|Za<|K7 0 1 2 7 15 16 17 Y<|QP [some ⟨26, List.map O26 l2⟩, some ⟨26, [[.int .i64 x.Slots, .int .i64 x.Limit, .sl 49 (List.map R49 x.Sectors), .sl 3 (List.map R3 x.Wear), .sl 4 (List.map R4 x.Bad)]]⟩, none, none, none, some ⟨26, [[.int .i64 y.Slots, .int .i64 y.Limit, .own 2 y.Sectors.length, .own 3 y.Wear.length, .own 4 y.Bad.length]]⟩] Y<|Zt<|R2 ZX Y<|Rm Y<|Za<|⟨_, h, ES [some 0] (hhp := .cons Y (roO QR) .nil)⟩
  ·
   refine ZS<|?_
   replace h := lx h ▸ ho1
   exact ⟨_, h, ES [some 0] (hhp := .cons Y (roO QR) .nil)⟩
 ·
  refine Tr<|Rm Y<|Rm Y<|bE h fun y2 h_y2 h=>?_
  rcases y2 with y2 | y2
  ·
   replace h := ell h
   refine Rx Y (ZH [] (Zdt h_y2) (.cons (ov Y) (.dat Y)<|.cons (ov Y) (.dat Y) .nil) .nil Y (.keep Y Y .nil) Y Y<|Xw<|rlc (.dat Y)<|rlc (.dat Y) rln)<|Rm Y<|Rq Y (Zn (ov Y) Y)<|Rq Y (Zn (ov Y) Y)<|Ra Y<|Ra Y<|Za<|Zj<|K5 0 2 7 10 11 Y<|Tr<|Rm Y<|R2 Jc Y<|Za<|K5 0 2 7 10 34 Y<|If h Y (fun h=>?_) fun h=>?_
   ·
    refine K0<|Tr<|bE h fun y3 h_y3 h=>Rq Y (Zw (ZeZ h_y3) .nil)<|Ra Y<|Za<|?_
    obtain rfl := rt h
    exact Zp (Z5 Y (.one<|rb Y))
   ·
    exact Zi<|(Zmf h).elim
  ·
   replace h := elr h
   refine Rx Y (ZH [] (Zds h_y2) (.cons (ov Y) (.dat Y)<|.cons (ov Y) (.dat Y) .nil) .nil Y (.keep Y Y<|.lent 0 (.inr ⟨Nat.le_of_ble_eq_true Y, Y⟩) Y (ro1 (by exact tZ_102.symm)<|rlc (.own _<|.inr ⟨Nat.le_of_ble_eq_true Y, Y⟩)<|rlc (.own _<|.inr ⟨Nat.le_of_ble_eq_true Y, Y⟩)<|rlc (.dat Y)<|rlc (.dat Y)<|rlc (.dat Y)<|rlc (.dat Y)<|rlc (.dat Y) rln)<|.lent 1 (.inr ⟨Nat.le_of_ble_eq_true Y, Y⟩) Y (roO QR)<|.lent 2 (.inr ⟨Nat.le_of_ble_eq_true Y, Y⟩) Y (roM D105) .nil) Y Y<|Xw<|rlc (.ptr _ _ _<|.inr ⟨Nat.le_of_ble_eq_true Y, Y⟩)<|rlc (.dat Y) rln)<|Rm Y<|Rq Y (Zn (ov Y) Y)<|Rq Y (Zn (ov Y) Y)<|Ra Y<|Ra Y<|Za<|Zj<|K5 0 2 7 10 11 Y<|QP [some ⟨26, List.map O26 old⟩, some ⟨102, [[.own 2 y2.1.bank.memories.length, .own 3 y2.1.bank.spots.length, .int .i64 y2.1.copies, .bool y2.1.frozen, .bool y2.1.stopped, .int .i64 y2.1.last, .bool y2.1.some_]]⟩, some ⟨26, List.map O26 y2.1.bank.memories⟩, some ⟨105, List.map R105 y2.1.bank.spots⟩] Y<|Tr<|Rm Y<|R2 Jc Y<|Za<|K5 0 2 7 10 34 Y<|If h Y (fun h=>?_) fun h=>?_
   ·
    refine K0<|Tr<|bE h fun y4 h_y4 h=>Rq Y (Zw (ZeZ h_y4) .nil)<|Ra Y<|Za<|?_
    obtain rfl := rt h
    exact Zp (Z5 Y (.one<|rb Y))
   ·
    refine Zi<|K4 0 2 7 10 Y<|Tr<|Rm Y<|bE h fun y5 h_y5 h=>Rx Y (ZH [1, 2, 3] (Zc6 h_y5) (.cons (ov Y) (.ptr _ _ _ Y) .nil) (.cons Y (ro1 (by exact tZ_102.symm)<|rlc (.own _ Y)<|rlc (.own _ Y)<|rlc (.dat Y)<|rlc (.dat Y)<|rlc (.dat Y)<|rlc (.dat Y)<|rlc (.dat Y) rln)<|.cons Y (roO QR)<|.cons Y (roM D105) .nil) Y (.keep Y Y<|.lent 0 (.inl Y) Y (ro1 (by exact tZ_102.symm)<|rlc (.own _<|.inr ⟨Nat.le_of_ble_eq_true Y, Y⟩)<|rlc (.own _<|.inr ⟨Nat.le_of_ble_eq_true Y, Y⟩)<|rlc (.dat Y)<|rlc (.dat Y)<|rlc (.dat Y)<|rlc (.dat Y)<|rlc (.dat Y) rln)<|.none<|.none<|.lent 3 (.inr ⟨Nat.le_of_ble_eq_true Y, Y⟩) Y (roO QR)<|.lent 4 (.inr ⟨Nat.le_of_ble_eq_true Y, Y⟩) Y (roM D105)<|.lent 5 (.inr ⟨Nat.le_of_ble_eq_true Y, Y⟩) Y (roO QR) .nil) Y Y<|.own _<|.inr ⟨Nat.le_of_ble_eq_true Y, Y⟩)<|Ra Y<|Za<|I0 ⟨[(0, .sl 26 (List.map R26 l)), (7, .own 0 old.length), (12, .own 1 y5.length)], [some ⟨26, List.map O26 old⟩, some ⟨26, List.map O26 y5⟩]⟩ h (fun h=>?_) fun h=>?_
    ·
     refine K5 0 2 7 10 12 Y<|QP [some ⟨26, List.map O26 old⟩, some ⟨102, [[.own 4 y2.1.bank.memories.length, .own 5 y2.1.bank.spots.length, .int .i64 y2.1.copies, .bool y2.1.frozen, .bool y2.1.stopped, .int .i64 y2.1.last, .bool y2.1.some_]]⟩, none, none, some ⟨26, List.map O26 y2.1.bank.memories⟩, some ⟨105, List.map R105 y2.1.bank.spots⟩, some ⟨26, List.map O26 y5⟩] Y<|Tr<|Rm Y<|Rl tZ_44 ZqV Y<|Rm Y<|Za<|Zg<|?_
     obtain ⟨r2, hl2, ho2⟩ := Xj h
     refine L8 (fun memories spots copies2 frozen stopped last some_ i2=>⟨[(0, .sl 26 (List.map R26 l)), (7, .own 0 old.length), (10, .ptr 1 1 0 0), (12, .own 4 y5.length), (38, .sl 44 (List.map R44 deeds)), (39, .int .i64 (deeds.length : Int)), (40, .int .i64 i2)], [some ⟨26, List.map O26 old⟩, some ⟨102, [[.own 2 memories.length, .own 3 spots.length, .int .i64 copies2, .bool frozen, .bool stopped, .int .i64 last, .bool some_]]⟩, some ⟨26, List.map O26 memories⟩, some ⟨105, List.map R105 spots⟩, some ⟨26, List.map O26 y5⟩]⟩) hl2 (ES [some 0, some 1, some 4, some 5, some 6] (hhp := .cons Y (roO QR)<|.cons Y (ro1 (by exact tZ_102.symm)<|rlc (.own _ Y)<|rlc (.own _ Y)<|rlc (.dat Y)<|rlc (.dat Y)<|rlc (.dat Y)<|rlc (.dat Y)<|rlc (.dat Y) rln)<|.cons Y (roO QR)<|.cons Y (roM D105)<|.cons Y (roO QR) .nil)) fun n2 memories spots copies2 frozen stopped last some_ i2 h=>?_
     unfold Qh at h
     refine Tr<|R2 ZY Y<|Za<|Zj<|If h Y (fun h=>?_) fun h=>?_
     ·
      exact Zi<|Zj<|Zg<|K7 0 7 10 12 38 39 40 Y<|Tr<|bE h fun x2 h_x2 h=>Rq Y (Ql (ov Y) (ov Y) ZqV h_x2)<|Rq Y (Q6 (ov Y) ZqH (Xc<|Zz ZkW) ZkW)<|Rx Y (Qf (row := (.bool false) :: ((List.map C40 (Vector.replicate 64 0).toList) ++ ((.int .i64 0) :: []))) 5 Y Zrg (by kernel_rfl)<|by exact Eq.symm (Eq.trans (b := 66) ZkW tZ_44.symm))<|Rx Y (Zh (ov Y) (ov Y) (ZC ZqH ZkW) Y Y Y (Za9 (Zz ZkW) ZkW) (Zb Zrc)<|JS<|Eq.trans ZkW<|Eq.symm ZkW)<|Za<|K8 0 7 10 12 14 38 39 40 Y<|QP [some ⟨26, List.map O26 old⟩, some ⟨102, [[.own 2 memories.length, .own 3 spots.length, .int .i64 copies2, .bool frozen, .bool stopped, .int .i64 last, .bool some_]]⟩, some ⟨26, List.map O26 memories⟩, some ⟨105, List.map R105 spots⟩, some ⟨26, List.map O26 y5⟩, some ⟨44, [(.bool x2.Freeze) :: ((List.map C40 x2.Frame.toList) ++ ((.int .i64 x2.Power) :: []))]⟩] Y<|Zt<|Rm Y<|Rq Y (Zf (ov Y) Y Y ZpN)<|Rq Y (QB (ov Y) Y Y Y JW (Xc ZqX) arL (hns := (nsM fun _ => Y)))<|Rq Y (Zf (ov Y) Y Y ZpL)<|Rq Y (Zu (ov Y) Y Y Y tS3<|Q0 Zrj)<|bE h fun y6 h_y6 h=>Rx Y (ZH [1, 2, 3] (ZaX h_y6) (.cons (ov Y) (.ptr _ _ _ Y)<|.cons (ov Y) (Zd2<|rld<|arD fun _ => Y)<|.cons (ov Y) (.dat Y) .nil) (.cons Y (ro1 (by exact tZ_102.symm)<|rlc (.own _ Y)<|rlc (.own _ Y)<|rlc (.dat Y)<|rlc (.dat Y)<|rlc (.dat Y)<|rlc (.dat Y)<|rlc (.dat Y) rln)<|.cons Y (roO QR)<|.cons Y (roM D105) .nil) Y (.keep Y Y<|.lent 0 (.inl Y) Y (ro1 (by exact tZ_102.symm)<|rlc (.own _<|.inr ⟨Nat.le_of_ble_eq_true Y, Y⟩)<|rlc (.own _<|.inr ⟨Nat.le_of_ble_eq_true Y, Y⟩)<|rlc (.dat Y)<|rlc (.dat Y)<|rlc (.dat Y)<|rlc (.dat Y)<|rlc (.dat Y) rln)<|.none<|.none<|.keep Y Y<|.keep Y Y<|.lent 3 (.inr ⟨Nat.le_of_ble_eq_true Y, Y⟩) Y (roO QR)<|.lent 4 (.inr ⟨Nat.le_of_ble_eq_true Y, Y⟩) Y (roM D105) .nil) Y Y<|Xw<|rld Y)<|Rm Y<|Rq Y (Zn (ov Y) Y)<|Rq Y (Zn (ov Y) Y)<|Rq Y (Zn (ov Y) Y)<|Za<|K7 0 7 10 12 38 39 40 Y<|QP [some ⟨26, List.map O26 old⟩, some ⟨102, [[.own 6 y6.2.2.2.bank.memories.length, .own 7 y6.2.2.2.bank.spots.length, .int .i64 y6.2.2.2.copies, .bool y6.2.2.2.frozen, .bool y6.2.2.2.stopped, .int .i64 y6.2.2.2.last, .bool y6.2.2.2.some_]]⟩, none, none, some ⟨26, List.map O26 y5⟩, some ⟨44, [(.bool x2.Freeze) :: ((List.map C40 x2.Frame.toList) ++ ((.int .i64 x2.Power) :: []))]⟩, some ⟨26, List.map O26 y6.2.2.2.bank.memories⟩, some ⟨105, List.map R105 y6.2.2.2.bank.spots⟩] Y<|Zt<|R2 ZX Y<|Rm Y<|Za<|⟨_, h, ES [some 0, some 1, some 6, some 7, some 4] (hhp := .cons Y (roO QR)<|.cons Y (ro1 (by exact tZ_102.symm)<|rlc (.own _ Y)<|rlc (.own _ Y)<|rlc (.dat Y)<|rlc (.dat Y)<|rlc (.dat Y)<|rlc (.dat Y)<|rlc (.dat Y) rln)<|.cons Y (roO QR)<|.cons Y (roM D105)<|.cons Y (roO QR) .nil)⟩
     ·
      refine ZS<|?_
      replace h := lx h ▸ ho2
      exact ⟨(), h, ES [some 0, some 4] (hhp := .cons Y (roO QR)<|.cons Y (roO QR) .nil)⟩
    ·
     refine Tr<|Rm Y<|Rm Y<|bE h fun y7 h_y7 h=>Rq Y (Zch (Qm Y (fun z0 z1 _ hz=>ZdY hz) h_y7) .bool<|.cons (ov Y) (Dat.view<|.b Y)<|.cons (ov Y) (View.ownO Y Y QR (fun x=>(D26 x).1) Zju)<|.cons (ov Y) (Dat.view .fn) .nil)<|Rm Y<|Rq Y (.guarded (y7 == true) Y Y Y Y fun h => Zc<|ov Y)<|Rq Y (.guarded (y7 == true) Y Y Y Y fun h => Zc<|ov Y)<|bE h fun y8 h_y8 h=>Rq Y (.guarded (y7 == true) Y Y Y Y fun h => Zch (Qm Y (fun z0 z1 _ hz=>ZdY hz)<|gdT h_y8 h) .bool<|.cons (ow Y h) (View.ownO Y Y QR (fun x=>(D26 x).1) Zju)<|.cons (ow Y h) (View.ownO Y Y QR (fun x=>(D26 x).1) Zju)<|.cons (ov Y) (Dat.view .fn) .nil)<|Rq Y (ZaZ (ov Y) fun hp=>ow Y<|gT hp)<|Rm Y<|bE h fun y9 h_y9 h=>Rq Y (.guarded ((y7 && y8) == true) Y Y Y Y fun h => Zw (ZeZ<|gdT h_y9 h) .nil)<|Rq Y (ZaZ (ov Y) fun hp=>ow Y<|gT hp)<|Ra Y<|Za<|?_
     obtain rfl := rt h
     exact Zp (Z5 Y (.one<|rb Y))
end Go.Proofs.YtnlmjeleocelgaaGreatDoor
