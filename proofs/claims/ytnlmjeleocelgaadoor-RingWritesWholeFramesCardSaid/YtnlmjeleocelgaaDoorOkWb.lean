/- A text of the proof: a verified executor of the program form, or the contracts of the functions that the law reaches. -/
import Derived.Test.YtnlmjeleocelgaaDoorOkWa
set_option linter.all false
namespace Go.Proofs.YtnlmjeleocelgaaDoor
open Go Go.Vx
set_option maxRecDepth 10000
set_option maxHeartbeats 1000000
set_option linter.unusedVariables false
theorem Zj3 {p : Vector Int 96} {r : (Vector Int 64)} (h : Zbu p = some r) :
 CSpec Tryd.prog gl0 52 [.rp (List.map C5 p.toList) 0] (.agg (List.map C42 r.toList)) := by
 unfold Zbu at h
 replace h := QO h
 refine So Tryd.func52 Y fun w0 A=>Tr<|Rx Y (Qd (row := (List.map C42 (Vector.replicate 64 0).toList)) 0 Y ZhC Y tZ_44)<|Za<|Tr<|Rx Y (Qd (row := (List.map C42 (Vector.replicate 64 0).toList)) 1 Y ZhC Y tZ_44)<|Za<|I1 (fun f=>⟨[(2, .ptr 0 1 0 0), (3, .ptr 1 1 0 0)], [some ⟨44, [(List.map C42 (Vector.replicate 64 0).toList)]⟩, some ⟨44, [(List.map C42 f.toList)]⟩]⟩) h (fun h=>?_) fun f h=>?_
 ·
  refine Tr<|Rm Y<|Za<|Zf<|?_
  obtain ⟨r1, hl1, ho1⟩ := Xm h
  refine L2 (fun f2 i=>⟨[(0, .rp (List.map C5 p.toList) 0), (2, .ptr 0 1 0 0), (3, .ptr 1 1 0 0), (5, .int .i64 i)], [some ⟨44, [(List.map C42 (Vector.replicate 64 0).toList)]⟩, some ⟨44, [(List.map C42 f2.toList)]⟩]⟩) hl1 (ES [some 0, some 1]) fun n1 f2 i h=>?_
  unfold JO at h
  refine Tr<|R2 ZT Y<|Za<|Zg<|If h Y (fun h=>?_) fun h=>?_
  ·
   exact Zh<|Zg<|Zf<|K4 0 2 3 5 Y<|Tr<|Rm Y<|Ra Y<|Za<|K5 0 2 3 4 5 Y<|Zs<|Rm Y<|Rm Y<|Rm Y<|bE h fun y h_y h=>Rq Y (Zt (ZiO h_y)<|.cons (ov Y) (.b Y)<|.cons (ov Y) (.b Y) .nil)<|bE h fun x h_x h=>Rq Y (ZaE (ov Y) (ov Y) Zba Y Y h_x)<|Rx Y (Zk (ov Y) (ov Y) (Ze Zb2) Y Y Y (arB h_x) (Zb Y)<|arS h_x)<|Za<|K4 0 2 3 5 Y<|Zs<|R2 ZU Y<|Rm Y<|Za<|⟨_, h, ES [some 0, some 1]⟩
  ·
   refine ZM<|?_
   replace h := lx h ▸ ho1
   exact ⟨_, h, ES [some 0, some 1]⟩
 ·
  refine Tr<|Rq Y (QD (ov Y) Y Y Y JS (Qp<|Zu arL) arL (hns := (nsM fun _ => Y)))<|Rx Y (Zk (ov Y) (ov Y) (ZB JS arL) Y Y Y (Zaq (Zu arL) arL) (Zb<|arC fun _ => Y)<|Jd<|Eq.trans arL<|Eq.symm arL)<|Za<|?_
  obtain rfl := rt h
  exact Zp (Z5 Y (.one<|.agg Y Y Y Y JS (Qp<|Zu arL) arL (pwB<|arD fun _ => Y) (hns := (nsM fun _ => Y))))
theorem Zha {b : List Int} {r : (Vector Int 64) × Int} (h : Xt b = some r) :
 CSpec Tryd.prog gl0 30 [.sl 5 (List.map R5 b)] (.tuple [.agg (List.map C42 r.1.toList), .int .i64 r.2]) := by
 unfold Xt at h
 replace h := QO h
 refine So Tryd.func30 Y fun w0 A=>Tr<|Rx Y (Qd (row := (List.map C42 (Vector.replicate 64 0).toList)) 0 Y ZhC Y tZ_44)<|Ra Y<|Za<|Zg<|K2 0 2 Y<|Tr<|Rm Y<|Rl tZ_5 Xf Y<|R2 ZT Y<|Za<|K3 0 2 7 Y<|If h Y (fun h=>?_) fun h=>?_
 ·
  refine K1 2 Y<|Tr<|R_q (.agg<|List.map C42 (#v[0, 0, 0, 0, 0, 0, 0, 0, 0, 0, 0, 0, 0, 0, 0, 0, 0, 0, 0, 0, 0, 0, 0, 0, 0, 0, 0, 0, 0, 0, 0, 0, 0, 0, 0, 0, 0, 0, 0, 0, 0, 0, 0, 0, 0, 0, 0, 0, 0, 0, 0, 0, 0, 0, 0, 0, 0, 0, 0, 0, 0, 0, 0, 0] : Vector Int 64).toList) Y (ZeL (ys := [_, _, _, _, _, _, _, _, _, _, _, _, _, _, _, _, _, _, _, _, _, _, _, _, _, _, _, _, _, _, _, _, _, _, _, _, _, _, _, _, _, _, _, _, _, _, _, _, _, _, _, _, _, _, _, _, _, _, _, _, _, _, _, _]) Zba ZhC .nil Y)<|Rx Y (Zk (ov Y) (ov Y) (ZB JS arL) Y Y Y (Zaq (Zu arL) arL) (Zb<|arC fun _ => Y)<|Jd<|Eq.trans arL<|Eq.symm arL)<|Ra Y<|Za<|?_
  obtain rfl := rt h
  exact Zp (Z5 Y (.two (.agg Y Y Y Y JS (Qp<|Zu arL) arL (pwB<|arD fun _ => Y) (hns := (nsM fun _ => Y)))<|rb Y))
 ·
  refine Zh<|K2 0 2 Y<|Tr<|Rm Y<|bE h fun l h_l h=>Rq Y (ZjK (ov Y) Xf on (oi<|ov Y) h_l)<|bE h fun v h_v h=>Rq Y (ZlX (f := C5) (ov Y) Zeo tZ_5 Y h_v)<|Rq Y (QP (ov Y) Zpx (Qp<|Zu arL) arL)<|Rx Y (Qd (row := (List.map C5 (Vector.replicate 96 0).toList)) 1 Y ZpS Y tZ_109)<|Rx Y (Zk (ov Y) (ov Y) (ZB Zpx arL) Y Y Y (Zaq (Zu arL) arL) (Zb<|arC fun _ => Y)<|Jd<|Eq.trans arL<|Eq.symm arL)<|Za<|K2 2 4 Y<|Tr<|bE h fun y h_y h=>Rq Y (Zc1 (Zj3 h_y) (Zln fun _=>.int)<|.cons (ov Y) (View.ptr Y Y Y (pwB<|arD fun _ => Y) (hns := (nsM fun _ => Y))) .nil)<|Rx Y (Zk (ov Y) (ov Y) (ZB JS arL) Y Y Y (Zaq (Zu arL) arL) (Zb<|arC fun _ => Y)<|Jd<|Eq.trans arL<|Eq.symm arL)<|Ra Y<|Za<|?_
  obtain rfl := rt h
  exact Zp (Z5 Y (.two (.agg Y Y Y Y JS (Qp<|Zu arL) arL (pwB<|arD fun _ => Y) (hns := (nsM fun _ => Y)))<|rb Y))
theorem Zdr {l : List api_Memory} {r : (List api_Kept) × Int} (h : Jf l = some r) :
 CSpec Tryd.prog gl0 12 [.sl 60 (List.map R60 l)] (.tuple [.sl 51 (List.map R51 r.1), .int .i64 r.2]) := by
 unfold Jf at h
 replace h := QO h
 refine So Tryd.func12 Y fun w0 A=>Tr<|Ra Y<|Ra Y<|Za<|Zg<|K1 0 Y<|Tr<|Rm Y<|bE h fun y h_y h=>Rq Y (Zt (ZeR h_y)<|.cons (ov Y) (.b Y) .nil)<|Ra Y<|Za<|K2 0 4 Y<|Tr<|Rm Y<|R2 Jv Y<|Za<|K3 0 4 20 Y<|If h Y (fun h=>?_) fun h=>?_
 ·
  refine K1 4 Y<|Tr<|Rm Y<|Ra Y<|Ra Y<|Za<|?_
  obtain rfl := rt h
  exact Zp (Z5 Y (.two (.tmp Y<|View.nils 51)<|rb Y))
 ·
  refine Zh<|K1 0 Y<|Tr<|Ra Y<|Za<|I1 (fun out=>⟨[(5, .own 0 out.length)], [some ⟨51, List.map R51 out⟩]⟩) h (fun h=>?_) fun out h=>?_
  ·
   refine Tr<|Rm Y<|Rl tZ_60 ZdK Y<|Rm Y<|Za<|Zf<|?_
   obtain ⟨r1, hl1, ho1⟩ := Xm h
   refine L2 (fun out2 i=>⟨[(5, .own 0 out2.length), (22, .sl 60 (List.map R60 l)), (23, .int .i64 (l.length : Int)), (24, .int .i64 i)], [some ⟨51, List.map R51 out2⟩]⟩) hl1 (ES [none]) fun n1 out2 i h=>?_
   unfold X4 at h
   refine Tr<|R2 ZT Y<|Za<|Zg<|If h Y (fun h=>?_) fun h=>?_
   ·
    refine Zh<|I1 (fun out3=>⟨[(5, .own 0 out3.length), (22, .sl 60 (List.map R60 l)), (23, .int .i64 (l.length : Int)), (24, .int .i64 i)], [some ⟨51, List.map R51 out3⟩]⟩) h (fun h=>?_) fun out3 h=>?_
    ·
     refine Zf<|K4 5 22 23 24 Y<|Tr<|Rm Y<|bE h fun x h_x h=>Rq Y (Qz (ov Y) (ov Y) ZdK h_x)<|Rq Y (QP (ov Y) Zax Y Y)<|Rx Y (Qd (row := [_, _, _, _, _]) 1 Y Zex Y tZ_60)<|Ra Y<|Rx Y (Zk (ov Y) (ov Y) (ZB Zax Y) Y Y Y (Nat.le_of_ble_eq_true Y) (Zb Y) Y)<|Za<|K6 5 6 7 22 23 24 Y<|Tr<|Rq Y (QD (ov Y) Y Y Y Zax Y Y)<|bE h fun y2 h_y2 h=>Rq Y (Zt (ZfC h_y2)<|.cons (ov Y) (.aggB Y) .nil)<|Rl tZ_3 Xg Y<|Rm Y<|Za<|Zf<|?_
     obtain ⟨r2, hl2, ho2⟩ := Xm h
     refine L2 (fun out4 i2=>⟨[(5, .own 0 out4.length), (6, .int .i64 i), (7, .ptr 1 1 0 0), (22, .sl 60 (List.map R60 l)), (23, .int .i64 (l.length : Int)), (24, .int .i64 i), (30, .sl 3 (List.map R3 y2)), (31, .int .i64 (y2.length : Int)), (32, .int .i64 i2)], [some ⟨51, List.map R51 out4⟩, some ⟨60, [[.int .i64 x.Slots, .int .i64 x.Limit, .sl 29 (List.map R29 x.Sectors), .sl 3 (List.map R3 x.Wear), .sl 4 (List.map R4 x.Bad)]]⟩]⟩) hl2 (ES [some 0, some 1]) fun n2 out4 i2 h=>?_
     unfold X0 at h
     refine Tr<|R2 ZT Y<|Za<|Zg<|If h Y (fun h=>?_) fun h=>?_
     ·
      refine Zh<|I1 (fun out5=>⟨[(5, .own 0 out5.length), (6, .int .i64 i), (7, .ptr 1 1 0 0), (22, .sl 60 (List.map R60 l)), (23, .int .i64 (l.length : Int)), (24, .int .i64 i), (30, .sl 3 (List.map R3 y2)), (31, .int .i64 (y2.length : Int)), (32, .int .i64 i2)], [some ⟨51, List.map R51 out5⟩, some ⟨60, [[.int .i64 x.Slots, .int .i64 x.Limit, .sl 29 (List.map R29 x.Sectors), .sl 3 (List.map R3 x.Wear), .sl 4 (List.map R4 x.Bad)]]⟩]⟩) h (fun h=>?_) fun out5 h=>?_
      ·
       refine Zf<|K9 5 6 7 22 23 24 30 31 32 Y<|Tr<|bE h fun x2 h_x2 h=>Rq Y (Qz (ov Y) (ov Y) Xg h_x2)<|Rq Y (Zi (ov Y) tS3 Y)<|Ra Y<|Za<|K10 5 6 7 9 22 23 24 30 31 32 Y<|Tr<|Rq Y (Zd (ov Y) Y Y ZQ)<|Rq Y (Zv (ov Y) Y Y Y QH Y)<|Rm Y<|bE h fun x3 h_x3 h=>Rq Y (Qz (ov Y) (ov Y) Qo h_x3)<|Rq Y (Zi (ov Y) Zh7 Y)<|bE h fun y3 h_y3 h=>Rq Y (Zt (Zcl h_y3)<|.cons (ov Y) (.b Y) .nil)<|Rm Y<|Rq Y (Zm (ov Y) Y)<|Rq Y (Zm (ov Y) Y)<|Rq Y (Zm (ov Y) Y)<|Ra Y<|Ra Y<|Ra Y<|Za<|K11 5 6 7 9 10 22 23 24 30 31 32 Y<|Tr<|Rq Y (Zd (ov Y) Y Y ZjA)<|Rq Y (Zv (ov Y) Y Y Y tS3 Y)<|Rm Y<|Za<|Zf<|?_
       obtain ⟨r3, hl3, ho3⟩ := Xm h
       refine L2 (fun out6 i3=>⟨[(5, .own 0 out6.length), (6, .int .i64 i), (7, .ptr 1 1 0 0), (9, .int .i64 x2), (10, .int .i64 y3.1), (22, .sl 60 (List.map R60 l)), (23, .int .i64 (l.length : Int)), (24, .int .i64 i), (30, .sl 3 (List.map R3 y2)), (31, .int .i64 (y2.length : Int)), (32, .int .i64 i2), (47, .int .i64 x.Slots), (48, .int .i64 i3)], [some ⟨51, List.map R51 out6⟩, some ⟨60, [[.int .i64 x.Slots, .int .i64 x.Limit, .sl 29 (List.map R29 x.Sectors), .sl 3 (List.map R3 x.Wear), .sl 4 (List.map R4 x.Bad)]]⟩]⟩) hl3 (ES [some 0, some 1]) fun n3 out6 i3 h=>?_
       unfold X7 at h
       refine Tr<|R2 ZT Y<|Za<|Zg<|If h Y (fun h=>?_) fun h=>?_
       ·
        refine Zh<|Zg<|Zf<|JT (kc 5 Y<|kc 6 Y<|kc 7 Y<|kc 9 Y<|kc 10 Y<|kc 22 Y<|kc 23 Y<|kc 24 Y<|kc 30 Y<|kc 31 Y<|kc 32 Y<|kc 47 Y<|kc 48 Y kn) Y<|Tr<|Rm Y<|Ra Y<|Za<|JT (kc 5 Y<|kc 6 Y<|kc 7 Y<|kc 9 Y<|kc 10 Y<|kc 13 Y<|kc 22 Y<|kc 23 Y<|kc 24 Y<|kc 30 Y<|kc 31 Y<|kc 32 Y<|kc 47 Y<|kc 48 Y kn) Y<|Tr<|Rq Y (Zd (ov Y) Y Y ZQ)<|Rq Y (Zv (ov Y) Y Y Y QH Y)<|Rm Y<|bE h fun x4 h_x4 h=>Rq Y (Qz (ov Y) (ov Y) Qo h_x4)<|Rq Y (Zi (ov Y) Zh7 Y)<|Rm Y<|bE h fun y4 h_y4 h=>Rq Y (Zt (ZfU h_y4)<|.cons (ov Y) (.b Y)<|.cons (ov Y) (.b Y) .nil)<|Ra Y<|Za<|JT (kc 5 Y<|kc 6 Y<|kc 7 Y<|kc 9 Y<|kc 10 Y<|kc 13 Y<|kc 14 Y<|kc 22 Y<|kc 23 Y<|kc 24 Y<|kc 30 Y<|kc 31 Y<|kc 32 Y<|kc 47 Y<|kc 48 Y kn) Y<|Tr<|Rm Y<|bE h fun y5 h_y5 h=>Rq Y (Zt (ZfB h_y5)<|.cons (ov Y) (.b Y) .nil)<|R2 Zdf Y<|Za<|JT (kc 5 Y<|kc 6 Y<|kc 7 Y<|kc 9 Y<|kc 10 Y<|kc 13 Y<|kc 14 Y<|kc 22 Y<|kc 23 Y<|kc 24 Y<|kc 30 Y<|kc 31 Y<|kc 32 Y<|kc 47 Y<|kc 48 Y<|kc 60 Y kn) Y<|If h Y (fun h=>?_) fun h=>?_
        ·
         exact JT (kc 5 Y<|kc 6 Y<|kc 7 Y<|kc 9 Y<|kc 10 Y<|kc 13 Y<|kc 14 Y<|kc 22 Y<|kc 23 Y<|kc 24 Y<|kc 30 Y<|kc 31 Y<|kc 32 Y<|kc 47 Y<|kc 48 Y kn) Y<|Tr<|Rm Y<|R1 ZN Y<|bE h fun l2 h_l2 h=>Rq Y (Zmo (f := C5) (ov Y) ZmG tZ_5 (Zu arL) Y on on h_l2)<|bE h fun y6 h_y6 h=>Rq Y (Zt (Zha h_y6)<|.cons (ov Y) (.b Y) .nil)<|Rm Y<|Rq Y (Zm (ov Y) Y)<|Rq Y (Zm (ov Y) Y)<|Rx Y (Qd (row := (List.map C42 (Vector.replicate 64 0).toList)) 2 Y ZhC Y tZ_44)<|Rx Y (Zk (ov Y) (ov Y) (ZB JS arL) Y Y Y (Zaq (Zu arL) arL) (Zb<|arC fun _ => Y)<|Jd<|Eq.trans arL<|Eq.symm arL)<|Ra Y<|Za<|JT (kc 5 Y<|kc 6 Y<|kc 7 Y<|kc 9 Y<|kc 10 Y<|kc 13 Y<|kc 15 Y<|kc 22 Y<|kc 23 Y<|kc 24 Y<|kc 30 Y<|kc 31 Y<|kc 32 Y<|kc 47 Y<|kc 48 Y kn) Y<|Zs<|Rm Y<|Rm Y<|Rm Y<|Rm Y<|Rm Y<|Rq Y (QD (ov Y) Y Y Y JS (Qp<|Zu arL) arL (hns := (nsM fun _ => Y)))<|Rq Y (Zny (zr := (.int .i64 0) :: (.int .i64 0) :: (.int .i64 0) :: (.int .i64 0) :: ((List.map C42 (Vector.replicate 64 0).toList) ++ ([]))) Zrh Zq2 Zpk (by kernel_rfl) (.cons (cvs (ov Y)<|Zn Y)<|.cons (cvs (ov Y)<|Zn Y)<|.cons (cvs (ov Y)<|Zn Y)<|.cons (cvs (ov Y)<|Zn Y)<|.cons (cva<|ov Y) .nil)<|Zhj Y Y at1 pt2<|Zhj Y Y at3 pt4<|Zhj Y Y at5 pt6<|Zhj Y Y at7 pt8<|Zhj Y arL at9 ZrG ZpU)<|R_q (.sl 51<|List.map R51 ([(api_Kept.mk i x2 y3.1 i3 y6.1)] : List api_Kept)) Y (Zae Zk9 (.cons (cva<|ov Y) Zab (pwD ZeD) .nil) Y Y)<|bE h fun l3 h_l3 h=>Rx Y (XT (ov Y) (Jb (ov Y) tZ_51) Zk9 Y Y Y (fun x=>Zb<|E51 x) Y h_l3)<|Ra Y<|Za<|JT (kc 5 Y<|kc 6 Y<|kc 7 Y<|kc 9 Y<|kc 10 Y<|kc 22 Y<|kc 23 Y<|kc 24 Y<|kc 30 Y<|kc 31 Y<|kc 32 Y<|kc 47 Y<|kc 48 Y kn) Y<|Zs<|R2 ZU Y<|Rm Y<|Za<|⟨_, h, ES [some 0, some 1]⟩
        ·
         exact Zh<|JT (kc 5 Y<|kc 6 Y<|kc 7 Y<|kc 9 Y<|kc 10 Y<|kc 22 Y<|kc 23 Y<|kc 24 Y<|kc 30 Y<|kc 31 Y<|kc 32 Y<|kc 47 Y<|kc 48 Y kn) Y<|Zs<|R2 ZU Y<|Rm Y<|Za<|⟨_, h, ES [some 0, some 1]⟩
       ·
        refine ZM<|?_
        replace h := lx h ▸ ho3
        exact ⟨_, h, ES [some 0, some 1]⟩
      ·
       exact Zs<|R2 ZU Y<|Rm Y<|Za<|⟨_, h, ES [some 0, some 1]⟩
     ·
      refine ZM<|?_
      replace h := lx h ▸ ho2
      exact ⟨_, h, ES [some 0]⟩
    ·
     exact Zs<|R2 ZU Y<|Rm Y<|Za<|⟨_, h, ES [some 0]⟩
   ·
    refine ZM<|?_
    replace h := lx h ▸ ho1
    exact ⟨_, h, ES [some 0]⟩
  ·
   refine Tr<|Rm Y<|Ra Y<|Ra Y<|Za<|?_
   obtain rfl := rt h
   exact Zp (Z5 Y (.two (.tmp Y<|View.ownM Y Y D51)<|rb Y))
theorem Zlk {xs r : List Int} (h : ZeH 1 xs = some r) :
 GSpec Tryd.prog gl0 10 [.sl 5 (List.map R5 xs)] [] (.own 0 r.length) [some ⟨5, List.map R5 r⟩] := by
 have h2 : apz 1 [] xs = some r := h
 refine Q0 (by kernel_rfl) Tryd.func10 Y Y<|?_
 intro w0 A W φ0
 refine Tr<|Ra Y<|Za<|Zg<|Zg<|Zs<|Rm Y<|ZkL (ov Y) ZqA Y fun b hb=>?_
 refine Za<|ZkC Y (fun hb2=>?_) fun hb2=>?_
 ·
  obtain rfl : xs = [] := by simpa using hb hb2
  obtain rfl : r = [] := by simpa [app, apz] using h2.symm
  exact Tr<|Ra Y<|Za<|Zp<|Za0 [none] Y (.cons (.tmp Y) .nil) (.row 5 .nil) Y Y<|.row Y
 ·
  exact Zh<|Tr<|Rx Y (ZkV (r := 0) (xs := []) (f := R5) Y Xf .nil Y Y Y)<|Rm Y<|Rx Y (Zh0 (ov Y) (Jb (ov Y) tZ_5) Xf Y Y (fun _=>Zb Y) Y h2)<|Ra Y<|Za<|Zp<|Za0 [some 0] Y (.cons (.tmp Y) .nil) (.cons Y (roM D5) .nil) Y Y<|.own _ Y
theorem ZiB {xs r : List Int} (h : ZeH 8 xs = some r) :
 GSpec Tryd.prog gl0 76 [.sl 3 (List.map R3 xs)] [] (.own 0 r.length) [some ⟨3, List.map R3 r⟩] := by
 have h2 : apz 8 [] xs = some r := h
 refine Q0 (by kernel_rfl) Tryd.func76 Y Y<|?_
 intro w0 A W φ0
 refine Tr<|Ra Y<|Za<|Zg<|Zg<|Zs<|Rm Y<|ZkL (ov Y) ZqI Y fun b hb=>?_
 refine Za<|ZkC Y (fun hb2=>?_) fun hb2=>?_
 ·
  obtain rfl : xs = [] := by simpa using hb hb2
  obtain rfl : r = [] := by simpa [app, apz] using h2.symm
  exact Tr<|Ra Y<|Za<|Zp<|Za0 [none] Y (.cons (.tmp Y) .nil) (.row 3 .nil) Y Y<|.row Y
 ·
  exact Zh<|Tr<|Rx Y (ZkV (r := 0) (xs := []) (f := R3) Y Xg .nil Y Y Y)<|Rm Y<|Rx Y (Zh0 (ov Y) (Jb (ov Y) tZ_3) Xg Y Y (fun _=>Zb Y) Y h2)<|Ra Y<|Za<|Zp<|Za0 [some 0] Y (.cons (.tmp Y) .nil) (.cons Y (roM D3) .nil) Y Y<|.own _ Y
theorem Ziu {xs r : List Bool} (h : ZeH 1 xs = some r) :
 GSpec Tryd.prog gl0 77 [.sl 4 (List.map R4 xs)] [] (.own 0 r.length) [some ⟨4, List.map R4 r⟩] := by
 have h2 : apz 1 [] xs = some r := h
 refine Q0 (by kernel_rfl) Tryd.func77 Y Y<|?_
 intro w0 A W φ0
 refine Tr<|Ra Y<|Za<|Zg<|Zg<|Zs<|Rm Y<|ZkL (ov Y) ZqF Y fun b hb=>?_
 refine Za<|ZkC Y (fun hb2=>?_) fun hb2=>?_
 ·
  obtain rfl : xs = [] := by simpa using hb hb2
  obtain rfl : r = [] := by simpa [app, apz] using h2.symm
  exact Tr<|Ra Y<|Za<|Zp<|Za0 [none] Y (.cons (.tmp Y) .nil) (.row 4 .nil) Y Y<|.row Y
 ·
  exact Zh<|Tr<|Rx Y (ZkV (r := 0) (xs := []) (f := R4) Y Zj0 .nil Y Y Y)<|Rm Y<|Rx Y (Zh0 (ov Y) (Jb (ov Y) tZ_4) Zj0 Y Y (fun _=>Zb Y) Y h2)<|Ra Y<|Za<|Zp<|Za0 [some 0] Y (.cons (.tmp Y) .nil) (.cons Y (roM D4) .nil) Y Y<|.own _ Y
theorem Zc5 {m : api_Memory} {r : api_Memory} (h : Ja m = some r) :
 GSpec Tryd.prog gl0 53 [.agg [.int .i64 m.Slots, .int .i64 m.Limit, .sl 29 (List.map R29 m.Sectors), .sl 3 (List.map R3 m.Wear), .sl 4 (List.map R4 m.Bad)]] [] (.agg [.int .i64 r.Slots, .int .i64 r.Limit, .own 0 r.Sectors.length, .own 1 r.Wear.length, .own 2 r.Bad.length]) [some ⟨29, List.map O29 r.Sectors⟩, some ⟨3, List.map R3 r.Wear⟩, some ⟨4, List.map R4 r.Bad⟩] := by
 unfold Ja at h
 replace h := QO h
 refine Q0 (by kernel_rfl) Tryd.func53 Y Y<|?_
 intro w0 A W φ0
 refine Tr<|Rx Y (Zmr 0 Y (ov Y) Zax Y)<|Rx Y (Qd (row := [_, _, _, _, _]) 1 Y Zex Y tZ_60)<|Za<|K2 1 2 Y<|Tr<|Ra Y<|Za<|I1 (fun sectors=>⟨[(1, .ptr 0 1 0 0), (2, .ptr 1 1 0 0), (3, .own 2 sectors.length)], [some ⟨60, [[.int .i64 m.Slots, .int .i64 m.Limit, .sl 29 (List.map R29 m.Sectors), .sl 3 (List.map R3 m.Wear), .sl 4 (List.map R4 m.Bad)]]⟩, some ⟨60, [[.int .i64 0, .int .i64 0, .nils, .nils, .nils]]⟩, some ⟨29, List.map O29 sectors⟩]⟩) h (fun h=>?_) fun sectors h=>?_
 ·
  refine Tr<|Rq Y (Zd (ov Y) Y Y ZQ)<|Rq Y (Zv (ov Y) Y Y Y QH Y)<|Rl tZ_29 Qo Y<|Rm Y<|Za<|Zf<|?_
  obtain ⟨r1, hl1, ho1⟩ := Xm h
  refine L2 (fun sectors2 i=>⟨[(1, .ptr 0 1 0 0), (2, .ptr 1 1 0 0), (3, .own 2 sectors2.length), (7, .sl 29 (List.map R29 m.Sectors)), (8, .int .i64 (m.Sectors.length : Int)), (9, .int .i64 i)], [some ⟨60, [[.int .i64 m.Slots, .int .i64 m.Limit, .sl 29 (List.map R29 m.Sectors), .sl 3 (List.map R3 m.Wear), .sl 4 (List.map R4 m.Bad)]]⟩, some ⟨60, [[.int .i64 0, .int .i64 0, .nils, .nils, .nils]]⟩, some ⟨29, List.map O29 sectors2⟩]⟩) hl1 (ES [some 0, some 1, none]) fun n1 sectors2 i h=>?_
  unfold Q7 at h
  refine Tr<|R2 ZT Y<|Za<|Zg<|If h Y (fun h=>?_) fun h=>?_
  ·
   exact Zh<|Zg<|Zf<|K6 1 2 3 7 8 9 Y<|Tr<|bE h fun x h_x h=>Rq Y (Qz (ov Y) (ov Y) Qo h_x)<|Rq Y (Zi (ov Y) Zh7 Y)<|Ra Y<|Za<|K7 1 2 3 5 7 8 9 Y<|Zs<|Rm Y<|Rm Y<|bE h fun y h_y h=>Rx Y (ZE [] (Zlk h_y) (.cons (ov Y) (.dat Y) .nil) .nil Y (.keep Y Y<|.keep Y Y<|.keep Y Y<|.lent 0 (.inr ⟨Nat.le_of_ble_eq_true Y, Y⟩) Y (roM D5) .nil) Y Y<|.own _<|.inr ⟨Nat.le_of_ble_eq_true Y, Y⟩)<|Rx Y (Q3 (r := 4) Y Qo (.cons (cvs (ov Y)<|Zn Y) Y .nil) Y Y)<|bE h fun l h_l h=>Rx Y (ZP (f := O29) (ov Y) (Qf (o := ⟨29, [[.own 3 y.length]]⟩) (ov Y) Y Y tZ_29) Qo Y Y (Zb Y) Y h_l)<|Ra Y<|ZfS [some ⟨60, [[.int .i64 m.Slots, .int .i64 m.Limit, .sl 29 (List.map R29 m.Sectors), .sl 3 (List.map R3 m.Wear), .sl 4 (List.map R4 m.Bad)]]⟩, some ⟨60, [[.int .i64 0, .int .i64 0, .nils, .nils, .nils]]⟩, some ⟨29, List.set (List.map O29 l) sectors2.length [.own 3 y.length]⟩, some ⟨5, List.map R5 y⟩, some ⟨29, [[.own 3 y.length]]⟩] Y<|Xz (Ent.absorbH (r := 2) (j := 0) (q := 3) Y (Zo h_l) Y Y (List.length_map ..) Y)<|Xz (Ent.closeS (r := 2) Y (Zo h_l) Y)<|Za<|K6 1 2 3 7 8 9 Y<|QS [some ⟨60, [[.int .i64 m.Slots, .int .i64 m.Limit, .sl 29 (List.map R29 m.Sectors), .sl 3 (List.map R3 m.Wear), .sl 4 (List.map R4 m.Bad)]]⟩, some ⟨60, [[.int .i64 0, .int .i64 0, .nils, .nils, .nils]]⟩, some ⟨29, List.map O29 l⟩, none, some ⟨29, [[.own 3 y.length]]⟩] Y<|Zs<|R2 ZU Y<|Rm Y<|Za<|⟨_, h, ES [some 0, some 1, some 2] (hhp := .cons Y (ro1 (by exact tZ_60.symm)<|rld Y)<|.cons Y (ro1 (by exact tZ_60.symm)<|rld Y)<|.cons Y (roO Jo) .nil)⟩
  ·
   refine ZM<|?_
   replace h := lx h ▸ ho1
   exact ⟨_, h, ES [some 0, some 1, some 2] (hhp := .cons Y (ro1 (by exact tZ_60.symm)<|rld Y)<|.cons Y (ro1 (by exact tZ_60.symm)<|rld Y)<|.cons Y (roO Jo) .nil)⟩
 ·
  refine Zg<|QL (cw := ⟨true, true, [some ⟨60, [[.int .i64 m.Slots, .int .i64 m.Limit, .sl 29 (List.map R29 m.Sectors), .sl 3 (List.map R3 m.Wear), .sl 4 (List.map R4 m.Bad)]]⟩, some ⟨60, [[.int .i64 0, .int .i64 0, .nils, .nils, .nils]]⟩, some ⟨29, List.map O29 sectors⟩], [], [0]⟩) (by kernel_rfl)<|Dq 1 Y (Zd (ov Y) Y Y ZgQ)<|Dq 2 Y (Zv (ov Y) Y Y Y ZlS Y)<|ZZ 0 _ Y (by kernel_rfl) Y Y (fun hp'=>Zc<|ov Y)<|Q2 4 _ Y (by kernel_rfl) Y Y Y (EL.ext<|.wr Y Y Y<|.keep<|.keep .nil) (fun hp' hx=>exW (r := 0) hx Y fun _ ho hn => Zd (ov Y) ho hn Zim)<|bE h fun y2 h_y2 h=>Zoy 5 3 Y Y (by kernel_rfl) Y Y Y Y (fun h=>by cases h) (fun _=>by exact EL.ext (.wr rfl rfl rfl <| .keep <| .keep <| .nil)) (Zv (ov Y) Y Y Y Zl3 Y) (ZE [] (ZiB h_y2) (.cons (ov Y) (.dat Y) .nil) .nil Y (.keep Y Y<|.keep Y Y<|.keep Y Y<|.lent 0 (.inr ⟨Nat.le_of_ble_eq_true Y, Y⟩) Y (roM D3) .nil) Y Y<|.own _<|.inr ⟨Nat.le_of_ble_eq_true Y, Y⟩) ?_ ?_
  ·
   refine Q2 7 _ Y (by kernel_rfl) Y Y Y (EL.ext<|.wr Y Y Y<|.keep<|.keep .nil) (fun hp' hx=>exW (r := 0) hx Y fun _ ho hn => Zd (ov Y) ho hn ZQ)<|Zaj 3 _ _ Y (by kernel_rfl) Y Y (fun h=>by cases h) (fun _=>by exact EL.ext (.wr rfl rfl rfl <| .keep <| .keep <| .nil)) (ZE [] (ZiB h_y2) (.cons (ov Y) (.dat Y) .nil) .nil Y (.keep Y Y<|.keep Y Y<|.keep Y Y<|.lent 0 (.inr ⟨Nat.le_of_ble_eq_true Y, Y⟩) Y (roM D3) .nil) Y Y<|.own _<|.inr ⟨Nat.le_of_ble_eq_true Y, Y⟩)<|bE h fun y3 h_y3 h=>Zaj 6 _ _ Y (by kernel_rfl) Y Y (fun h=>by cases h) (fun _=>by exact EL.ext (.wr rfl rfl rfl <| .keep <| .keep <| .nil)) (ZE [] (Ziu h_y3) (.cons (ov Y) (.dat Y) .nil) .nil Y (.keep Y Y<|.keep Y Y<|.keep Y Y<|.keep Y Y<|.lent 0 (.inr ⟨Nat.le_of_ble_eq_true Y, Y⟩) Y (roM D4) .nil) Y Y<|.own _<|.inr ⟨Nat.le_of_ble_eq_true Y, Y⟩)<|Zaj 8 _ _ Y (by kernel_rfl) Y Y (fun h=>by cases h) (fun _=>by exact EL.ext (.wr rfl rfl rfl <| .keep <| .keep <| .nil)) (Zk (ov Y) (ov Y) (Ze QH) Y Y Y (Nat.le_of_ble_eq_true Y) (Zb Y) Y)<|Dq 9 Y (Zd (ov Y) Y Y ZgQ)<|Zaj 10 _ _ Y (by kernel_rfl) Y Y (fun h=>by cases h) (fun _=>by exact EL.ext (.wr rfl rfl rfl <| .keep <| .keep <| .nil)) (Zk (ov Y) (ov Y) (Ze ZlS) Y Y Y (Nat.le_of_ble_eq_true Y) (Zb Y) Y)<|Dq 11 Y (Zd (ov Y) Y Y Zim)<|Zaj 12 _ _ Y (by kernel_rfl) Y Y (fun h=>by cases h) (fun _=>by exact EL.ext (.wr rfl rfl rfl <| .keep <| .keep <| .nil)) (Zk (ov Y) (ov Y) (Ze Zl3) Y Y Y (Nat.le_of_ble_eq_true Y) (Zb Y) Y)<|Dd<|K2 1 2 Y<|QS [some ⟨60, [[.int .i64 m.Slots, .int .i64 m.Limit, .own 2 sectors.length, .own 3 y2.length, .own 4 y3.length]]⟩, some ⟨60, [[.int .i64 0, .int .i64 0, .nils, .nils, .nils]]⟩, some ⟨29, List.map O29 sectors⟩, some ⟨3, List.map R3 y2⟩, some ⟨4, List.map R4 y3⟩] Y<|Tr<|Rq Y (QD (ov Y) Y Y Y Zax Y Y)<|Rx Y (Zk (ov Y) (ov Y) (ZB Zax Y) Y Y Y (Nat.le_of_ble_eq_true Y) (Zb Y) Y)<|Za<|?_
   obtain rfl := rt h
   exact Zp<|Za0 [some 2, some 3, some 4] Y (.cons (.agg Y Y Y Y Zax Y Y) .nil) (.cons Y (roO Jo)<|.cons Y (roM D3)<|.cons Y (roM D4) .nil) Y Y<|Zfq<|rlc (.dat Y)<|rlc (.dat Y)<|rlc (.own _ Y)<|rlc (.own _ Y)<|rlc (.own _ Y) rln
  ·
   refine Dq 5 Y (Zv (ov Y) Y Y Y Zl3 Y)<|Q2 7 _ Y (by kernel_rfl) Y Y Y (EL.ext<|.wr Y Y Y<|.keep<|.keep .nil) (fun hp' hx=>exW (r := 0) hx Y fun _ ho hn => Zd (ov Y) ho hn ZQ)<|bE h fun y3 h_y3 h=>Zaj 6 _ _ Y (by kernel_rfl) Y Y (fun h=>by cases h) (fun _=>by exact EL.ext (.wr rfl rfl rfl <| .keep <| .keep <| .nil)) (ZE [] (Ziu h_y3) (.cons (ov Y) (.dat Y) .nil) .nil Y (.keep Y Y<|.keep Y Y<|.keep Y Y<|.keep Y Y<|.lent 0 (.inr ⟨Nat.le_of_ble_eq_true Y, Y⟩) Y (roM D4) .nil) Y Y<|.own _<|.inr ⟨Nat.le_of_ble_eq_true Y, Y⟩)<|Zaj 8 _ _ Y (by kernel_rfl) Y Y (fun h=>by cases h) (fun _=>by exact EL.ext (.wr rfl rfl rfl <| .keep <| .keep <| .nil)) (Zk (ov Y) (ov Y) (Ze QH) Y Y Y (Nat.le_of_ble_eq_true Y) (Zb Y) Y)<|Dq 9 Y (Zd (ov Y) Y Y ZgQ)<|Zaj 10 _ _ Y (by kernel_rfl) Y Y (fun h=>by cases h) (fun _=>by exact EL.ext (.wr rfl rfl rfl <| .keep <| .keep <| .nil)) (Zk (ov Y) (ov Y) (Ze ZlS) Y Y Y (Nat.le_of_ble_eq_true Y) (Zb Y) Y)<|Dq 11 Y (Zd (ov Y) Y Y Zim)<|Zaj 12 _ _ Y (by kernel_rfl) Y Y (fun h=>by cases h) (fun _=>by exact EL.ext (.wr rfl rfl rfl <| .keep <| .keep <| .nil)) (Zk (ov Y) (ov Y) (Ze Zl3) Y Y Y (Nat.le_of_ble_eq_true Y) (Zb Y) Y)<|Dd<|K2 1 2 Y<|QS [some ⟨60, [[.int .i64 m.Slots, .int .i64 m.Limit, .own 2 sectors.length, .own 3 y2.length, .own 4 y3.length]]⟩, some ⟨60, [[.int .i64 0, .int .i64 0, .nils, .nils, .nils]]⟩, some ⟨29, List.map O29 sectors⟩, some ⟨3, List.map R3 y2⟩, some ⟨4, List.map R4 y3⟩] Y<|Tr<|Rq Y (QD (ov Y) Y Y Y Zax Y Y)<|Rx Y (Zk (ov Y) (ov Y) (ZB Zax Y) Y Y Y (Nat.le_of_ble_eq_true Y) (Zb Y) Y)<|Za<|?_
   obtain rfl := rt h
   exact Zp<|Za0 [some 2, some 3, some 4] Y (.cons (.agg Y Y Y Y Zax Y Y) .nil) (.cons Y (roO Jo)<|.cons Y (roM D3)<|.cons Y (roM D4) .nil) Y Y<|Zfq<|rlc (.dat Y)<|rlc (.dat Y)<|rlc (.own _ Y)<|rlc (.own _ Y)<|rlc (.own _ Y) rln
theorem Zhg {l : List api_Memory} {r : (List api_Memory)} (h : XD l = some r) :
 GSpec Tryd.prog gl0 31 [.sl 60 (List.map R60 l)] [] (.own 0 r.length) [some ⟨60, List.map O60 r⟩] := by
 unfold XD at h
 replace h := QO h
 refine Q0 (by kernel_rfl) Tryd.func31 Y Y<|?_
 intro w0 A W φ0
 refine Tr<|Ra Y<|Za<|K1 0 Y<|Tr<|Ra Y<|Za<|I1 (fun out=>⟨[(3, .own 0 out.length)], [some ⟨60, List.map O60 out⟩]⟩) h (fun h=>?_) fun out h=>?_
 ·
  refine Tr<|Rm Y<|Rl tZ_60 ZdK Y<|Rm Y<|Za<|Zf<|?_
  obtain ⟨r1, hl1, ho1⟩ := Xm h
  refine L2 (fun out2 i=>⟨[(3, .own 0 out2.length), (6, .sl 60 (List.map R60 l)), (7, .int .i64 (l.length : Int)), (8, .int .i64 i)], [some ⟨60, List.map O60 out2⟩]⟩) hl1 (ES [none]) fun n1 out2 i h=>?_
  unfold Xr at h
  refine Tr<|R2 ZT Y<|Za<|Zg<|If h Y (fun h=>?_) fun h=>?_
  ·
   exact Zh<|Zg<|Zf<|K4 3 6 7 8 Y<|Tr<|bE h fun x h_x h=>Rq Y (Qz (ov Y) (ov Y) ZdK h_x)<|Rq Y (QP (ov Y) Zax Y Y)<|Rx Y (Qd (row := [_, _, _, _, _]) 1 Y Zex Y tZ_60)<|Rx Y (Zk (ov Y) (ov Y) (ZB Zax Y) Y Y Y (Nat.le_of_ble_eq_true Y) (Zb Y) Y)<|Za<|K5 3 5 6 7 8 Y<|QS [some ⟨60, List.map O60 out2⟩, some ⟨60, [[.int .i64 x.Slots, .int .i64 x.Limit, .sl 29 (List.map R29 x.Sectors), .sl 3 (List.map R3 x.Wear), .sl 4 (List.map R4 x.Bad)]]⟩] Y<|Zs<|Rm Y<|Rq Y (QD (ov Y) Y Y Y Zax Y Y)<|bE h fun y h_y h=>Rx Y (ZE [] (Zc5 h_y) (.cons (ov Y) (Zfq<|rld Y) .nil) .nil Y (.keep Y Y<|.keep Y Y<|.lent 0 (.inr ⟨Nat.le_of_ble_eq_true Y, Y⟩) Y (roO Jo)<|.lent 1 (.inr ⟨Nat.le_of_ble_eq_true Y, Y⟩) Y (roM D3)<|.lent 2 (.inr ⟨Nat.le_of_ble_eq_true Y, Y⟩) Y (roM D4) .nil) Y Y<|Zfq<|rlc (.dat Y)<|rlc (.dat Y)<|rlc (.own _<|.inr ⟨Nat.le_of_ble_eq_true Y, Y⟩)<|rlc (.own _<|.inr ⟨Nat.le_of_ble_eq_true Y, Y⟩)<|rlc (.own _<|.inr ⟨Nat.le_of_ble_eq_true Y, Y⟩) rln)<|Rx Y (Q3 (r := 5) Y ZdK (.cons (cva<|ov Y) Y .nil) Y Y)<|bE h fun l2 h_l2 h=>Rx Y (ZP (f := O60) (ov Y) (Qf (o := ⟨60, [[.int .i64 y.Slots, .int .i64 y.Limit, .own 2 y.Sectors.length, .own 3 y.Wear.length, .own 4 y.Bad.length]]⟩) (ov Y) Y Y tZ_60) ZdK Y Y (Zb Y) Y h_l2)<|Ra Y<|ZfS [some ⟨60, List.set (List.map O60 l2) out2.length [.int .i64 y.Slots, .int .i64 y.Limit, .own 2 y.Sectors.length, .own 3 y.Wear.length, .own 4 y.Bad.length]⟩, some ⟨60, [[.int .i64 x.Slots, .int .i64 x.Limit, .sl 29 (List.map R29 x.Sectors), .sl 3 (List.map R3 x.Wear), .sl 4 (List.map R4 x.Bad)]]⟩, some ⟨29, List.map O29 y.Sectors⟩, some ⟨3, List.map R3 y.Wear⟩, some ⟨4, List.map R4 y.Bad⟩, some ⟨60, [[.int .i64 y.Slots, .int .i64 y.Limit, .own 2 y.Sectors.length, .own 3 y.Wear.length, .own 4 y.Bad.length]]⟩] Y<|Xz (Ent.absorbH (r := 0) (j := 2) (q := 2) Y (Zo h_l2) Y Y (List.length_map ..) Y)<|Xz (Ent.absorbH (r := 0) (j := 3) (q := 3) Y (Zo h_l2) Y Y (List.length_map ..) Y)<|Xz (Ent.absorbH (r := 0) (j := 4) (q := 4) Y (Zo h_l2) Y Y (List.length_map ..) Y)<|Xz (Ent.closeS (r := 0) Y (Zo h_l2) Y)<|Za<|K4 3 6 7 8 Y<|QS [some ⟨60, List.map O60 l2⟩, some ⟨60, [[.int .i64 x.Slots, .int .i64 x.Limit, .sl 29 (List.map R29 x.Sectors), .sl 3 (List.map R3 x.Wear), .sl 4 (List.map R4 x.Bad)]]⟩, none, none, none, some ⟨60, [[.int .i64 y.Slots, .int .i64 y.Limit, .own 2 y.Sectors.length, .own 3 y.Wear.length, .own 4 y.Bad.length]]⟩] Y<|Zs<|R2 ZU Y<|Rm Y<|Za<|⟨_, h, ES [some 0] (hhp := .cons Y (roO Q5) .nil)⟩
  ·
   refine ZM<|?_
   replace h := lx h ▸ ho1
   exact ⟨_, h, ES [some 0] (hhp := .cons Y (roO Q5) .nil)⟩
 ·
  refine Tr<|Rm Y<|Ra Y<|Za<|?_
  obtain rfl := rt h
  exact Zp<|Za0 [some 0] Y (.cons (.tmp Y) .nil) (.cons Y (roO Q5) .nil) Y Y<|.own _ Y
theorem Zh3 {m : api_Memory} {r : ring_spot} (h : JK m = some r) :
 CSpec Tryd.prog gl0 32 [.agg [.int .i64 m.Slots, .int .i64 m.Limit, .sl 29 (List.map R29 m.Sectors), .sl 3 (List.map R3 m.Wear), .sl 4 (List.map R4 m.Bad)]] (.agg [.int .i64 r.sector, .int .i64 r.slot]) := by
 unfold JK at h
 replace h := QO h
 refine So Tryd.func32 Y fun w0 A=>Tr<|Rq Y (Zdx (cva<|ov Y) Y tZ_60 Y)<|Rx Y (Qd (row := [_, _]) 0 Y Zmg Y tZ_83)<|Za<|K2 1 2 Y<|Tr<|Rq Y (QP (ov Y) Zax Y Y)<|bE h fun y h_y h=>Rq Y (Zt (ZfC h_y)<|.cons (ov Y) (.aggB Y) .nil)<|Ra Y<|Za<|Zg<|K3 1 2 3 Y<|Tr<|Rm Y<|Rl tZ_3 Xg Y<|R2 Zdf Y<|Za<|K4 1 2 3 10 Y<|If h Y (fun h=>?_) fun h=>?_
 ·
  refine K1 2 Y<|Tr<|Rq Y (JG (ys := [_, _]) Zoc Znp Zmg (.cons (cvs (ov Y)<|Zn Y) .nil) Y)<|Rx Y (Zk (ov Y) (ov Y) (ZB Zjf Y) Y Y Y (Nat.le_of_ble_eq_true Y) (Zb Y) Y)<|Za<|?_
  obtain rfl := rt h
  exact Zp (Z5 Y (.one<|.agg Y Y Y Y Zjf Y Y<|pwB Y))
 ·
  refine Zh<|K3 1 2 3 Y<|Tr<|Rm Y<|Rm Y<|Rl tZ_3 Xg Y<|R2 Zcq Y<|bE h fun x h_x h=>Rq Y (Qz (ov Y) (ov Y) Xg h_x)<|Rq Y (Zi (ov Y) tS3 Y)<|Rq Y (JG (ys := [_, _]) Zoc Znp Zmg (.cons (cvs (ov Y)<|Zn Y) .nil) Y)<|Rx Y (Qd (row := [_, _]) 1 Y Zmg Y tZ_83)<|Rx Y (Zk (ov Y) (ov Y) (ZB Zjf Y) Y Y Y (Nat.le_of_ble_eq_true Y) (Zb Y) Y)<|Za<|I1 (fun slot=>⟨[(2, .ptr 0 1 0 0), (4, .ptr 1 1 0 0)], [some ⟨83, [[.int .i64 0, .int .i64 0]]⟩, some ⟨83, [[.int .i64 x, .int .i64 slot]]⟩]⟩) h (fun h=>?_) fun slot h=>?_
  ·
   refine K3 1 2 4 Y<|Tr<|Rq Y (Qj (ov Y) ZjA)<|Rq Y (Zi (ov Y) tS3 Y)<|Rm Y<|Za<|Zf<|?_
   obtain ⟨r1, hl1, ho1⟩ := Xm h
   refine L2 (fun slot2 i=>⟨[(1, .rp [.int .i64 m.Slots, .int .i64 m.Limit, .sl 29 (List.map R29 m.Sectors), .sl 3 (List.map R3 m.Wear), .sl 4 (List.map R4 m.Bad)] 0), (2, .ptr 0 1 0 0), (4, .ptr 1 1 0 0), (20, .int .i64 m.Slots), (21, .int .i64 i)], [some ⟨83, [[.int .i64 0, .int .i64 0]]⟩, some ⟨83, [[.int .i64 x, .int .i64 slot2]]⟩]⟩) hl1 (ES [some 0, some 1]) fun n1 slot2 i h=>?_
   unfold XC at h
   refine Tr<|R2 ZT Y<|Za<|Zg<|If h Y (fun h=>?_) fun h=>?_
   ·
    refine Zh<|Zg<|Zf<|K5 1 2 4 20 21 Y<|Tr<|Rm Y<|Ra Y<|Za<|K6 1 2 4 5 20 21 Y<|Tr<|Rq Y (Qj (ov Y) ZQ)<|Rq Y (Zi (ov Y) QH Y)<|Rq Y (Zd (ov Y) Y Y Zf9)<|Rq Y (Zv (ov Y) Y Y Y tS3 Y)<|bE h fun x2 h_x2 h=>Rq Y (Qz (ov Y) (ov Y) Qo h_x2)<|Rq Y (Zi (ov Y) Zh7 Y)<|Rm Y<|bE h fun y2 h_y2 h=>Rq Y (Zt (ZfU h_y2)<|.cons (ov Y) (.b Y)<|.cons (ov Y) (.b Y) .nil)<|bE h fun y3 h_y3 h=>Rq Y (Zt (ZfB h_y3)<|.cons (ov Y) (.b Y) .nil)<|R2 Jv Y<|Za<|K7 1 2 4 5 20 21 33 Y<|If h Y (fun h=>?_) fun h=>?_
    ·
     exact K6 1 2 4 5 20 21 Y<|Zs<|Rm Y<|R2 ZU Y<|Rq Y (Zd (ov Y) Y Y ZjC)<|Rx Y (Zk (ov Y) (ov Y) (Ze tS3) Y Y Y (Nat.le_of_ble_eq_true Y) (Zb Y) Y)<|Za<|K5 1 2 4 20 21 Y<|Zs<|R2 ZU Y<|Rm Y<|Za<|⟨_, h, ES [some 0, some 1]⟩
    ·
     exact Zh<|K5 1 2 4 20 21 Y<|Zs<|R2 ZU Y<|Rm Y<|Za<|⟨_, h, ES [some 0, some 1]⟩
   ·
    refine ZM<|?_
    replace h := lx h ▸ ho1
    exact ⟨_, h, ES [some 0, some 1]⟩
  ·
   refine Tr<|Rq Y (QD (ov Y) Y Y Y Zjf Y Y)<|Rx Y (Zk (ov Y) (ov Y) (ZB Zjf Y) Y Y Y (Nat.le_of_ble_eq_true Y) (Zb Y) Y)<|Za<|?_
   obtain rfl := rt h
   exact Zp (Z5 Y (.one<|.agg Y Y Y Y Zjf Y Y<|pwB Y))
theorem Zfv {l : List api_Memory} {copies : Int} {r : (Int) ⊕ (ring_Recorder × Int)} (h : Jq l copies = some r) :
 GSpec Tryd.prog gl0 13 [.sl 60 (List.map R60 l), .int .i64 copies] [] (Sum.elim (fun r => .tuple [.lit (.pointer none), .int .i64 r]) (fun r => .tuple [.ptr 0 1 0 0, .int .i64 r.2]) r) (Sum.elim (fun r => []) (fun r => [some ⟨80, [[.own 1 r.1.bank.memories.length, .own 2 r.1.bank.spots.length, .int .i64 r.1.copies, .bool r.1.frozen, .bool r.1.stopped, .int .i64 r.1.last, .bool r.1.some_]]⟩, some ⟨60, List.map O60 r.1.bank.memories⟩, some ⟨83, List.map R83 r.1.bank.spots⟩]) r) := by
 unfold Jq at h
 replace h := QO h
 refine Q0 (by kernel_rfl) Tryd.func13 Y Y<|?_
 intro w0 A W φ0
 refine Tr<|Ra Y<|Ra Y<|Za<|Zg<|K2 0 1 Y<|Tr<|Rm Y<|bE h fun y h_y h=>Rq Y (Zt (ZeR h_y)<|.cons (ov Y) (.b Y) .nil)<|Ra Y<|Za<|K3 0 1 6 Y<|Tr<|Rm Y<|R2 Jv Y<|Za<|K4 0 1 6 17 Y<|If h Y (fun h=>?_) fun h=>?_
 ·
  refine K1 6 Y<|Tr<|Rm Y<|Ra Y<|Ra Y<|Za<|?_
  obtain rfl := rt h
  exact Zp<|Za0 [] Y (.cons (.tmp Y)<|.cons (.tmp Y) .nil) .nil Y Y<|Xe<|rlc (.dat Y)<|rlc (.dat Y) rln
 ·
  refine Zh<|Zg<|K2 0 1 Y<|Tr<|Rm Y<|Rm Y<|Rl tZ_60 ZdK Y<|bE h fun y2 h_y2 h=>Rq Y (Zt (QQ h_y2)<|.cons (ov Y) (.b Y)<|.cons (ov Y) (.b Y)<|.cons (ov Y) (.b Y) .nil)<|R1 J9 Y<|Za<|K3 0 1 23 Y<|If h Y (fun h=>?_) fun h=>?_
  ·
   refine K0<|Tr<|Ra Y<|Ra Y<|Za<|?_
   obtain rfl := rt h
   exact Zp<|Za0 [] Y (.cons (.tmp Y)<|.cons (.tmp Y) .nil) .nil Y Y<|Xe<|rlc (.dat Y)<|rlc (.dat Y) rln
  ·
   refine Zh<|K2 0 1 Y<|Tr<|Rm Y<|Rq Y (JG (ys := [_, _, _, _, _, _, _]) Zre ZqX ZrN (.cons (cvs (ov Y)<|Zn Y) .nil) Y)<|Rx Y (Zmr 0 Y (ov Y) ZrM Y)<|Ra Y<|Za<|K2 0 7 Y<|Tr<|Rm Y<|Rm Y<|bE h fun y3 h_y3 h=>Rx Y (ZE [] (Zhg h_y3) (.cons (ov Y) (.dat Y) .nil) .nil Y (.keep Y Y<|.lent 0 (.inr ⟨Nat.le_of_ble_eq_true Y, Y⟩) Y (roO Q5) .nil) Y Y<|.own _<|.inr ⟨Nat.le_of_ble_eq_true Y, Y⟩)<|Rq Y (Zy (ov Y) Y Y)<|Rq Y (Zd (ov Y) Y Y ZeA)<|Rq Y (Zd (ov Y) Y Y Zeu)<|Rx Y (Zk (ov Y) (ov Y) (Ze Zj7) Y Y Y (Nat.le_of_ble_eq_true Y) (Zb Y) Y)<|Za<|I2 (fun spots frozen=>⟨[(7, .ptr 0 1 0 0)], [some ⟨80, [[.own 1 y3.length, .own 2 spots.length, .int .i64 copies, .bool frozen, .bool false, .int .i64 0, .bool false]]⟩, some ⟨60, List.map O60 y3⟩, some ⟨83, List.map R83 spots⟩]⟩) h (fun h=>?_) fun spots frozen h=>?_
   ·
    refine K1 7 Y<|QS [some ⟨80, [[.own 1 y3.length, .nils, .int .i64 copies, .bool false, .bool false, .int .i64 0, .bool false]]⟩, some ⟨60, List.map O60 y3⟩] Y<|Tr<|Rm Y<|Rq Y (Zy (ov Y) Y Y)<|Rq Y (Zd (ov Y) Y Y ZeA)<|Rq Y (Zd (ov Y) Y Y Zeu)<|Rq Y (Zv (ov Y) Y Y Y Zj7 Y)<|Rq Y (Zfj (ov Y) Y Y ZdK)<|Rm Y<|Za<|Zf<|?_
    obtain ⟨r1, hl1, ho1⟩ := Xm h
    refine L3 (fun spots2 frozen2 i=>⟨[(7, .ptr 0 1 0 0), (37, .own 1 y3.length), (38, .int .i64 (y3.length : Int)), (39, .int .i64 i)], [some ⟨80, [[.own 1 y3.length, .own 2 spots2.length, .int .i64 copies, .bool frozen2, .bool false, .int .i64 0, .bool false]]⟩, some ⟨60, List.map O60 y3⟩, some ⟨83, List.map R83 spots2⟩]⟩) hl1 (ES [some 0, some 1, none] (hhp := .cons Y (ro1 (by exact tZ_80.symm)<|rlc (.own _ Y)<|rlc (.row Y)<|rlc (.dat Y)<|rlc (.dat Y)<|rlc (.dat Y)<|rlc (.dat Y)<|rlc (.dat Y) rln)<|.cons Y (roO Q5)<|.row 83 .nil)) fun n1 spots2 frozen2 i h=>?_
    unfold JP at h
    refine Tr<|R2 ZT Y<|Za<|Zg<|If h Y (fun h=>?_) fun h=>?_
    ·
     refine Zh<|Zg<|Zf<|K4 7 37 38 39 Y<|Tr<|bE h fun x h_x h=>Rq Y (QA (ov Y) (ov Y) ZdK Y Y h_x)<|Xz (Ent.focusH (r := 1) (j := 2) (e' := 29) (g := O29) (ys := x.Sectors) Y (ZA h_x).2 Y Jo)<|Xz (Ent.focusI (r := 1) (j := 3) (e' := 3) (g := R3) (ys := x.Wear) Y (ZA h_x).2 Y DR3)<|Xz (Ent.focusI (r := 1) (j := 4) (e' := 4) (g := R4) (ys := x.Bad) Y (ZA h_x).2 Y DR4)<|Rq Y (ZoG (ov Y) Y Y (ZA h_x).2 Zax Y Y)<|Rx Y (Qd (row := [_, _, _, _, _]) 6 Y Zex Y tZ_60)<|Rx Y (Zk (ov Y) (ov Y) (ZB Zax Y) Y Y Y (Nat.le_of_ble_eq_true Y) (Zb Y) Y)<|ZfS [some ⟨80, [[.own 1 y3.length, .own 2 spots2.length, .int .i64 copies, .bool frozen2, .bool false, .int .i64 0, .bool false]]⟩, some ⟨60, List.set (List.map O60 y3) i.toNat [.int .i64 x.Slots, .int .i64 x.Limit, .own 3 x.Sectors.length, .own 4 x.Wear.length, .own 5 x.Bad.length]⟩, some ⟨83, List.map R83 spots2⟩, some ⟨29, List.map O29 x.Sectors⟩, some ⟨3, List.map R3 x.Wear⟩, some ⟨4, List.map R4 x.Bad⟩, some ⟨60, [[.int .i64 x.Slots, .int .i64 x.Limit, .own 3 x.Sectors.length, .own 4 x.Wear.length, .own 5 x.Bad.length]]⟩] Y<|Za<|K5 7 9 37 38 39 Y<|Tr<|Rq Y (QD (ov Y) Y Y Y Zax Y Y)<|bE h fun y4 h_y4 h=>Rq Y (Zc1 (Zh3 h_y4) (.agg<|by simp only [List.mem_cons, List.not_mem_nil, or_false, forall_eq_or_imp, forall_eq]; exact ⟨.int, .int⟩)<|.cons (ov Y) (View.aggL<|.cons (Dat.view<|.b Y)<|.cons (Dat.view<|.b Y)<|.cons (View.ownO Y Y Jo (fun x=>(D29 x).1) ZqH)<|.cons (View.ownM Y Y D3)<|.cons (View.ownM Y Y D4) .nil) .nil)<|Rx Y (Qd (row := [_, _]) 7 Y Zmg Y tZ_83)<|Rx Y (Zk (ov Y) (ov Y) (ZB Zjf Y) Y Y Y (Nat.le_of_ble_eq_true Y) (Zb Y) Y)<|ZfS [some ⟨80, [[.own 1 y3.length, .own 2 spots2.length, .int .i64 copies, .bool frozen2, .bool false, .int .i64 0, .bool false]]⟩, some ⟨60, List.set (List.map O60 y3) i.toNat [.int .i64 x.Slots, .int .i64 x.Limit, .own 3 x.Sectors.length, .own 4 x.Wear.length, .own 5 x.Bad.length]⟩, some ⟨83, List.map R83 spots2⟩, some ⟨29, List.map O29 x.Sectors⟩, some ⟨3, List.map R3 x.Wear⟩, some ⟨4, List.map R4 x.Bad⟩, some ⟨60, [[.int .i64 x.Slots, .int .i64 x.Limit, .own 3 x.Sectors.length, .own 4 x.Wear.length, .own 5 x.Bad.length]]⟩, some ⟨83, [[.int .i64 y4.sector, .int .i64 y4.slot]]⟩] Y<|Za<|Zg<|K6 7 9 10 37 38 39 Y<|QL (cw := md0) (by kernel_rfl)<|D1 1 Zc Y<|Dq 2 Y (Zy (ov Y) Y Y)<|Dq 3 Y (Zd (ov Y) Y Y ZeA)<|Dq 4 Y (Zd (ov Y) Y Y Zf8)<|Dq 5 Y (Zv (ov Y) Y Y Y Zlf Y)<|Dq 6 Y (QD (ov Y) Y Y Y Zjf Y Y)<|Zpn 7 (.sl 83<|List.map R83 ([y4] : List ring_spot)) Y (by kernel_rfl) Y Y (Zae ZkU (.cons (cva<|ov Y) Y (pwD Y) .nil) Y Y)<|ZZ 0 _ Y (by kernel_rfl) Y Y (fun hp'=>Zc<|ov Y)<|bE h fun l2 h_l2 h=>Do 8 Y (XT (ov Y) (Jb (ov Y) tZ_83) ZkU Y Y Y (fun _=>Zb Y) Y h_l2)<|Dq 9 Y (Zy (ov Y) Y Y)<|Dq 10 Y (Zd (ov Y) Y Y ZeA)<|Dq 11 Y (Zd (ov Y) Y Y Zf8)<|Do 12 Y (Zk (ov Y) (ov Y) (Ze Zlf) Y Y Y (Nat.le_of_ble_eq_true Y) (Zb Y) Y)<|Dd<|K6 7 9 10 37 38 39 Y<|QS [some ⟨80, [[.own 1 y3.length, .own 2 l2.length, .int .i64 copies, .bool frozen2, .bool false, .int .i64 0, .bool false]]⟩, some ⟨60, List.set (List.map O60 y3) i.toNat [.int .i64 x.Slots, .int .i64 x.Limit, .own 3 x.Sectors.length, .own 4 x.Wear.length, .own 5 x.Bad.length]⟩, some ⟨83, List.map R83 l2⟩, some ⟨29, List.map O29 x.Sectors⟩, some ⟨3, List.map R3 x.Wear⟩, some ⟨4, List.map R4 x.Bad⟩, some ⟨60, [[.int .i64 x.Slots, .int .i64 x.Limit, .own 3 x.Sectors.length, .own 4 x.Wear.length, .own 5 x.Bad.length]]⟩, some ⟨83, [[.int .i64 y4.sector, .int .i64 y4.slot]]⟩] Y<|Tr<|Rq Y (Zd (ov Y) Y Y Zf9)<|Rq Y (Zv (ov Y) Y Y Y tS3 Y)<|R2 ZiI Y<|Za<|K7 7 9 10 37 38 39 59 Y<|If h Y (fun h=>?_) fun h=>?_
     ·
      exact K6 7 9 10 37 38 39 Y<|Tr<|Rq Y (Zd (ov Y) Y Y ZQ)<|Rq Y (Zv (ov Y) Y Y Y QH Y)<|Rq Y (Zd (ov Y) Y Y Zf9)<|Rq Y (Zv (ov Y) Y Y Y tS3 Y)<|bE h fun x2 h_x2 h=>Rq Y (QA (ov Y) (ov Y) Qo Y Y h_x2)<|Xz (Ent.focusH (r := 3) (j := 0) (e' := 5) (g := R5) (ys := x2) Y (ZA h_x2).2 Y DR5)<|Rq Y (Zbi (ov Y) Y Y (ZA h_x2).2 Zh7 Y)<|bE h fun y5 h_y5 h=>Rq Y (Zc1 (Zcl h_y5) (.tuple<|by simp only [List.mem_cons, List.not_mem_nil, or_false, forall_eq_or_imp, forall_eq]; exact ⟨.int, .bool, .bool⟩)<|.cons (ov Y) (View.ownM Y Y D5) .nil)<|Rm Y<|Rq Y (Zm (ov Y) Y)<|Rq Y (Zm (ov Y) Y)<|Rq Y (Zm (ov Y) Y)<|Ra Y<|Ra Y<|Ra Y<|ZfS [some ⟨80, [[.own 1 y3.length, .own 2 l2.length, .int .i64 copies, .bool frozen2, .bool false, .int .i64 0, .bool false]]⟩, some ⟨60, List.set (List.map O60 y3) i.toNat [.int .i64 x.Slots, .int .i64 x.Limit, .own 3 x.Sectors.length, .own 4 x.Wear.length, .own 5 x.Bad.length]⟩, some ⟨83, List.map R83 l2⟩, some ⟨29, List.set (List.map O29 x.Sectors) y4.sector.toNat [.own 8 x2.length]⟩, some ⟨3, List.map R3 x.Wear⟩, some ⟨4, List.map R4 x.Bad⟩, some ⟨60, [[.int .i64 x.Slots, .int .i64 x.Limit, .own 3 x.Sectors.length, .own 4 x.Wear.length, .own 5 x.Bad.length]]⟩, some ⟨83, [[.int .i64 y4.sector, .int .i64 y4.slot]]⟩, some ⟨5, List.map R5 x2⟩] Y<|Xz (Ent.absorbH (r := 3) (j := 0) (q := 8) Y (ZA h_x2).2 Y Y (List.length_map ..) Y)<|Xz (Ent.closeS (r := 3) Y (ZA h_x2).2 Y)<|Xz (Ent.absorbH (r := 1) (j := 2) (q := 3) Y (ZA h_x).2 Y Y (List.length_map ..) Y)<|Xz (Ent.absorbH (r := 1) (j := 3) (q := 4) Y (ZA h_x).2 Y Y (List.length_map ..) Y)<|Xz (Ent.absorbH (r := 1) (j := 4) (q := 5) Y (ZA h_x).2 Y Y (List.length_map ..) Y)<|Xz (Ent.closeS (r := 1) Y (ZA h_x).2 Y)<|Za<|K5 7 12 37 38 39 Y<|QS [some ⟨80, [[.own 1 y3.length, .own 2 l2.length, .int .i64 copies, .bool frozen2, .bool false, .int .i64 0, .bool false]]⟩, some ⟨60, List.map O60 y3⟩, some ⟨83, List.map R83 l2⟩, none, none, none, some ⟨60, [[.int .i64 x.Slots, .int .i64 x.Limit, .own 3 x.Sectors.length, .own 4 x.Wear.length, .own 5 x.Bad.length]]⟩, some ⟨83, [[.int .i64 y4.sector, .int .i64 y4.slot]]⟩, none] Y<|Zs<|Rm Y<|Rm Y<|Rq Y (Zy (ov Y) Y Y)<|Rq Y (Zd (ov Y) Y Y ZkF)<|Rq Y (Zv (ov Y) Y Y Y tS4 Y)<|Rm Y<|Rq Y (.guarded (frozen2 == false) Y Y Y Y fun h => Zc<|ov Y)<|Rq Y (Zgu (ov Y) fun hp=>ow Y<|gF hp)<|Rq Y (Zy (ov Y) Y Y)<|Rq Y (Zd (ov Y) Y Y ZkF)<|Rx Y (Zk (ov Y) (ov Y) (Ze tS4) Y Y Y (Nat.le_of_ble_eq_true Y) (Zb Y) Y)<|Za<|K4 7 37 38 39 Y<|QS [some ⟨80, [[.own 1 y3.length, .own 2 l2.length, .int .i64 copies, .bool (frozen2 || y5.2.1), .bool false, .int .i64 0, .bool false]]⟩, some ⟨60, List.map O60 y3⟩, some ⟨83, List.map R83 l2⟩, none, none, none, some ⟨60, [[.int .i64 x.Slots, .int .i64 x.Limit, .own 3 x.Sectors.length, .own 4 x.Wear.length, .own 5 x.Bad.length]]⟩, some ⟨83, [[.int .i64 y4.sector, .int .i64 y4.slot]]⟩, none] Y<|Zs<|R2 ZU Y<|Rm Y<|Za<|⟨_, h, ES [some 0, some 1, some 2] (hhp := .cons Y (ro1 (by exact tZ_80.symm)<|rlc (.own _ Y)<|rlc (.own _ Y)<|rlc (.dat Y)<|rlc (.dat Y)<|rlc (.dat Y)<|rlc (.dat Y)<|rlc (.dat Y) rln)<|.cons Y (roO Q5)<|.cons Y (roM D83) .nil)⟩
     ·
      exact Zh<|K4 7 37 38 39 Y<|Zs<|R2 ZU Y<|Rm Y<|Xz (Ent.absorbH (r := 1) (j := 2) (q := 3) Y (ZA h_x).2 Y Y (List.length_map ..) Y)<|Xz (Ent.absorbH (r := 1) (j := 3) (q := 4) Y (ZA h_x).2 Y Y (List.length_map ..) Y)<|Xz (Ent.absorbH (r := 1) (j := 4) (q := 5) Y (ZA h_x).2 Y Y (List.length_map ..) Y)<|Xz (Ent.closeS (r := 1) Y (ZA h_x).2 Y)<|Za<|⟨_, h, ES [some 0, some 1, some 2] (hhp := .cons Y (ro1 (by exact tZ_80.symm)<|rlc (.own _ Y)<|rlc (.own _ Y)<|rlc (.dat Y)<|rlc (.dat Y)<|rlc (.dat Y)<|rlc (.dat Y)<|rlc (.dat Y) rln)<|.cons Y (roO Q5)<|.cons Y (roM D83) .nil)⟩
    ·
     refine ZM<|?_
     replace h := lx h ▸ ho1
     exact ⟨_, h, ES [some 0, some 1, some 2] (hhp := .cons Y (ro1 (by exact tZ_80.symm)<|rlc (.own _ Y)<|rlc (.own _ Y)<|rlc (.dat Y)<|rlc (.dat Y)<|rlc (.dat Y)<|rlc (.dat Y)<|rlc (.dat Y) rln)<|.cons Y (roO Q5)<|.cons Y (roM D83) .nil)⟩
   ·
    refine Tr<|Rm Y<|Ra Y<|Ra Y<|Za<|?_
    obtain rfl := rt h
    exact Zp<|Za0 [some 0, some 1, some 2] Y (.cons (.tmp Y)<|.cons (.tmp Y) .nil) (.cons Y (ro1 (by exact tZ_80.symm)<|rlc (.own _ Y)<|rlc (.own _ Y)<|rlc (.dat Y)<|rlc (.dat Y)<|rlc (.dat Y)<|rlc (.dat Y)<|rlc (.dat Y) rln)<|.cons Y (roO Q5)<|.cons Y (roM D83) .nil) Y Y<|Xe<|rlc (.ptr _ _ _ Y)<|rlc (.dat Y) rln
theorem ZdC {l : List api_Memory} {copies : Int} {r : Int} (h : Jq l copies = some (.inl r)) :
    GSpec Tryd.prog gl0 13 [.sl 60 (List.map R60 l), .int .i64 copies] [] (.tuple [.lit (.pointer none), .int .i64 r]) [] := Zfv h
theorem Zdz {l : List api_Memory} {copies : Int} {r : ring_Recorder × Int} (h : Jq l copies = some (.inr r)) :
    GSpec Tryd.prog gl0 13 [.sl 60 (List.map R60 l), .int .i64 copies] [] (.tuple [.ptr 0 1 0 0, .int .i64 r.2]) [some ⟨80, [[.own 1 r.1.bank.memories.length, .own 2 r.1.bank.spots.length, .int .i64 r.1.copies, .bool r.1.frozen, .bool r.1.stopped, .int .i64 r.1.last, .bool r.1.some_]]⟩, some ⟨60, List.map O60 r.1.bank.memories⟩, some ⟨83, List.map R83 r.1.bank.spots⟩] := Zfv h
theorem Zk1 {n : Int} {r : Bool} (h : Zcj n = some r) :
 CSpec Tryd.prog gl0 81 [.int .i64 n] (.bool r) := by
 unfold Zcj at h
 replace h := QO h
 refine So Tryd.func81 Y fun w0 A=>Tr<|Ra Y<|Za<|K1 0 Y<|Tr<|Ra Y<|Za<|I1 (fun ones=>⟨[(3, .int .i64 ones)], []⟩) h (fun h=>?_) fun ones h=>?_
 ·
  refine Zf<|?_
  obtain ⟨r1, hl1, ho1⟩ := Xm h
  refine L2 (fun n2 ones2=>⟨[(0, .int .i64 n2), (3, .int .i64 ones2)], []⟩) hl1 (ES []) fun n1 n2 ones2 h=>?_
  unfold Zem at h
  refine Zg<|Tr<|Rm Y<|R2 Zde Y<|Za<|K3 0 3 5 Y<|If h Y (fun h=>?_) fun h=>?_
  ·
   exact Zh<|Zg<|Zf<|K2 0 3 Y<|Zs<|Rm Y<|Rm Y<|bE h fun q h_q h=>Rq Y (Zbh (ov Y) (ov Y) h_q)<|R2 ZU Y<|Ra Y<|Za<|K2 0 3 Y<|Zs<|Rm Y<|bE h fun q2 h_q2 h=>Rq Y (ZgX (ov Y) (ov Y) h_q2)<|Ra Y<|Za<|⟨_, h, ES []⟩
  ·
   refine ZM<|?_
   replace h := lx h ▸ ho1
   exact ⟨_, h, ES []⟩
 ·
  refine Tr<|Rm Y<|bE h fun q3 h_q3 h=>Rq Y (Zbh (ov Y) (ov Y) h_q3)<|R2 Zdf Y<|Ra Y<|Za<|?_
  obtain rfl := rt h
  exact Zp (Z5 Y (.one<|rb Y))
theorem ZdG {data : Int} {r : Int} (h : ZbI data = some r) :
 CSpec Tryd.prog gl0 65 [.int .i64 data] (.int .i64 r) := by
 unfold ZbI at h
 replace h := QO h
 refine So Tryd.func65 Y fun w0 A=>Tr<|Ra Y<|Za<|Zg<|K1 0 Y<|Tr<|Rm Y<|bE h fun y h_y h=>Rq Y (Zt (Zk1 h_y)<|.cons (ov Y) (.b Y) .nil)<|Za<|K2 0 4 Y<|If h Y (fun h=>?_) fun h=>?_
 ·
  refine K1 0 Y<|Tr<|Rm Y<|Ra Y<|Za<|?_
  obtain rfl := rt h
  exact Zp (Z5 Y (.one<|rb Y))
 ·
  refine Zh<|K1 0 Y<|Tr<|Rm Y<|R2 ZU Y<|Ra Y<|Za<|?_
  obtain rfl := rt h
  exact Zp (Z5 Y (.one<|rb Y))
theorem Zil {f : Vector Int 64} {r : Int} (h : XF f = some r) :
 CSpec Tryd.prog gl0 67 [.agg (List.map C42 f.toList)] (.int .i64 r) := by
 unfold XF at h
 replace h := QO h
 refine So Tryd.func67 Y fun w0 A=>Tr<|Rq Y (Zdx (cva<|ov Y) arL tZ_44<|arD fun _ => Y)<|Ra Y<|Za<|K2 1 2 Y<|Tr<|bE h fun x h_x h=>Rq Y (Xu (ov Y) (ov Y) Zba h_x)<|Rq Y (Zi (ov Y) Zb2<|QF<|Jr (o := 0) (o' := ((Int.toNat 1) * 1)) (Zu arL)<|Jk h_x)<|Rq Y (Qx (ov Y) Zeb tI3 Y)<|bE h fun q h_q h=>Rq Y (Zbh (ov Y) (ov Y) h_q)<|bE h fun x2 h_x2 h=>Rq Y (Xu (ov Y) (ov Y) Zba h_x2)<|Rq Y (Zi (ov Y) Zb2<|QF<|Jr (o := 0) (o' := ((Int.toNat 2) * 1)) (Zu arL)<|Jk h_x2)<|Rq Y (Qx (ov Y) Zeb tI3 Y)<|bE h fun q2 h_q2 h=>Rq Y (Zbh (ov Y) (ov Y) h_q2)<|R2 ZgY Y<|R2 ZU Y<|Ra Y<|Za<|?_
 obtain rfl := rt h
 exact Zp (Z5 Y (.one<|rb Y))
theorem Zjj {number : Int} {r : Int} (h : Zak number = some r) :
 CSpec Tryd.prog gl0 66 [.int .i64 number] (.int .i64 r) := by
 unfold Zak at h
 replace h := QO h
 refine So Tryd.func66 Y fun w0 A=>Tr<|Ra Y<|Za<|Tr<|R_q (.agg<|List.map C3 (#v[583, 1464, 2631, 3512] : Vector Int 4).toList) Y (ZeL (ys := [_, _, _, _]) ZpI Zrv (.cons (cvs (ov Y)<|Zn Y)<|.cons (cvs (ov Y)<|Zn Y)<|.cons (cvs (ov Y)<|Zn Y)<|.cons (cvs (ov Y)<|Zn Y) .nil) Y)<|Rm Y<|bE h fun q h_q h=>Rq Y (Zbh (ov Y) (ov Y) h_q)<|bE h fun x h_x h=>Rq Y (Zkm (ov Y) (ov Y) ZpI tS3 h_x)<|Ra Y<|Za<|?_
 obtain rfl := rt h
 exact Zp (Z5 Y (.one<|rb Y))
theorem Zk6 {f : Vector Int 64} {r : Int} (h : Zc6 f = some r) :
 CSpec Tryd.prog gl0 68 [.agg (List.map C42 f.toList)] (.int .i64 r) := by
 unfold Zc6 at h
 replace h := QO h
 refine So Tryd.func68 Y fun w0 A=>Tr<|Rq Y (Zdx (cva<|ov Y) arL tZ_44<|arD fun _ => Y)<|Ra Y<|Za<|K1 1 Y<|Tr<|Ra Y<|Za<|I1 (fun x=>⟨[(3, .int .i64 x)], []⟩) h (fun h=>?_) fun x h=>?_
 ·
  refine Tr<|Ra Y<|Za<|Zf<|?_
  obtain ⟨r1, hl1, ho1⟩ := Xm h
  refine L2 (fun x2 i=>⟨[(1, .rp (List.map C42 f.toList) 0), (3, .int .i64 x2), (4, .int .i64 i)], []⟩) hl1 (ES []) fun n1 x2 i h=>?_
  unfold ZaT at h
  refine Zg<|Tr<|Rm Y<|R2 Zkh Y<|Za<|K4 1 3 4 6 Y<|If h Y (fun h=>?_) fun h=>?_
  ·
   exact Zh<|Zg<|Zf<|K3 1 3 4 Y<|Zs<|Rm Y<|Rm Y<|bE h fun x3 h_x3 h=>Rq Y (Xu (ov Y) (ov Y) Zba h_x3)<|Rq Y (Zi (ov Y) Zb2<|QF<|Jr (o := 0) (o' := (i.toNat * 1)) (Zu arL)<|Jk h_x3)<|Rq Y (Qx (ov Y) Zeb tI3 Y)<|bE h fun q h_q h=>Rq Y (Zbh (ov Y) (ov Y) h_q)<|R2 Zkr Y<|Ra Y<|Za<|K3 1 3 4 Y<|Zs<|Rm Y<|R2 ZU Y<|Ra Y<|Za<|⟨_, h, ES []⟩
  ·
   refine ZM<|?_
   replace h := lx h ▸ ho1
   exact ⟨_, h, ES []⟩
 ·
  refine Tr<|Rm Y<|Ra Y<|Za<|?_
  obtain rfl := rt h
  exact Zp (Z5 Y (.one<|rb Y))
theorem Zj5 {f : Vector Int 64} {r : Int} (h : ZaM f = some r) :
 CSpec Tryd.prog gl0 82 [.agg (List.map C42 f.toList)] (.int .i64 r) := by
 unfold ZaM at h
 replace h := QO h
 refine So Tryd.func82 Y fun w0 A=>Tr<|Rq Y (Zdx (cva<|ov Y) arL tZ_44<|arD fun _ => Y)<|Ra Y<|Za<|K1 1 Y<|Tr<|Ra Y<|Za<|I1 (fun rest=>⟨[(3, .int .i64 rest)], []⟩) h (fun h=>?_) fun rest h=>?_
 ·
  refine Tr<|Ra Y<|Za<|Zf<|?_
  obtain ⟨r1, hl1, ho1⟩ := Xm h
  refine L2 (fun rest2 i=>⟨[(1, .rp (List.map C42 f.toList) 0), (3, .int .i64 rest2), (4, .int .i64 i)], []⟩) hl1 (ES []) fun n1 rest2 i h=>?_
  unfold JM at h
  refine Zg<|Tr<|Rm Y<|R2 ZT Y<|Za<|K4 1 3 4 7 Y<|If h Y (fun h=>?_) fun h=>?_
  ·
   refine Zh<|Zg<|Zf<|K3 1 3 4 Y<|Tr<|Ra Y<|Za<|I1 (fun bit=>⟨[(1, .rp (List.map C42 f.toList) 0), (3, .int .i64 rest2), (4, .int .i64 i), (5, .int .i64 bit)], []⟩) h (fun h=>?_) fun bit h=>?_
   ·
    refine Tr<|Rm Y<|R2 ZT Y<|Za<|K5 1 3 4 5 11 Y<|If h Y (fun h=>?_) fun h=>?_
    ·
     exact K4 1 3 4 5 Y<|Zs<|Rm Y<|bE h fun q h_q h=>Rq Y (ZgX (ov Y) (ov Y) h_q)<|bE h fun x h_x h=>Rq Y (Xu (ov Y) (ov Y) Zba h_x)<|Rq Y (Zi (ov Y) Zb2<|QF<|Jr (o := 0) (o' := (q.toNat * 1)) (Zu arL)<|Jk h_x)<|Rq Y (Qx (ov Y) Zeb tI3 Y)<|Rm Y<|bE h fun q2 h_q2 h=>Rq Y (Zbh (ov Y) (ov Y) h_q2)<|R2 Zcq Y<|bE h fun q3 h_q3 h=>Rq Y (Zbf (ov Y) (ov Y) h_q3)<|R2 ZbE Y<|Ra Y<|Za<|⟨_, h, ES []⟩
    ·
     exact Zh<|⟨_, h, ES []⟩
   ·
    refine Tr<|Rm Y<|R2 ZgY Y<|Rm Y<|R2 ZU Y<|Ra Y<|Za<|K3 1 3 4 Y<|Tr<|Rm Y<|R2 ZiI Y<|Za<|K4 1 3 4 27 Y<|If h Y (fun h=>?_) fun h=>?_
    ·
     exact K3 1 3 4 Y<|Zs<|Rm Y<|R2 Zkr Y<|Ra Y<|Za<|K3 1 3 4 Y<|Zs<|Rm Y<|R2 ZU Y<|Ra Y<|Za<|⟨_, h, ES []⟩
    ·
     exact Zh<|K3 1 3 4 Y<|Zs<|Rm Y<|R2 ZU Y<|Ra Y<|Za<|⟨_, h, ES []⟩
  ·
   refine ZM<|?_
   replace h := lx h ▸ ho1
   exact ⟨_, h, ES []⟩
 ·
  refine Tr<|Rm Y<|Ra Y<|Za<|?_
  obtain rfl := rt h
  exact Zp (Z5 Y (.one<|rb Y))
theorem ZiW {f : Vector Int 64} {r : (Vector Int 64)} (h : Zb9 f = some r) :
 CSpec Tryd.prog gl0 69 [.agg (List.map C42 f.toList)] (.agg (List.map C42 r.toList)) := by
 unfold Zb9 at h
 replace h := QO h
 refine So Tryd.func69 Y fun w0 A=>Tr<|Rx Y (Zmr 0 Y (ov Y) JS arL)<|Rx Y (Qd (row := (List.map C42 (Vector.replicate 64 0).toList)) 1 Y ZhC Y tZ_44)<|Za<|K2 1 2 Y<|Tr<|Rq Y (QD (ov Y) Y Y Y JS (Qp<|Zu arL) arL (hns := (nsM fun _ => Y)))<|bE h fun y h_y h=>Rq Y (Zt (Zj5 h_y)<|.cons (ov Y) (.aggB<|arD fun _ => Y) .nil)<|Ra Y<|Za<|K3 1 2 3 Y<|Tr<|Rm Y<|bE h fun q h_q h=>Rq Y (ZgX (ov Y) (ov Y) h_q)<|bE h fun y2 h_y2 h=>Rq Y (Zt (ZdG h_y2)<|.cons (ov Y) (.b Y) .nil)<|Rq Y (Qx (ov Y) tI3 Zeb Y)<|Rm Y<|bE h fun q2 h_q2 h=>Rq Y (Zbh (ov Y) (ov Y) h_q2)<|bE h fun y3 h_y3 h=>Rq Y (Zt (ZdG h_y3)<|.cons (ov Y) (.b Y) .nil)<|Rq Y (Qx (ov Y) tI3 Zeb Y)<|bE h fun x h_x h=>Rq Y (ZaE (ov Y) (ov Y) Zba Y Y h_x)<|Rx Y (Zk (ov Y) (ov Y) (Ze Zb2) Y Y Y (arB h_x) (Zb Y)<|arS h_x)<|bE h fun x2 h_x2 h=>Rq Y (ZaE (ov Y) (ov Y) Zba Y Y h_x2)<|Rx Y (Zk (ov Y) (ov Y) (Ze Zb2) Y Y Y (arB h_x2) (Zb Y)<|arS h_x2)<|Za<|K2 1 2 Y<|Tr<|Rq Y (QD (ov Y) Y Y Y JS (Qp<|Zu arL) arL (hns := (nsM fun _ => Y)))<|Rx Y (Zk (ov Y) (ov Y) (ZB JS arL) Y Y Y (Zaq (Zu arL) arL) (Zb<|arC fun _ => Y)<|Jd<|Eq.trans arL<|Eq.symm arL)<|Za<|?_
 obtain rfl := rt h
 exact Zp (Z5 Y (.one<|.agg Y Y Y Y JS (Qp<|Zu arL) arL (pwB<|arD fun _ => Y) (hns := (nsM fun _ => Y))))
theorem ZjL {f : Vector Int 64} {r : (Vector Int 64)} (h : Zda f = some r) :
 CSpec Tryd.prog gl0 40 [.agg (List.map C42 f.toList)] (.agg (List.map C42 r.toList)) := by
 unfold Zda at h
 replace h := QO h
 refine So Tryd.func40 Y fun w0 A=>Tr<|Rx Y (Zmr 0 Y (ov Y) JS arL)<|Rx Y (Qd (row := (List.map C42 (Vector.replicate 64 0).toList)) 1 Y ZhC Y tZ_44)<|Za<|I1 (fun f2=>⟨[(1, .ptr 0 1 0 0), (2, .ptr 1 1 0 0)], [some ⟨44, [(List.map C42 f2.toList)]⟩, some ⟨44, [(List.map C42 (Vector.replicate 64 0).toList)]⟩]⟩) h (fun h=>?_) fun f2 h=>?_
 ·
  refine K2 1 2 Y<|Tr<|Ra Y<|Za<|Zf<|?_
  obtain ⟨r1, hl1, ho1⟩ := Xm h
  refine L2 (fun f3 i=>⟨[(1, .ptr 0 1 0 0), (2, .ptr 1 1 0 0), (3, .int .i64 i)], [some ⟨44, [(List.map C42 f3.toList)]⟩, some ⟨44, [(List.map C42 (Vector.replicate 64 0).toList)]⟩]⟩) hl1 (ES [some 0, some 1]) fun n1 f3 i h=>?_
  unfold ZbO at h
  refine Zg<|Tr<|Rm Y<|R2 Zkh Y<|Za<|K4 1 2 3 5 Y<|If h Y (fun h=>?_) fun h=>?_
  ·
   exact Zh<|Zg<|Zf<|K3 1 2 3 Y<|Zs<|Rm Y<|Rm Y<|bE h fun x h_x h=>Rq Y (ZaE (ov Y) (ov Y) Zba Y Y h_x)<|Rq Y (Zv (ov Y) Y Y Y Zb2<|QF<|Jr (o := 0) (o' := (i.toNat * 1)) (Zu arL)<|Jk h_x)<|Rq Y (Qx (ov Y) Zeb tI3 Y)<|bE h fun q h_q h=>Rq Y (Zbh (ov Y) (ov Y) h_q)<|bE h fun y h_y h=>Rq Y (Zt (ZdG h_y)<|.cons (ov Y) (.b Y) .nil)<|Rq Y (Qx (ov Y) tI3 Zeb Y)<|bE h fun x2 h_x2 h=>Rq Y (ZaE (ov Y) (ov Y) Zba Y Y h_x2)<|Rx Y (Zk (ov Y) (ov Y) (Ze Zb2) Y Y Y (arB h_x2) (Zb Y)<|arS h_x2)<|Za<|K3 1 2 3 Y<|Zs<|Rm Y<|R2 ZU Y<|Ra Y<|Za<|⟨_, h, ES [some 0, some 1]⟩
  ·
   refine ZM<|?_
   replace h := lx h ▸ ho1
   exact ⟨_, h, ES [some 0, some 1]⟩
 ·
  refine Tr<|Rq Y (QD (ov Y) Y Y Y JS (Qp<|Zu arL) arL (hns := (nsM fun _ => Y)))<|bE h fun y2 h_y2 h=>Rq Y (Zt (Zil h_y2)<|.cons (ov Y) (.aggB<|arD fun _ => Y) .nil)<|bE h fun y3 h_y3 h=>Rq Y (Zt (Zjj h_y3)<|.cons (ov Y) (.b Y) .nil)<|Rq Y (Qx (ov Y) tI3 Zeb Y)<|bE h fun x3 h_x3 h=>Rq Y (ZaE (ov Y) (ov Y) Zba Y Y h_x3)<|Rx Y (Zk (ov Y) (ov Y) (Ze Zb2) Y Y Y (arB h_x3) (Zb Y)<|arS h_x3)<|Za<|K2 1 2 Y<|Tr<|Rq Y (QD (ov Y) Y Y Y JS (Qp<|Zu arL) arL (hns := (nsM fun _ => Y)))<|bE h fun y4 h_y4 h=>Rq Y (Zt (Zk6 h_y4)<|.cons (ov Y) (.aggB<|arD fun _ => Y) .nil)<|bE h fun y5 h_y5 h=>Rq Y (Zt (ZdG h_y5)<|.cons (ov Y) (.b Y) .nil)<|Rq Y (Qx (ov Y) tI3 Zeb Y)<|bE h fun x4 h_x4 h=>Rq Y (ZaE (ov Y) (ov Y) Zba Y Y h_x4)<|Rx Y (Zk (ov Y) (ov Y) (Ze Zb2) Y Y Y (arB h_x4) (Zb Y)<|arS h_x4)<|Za<|K2 1 2 Y<|Tr<|Rq Y (QD (ov Y) Y Y Y JS (Qp<|Zu arL) arL (hns := (nsM fun _ => Y)))<|bE h fun y6 h_y6 h=>Rq Y (Zt (ZiW h_y6)<|.cons (ov Y) (.aggB<|arD fun _ => Y) .nil)<|Rx Y (Zk (ov Y) (ov Y) (ZB JS arL) Y Y Y (Zaq (Zu arL) arL) (Zb<|arC fun _ => Y)<|Jd<|Eq.trans arL<|Eq.symm arL)<|Za<|?_
  obtain rfl := rt h
  exact Zp (Z5 Y (.one<|.agg Y Y Y Y JS (Qp<|Zu arL) arL (pwB<|arD fun _ => Y) (hns := (nsM fun _ => Y))))
theorem Zlm {number : Int} {data : List Int} {r : (Vector Int 64) × Int} (h : Zf5 number data = some r) :
 CSpec Tryd.prog gl0 21 [.int .i64 number, .sl 3 (List.map R3 data)] (.tuple [.agg (List.map C42 r.1.toList), .int .i64 r.2]) := by
 unfold Zf5 at h
 replace h := QO h
 refine So Tryd.func21 Y fun w0 A=>Tr<|Rx Y (Qd (row := (List.map C42 (Vector.replicate 64 0).toList)) 0 Y ZhC Y tZ_44)<|Ra Y<|Za<|Zg<|K3 0 1 4 Y<|Tr<|Rm Y<|R2 ZT Y<|Rm Y<|Rq Y (.guarded ((decide (number < 0)) == false) Y Y Y Y fun h => Zc<|ov Y)<|Rq Y (.guarded ((decide (number < 0)) == false) Y Y Y Y fun h => ZiI (ow Y h)<|ov Y)<|Rq Y (Zgu (ov Y) fun hp=>ow Y<|gF hp)<|Za<|K4 0 1 4 14 Y<|If h Y (fun h=>?_) fun h=>?_
 ·
  refine K1 4 Y<|Tr<|R_q (.agg<|List.map C42 (#v[0, 0, 0, 0, 0, 0, 0, 0, 0, 0, 0, 0, 0, 0, 0, 0, 0, 0, 0, 0, 0, 0, 0, 0, 0, 0, 0, 0, 0, 0, 0, 0, 0, 0, 0, 0, 0, 0, 0, 0, 0, 0, 0, 0, 0, 0, 0, 0, 0, 0, 0, 0, 0, 0, 0, 0, 0, 0, 0, 0, 0, 0, 0, 0] : Vector Int 64).toList) Y (ZeL (ys := [_, _, _, _, _, _, _, _, _, _, _, _, _, _, _, _, _, _, _, _, _, _, _, _, _, _, _, _, _, _, _, _, _, _, _, _, _, _, _, _, _, _, _, _, _, _, _, _, _, _, _, _, _, _, _, _, _, _, _, _, _, _, _, _]) Zba ZhC .nil Y)<|Rx Y (Zk (ov Y) (ov Y) (ZB JS arL) Y Y Y (Zaq (Zu arL) arL) (Zb<|arC fun _ => Y)<|Jd<|Eq.trans arL<|Eq.symm arL)<|Ra Y<|Za<|?_
  obtain rfl := rt h
  exact Zp (Z5 Y (.two (.agg Y Y Y Y JS (Qp<|Zu arL) arL (pwB<|arD fun _ => Y) (hns := (nsM fun _ => Y)))<|rb Y))
 ·
  refine Zh<|Zg<|K3 0 1 4 Y<|Tr<|Rm Y<|Rl tZ_3 Xg Y<|R2 Jv Y<|Za<|K4 0 1 4 18 Y<|If h Y (fun h=>?_) fun h=>?_
  ·
   refine K1 4 Y<|Tr<|R_q (.agg<|List.map C42 (#v[0, 0, 0, 0, 0, 0, 0, 0, 0, 0, 0, 0, 0, 0, 0, 0, 0, 0, 0, 0, 0, 0, 0, 0, 0, 0, 0, 0, 0, 0, 0, 0, 0, 0, 0, 0, 0, 0, 0, 0, 0, 0, 0, 0, 0, 0, 0, 0, 0, 0, 0, 0, 0, 0, 0, 0, 0, 0, 0, 0, 0, 0, 0, 0] : Vector Int 64).toList) Y (ZeL (ys := [_, _, _, _, _, _, _, _, _, _, _, _, _, _, _, _, _, _, _, _, _, _, _, _, _, _, _, _, _, _, _, _, _, _, _, _, _, _, _, _, _, _, _, _, _, _, _, _, _, _, _, _, _, _, _, _, _, _, _, _, _, _, _, _]) Zba ZhC .nil Y)<|Rx Y (Zk (ov Y) (ov Y) (ZB JS arL) Y Y Y (Zaq (Zu arL) arL) (Zb<|arC fun _ => Y)<|Jd<|Eq.trans arL<|Eq.symm arL)<|Ra Y<|Za<|?_
   obtain rfl := rt h
   exact Zp (Z5 Y (.two (.agg Y Y Y Y JS (Qp<|Zu arL) arL (pwB<|arD fun _ => Y) (hns := (nsM fun _ => Y)))<|rb Y))
  ·
   refine Zh<|K3 0 1 4 Y<|Tr<|R_q (.agg<|List.map C42 (#v[0, 0, 0, 0, 0, 0, 0, 0, 0, 0, 0, 0, 0, 0, 0, 0, 0, 0, 0, 0, 0, 0, 0, 0, 0, 0, 0, 0, 0, 0, 0, 0, 0, 0, 0, 0, 0, 0, 0, 0, 0, 0, 0, 0, 0, 0, 0, 0, 0, 0, 0, 0, 0, 0, 0, 0, 0, 0, 0, 0, 0, 0, 0, 0] : Vector Int 64).toList) Y (ZeL (ys := [_, _, _, _, _, _, _, _, _, _, _, _, _, _, _, _, _, _, _, _, _, _, _, _, _, _, _, _, _, _, _, _, _, _, _, _, _, _, _, _, _, _, _, _, _, _, _, _, _, _, _, _, _, _, _, _, _, _, _, _, _, _, _, _]) Zba ZhC .nil Y)<|Rx Y (Qd (row := (List.map C42 (Vector.replicate 64 0).toList)) 1 Y ZhC Y tZ_44)<|Rx Y (Zk (ov Y) (ov Y) (ZB JS arL) Y Y Y (Zaq (Zu arL) arL) (Zb<|arC fun _ => Y)<|Jd<|Eq.trans arL<|Eq.symm arL)<|Za<|K4 0 1 4 6 Y<|Tr<|Rm Y<|bE h fun q h_q h=>Rq Y (Zbh (ov Y) (ov Y) h_q)<|Rq Y (Qx (ov Y) tI3 Zeb Y)<|Rm Y<|bE h fun q2 h_q2 h=>Rq Y (ZgX (ov Y) (ov Y) h_q2)<|Rq Y (Qx (ov Y) tI3 Zeb Y)<|bE h fun x h_x h=>Rq Y (ZaE (ov Y) (ov Y) Zba Y Y h_x)<|Rx Y (Zk (ov Y) (ov Y) (Ze Zb2) Y Y Y (arB h_x) (Zb Y)<|arS h_x)<|bE h fun x2 h_x2 h=>Rq Y (ZaE (ov Y) (ov Y) Zba Y Y h_x2)<|Rx Y (Zk (ov Y) (ov Y) (Ze Zb2) Y Y Y (arB h_x2) (Zb Y)<|arS h_x2)<|Za<|J1 (fun j => (.inr j)) (fun f=>⟨[(4, .ptr 0 1 0 0), (6, .ptr 1 1 0 0)], [some ⟨44, [(List.map C42 (Vector.replicate 64 0).toList)]⟩, some ⟨44, [(List.map C42 f.toList)]⟩]⟩) h (fun h=>?_) fun f h=>?_
   ·
    refine K3 1 4 6 Y<|Tr<|Rm Y<|Rl tZ_3 Xg Y<|Rm Y<|Za<|Zf<|?_
    obtain ⟨r1, hl1, ho1⟩ := Xm h
    refine L2 (fun f2 i=>⟨[(4, .ptr 0 1 0 0), (6, .ptr 1 1 0 0), (29, .sl 3 (List.map R3 data)), (30, .int .i64 (data.length : Int)), (31, .int .i64 i)], [some ⟨44, [(List.map C42 (Vector.replicate 64 0).toList)]⟩, some ⟨44, [(List.map C42 f2.toList)]⟩]⟩) hl1 (ES [some 0, some 1]) fun n1 f2 i h=>?_
    unfold Zer at h
    refine Tr<|R2 ZT Y<|Za<|Zg<|If h Y (fun h=>?_) fun h=>?_
    ·
     refine Zh<|Zg<|Zf<|K5 4 6 29 30 31 Y<|Tr<|Rm Y<|bE h fun x3 h_x3 h=>Rq Y (Qz (ov Y) (ov Y) Xg h_x3)<|Rq Y (Zi (ov Y) tS3 Y)<|Ra Y<|Ra Y<|Za<|Zg<|K7 4 6 7 8 29 30 31 Y<|Tr<|Rm Y<|R2 ZT Y<|Rm Y<|Rq Y (.guarded ((decide (x3 < 0)) == false) Y Y Y Y fun h => Zc<|ov Y)<|Rq Y (.guarded ((decide (x3 < 0)) == false) Y Y Y Y fun h => Zde (ow Y h)<|ov Y)<|Rq Y (Zgu (ov Y) fun hp=>ow Y<|gF hp)<|Za<|K8 4 6 7 8 29 30 31 41 Y<|If h Y (fun h=>?_) fun h=>?_
     ·
      refine K1 4 Y<|Tr<|R_q (.agg<|List.map C42 (#v[0, 0, 0, 0, 0, 0, 0, 0, 0, 0, 0, 0, 0, 0, 0, 0, 0, 0, 0, 0, 0, 0, 0, 0, 0, 0, 0, 0, 0, 0, 0, 0, 0, 0, 0, 0, 0, 0, 0, 0, 0, 0, 0, 0, 0, 0, 0, 0, 0, 0, 0, 0, 0, 0, 0, 0, 0, 0, 0, 0, 0, 0, 0, 0] : Vector Int 64).toList) Y (ZeL (ys := [_, _, _, _, _, _, _, _, _, _, _, _, _, _, _, _, _, _, _, _, _, _, _, _, _, _, _, _, _, _, _, _, _, _, _, _, _, _, _, _, _, _, _, _, _, _, _, _, _, _, _, _, _, _, _, _, _, _, _, _, _, _, _, _]) Zba ZhC .nil Y)<|Rx Y (Zk (ov Y) (ov Y) (ZB JS arL) Y Y Y (Zaq (Zu arL) arL) (Zb<|arC fun _ => Y)<|Jd<|Eq.trans arL<|Eq.symm arL)<|Ra Y<|Za<|?_
      replace h := lx h ▸ ho1
      obtain rfl := rt h
      exact Zp (Z5 Y (.two (.agg Y Y Y Y JS (Qp<|Zu arL) arL (pwB<|arD fun _ => Y) (hns := (nsM fun _ => Y)))<|rb Y))
     ·
      exact Zh<|K7 4 6 7 8 29 30 31 Y<|Zs<|Rm Y<|R2 ZU Y<|Rm Y<|Rq Y (Qx (ov Y) tI3 Zeb Y)<|bE h fun x4 h_x4 h=>Rq Y (ZaE (ov Y) (ov Y) Zba Y Y h_x4)<|Rx Y (Zk (ov Y) (ov Y) (Ze Zb2) Y Y Y (arB h_x4) (Zb Y)<|arS h_x4)<|Za<|K5 4 6 29 30 31 Y<|Zs<|R2 ZU Y<|Rm Y<|Za<|⟨_, h, ES [some 0, some 1]⟩
    ·
     refine ZM<|?_
     replace h := lx h ▸ ho1
     exact ⟨_, h, ES [some 0, some 1]⟩
   ·
    replace h := elr h
    replace h := t1i h
    refine Tr<|Rq Y (QD (ov Y) Y Y Y JS (Qp<|Zu arL) arL (hns := (nsM fun _ => Y)))<|bE h fun y h_y h=>Rq Y (Zt (ZjL h_y)<|.cons (ov Y) (.aggB<|arD fun _ => Y) .nil)<|Rx Y (Zk (ov Y) (ov Y) (ZB JS arL) Y Y Y (Zaq (Zu arL) arL) (Zb<|arC fun _ => Y)<|Jd<|Eq.trans arL<|Eq.symm arL)<|Ra Y<|Za<|?_
    obtain rfl := rt h
    exact Zp (Z5 Y (.two (.agg Y Y Y Y JS (Qp<|Zu arL) arL (pwB<|arD fun _ => Y) (hns := (nsM fun _ => Y)))<|rb Y))
theorem Zj8 {x : Int} {y : Int} {r : Int × Int} (h : ZdU x y = some r) :
 CSpec Tryd.prog gl0 84 [.int .u64 x, .int .u64 y] (.tuple [.int .u64 r.1, .int .u64 r.2]) := by
 unfold ZdU at h
 replace h := QO h
 refine So Tryd.func84 Y fun w0 A=>Tr<|Ra Y<|Ra Y<|Za<|K2 0 1 Y<|Tr<|Rm Y<|R2 ZbE Y<|Ra Y<|Za<|K3 0 1 6 Y<|Tr<|Rm Y<|bE h fun q h_q h=>Rq Y (Zbf (ov Y) (ov Y) h_q)<|Ra Y<|Za<|K4 0 1 6 7 Y<|Tr<|Rm Y<|R2 ZbE Y<|Ra Y<|Za<|K5 0 1 6 7 8 Y<|Tr<|Rm Y<|bE h fun q2 h_q2 h=>Rq Y (Zbf (ov Y) (ov Y) h_q2)<|Ra Y<|Za<|K6 0 1 6 7 8 9 Y<|Tr<|Rm Y<|Rm Y<|R2 ZgY Y<|Ra Y<|Za<|K7 0 1 6 7 8 9 10 Y<|Tr<|Rm Y<|Rm Y<|R2 ZgY Y<|Rm Y<|bE h fun q3 h_q3 h=>Rq Y (Zbf (ov Y) (ov Y) h_q3)<|R2 ZU Y<|Ra Y<|Za<|K6 0 1 6 7 9 11 Y<|Tr<|Rm Y<|R2 ZbE Y<|Ra Y<|Za<|K7 0 1 6 7 9 11 12 Y<|Tr<|Rm Y<|bE h fun q4 h_q4 h=>Rq Y (Zbf (ov Y) (ov Y) h_q4)<|Ra Y<|Za<|K7 0 1 6 7 9 12 13 Y<|Tr<|Rm Y<|Rm Y<|Rm Y<|R2 ZgY Y<|R2 ZU Y<|Ra Y<|Za<|K6 0 1 7 9 12 13 Y<|Tr<|Rm Y<|Rm Y<|R2 ZgY Y<|Rm Y<|R2 ZU Y<|Rm Y<|bE h fun q5 h_q5 h=>Rq Y (Zbf (ov Y) (ov Y) h_q5)<|R2 ZU Y<|Ra Y<|Za<|K3 0 1 4 Y<|Tr<|Rm Y<|Rm Y<|R2 ZgY Y<|Ra Y<|Za<|?_
 obtain rfl := rt h
 exact Zp (Z5 Y (.two (rb Y)<|rb Y))
theorem Zlc {x : Int} {y : Int} {r : Int × Int} (h : ZfN x y = some r) :
 CSpec Tryd.prog gl0 70 [.int .u64 x, .int .u64 y] (.tuple [.int .u64 r.1, .int .u64 r.2]) := by
 unfold ZfN at h
 replace h := QO h
 refine So Tryd.func70 Y fun w0 A=>Tr<|Ra Y<|Ra Y<|Za<|Zg<|Zpd<|Zh<|K2 0 1 Y<|Tr<|Rm Y<|Rm Y<|bE h fun y2 h_y2 h=>Rq Y (Zt (Zj8 h_y2)<|.cons (ov Y) (.b Y)<|.cons (ov Y) (.b Y) .nil)<|Rm Y<|Rq Y (Zm (ov Y) Y)<|Rq Y (Zm (ov Y) Y)<|Ra Y<|Ra Y<|Za<|K2 8 9 Y<|Tr<|Rm Y<|Rm Y<|Ra Y<|Ra Y<|Za<|?_
 obtain rfl := rt h
 exact Zp (Z5 Y (.two (rb Y)<|rb Y))
theorem Zj {x : List Int} {count : Int} {r : (List Int)} (h : Xb x count = some r) :
 GSpec Tryd.prog gl0 41 [.sl 5 (List.map R5 x), .int .i64 count] [] (.own 0 r.length) [some ⟨5, List.map R5 r⟩] := by
 unfold Xb at h
 replace h := QO h
 refine Q0 (by kernel_rfl) Tryd.func41 Y Y<|?_
 intro w0 A W φ0
 refine Tr<|Ra Y<|Za<|Zg<|K2 0 1 Y<|Tr<|Rm Y<|R2 ZT Y<|Za<|K3 0 1 10 Y<|If h Y (fun h=>?_) fun h=>?_
 ·
  exact (Zko h).elim
 ·
  refine Zh<|K2 0 1 Y<|Tr<|Rm Y<|Rl tZ_5 Xf Y<|Rq Y (Qx (ov Y) tI3 ZfQ Y)<|Rm Y<|Rq Y (Qx (ov Y) tI3 ZfQ Y)<|bE h fun y h_y h=>Rq Y (Zt (Zlc h_y)<|.cons (ov Y) (.b Y)<|.cons (ov Y) (.b Y) .nil)<|Rm Y<|Rq Y (Zm (ov Y) Y)<|Rq Y (Zm (ov Y) Y)<|Ra Y<|Ra Y<|Za<|Zg<|K3 0 5 6 Y<|Tr<|Rm Y<|R2 Zde Y<|Rm Y<|Rq Y (.guarded ((decide (0 < y.1)) == false) Y Y Y Y fun h => Zc<|ov Y)<|Rq Y (.guarded ((decide (0 < y.1)) == false) Y Y Y Y fun h => Zde (ow Y h)<|ov Y)<|Rq Y (Zgu (ov Y) fun hp=>ow Y<|gF hp)<|Za<|K3 0 6 26 Y<|If h Y (fun h=>?_) fun h=>?_
  ·
   exact (Zko h).elim
  ·
   refine Zh<|K2 0 6 Y<|Tr<|Rm Y<|Rq Y (Qx (ov Y) ZfQ tI3 Y)<|bE h fun l h_l h=>Rx Y (Zbq [none] (r := 0) (f := R5) (z0 := 0) Y (ov Y) (ov Y) Xf Y tZ5 Y Y h_l)<|Ra Y<|Za<|K2 0 7 Y<|Tr<|Rm Y<|Rm Y<|Rx Y (ZoK (f := R5) (g := C5) (xs := l) (ys := x) (ov Y) (Jb (ov Y) tZ_5) Y Y (fun _=>Y) (fun _=>Y) (fun _=>Y) Xf)<|Ra Y<|Za<|I1 (fun newslice=>⟨[(7, .own 0 newslice.length)], [some ⟨5, List.map R5 newslice⟩]⟩) h (fun h=>?_) fun newslice h=>?_
   ·
    refine Zf<|?_
    obtain ⟨r1, hl1, ho1⟩ := Xm h
    refine L2 (fun newslice2 n=>⟨[(7, .own 0 newslice2.length), (8, .int .i64 n)], [some ⟨5, List.map R5 newslice2⟩]⟩) hl1 (ES [some 0]<|sr 7 Y (Zds (Eq.symm<|(ZhM ..).trans Y) Y)<|sd 8 Y Y sn) fun n1 newslice2 n h=>?_
    unfold Xj at h
    refine Zg<|Tr<|Rm Y<|Rm Y<|Rq Y (Zfj (ov Y) Y Y Xf)<|R2 ZT Y<|Za<|K3 7 8 37 Y<|If h Y (fun h=>?_) fun h=>?_
    ·
     exact Zh<|Zf<|K2 7 8 Y<|QL (cw := md0) (by kernel_rfl)<|D1 1 Zc Y<|D1 2 Zc Y<|bE h fun u h_u h=>Dq 3 Y (ZpO (ov Y) Y Y Xf (oi<|ov Y) on h_u)<|D1 4 Zc Y<|D1 5 Zc Y<|bE h fun u2 h_u2 h=>Dq 6 Y (ZpO (ov Y) Y Y Xf on (oi<|ov Y) h_u2)<|ZZ 0 _ Y (by kernel_rfl) Y Y (fun hp'=>Zc<|ov Y)<|Do 7 Y (ZoT (g := C5) (ov Y) (ov Y) Y Y (fun _=>Y) (fun _=>Y) (fun _=>Y) Xf (ZkT h_u)<|ZkT h_u2)<|D2 8 ZU Y<|D1 9 QN Y<|Dd<|⟨_, h, ES [some 0]<|sr 7 Y (Zds (Eq.symm<|(Ze4 (ZkT h_u) (ZkT h_u2)).trans Y) Y)<|sd 8 Y Y sn⟩
    ·
     refine ZM<|?_
     replace h := lx h ▸ ho1
     exact ⟨_, h, ES [some 0]⟩
   ·
    refine Tr<|Rm Y<|Ra Y<|Za<|?_
    obtain rfl := rt h
    exact Zp<|Za0 [some 0] Y (.cons (.tmp Y) .nil) (.cons Y (roM D5) .nil) Y Y<|.own _ Y
theorem Zhp {sectors : Int} {slots : Int} {limit : Int} {r : api_Memory × Int} (h : ZaP sectors slots limit = some r) :
 CSpec Tryd.prog gl0 22 [.int .i64 sectors, .int .i64 slots, .int .i64 limit] (.tuple [.agg [.int .i64 r.1.Slots, .int .i64 r.1.Limit, .sl 29 (List.map R29 r.1.Sectors), .sl 3 (List.map R3 r.1.Wear), .sl 4 (List.map R4 r.1.Bad)], .int .i64 r.2]) := by
 unfold ZaP at h
 replace h := QO h
 refine So Tryd.func22 Y fun w0 A=>Tr<|Rx Y (Qd (row := [_, _, _, _, _]) 0 Y Zex Y tZ_60)<|Ra Y<|Za<|Zg<|K4 0 1 2 6 Y<|Tr<|Rm Y<|bE h fun y h_y h=>Rq Y (Zt (QQ h_y)<|.cons (ov Y) (.b Y)<|.cons (ov Y) (.b Y)<|.cons (ov Y) (.b Y) .nil)<|R1 J9 Y<|Rm Y<|Rq Y (.guarded ((!y) == false) Y Y Y Y fun h => Zc<|ov Y)<|bE h fun y2 h_y2 h=>Rq Y (.guarded ((!y) == false) Y Y Y Y fun h => Zt (QQ<|gdT h_y2 h)<|.cons (ow Y h) (.b Y)<|.cons (ov Y) (.b Y)<|.cons (ov Y) (.b Y) .nil)<|Rq Y (.guarded ((!y) == false) Y Y Y Y fun h => J9<|ow Y h)<|Rq Y (Zgu (ov Y) fun hp=>ow Y<|gF hp)<|Rm Y<|Rq Y (.guarded (((!y) || (!y2)) == false) Y Y Y Y fun h => Zc<|ov Y)<|bE h fun y3 h_y3 h=>Rq Y (.guarded (((!y) || (!y2)) == false) Y Y Y Y fun h => Zt (QQ<|gdT h_y3 h)<|.cons (ow Y h) (.b Y)<|.cons (ov Y) (.b Y)<|.cons (ov Y) (.b Y) .nil)<|Rq Y (.guarded (((!y) || (!y2)) == false) Y Y Y Y fun h => J9<|ow Y h)<|Rq Y (Zgu (ov Y) fun hp=>ow Y<|gF hp)<|Za<|K5 0 1 2 6 21 Y<|If h Y (fun h=>?_) fun h=>?_
 ·
  refine K1 6 Y<|Tr<|Rq Y (JG (ys := [_, _, _, _, _]) Zjz Zjt Zex .nil Y)<|Rx Y (Zk (ov Y) (ov Y) (ZB Zax Y) Y Y Y (Nat.le_of_ble_eq_true Y) (Zb Y) Y)<|Ra Y<|Za<|?_
  obtain rfl := rt h
  exact Zp (Z5 Y (.two (.agg Y Y Y Y Zax Y Y<|.cons (Dat.view<|.b Y)<|.cons (Dat.view<|.b Y)<|.cons (View.nils 29)<|.cons (View.nils 3)<|.cons (View.nils 4) .nil)<|rb Y))
 ·
  refine Zh<|I2 (fun Wear Bad=>⟨[(0, .int .i64 sectors), (1, .int .i64 slots), (6, .ptr 0 1 0 0), (8, .ptr 1 1 0 0)], [some ⟨60, [[.int .i64 0, .int .i64 0, .nils, .nils, .nils]]⟩, some ⟨60, [[.int .i64 slots, .int .i64 limit, .nils, .own 2 Wear.length, .own 3 Bad.length]]⟩, some ⟨3, List.map R3 Wear⟩, some ⟨4, List.map R4 Bad⟩]⟩) h (fun h=>?_) fun Wear Bad h=>?_
  ·
   refine K4 0 1 2 6 Y<|QL (cw := md0) (by kernel_rfl)<|ZZ 0 _ Y (by kernel_rfl) Y Y (fun hp'=>Zc<|ov Y)<|ZZ 1 _ Y (by kernel_rfl) Y Y (fun hp'=>Zc<|ov Y)<|ZZ 2 _ Y (by kernel_rfl) Y Y (fun hp'=>Zc<|ov Y)<|ZZ 4 _ Y (by kernel_rfl) Y Y (fun hp'=>Zc<|ov Y)<|bE h fun l h_l h=>bE h fun l2 h_l2 h=>Zl1 [3, 5, 7] (by kernel_rfl)<|.w Y Y Y (fun _=>Ext.app) (fun h=>by cases h) (Zbq [none] (r := 1) (f := R3) (z0 := 0) Y (ov Y) (ov Y) Xg Y tZ3 Y Y h_l) ?_<|.w Y Y Y (fun _=>Ext.app) (fun h=>by cases h) (Zbq [none] (r := 1) (f := R4) (z0 := false) Y (ov Y) (ov Y) Zj0 Y tZ4 Y Y h_l2) ?_<|.w Y Y Y (fun _=>Ext.app) (fun h=>by cases h) (Qd (row := [_, _, _, _, _]) 1 Y Zex Y tZ_60) ?_ .nil
   ·
    refine ZmC 5 7 Y Y (by kernel_rfl) Y Y Y Y (fun _=>Ext.app) (fun _=>Ext.app) (fun h=>by cases h) (fun h=>by cases h) (Zbq [none] (r := 2) (f := R4) (z0 := false) Y (ov Y) (ov Y) Zj0 Y tZ4 Y Y h_l2) (Qd (row := [_, _, _, _, _]) 2 Y Zex Y tZ_60) ?_ ?_
    ·
     exact ZZ 6 _ Y (by kernel_rfl) Y Y (fun hp'=>JG (ys := [_, _, _, _, _]) Zjz Zjt Zex (.cons (cvs (ov Y)<|Zn Y)<|.cons (cvs (ov Y)<|Zn Y)<|.cons (cvs (ov Y)<|Zn Y)<|.cons (cvs (ov Y)<|Zn Y) .nil) Y)<|Zaj 7 _ _ Y (by kernel_rfl) Y Y (fun _=>Ext.app) (fun h=>by cases h) (Qd (row := [_, _, _, _, _]) 3 Y Zex Y tZ_60)<|Do 8 Y (Zk (ov Y) (ov Y) (ZB Zax Y) Y Y Y (Nat.le_of_ble_eq_true Y) (Zb Y) Y)<|Dd<|⟨_, h, ES [some 0, some 3, some 1, some 2]⟩
    ·
     exact Zaj 5 _ _ Y (by kernel_rfl) Y Y (fun _=>Ext.app) (fun h=>by cases h) (Zbq [none] (r := 3) (f := R4) (z0 := false) Y (ov Y) (ov Y) Zj0 Y tZ4 Y Y h_l2)<|Dq 6 Y (JG (ys := [_, _, _, _, _]) Zjz Zjt Zex (.cons (cvs (ov Y)<|Zn Y)<|.cons (cvs (ov Y)<|Zn Y)<|.cons (cvs (ov Y)<|Zn Y)<|.cons (cvs (ov Y)<|Zn Y) .nil) Y)<|Do 8 Y (Zk (ov Y) (ov Y) (ZB Zax Y) Y Y Y (Nat.le_of_ble_eq_true Y) (Zb Y) Y)<|Dd<|⟨_, h, ES [some 0, some 2, some 1, some 3]⟩
   ·
    refine ZmC 3 7 Y Y (by kernel_rfl) Y Y Y Y (fun _=>Ext.app) (fun _=>Ext.app) (fun h=>by cases h) (fun h=>by cases h) (Zbq [none] (r := 2) (f := R3) (z0 := 0) Y (ov Y) (ov Y) Xg Y tZ3 Y Y h_l) (Qd (row := [_, _, _, _, _]) 2 Y Zex Y tZ_60) ?_ ?_
    ·
     exact ZZ 6 _ Y (by kernel_rfl) Y Y (fun hp'=>JG (ys := [_, _, _, _, _]) Zjz Zjt Zex (.cons (cvs (ov Y)<|Zn Y)<|.cons (cvs (ov Y)<|Zn Y)<|.cons (cvs (ov Y)<|Zn Y)<|.cons (cvs (ov Y)<|Zn Y) .nil) Y)<|Zaj 7 _ _ Y (by kernel_rfl) Y Y (fun _=>Ext.app) (fun h=>by cases h) (Qd (row := [_, _, _, _, _]) 3 Y Zex Y tZ_60)<|Do 8 Y (Zk (ov Y) (ov Y) (ZB Zax Y) Y Y Y (Nat.le_of_ble_eq_true Y) (Zb Y) Y)<|Dd<|⟨_, h, ES [some 0, some 3, some 2, some 1]⟩
    ·
     exact Zaj 3 _ _ Y (by kernel_rfl) Y Y (fun _=>Ext.app) (fun h=>by cases h) (Zbq [none] (r := 3) (f := R3) (z0 := 0) Y (ov Y) (ov Y) Xg Y tZ3 Y Y h_l)<|Dq 6 Y (JG (ys := [_, _, _, _, _]) Zjz Zjt Zex (.cons (cvs (ov Y)<|Zn Y)<|.cons (cvs (ov Y)<|Zn Y)<|.cons (cvs (ov Y)<|Zn Y)<|.cons (cvs (ov Y)<|Zn Y) .nil) Y)<|Do 8 Y (Zk (ov Y) (ov Y) (ZB Zax Y) Y Y Y (Nat.le_of_ble_eq_true Y) (Zb Y) Y)<|Dd<|⟨_, h, ES [some 0, some 2, some 3, some 1]⟩
   ·
    refine ZmC 3 5 Y Y (by kernel_rfl) Y Y Y Y (fun _=>Ext.app) (fun _=>Ext.app) (fun h=>by cases h) (fun h=>by cases h) (Zbq [none] (r := 2) (f := R3) (z0 := 0) Y (ov Y) (ov Y) Xg Y tZ3 Y Y h_l) (Zbq [none] (r := 2) (f := R4) (z0 := false) Y (ov Y) (ov Y) Zj0 Y tZ4 Y Y h_l2) ?_ ?_
    ·
     exact Zaj 5 _ _ Y (by kernel_rfl) Y Y (fun _=>Ext.app) (fun h=>by cases h) (Zbq [none] (r := 3) (f := R4) (z0 := false) Y (ov Y) (ov Y) Zj0 Y tZ4 Y Y h_l2)<|Dq 6 Y (JG (ys := [_, _, _, _, _]) Zjz Zjt Zex (.cons (cvs (ov Y)<|Zn Y)<|.cons (cvs (ov Y)<|Zn Y)<|.cons (cvs (ov Y)<|Zn Y)<|.cons (cvs (ov Y)<|Zn Y) .nil) Y)<|Do 8 Y (Zk (ov Y) (ov Y) (ZB Zax Y) Y Y Y (Nat.le_of_ble_eq_true Y) (Zb Y) Y)<|Dd<|⟨_, h, ES [some 0, some 1, some 2, some 3]⟩
    ·
     exact Zaj 3 _ _ Y (by kernel_rfl) Y Y (fun _=>Ext.app) (fun h=>by cases h) (Zbq [none] (r := 3) (f := R3) (z0 := 0) Y (ov Y) (ov Y) Xg Y tZ3 Y Y h_l)<|Dq 6 Y (JG (ys := [_, _, _, _, _]) Zjz Zjt Zex (.cons (cvs (ov Y)<|Zn Y)<|.cons (cvs (ov Y)<|Zn Y)<|.cons (cvs (ov Y)<|Zn Y)<|.cons (cvs (ov Y)<|Zn Y) .nil) Y)<|Do 8 Y (Zk (ov Y) (ov Y) (ZB Zax Y) Y Y Y (Nat.le_of_ble_eq_true Y) (Zb Y) Y)<|Dd<|⟨_, h, ES [some 0, some 1, some 3, some 2]⟩
  ·
   refine I1 (fun Sectors=>⟨[(6, .ptr 0 1 0 0), (8, .ptr 1 1 0 0)], [some ⟨60, [[.int .i64 0, .int .i64 0, .nils, .nils, .nils]]⟩, some ⟨60, [[.int .i64 slots, .int .i64 limit, .own 2 Sectors.length, .own 3 Wear.length, .own 4 Bad.length]]⟩, some ⟨29, List.map O29 Sectors⟩, some ⟨3, List.map R3 Wear⟩, some ⟨4, List.map R4 Bad⟩]⟩) h (fun h=>?_) fun Sectors h=>?_
   ·
    refine Tr<|Rm Y<|Rm Y<|Za<|Zf<|?_
    obtain ⟨r1, hl1, ho1⟩ := Xm h
    refine L2 (fun Sectors2 i=>⟨[(1, .int .i64 slots), (6, .ptr 0 1 0 0), (8, .ptr 1 1 0 0), (30, .int .i64 sectors), (31, .int .i64 i)], [some ⟨60, [[.int .i64 0, .int .i64 0, .nils, .nils, .nils]]⟩, some ⟨60, [[.int .i64 slots, .int .i64 limit, .own 2 Sectors2.length, .own 3 Wear.length, .own 4 Bad.length]]⟩, some ⟨29, List.map O29 Sectors2⟩, some ⟨3, List.map R3 Wear⟩, some ⟨4, List.map R4 Bad⟩]⟩) hl1 (ES [some 0, some 1, none, some 2, some 3]) fun n1 Sectors2 i h=>?_
    unfold ZaK at h
    refine Tr<|R2 ZT Y<|Za<|Zg<|If h Y (fun h=>?_) fun h=>?_
    ·
     refine Zh<|I1 (fun Sectors3=>⟨[(1, .int .i64 slots), (6, .ptr 0 1 0 0), (8, .ptr 1 1 0 0), (30, .int .i64 sectors), (31, .int .i64 i)], [some ⟨60, [[.int .i64 0, .int .i64 0, .nils, .nils, .nils]]⟩, some ⟨60, [[.int .i64 slots, .int .i64 limit, .own 2 Sectors3.length, .own 3 Wear.length, .own 4 Bad.length]]⟩, some ⟨29, List.map O29 Sectors3⟩, some ⟨3, List.map R3 Wear⟩, some ⟨4, List.map R4 Bad⟩]⟩) h (fun h=>?_) fun Sectors3 h=>?_
     ·
      refine Zf<|K5 1 6 8 30 31 Y<|QL (cw := ⟨true, false, [], [], []⟩) (by kernel_rfl)<|ZZ 3 _ Y (by kernel_rfl) Y Y (fun hp'=>Zc<|ov Y)<|bE h fun y4 h_y4 h=>Zl1 [0, 2, 4] (by kernel_rfl)<|.q Y Y Y (Zd (ov Y) Y Y ZQ) ?_<|.w Y Y Y (fun h=>by cases h) (fun h=>by cases h) (Jz<|Zae Xf (.cons (cvs (ov Y)<|Zn Y) Y (.cons (.b Y) .nil) .nil) Y Y) ?_<|.w Y Y Y (fun h=>by cases h) (fun h=>by cases h) (Jz<|Zt (Qa h_y4)<|.cons (ov Y) (.b Y) .nil) ?_ .nil
      ·
       refine Zl1 [1, 2, 4] (by kernel_rfl)<|.q Y Y Y (Zv (ov Y) Y Y Y QH Y) ?_<|.w Y Y Y (fun h=>by cases h) (fun h=>by cases h) (Jz<|Zae Xf (.cons (cvs (ov Y)<|Zn Y) Y (.cons (.b Y) .nil) .nil) Y Y) ?_<|.w Y Y Y (fun h=>by cases h) (fun h=>by cases h) (Jz<|Zt (Qa h_y4)<|.cons (ov Y) (.b Y) .nil) ?_ .nil
       ·
        refine ZmC 2 4 Y Y (by kernel_rfl) Y Y Y Y (fun h=>by cases h) (fun h=>by cases h) (fun h=>by cases h) (fun h=>by cases h) (Jz<|Zae Xf (.cons (cvs (ov Y)<|Zn Y) Y (.cons (.b Y) .nil) .nil) Y Y) (Jz<|Zt (Qa h_y4)<|.cons (ov Y) (.b Y) .nil) ?_ ?_
        ·
         exact Do 4 Y (Jz<|Zt (Qa h_y4)<|.cons (ov Y) (.b Y) .nil)<|bE h fun y5 h_y5 h=>Do 5 Y (ZE [] (Zj h_y5) (.cons (ov Y) (.dat Y)<|.cons (ov Y) (.dat Y) .nil) .nil Y (.keep Y Y<|.keep Y Y<|.keep Y Y<|.keep Y Y<|.keep Y Y<|.lent 0 (.inr ⟨Nat.le_of_ble_eq_true Y, Y⟩) Y (roM D5) .nil) Y Y<|.own _<|.inr ⟨Nat.le_of_ble_eq_true Y, Y⟩)<|Do 6 Y (Q3 (r := 6) Y Qo (.cons (cvs (ov Y)<|Zn Y) Y .nil) Y Y)<|bE h fun l3 h_l3 h=>Do 7 Y (ZP (f := O29) (ov Y) (Qf (o := ⟨29, [[.own 5 y5.length]]⟩) (ov Y) Y Y tZ_29) Qo Y Y (Zb Y) Y h_l3)<|Dq 8 Y (Zd (ov Y) Y Y ZQ)<|Do 9 Y (Zk (ov Y) (ov Y) (Ze QH) Y Y Y (Nat.le_of_ble_eq_true Y) (Zb Y) Y)<|Qg (by kernel_rfl) (Ent.trans (Ent.absorbH (r := 2) (j := 0) (q := 5) Y (Zo h_l3) Y Y (List.length_map ..) Y)<|Ent.closeS (r := 2) Y (Zo h_l3) Y)<|⟨_, h, ES [some 0, some 1, some 2, some 3, some 4] (hhp := .cons Y (ro1 (by exact tZ_60.symm)<|rld Y)<|.cons Y (ro1 (by exact tZ_60.symm)<|rlc (.dat Y)<|rlc (.dat Y)<|rlc (.own _ Y)<|rlc (.own _ Y)<|rlc (.own _ Y) rln)<|.cons Y (roO Jo)<|.cons Y (roM D3)<|.cons Y (roM D4) .nil)⟩
        ·
         exact Zaj 2 (.sl 5<|List.map R5 ([255] : List Int)) _ Y (by kernel_rfl) Y Y (fun h=>by cases h) (fun h=>by cases h) (Jz<|Zae Xf (.cons (cvs (ov Y)<|Zn Y) Y (.cons (.b Y) .nil) .nil) Y Y)<|bE h fun y5 h_y5 h=>Do 5 Y (ZE [] (Zj h_y5) (.cons (ov Y) (.dat Y)<|.cons (ov Y) (.dat Y) .nil) .nil Y (.keep Y Y<|.keep Y Y<|.keep Y Y<|.keep Y Y<|.keep Y Y<|.lent 0 (.inr ⟨Nat.le_of_ble_eq_true Y, Y⟩) Y (roM D5) .nil) Y Y<|.own _<|.inr ⟨Nat.le_of_ble_eq_true Y, Y⟩)<|Do 6 Y (Q3 (r := 6) Y Qo (.cons (cvs (ov Y)<|Zn Y) Y .nil) Y Y)<|bE h fun l3 h_l3 h=>Do 7 Y (ZP (f := O29) (ov Y) (Qf (o := ⟨29, [[.own 5 y5.length]]⟩) (ov Y) Y Y tZ_29) Qo Y Y (Zb Y) Y h_l3)<|Dq 8 Y (Zd (ov Y) Y Y ZQ)<|Do 9 Y (Zk (ov Y) (ov Y) (Ze QH) Y Y Y (Nat.le_of_ble_eq_true Y) (Zb Y) Y)<|Qg (by kernel_rfl) (Ent.trans (Ent.absorbH (r := 2) (j := 0) (q := 5) Y (Zo h_l3) Y Y (List.length_map ..) Y)<|Ent.closeS (r := 2) Y (Zo h_l3) Y)<|⟨_, h, ES [some 0, some 1, some 2, some 3, some 4] (hhp := .cons Y (ro1 (by exact tZ_60.symm)<|rld Y)<|.cons Y (ro1 (by exact tZ_60.symm)<|rlc (.dat Y)<|rlc (.dat Y)<|rlc (.own _ Y)<|rlc (.own _ Y)<|rlc (.own _ Y) rln)<|.cons Y (roO Jo)<|.cons Y (roM D3)<|.cons Y (roM D4) .nil)⟩
       ·
        refine Dw 1 4 Y (Zv (ov Y) Y Y Y QH Y) (Jz<|Zt (Qa h_y4)<|.cons (ov Y) (.b Y) .nil) ?_ ?_
        ·
         exact Do 4 Y (Jz<|Zt (Qa h_y4)<|.cons (ov Y) (.b Y) .nil)<|bE h fun y5 h_y5 h=>Do 5 Y (ZE [] (Zj h_y5) (.cons (ov Y) (.dat Y)<|.cons (ov Y) (.dat Y) .nil) .nil Y (.keep Y Y<|.keep Y Y<|.keep Y Y<|.keep Y Y<|.keep Y Y<|.lent 0 (.inr ⟨Nat.le_of_ble_eq_true Y, Y⟩) Y (roM D5) .nil) Y Y<|.own _<|.inr ⟨Nat.le_of_ble_eq_true Y, Y⟩)<|Do 6 Y (Q3 (r := 6) Y Qo (.cons (cvs (ov Y)<|Zn Y) Y .nil) Y Y)<|bE h fun l3 h_l3 h=>Do 7 Y (ZP (f := O29) (ov Y) (Qf (o := ⟨29, [[.own 5 y5.length]]⟩) (ov Y) Y Y tZ_29) Qo Y Y (Zb Y) Y h_l3)<|Dq 8 Y (Zd (ov Y) Y Y ZQ)<|Do 9 Y (Zk (ov Y) (ov Y) (Ze QH) Y Y Y (Nat.le_of_ble_eq_true Y) (Zb Y) Y)<|Qg (by kernel_rfl) (Ent.trans (Ent.absorbH (r := 2) (j := 0) (q := 5) Y (Zo h_l3) Y Y (List.length_map ..) Y)<|Ent.closeS (r := 2) Y (Zo h_l3) Y)<|⟨_, h, ES [some 0, some 1, some 2, some 3, some 4] (hhp := .cons Y (ro1 (by exact tZ_60.symm)<|rld Y)<|.cons Y (ro1 (by exact tZ_60.symm)<|rlc (.dat Y)<|rlc (.dat Y)<|rlc (.own _ Y)<|rlc (.own _ Y)<|rlc (.own _ Y) rln)<|.cons Y (roO Jo)<|.cons Y (roM D3)<|.cons Y (roM D4) .nil)⟩
        ·
         refine bE h fun y5 h_y5 h=>Dw 1 5 Y (Zv (ov Y) Y Y Y QH Y) (ZE [] (Zj h_y5) (.cons (ov Y) (.dat Y)<|.cons (ov Y) (.dat Y) .nil) .nil Y (.keep Y Y<|.keep Y Y<|.keep Y Y<|.keep Y Y<|.keep Y Y<|.lent 0 (.inr ⟨Nat.le_of_ble_eq_true Y, Y⟩) Y (roM D5) .nil) Y Y<|.own _<|.inr ⟨Nat.le_of_ble_eq_true Y, Y⟩) ?_ ?_
         ·
          exact Do 5 Y (ZE [] (Zj h_y5) (.cons (ov Y) (.dat Y)<|.cons (ov Y) (.dat Y) .nil) .nil Y (.keep Y Y<|.keep Y Y<|.keep Y Y<|.keep Y Y<|.keep Y Y<|.lent 0 (.inr ⟨Nat.le_of_ble_eq_true Y, Y⟩) Y (roM D5) .nil) Y Y<|.own _<|.inr ⟨Nat.le_of_ble_eq_true Y, Y⟩)<|Do 6 Y (Q3 (r := 6) Y Qo (.cons (cvs (ov Y)<|Zn Y) Y .nil) Y Y)<|bE h fun l3 h_l3 h=>Do 7 Y (ZP (f := O29) (ov Y) (Qf (o := ⟨29, [[.own 5 y5.length]]⟩) (ov Y) Y Y tZ_29) Qo Y Y (Zb Y) Y h_l3)<|Dq 8 Y (Zd (ov Y) Y Y ZQ)<|Do 9 Y (Zk (ov Y) (ov Y) (Ze QH) Y Y Y (Nat.le_of_ble_eq_true Y) (Zb Y) Y)<|Qg (by kernel_rfl) (Ent.trans (Ent.absorbH (r := 2) (j := 0) (q := 5) Y (Zo h_l3) Y Y (List.length_map ..) Y)<|Ent.closeS (r := 2) Y (Zo h_l3) Y)<|⟨_, h, ES [some 0, some 1, some 2, some 3, some 4] (hhp := .cons Y (ro1 (by exact tZ_60.symm)<|rld Y)<|.cons Y (ro1 (by exact tZ_60.symm)<|rlc (.dat Y)<|rlc (.dat Y)<|rlc (.own _ Y)<|rlc (.own _ Y)<|rlc (.own _ Y) rln)<|.cons Y (roO Jo)<|.cons Y (roM D3)<|.cons Y (roM D4) .nil)⟩
         ·
          refine Dw 1 6 Y (Zv (ov Y) Y Y Y QH Y) (Q3 (r := 6) Y Qo (.cons (cvs (ov Y)<|Zn Y) Y .nil) Y Y) ?_ ?_
          ·
           exact Do 6 Y (Q3 (r := 6) Y Qo (.cons (cvs (ov Y)<|Zn Y) Y .nil) Y Y)<|bE h fun l3 h_l3 h=>Do 7 Y (ZP (f := O29) (ov Y) (Qf (o := ⟨29, [[.own 5 y5.length]]⟩) (ov Y) Y Y tZ_29) Qo Y Y (Zb Y) Y h_l3)<|Dq 8 Y (Zd (ov Y) Y Y ZQ)<|Do 9 Y (Zk (ov Y) (ov Y) (Ze QH) Y Y Y (Nat.le_of_ble_eq_true Y) (Zb Y) Y)<|Qg (by kernel_rfl) (Ent.trans (Ent.absorbH (r := 2) (j := 0) (q := 5) Y (Zo h_l3) Y Y (List.length_map ..) Y)<|Ent.closeS (r := 2) Y (Zo h_l3) Y)<|⟨_, h, ES [some 0, some 1, some 2, some 3, some 4] (hhp := .cons Y (ro1 (by exact tZ_60.symm)<|rld Y)<|.cons Y (ro1 (by exact tZ_60.symm)<|rlc (.dat Y)<|rlc (.dat Y)<|rlc (.own _ Y)<|rlc (.own _ Y)<|rlc (.own _ Y) rln)<|.cons Y (roO Jo)<|.cons Y (roM D3)<|.cons Y (roM D4) .nil)⟩
          ·
           exact Dq 1 Y (Zv (ov Y) Y Y Y QH Y)<|bE h fun l3 h_l3 h=>Do 7 Y (ZP (f := O29) (ov Y) (Qf (o := ⟨29, [[.own 5 y5.length]]⟩) (ov Y) Y Y tZ_29) Qo Y Y (Zb Y) Y h_l3)<|Dq 8 Y (Zd (ov Y) Y Y ZQ)<|Do 9 Y (Zk (ov Y) (ov Y) (Ze QH) Y Y Y (Nat.le_of_ble_eq_true Y) (Zb Y) Y)<|Qg (by kernel_rfl) (Ent.trans (Ent.absorbH (r := 2) (j := 0) (q := 5) Y (Zo h_l3) Y Y (List.length_map ..) Y)<|Ent.closeS (r := 2) Y (Zo h_l3) Y)<|⟨_, h, ES [some 0, some 1, some 2, some 3, some 4] (hhp := .cons Y (ro1 (by exact tZ_60.symm)<|rld Y)<|.cons Y (ro1 (by exact tZ_60.symm)<|rlc (.dat Y)<|rlc (.dat Y)<|rlc (.own _ Y)<|rlc (.own _ Y)<|rlc (.own _ Y) rln)<|.cons Y (roO Jo)<|.cons Y (roM D3)<|.cons Y (roM D4) .nil)⟩
       ·
        refine Dw 1 2 Y (Zv (ov Y) Y Y Y QH Y) (Jz<|Zae Xf (.cons (cvs (ov Y)<|Zn Y) Y (.cons (.b Y) .nil) .nil) Y Y) ?_ ?_
        ·
         exact Zaj 2 (.sl 5<|List.map R5 ([255] : List Int)) _ Y (by kernel_rfl) Y Y (fun h=>by cases h) (fun h=>by cases h) (Jz<|Zae Xf (.cons (cvs (ov Y)<|Zn Y) Y (.cons (.b Y) .nil) .nil) Y Y)<|bE h fun y5 h_y5 h=>Do 5 Y (ZE [] (Zj h_y5) (.cons (ov Y) (.dat Y)<|.cons (ov Y) (.dat Y) .nil) .nil Y (.keep Y Y<|.keep Y Y<|.keep Y Y<|.keep Y Y<|.keep Y Y<|.lent 0 (.inr ⟨Nat.le_of_ble_eq_true Y, Y⟩) Y (roM D5) .nil) Y Y<|.own _<|.inr ⟨Nat.le_of_ble_eq_true Y, Y⟩)<|Do 6 Y (Q3 (r := 6) Y Qo (.cons (cvs (ov Y)<|Zn Y) Y .nil) Y Y)<|bE h fun l3 h_l3 h=>Do 7 Y (ZP (f := O29) (ov Y) (Qf (o := ⟨29, [[.own 5 y5.length]]⟩) (ov Y) Y Y tZ_29) Qo Y Y (Zb Y) Y h_l3)<|Dq 8 Y (Zd (ov Y) Y Y ZQ)<|Do 9 Y (Zk (ov Y) (ov Y) (Ze QH) Y Y Y (Nat.le_of_ble_eq_true Y) (Zb Y) Y)<|Qg (by kernel_rfl) (Ent.trans (Ent.absorbH (r := 2) (j := 0) (q := 5) Y (Zo h_l3) Y Y (List.length_map ..) Y)<|Ent.closeS (r := 2) Y (Zo h_l3) Y)<|⟨_, h, ES [some 0, some 1, some 2, some 3, some 4] (hhp := .cons Y (ro1 (by exact tZ_60.symm)<|rld Y)<|.cons Y (ro1 (by exact tZ_60.symm)<|rlc (.dat Y)<|rlc (.dat Y)<|rlc (.own _ Y)<|rlc (.own _ Y)<|rlc (.own _ Y) rln)<|.cons Y (roO Jo)<|.cons Y (roM D3)<|.cons Y (roM D4) .nil)⟩
        ·
         refine bE h fun y5 h_y5 h=>Dw 1 5 Y (Zv (ov Y) Y Y Y QH Y) (ZE [] (Zj h_y5) (.cons (ov Y) (.dat Y)<|.cons (ov Y) (.dat Y) .nil) .nil Y (.keep Y Y<|.keep Y Y<|.keep Y Y<|.keep Y Y<|.keep Y Y<|.lent 0 (.inr ⟨Nat.le_of_ble_eq_true Y, Y⟩) Y (roM D5) .nil) Y Y<|.own _<|.inr ⟨Nat.le_of_ble_eq_true Y, Y⟩) ?_ ?_
         ·
          exact Do 5 Y (ZE [] (Zj h_y5) (.cons (ov Y) (.dat Y)<|.cons (ov Y) (.dat Y) .nil) .nil Y (.keep Y Y<|.keep Y Y<|.keep Y Y<|.keep Y Y<|.keep Y Y<|.lent 0 (.inr ⟨Nat.le_of_ble_eq_true Y, Y⟩) Y (roM D5) .nil) Y Y<|.own _<|.inr ⟨Nat.le_of_ble_eq_true Y, Y⟩)<|Do 6 Y (Q3 (r := 6) Y Qo (.cons (cvs (ov Y)<|Zn Y) Y .nil) Y Y)<|bE h fun l3 h_l3 h=>Do 7 Y (ZP (f := O29) (ov Y) (Qf (o := ⟨29, [[.own 5 y5.length]]⟩) (ov Y) Y Y tZ_29) Qo Y Y (Zb Y) Y h_l3)<|Dq 8 Y (Zd (ov Y) Y Y ZQ)<|Do 9 Y (Zk (ov Y) (ov Y) (Ze QH) Y Y Y (Nat.le_of_ble_eq_true Y) (Zb Y) Y)<|Qg (by kernel_rfl) (Ent.trans (Ent.absorbH (r := 2) (j := 0) (q := 5) Y (Zo h_l3) Y Y (List.length_map ..) Y)<|Ent.closeS (r := 2) Y (Zo h_l3) Y)<|⟨_, h, ES [some 0, some 1, some 2, some 3, some 4] (hhp := .cons Y (ro1 (by exact tZ_60.symm)<|rld Y)<|.cons Y (ro1 (by exact tZ_60.symm)<|rlc (.dat Y)<|rlc (.dat Y)<|rlc (.own _ Y)<|rlc (.own _ Y)<|rlc (.own _ Y) rln)<|.cons Y (roO Jo)<|.cons Y (roM D3)<|.cons Y (roM D4) .nil)⟩
         ·
          refine Dw 1 6 Y (Zv (ov Y) Y Y Y QH Y) (Q3 (r := 6) Y Qo (.cons (cvs (ov Y)<|Zn Y) Y .nil) Y Y) ?_ ?_
          ·
           exact Do 6 Y (Q3 (r := 6) Y Qo (.cons (cvs (ov Y)<|Zn Y) Y .nil) Y Y)<|bE h fun l3 h_l3 h=>Do 7 Y (ZP (f := O29) (ov Y) (Qf (o := ⟨29, [[.own 5 y5.length]]⟩) (ov Y) Y Y tZ_29) Qo Y Y (Zb Y) Y h_l3)<|Dq 8 Y (Zd (ov Y) Y Y ZQ)<|Do 9 Y (Zk (ov Y) (ov Y) (Ze QH) Y Y Y (Nat.le_of_ble_eq_true Y) (Zb Y) Y)<|Qg (by kernel_rfl) (Ent.trans (Ent.absorbH (r := 2) (j := 0) (q := 5) Y (Zo h_l3) Y Y (List.length_map ..) Y)<|Ent.closeS (r := 2) Y (Zo h_l3) Y)<|⟨_, h, ES [some 0, some 1, some 2, some 3, some 4] (hhp := .cons Y (ro1 (by exact tZ_60.symm)<|rld Y)<|.cons Y (ro1 (by exact tZ_60.symm)<|rlc (.dat Y)<|rlc (.dat Y)<|rlc (.own _ Y)<|rlc (.own _ Y)<|rlc (.own _ Y) rln)<|.cons Y (roO Jo)<|.cons Y (roM D3)<|.cons Y (roM D4) .nil)⟩
          ·
           exact Dq 1 Y (Zv (ov Y) Y Y Y QH Y)<|bE h fun l3 h_l3 h=>Do 7 Y (ZP (f := O29) (ov Y) (Qf (o := ⟨29, [[.own 5 y5.length]]⟩) (ov Y) Y Y tZ_29) Qo Y Y (Zb Y) Y h_l3)<|Dq 8 Y (Zd (ov Y) Y Y ZQ)<|Do 9 Y (Zk (ov Y) (ov Y) (Ze QH) Y Y Y (Nat.le_of_ble_eq_true Y) (Zb Y) Y)<|Qg (by kernel_rfl) (Ent.trans (Ent.absorbH (r := 2) (j := 0) (q := 5) Y (Zo h_l3) Y Y (List.length_map ..) Y)<|Ent.closeS (r := 2) Y (Zo h_l3) Y)<|⟨_, h, ES [some 0, some 1, some 2, some 3, some 4] (hhp := .cons Y (ro1 (by exact tZ_60.symm)<|rld Y)<|.cons Y (ro1 (by exact tZ_60.symm)<|rlc (.dat Y)<|rlc (.dat Y)<|rlc (.own _ Y)<|rlc (.own _ Y)<|rlc (.own _ Y) rln)<|.cons Y (roO Jo)<|.cons Y (roM D3)<|.cons Y (roM D4) .nil)⟩
      ·
       refine Dw 0 4 Y (Zd (ov Y) Y Y ZQ) (Jz<|Zt (Qa h_y4)<|.cons (ov Y) (.b Y) .nil) ?_ ?_
       ·
        refine Dw 1 4 Y (Zv (ov Y) Y Y Y QH Y) (Jz<|Zt (Qa h_y4)<|.cons (ov Y) (.b Y) .nil) ?_ ?_
        ·
         exact Do 4 Y (Jz<|Zt (Qa h_y4)<|.cons (ov Y) (.b Y) .nil)<|bE h fun y5 h_y5 h=>Do 5 Y (ZE [] (Zj h_y5) (.cons (ov Y) (.dat Y)<|.cons (ov Y) (.dat Y) .nil) .nil Y (.keep Y Y<|.keep Y Y<|.keep Y Y<|.keep Y Y<|.keep Y Y<|.lent 0 (.inr ⟨Nat.le_of_ble_eq_true Y, Y⟩) Y (roM D5) .nil) Y Y<|.own _<|.inr ⟨Nat.le_of_ble_eq_true Y, Y⟩)<|Do 6 Y (Q3 (r := 6) Y Qo (.cons (cvs (ov Y)<|Zn Y) Y .nil) Y Y)<|bE h fun l3 h_l3 h=>Do 7 Y (ZP (f := O29) (ov Y) (Qf (o := ⟨29, [[.own 5 y5.length]]⟩) (ov Y) Y Y tZ_29) Qo Y Y (Zb Y) Y h_l3)<|Dq 8 Y (Zd (ov Y) Y Y ZQ)<|Do 9 Y (Zk (ov Y) (ov Y) (Ze QH) Y Y Y (Nat.le_of_ble_eq_true Y) (Zb Y) Y)<|Qg (by kernel_rfl) (Ent.trans (Ent.absorbH (r := 2) (j := 0) (q := 5) Y (Zo h_l3) Y Y (List.length_map ..) Y)<|Ent.closeS (r := 2) Y (Zo h_l3) Y)<|⟨_, h, ES [some 0, some 1, some 2, some 3, some 4] (hhp := .cons Y (ro1 (by exact tZ_60.symm)<|rld Y)<|.cons Y (ro1 (by exact tZ_60.symm)<|rlc (.dat Y)<|rlc (.dat Y)<|rlc (.own _ Y)<|rlc (.own _ Y)<|rlc (.own _ Y) rln)<|.cons Y (roO Jo)<|.cons Y (roM D3)<|.cons Y (roM D4) .nil)⟩
        ·
         refine bE h fun y5 h_y5 h=>Dw 1 5 Y (Zv (ov Y) Y Y Y QH Y) (ZE [] (Zj h_y5) (.cons (ov Y) (.dat Y)<|.cons (ov Y) (.dat Y) .nil) .nil Y (.keep Y Y<|.keep Y Y<|.keep Y Y<|.keep Y Y<|.keep Y Y<|.lent 0 (.inr ⟨Nat.le_of_ble_eq_true Y, Y⟩) Y (roM D5) .nil) Y Y<|.own _<|.inr ⟨Nat.le_of_ble_eq_true Y, Y⟩) ?_ ?_
         ·
          exact Do 5 Y (ZE [] (Zj h_y5) (.cons (ov Y) (.dat Y)<|.cons (ov Y) (.dat Y) .nil) .nil Y (.keep Y Y<|.keep Y Y<|.keep Y Y<|.keep Y Y<|.keep Y Y<|.lent 0 (.inr ⟨Nat.le_of_ble_eq_true Y, Y⟩) Y (roM D5) .nil) Y Y<|.own _<|.inr ⟨Nat.le_of_ble_eq_true Y, Y⟩)<|Do 6 Y (Q3 (r := 6) Y Qo (.cons (cvs (ov Y)<|Zn Y) Y .nil) Y Y)<|bE h fun l3 h_l3 h=>Do 7 Y (ZP (f := O29) (ov Y) (Qf (o := ⟨29, [[.own 5 y5.length]]⟩) (ov Y) Y Y tZ_29) Qo Y Y (Zb Y) Y h_l3)<|Dq 8 Y (Zd (ov Y) Y Y ZQ)<|Do 9 Y (Zk (ov Y) (ov Y) (Ze QH) Y Y Y (Nat.le_of_ble_eq_true Y) (Zb Y) Y)<|Qg (by kernel_rfl) (Ent.trans (Ent.absorbH (r := 2) (j := 0) (q := 5) Y (Zo h_l3) Y Y (List.length_map ..) Y)<|Ent.closeS (r := 2) Y (Zo h_l3) Y)<|⟨_, h, ES [some 0, some 1, some 2, some 3, some 4] (hhp := .cons Y (ro1 (by exact tZ_60.symm)<|rld Y)<|.cons Y (ro1 (by exact tZ_60.symm)<|rlc (.dat Y)<|rlc (.dat Y)<|rlc (.own _ Y)<|rlc (.own _ Y)<|rlc (.own _ Y) rln)<|.cons Y (roO Jo)<|.cons Y (roM D3)<|.cons Y (roM D4) .nil)⟩
         ·
          refine Dw 1 6 Y (Zv (ov Y) Y Y Y QH Y) (Q3 (r := 6) Y Qo (.cons (cvs (ov Y)<|Zn Y) Y .nil) Y Y) ?_ ?_
          ·
           exact Do 6 Y (Q3 (r := 6) Y Qo (.cons (cvs (ov Y)<|Zn Y) Y .nil) Y Y)<|bE h fun l3 h_l3 h=>Do 7 Y (ZP (f := O29) (ov Y) (Qf (o := ⟨29, [[.own 5 y5.length]]⟩) (ov Y) Y Y tZ_29) Qo Y Y (Zb Y) Y h_l3)<|Dq 8 Y (Zd (ov Y) Y Y ZQ)<|Do 9 Y (Zk (ov Y) (ov Y) (Ze QH) Y Y Y (Nat.le_of_ble_eq_true Y) (Zb Y) Y)<|Qg (by kernel_rfl) (Ent.trans (Ent.absorbH (r := 2) (j := 0) (q := 5) Y (Zo h_l3) Y Y (List.length_map ..) Y)<|Ent.closeS (r := 2) Y (Zo h_l3) Y)<|⟨_, h, ES [some 0, some 1, some 2, some 3, some 4] (hhp := .cons Y (ro1 (by exact tZ_60.symm)<|rld Y)<|.cons Y (ro1 (by exact tZ_60.symm)<|rlc (.dat Y)<|rlc (.dat Y)<|rlc (.own _ Y)<|rlc (.own _ Y)<|rlc (.own _ Y) rln)<|.cons Y (roO Jo)<|.cons Y (roM D3)<|.cons Y (roM D4) .nil)⟩
          ·
           exact Dq 1 Y (Zv (ov Y) Y Y Y QH Y)<|bE h fun l3 h_l3 h=>Do 7 Y (ZP (f := O29) (ov Y) (Qf (o := ⟨29, [[.own 5 y5.length]]⟩) (ov Y) Y Y tZ_29) Qo Y Y (Zb Y) Y h_l3)<|Dq 8 Y (Zd (ov Y) Y Y ZQ)<|Do 9 Y (Zk (ov Y) (ov Y) (Ze QH) Y Y Y (Nat.le_of_ble_eq_true Y) (Zb Y) Y)<|Qg (by kernel_rfl) (Ent.trans (Ent.absorbH (r := 2) (j := 0) (q := 5) Y (Zo h_l3) Y Y (List.length_map ..) Y)<|Ent.closeS (r := 2) Y (Zo h_l3) Y)<|⟨_, h, ES [some 0, some 1, some 2, some 3, some 4] (hhp := .cons Y (ro1 (by exact tZ_60.symm)<|rld Y)<|.cons Y (ro1 (by exact tZ_60.symm)<|rlc (.dat Y)<|rlc (.dat Y)<|rlc (.own _ Y)<|rlc (.own _ Y)<|rlc (.own _ Y) rln)<|.cons Y (roO Jo)<|.cons Y (roM D3)<|.cons Y (roM D4) .nil)⟩
       ·
        refine bE h fun y5 h_y5 h=>Dw 0 5 Y (Zd (ov Y) Y Y ZQ) (ZE [] (Zj h_y5) (.cons (ov Y) (.dat Y)<|.cons (ov Y) (.dat Y) .nil) .nil Y (.keep Y Y<|.keep Y Y<|.keep Y Y<|.keep Y Y<|.keep Y Y<|.lent 0 (.inr ⟨Nat.le_of_ble_eq_true Y, Y⟩) Y (roM D5) .nil) Y Y<|.own _<|.inr ⟨Nat.le_of_ble_eq_true Y, Y⟩) ?_ ?_
        ·
         refine Dw 1 5 Y (Zv (ov Y) Y Y Y QH Y) (ZE [] (Zj h_y5) (.cons (ov Y) (.dat Y)<|.cons (ov Y) (.dat Y) .nil) .nil Y (.keep Y Y<|.keep Y Y<|.keep Y Y<|.keep Y Y<|.keep Y Y<|.lent 0 (.inr ⟨Nat.le_of_ble_eq_true Y, Y⟩) Y (roM D5) .nil) Y Y<|.own _<|.inr ⟨Nat.le_of_ble_eq_true Y, Y⟩) ?_ ?_
         ·
          exact Do 5 Y (ZE [] (Zj h_y5) (.cons (ov Y) (.dat Y)<|.cons (ov Y) (.dat Y) .nil) .nil Y (.keep Y Y<|.keep Y Y<|.keep Y Y<|.keep Y Y<|.keep Y Y<|.lent 0 (.inr ⟨Nat.le_of_ble_eq_true Y, Y⟩) Y (roM D5) .nil) Y Y<|.own _<|.inr ⟨Nat.le_of_ble_eq_true Y, Y⟩)<|Do 6 Y (Q3 (r := 6) Y Qo (.cons (cvs (ov Y)<|Zn Y) Y .nil) Y Y)<|bE h fun l3 h_l3 h=>Do 7 Y (ZP (f := O29) (ov Y) (Qf (o := ⟨29, [[.own 5 y5.length]]⟩) (ov Y) Y Y tZ_29) Qo Y Y (Zb Y) Y h_l3)<|Dq 8 Y (Zd (ov Y) Y Y ZQ)<|Do 9 Y (Zk (ov Y) (ov Y) (Ze QH) Y Y Y (Nat.le_of_ble_eq_true Y) (Zb Y) Y)<|Qg (by kernel_rfl) (Ent.trans (Ent.absorbH (r := 2) (j := 0) (q := 5) Y (Zo h_l3) Y Y (List.length_map ..) Y)<|Ent.closeS (r := 2) Y (Zo h_l3) Y)<|⟨_, h, ES [some 0, some 1, some 2, some 3, some 4] (hhp := .cons Y (ro1 (by exact tZ_60.symm)<|rld Y)<|.cons Y (ro1 (by exact tZ_60.symm)<|rlc (.dat Y)<|rlc (.dat Y)<|rlc (.own _ Y)<|rlc (.own _ Y)<|rlc (.own _ Y) rln)<|.cons Y (roO Jo)<|.cons Y (roM D3)<|.cons Y (roM D4) .nil)⟩
         ·
          refine Dw 1 6 Y (Zv (ov Y) Y Y Y QH Y) (Q3 (r := 6) Y Qo (.cons (cvs (ov Y)<|Zn Y) Y .nil) Y Y) ?_ ?_
          ·
           exact Do 6 Y (Q3 (r := 6) Y Qo (.cons (cvs (ov Y)<|Zn Y) Y .nil) Y Y)<|bE h fun l3 h_l3 h=>Do 7 Y (ZP (f := O29) (ov Y) (Qf (o := ⟨29, [[.own 5 y5.length]]⟩) (ov Y) Y Y tZ_29) Qo Y Y (Zb Y) Y h_l3)<|Dq 8 Y (Zd (ov Y) Y Y ZQ)<|Do 9 Y (Zk (ov Y) (ov Y) (Ze QH) Y Y Y (Nat.le_of_ble_eq_true Y) (Zb Y) Y)<|Qg (by kernel_rfl) (Ent.trans (Ent.absorbH (r := 2) (j := 0) (q := 5) Y (Zo h_l3) Y Y (List.length_map ..) Y)<|Ent.closeS (r := 2) Y (Zo h_l3) Y)<|⟨_, h, ES [some 0, some 1, some 2, some 3, some 4] (hhp := .cons Y (ro1 (by exact tZ_60.symm)<|rld Y)<|.cons Y (ro1 (by exact tZ_60.symm)<|rlc (.dat Y)<|rlc (.dat Y)<|rlc (.own _ Y)<|rlc (.own _ Y)<|rlc (.own _ Y) rln)<|.cons Y (roO Jo)<|.cons Y (roM D3)<|.cons Y (roM D4) .nil)⟩
          ·
           exact Dq 1 Y (Zv (ov Y) Y Y Y QH Y)<|bE h fun l3 h_l3 h=>Do 7 Y (ZP (f := O29) (ov Y) (Qf (o := ⟨29, [[.own 5 y5.length]]⟩) (ov Y) Y Y tZ_29) Qo Y Y (Zb Y) Y h_l3)<|Dq 8 Y (Zd (ov Y) Y Y ZQ)<|Do 9 Y (Zk (ov Y) (ov Y) (Ze QH) Y Y Y (Nat.le_of_ble_eq_true Y) (Zb Y) Y)<|Qg (by kernel_rfl) (Ent.trans (Ent.absorbH (r := 2) (j := 0) (q := 5) Y (Zo h_l3) Y Y (List.length_map ..) Y)<|Ent.closeS (r := 2) Y (Zo h_l3) Y)<|⟨_, h, ES [some 0, some 1, some 2, some 3, some 4] (hhp := .cons Y (ro1 (by exact tZ_60.symm)<|rld Y)<|.cons Y (ro1 (by exact tZ_60.symm)<|rlc (.dat Y)<|rlc (.dat Y)<|rlc (.own _ Y)<|rlc (.own _ Y)<|rlc (.own _ Y) rln)<|.cons Y (roO Jo)<|.cons Y (roM D3)<|.cons Y (roM D4) .nil)⟩
        ·
         refine Dw 0 6 Y (Zd (ov Y) Y Y ZQ) (Q3 (r := 6) Y Qo (.cons (cvs (ov Y)<|Zn Y) Y .nil) Y Y) ?_ ?_
         ·
          refine Dw 1 6 Y (Zv (ov Y) Y Y Y QH Y) (Q3 (r := 6) Y Qo (.cons (cvs (ov Y)<|Zn Y) Y .nil) Y Y) ?_ ?_
          ·
           exact Do 6 Y (Q3 (r := 6) Y Qo (.cons (cvs (ov Y)<|Zn Y) Y .nil) Y Y)<|bE h fun l3 h_l3 h=>Do 7 Y (ZP (f := O29) (ov Y) (Qf (o := ⟨29, [[.own 5 y5.length]]⟩) (ov Y) Y Y tZ_29) Qo Y Y (Zb Y) Y h_l3)<|Dq 8 Y (Zd (ov Y) Y Y ZQ)<|Do 9 Y (Zk (ov Y) (ov Y) (Ze QH) Y Y Y (Nat.le_of_ble_eq_true Y) (Zb Y) Y)<|Qg (by kernel_rfl) (Ent.trans (Ent.absorbH (r := 2) (j := 0) (q := 5) Y (Zo h_l3) Y Y (List.length_map ..) Y)<|Ent.closeS (r := 2) Y (Zo h_l3) Y)<|⟨_, h, ES [some 0, some 1, some 2, some 3, some 4] (hhp := .cons Y (ro1 (by exact tZ_60.symm)<|rld Y)<|.cons Y (ro1 (by exact tZ_60.symm)<|rlc (.dat Y)<|rlc (.dat Y)<|rlc (.own _ Y)<|rlc (.own _ Y)<|rlc (.own _ Y) rln)<|.cons Y (roO Jo)<|.cons Y (roM D3)<|.cons Y (roM D4) .nil)⟩
          ·
           exact Dq 1 Y (Zv (ov Y) Y Y Y QH Y)<|bE h fun l3 h_l3 h=>Do 7 Y (ZP (f := O29) (ov Y) (Qf (o := ⟨29, [[.own 5 y5.length]]⟩) (ov Y) Y Y tZ_29) Qo Y Y (Zb Y) Y h_l3)<|Dq 8 Y (Zd (ov Y) Y Y ZQ)<|Do 9 Y (Zk (ov Y) (ov Y) (Ze QH) Y Y Y (Nat.le_of_ble_eq_true Y) (Zb Y) Y)<|Qg (by kernel_rfl) (Ent.trans (Ent.absorbH (r := 2) (j := 0) (q := 5) Y (Zo h_l3) Y Y (List.length_map ..) Y)<|Ent.closeS (r := 2) Y (Zo h_l3) Y)<|⟨_, h, ES [some 0, some 1, some 2, some 3, some 4] (hhp := .cons Y (ro1 (by exact tZ_60.symm)<|rld Y)<|.cons Y (ro1 (by exact tZ_60.symm)<|rlc (.dat Y)<|rlc (.dat Y)<|rlc (.own _ Y)<|rlc (.own _ Y)<|rlc (.own _ Y) rln)<|.cons Y (roO Jo)<|.cons Y (roM D3)<|.cons Y (roM D4) .nil)⟩
         ·
          exact Dq 0 Y (Zd (ov Y) Y Y ZQ)<|Dq 1 Y (Zv (ov Y) Y Y Y QH Y)<|bE h fun l3 h_l3 h=>Do 7 Y (ZP (f := O29) (ov Y) (Qf (o := ⟨29, [[.own 5 y5.length]]⟩) (ov Y) Y Y tZ_29) Qo Y Y (Zb Y) Y h_l3)<|Dq 8 Y (Zd (ov Y) Y Y ZQ)<|Do 9 Y (Zk (ov Y) (ov Y) (Ze QH) Y Y Y (Nat.le_of_ble_eq_true Y) (Zb Y) Y)<|Qg (by kernel_rfl) (Ent.trans (Ent.absorbH (r := 2) (j := 0) (q := 5) Y (Zo h_l3) Y Y (List.length_map ..) Y)<|Ent.closeS (r := 2) Y (Zo h_l3) Y)<|⟨_, h, ES [some 0, some 1, some 2, some 3, some 4] (hhp := .cons Y (ro1 (by exact tZ_60.symm)<|rld Y)<|.cons Y (ro1 (by exact tZ_60.symm)<|rlc (.dat Y)<|rlc (.dat Y)<|rlc (.own _ Y)<|rlc (.own _ Y)<|rlc (.own _ Y) rln)<|.cons Y (roO Jo)<|.cons Y (roM D3)<|.cons Y (roM D4) .nil)⟩
      ·
       refine Dw 0 2 Y (Zd (ov Y) Y Y ZQ) (Jz<|Zae Xf (.cons (cvs (ov Y)<|Zn Y) Y (.cons (.b Y) .nil) .nil) Y Y) ?_ ?_
       ·
        refine Dw 1 2 Y (Zv (ov Y) Y Y Y QH Y) (Jz<|Zae Xf (.cons (cvs (ov Y)<|Zn Y) Y (.cons (.b Y) .nil) .nil) Y Y) ?_ ?_
        ·
         exact Zaj 2 (.sl 5<|List.map R5 ([255] : List Int)) _ Y (by kernel_rfl) Y Y (fun h=>by cases h) (fun h=>by cases h) (Jz<|Zae Xf (.cons (cvs (ov Y)<|Zn Y) Y (.cons (.b Y) .nil) .nil) Y Y)<|bE h fun y5 h_y5 h=>Do 5 Y (ZE [] (Zj h_y5) (.cons (ov Y) (.dat Y)<|.cons (ov Y) (.dat Y) .nil) .nil Y (.keep Y Y<|.keep Y Y<|.keep Y Y<|.keep Y Y<|.keep Y Y<|.lent 0 (.inr ⟨Nat.le_of_ble_eq_true Y, Y⟩) Y (roM D5) .nil) Y Y<|.own _<|.inr ⟨Nat.le_of_ble_eq_true Y, Y⟩)<|Do 6 Y (Q3 (r := 6) Y Qo (.cons (cvs (ov Y)<|Zn Y) Y .nil) Y Y)<|bE h fun l3 h_l3 h=>Do 7 Y (ZP (f := O29) (ov Y) (Qf (o := ⟨29, [[.own 5 y5.length]]⟩) (ov Y) Y Y tZ_29) Qo Y Y (Zb Y) Y h_l3)<|Dq 8 Y (Zd (ov Y) Y Y ZQ)<|Do 9 Y (Zk (ov Y) (ov Y) (Ze QH) Y Y Y (Nat.le_of_ble_eq_true Y) (Zb Y) Y)<|Qg (by kernel_rfl) (Ent.trans (Ent.absorbH (r := 2) (j := 0) (q := 5) Y (Zo h_l3) Y Y (List.length_map ..) Y)<|Ent.closeS (r := 2) Y (Zo h_l3) Y)<|⟨_, h, ES [some 0, some 1, some 2, some 3, some 4] (hhp := .cons Y (ro1 (by exact tZ_60.symm)<|rld Y)<|.cons Y (ro1 (by exact tZ_60.symm)<|rlc (.dat Y)<|rlc (.dat Y)<|rlc (.own _ Y)<|rlc (.own _ Y)<|rlc (.own _ Y) rln)<|.cons Y (roO Jo)<|.cons Y (roM D3)<|.cons Y (roM D4) .nil)⟩
        ·
         refine bE h fun y5 h_y5 h=>Dw 1 5 Y (Zv (ov Y) Y Y Y QH Y) (ZE [] (Zj h_y5) (.cons (ov Y) (.dat Y)<|.cons (ov Y) (.dat Y) .nil) .nil Y (.keep Y Y<|.keep Y Y<|.keep Y Y<|.keep Y Y<|.keep Y Y<|.lent 0 (.inr ⟨Nat.le_of_ble_eq_true Y, Y⟩) Y (roM D5) .nil) Y Y<|.own _<|.inr ⟨Nat.le_of_ble_eq_true Y, Y⟩) ?_ ?_
         ·
          exact Do 5 Y (ZE [] (Zj h_y5) (.cons (ov Y) (.dat Y)<|.cons (ov Y) (.dat Y) .nil) .nil Y (.keep Y Y<|.keep Y Y<|.keep Y Y<|.keep Y Y<|.keep Y Y<|.lent 0 (.inr ⟨Nat.le_of_ble_eq_true Y, Y⟩) Y (roM D5) .nil) Y Y<|.own _<|.inr ⟨Nat.le_of_ble_eq_true Y, Y⟩)<|Do 6 Y (Q3 (r := 6) Y Qo (.cons (cvs (ov Y)<|Zn Y) Y .nil) Y Y)<|bE h fun l3 h_l3 h=>Do 7 Y (ZP (f := O29) (ov Y) (Qf (o := ⟨29, [[.own 5 y5.length]]⟩) (ov Y) Y Y tZ_29) Qo Y Y (Zb Y) Y h_l3)<|Dq 8 Y (Zd (ov Y) Y Y ZQ)<|Do 9 Y (Zk (ov Y) (ov Y) (Ze QH) Y Y Y (Nat.le_of_ble_eq_true Y) (Zb Y) Y)<|Qg (by kernel_rfl) (Ent.trans (Ent.absorbH (r := 2) (j := 0) (q := 5) Y (Zo h_l3) Y Y (List.length_map ..) Y)<|Ent.closeS (r := 2) Y (Zo h_l3) Y)<|⟨_, h, ES [some 0, some 1, some 2, some 3, some 4] (hhp := .cons Y (ro1 (by exact tZ_60.symm)<|rld Y)<|.cons Y (ro1 (by exact tZ_60.symm)<|rlc (.dat Y)<|rlc (.dat Y)<|rlc (.own _ Y)<|rlc (.own _ Y)<|rlc (.own _ Y) rln)<|.cons Y (roO Jo)<|.cons Y (roM D3)<|.cons Y (roM D4) .nil)⟩
         ·
          refine Dw 1 6 Y (Zv (ov Y) Y Y Y QH Y) (Q3 (r := 6) Y Qo (.cons (cvs (ov Y)<|Zn Y) Y .nil) Y Y) ?_ ?_
          ·
           exact Do 6 Y (Q3 (r := 6) Y Qo (.cons (cvs (ov Y)<|Zn Y) Y .nil) Y Y)<|bE h fun l3 h_l3 h=>Do 7 Y (ZP (f := O29) (ov Y) (Qf (o := ⟨29, [[.own 5 y5.length]]⟩) (ov Y) Y Y tZ_29) Qo Y Y (Zb Y) Y h_l3)<|Dq 8 Y (Zd (ov Y) Y Y ZQ)<|Do 9 Y (Zk (ov Y) (ov Y) (Ze QH) Y Y Y (Nat.le_of_ble_eq_true Y) (Zb Y) Y)<|Qg (by kernel_rfl) (Ent.trans (Ent.absorbH (r := 2) (j := 0) (q := 5) Y (Zo h_l3) Y Y (List.length_map ..) Y)<|Ent.closeS (r := 2) Y (Zo h_l3) Y)<|⟨_, h, ES [some 0, some 1, some 2, some 3, some 4] (hhp := .cons Y (ro1 (by exact tZ_60.symm)<|rld Y)<|.cons Y (ro1 (by exact tZ_60.symm)<|rlc (.dat Y)<|rlc (.dat Y)<|rlc (.own _ Y)<|rlc (.own _ Y)<|rlc (.own _ Y) rln)<|.cons Y (roO Jo)<|.cons Y (roM D3)<|.cons Y (roM D4) .nil)⟩
          ·
           exact Dq 1 Y (Zv (ov Y) Y Y Y QH Y)<|bE h fun l3 h_l3 h=>Do 7 Y (ZP (f := O29) (ov Y) (Qf (o := ⟨29, [[.own 5 y5.length]]⟩) (ov Y) Y Y tZ_29) Qo Y Y (Zb Y) Y h_l3)<|Dq 8 Y (Zd (ov Y) Y Y ZQ)<|Do 9 Y (Zk (ov Y) (ov Y) (Ze QH) Y Y Y (Nat.le_of_ble_eq_true Y) (Zb Y) Y)<|Qg (by kernel_rfl) (Ent.trans (Ent.absorbH (r := 2) (j := 0) (q := 5) Y (Zo h_l3) Y Y (List.length_map ..) Y)<|Ent.closeS (r := 2) Y (Zo h_l3) Y)<|⟨_, h, ES [some 0, some 1, some 2, some 3, some 4] (hhp := .cons Y (ro1 (by exact tZ_60.symm)<|rld Y)<|.cons Y (ro1 (by exact tZ_60.symm)<|rlc (.dat Y)<|rlc (.dat Y)<|rlc (.own _ Y)<|rlc (.own _ Y)<|rlc (.own _ Y) rln)<|.cons Y (roO Jo)<|.cons Y (roM D3)<|.cons Y (roM D4) .nil)⟩
       ·
        refine bE h fun y5 h_y5 h=>Dw 0 5 Y (Zd (ov Y) Y Y ZQ) (ZE [] (Zj h_y5) (.cons (ov Y) (.dat Y)<|.cons (ov Y) (.dat Y) .nil) .nil Y (.keep Y Y<|.keep Y Y<|.keep Y Y<|.keep Y Y<|.keep Y Y<|.lent 0 (.inr ⟨Nat.le_of_ble_eq_true Y, Y⟩) Y (roM D5) .nil) Y Y<|.own _<|.inr ⟨Nat.le_of_ble_eq_true Y, Y⟩) ?_ ?_
        ·
         refine Dw 1 5 Y (Zv (ov Y) Y Y Y QH Y) (ZE [] (Zj h_y5) (.cons (ov Y) (.dat Y)<|.cons (ov Y) (.dat Y) .nil) .nil Y (.keep Y Y<|.keep Y Y<|.keep Y Y<|.keep Y Y<|.keep Y Y<|.lent 0 (.inr ⟨Nat.le_of_ble_eq_true Y, Y⟩) Y (roM D5) .nil) Y Y<|.own _<|.inr ⟨Nat.le_of_ble_eq_true Y, Y⟩) ?_ ?_
         ·
          exact Do 5 Y (ZE [] (Zj h_y5) (.cons (ov Y) (.dat Y)<|.cons (ov Y) (.dat Y) .nil) .nil Y (.keep Y Y<|.keep Y Y<|.keep Y Y<|.keep Y Y<|.keep Y Y<|.lent 0 (.inr ⟨Nat.le_of_ble_eq_true Y, Y⟩) Y (roM D5) .nil) Y Y<|.own _<|.inr ⟨Nat.le_of_ble_eq_true Y, Y⟩)<|Do 6 Y (Q3 (r := 6) Y Qo (.cons (cvs (ov Y)<|Zn Y) Y .nil) Y Y)<|bE h fun l3 h_l3 h=>Do 7 Y (ZP (f := O29) (ov Y) (Qf (o := ⟨29, [[.own 5 y5.length]]⟩) (ov Y) Y Y tZ_29) Qo Y Y (Zb Y) Y h_l3)<|Dq 8 Y (Zd (ov Y) Y Y ZQ)<|Do 9 Y (Zk (ov Y) (ov Y) (Ze QH) Y Y Y (Nat.le_of_ble_eq_true Y) (Zb Y) Y)<|Qg (by kernel_rfl) (Ent.trans (Ent.absorbH (r := 2) (j := 0) (q := 5) Y (Zo h_l3) Y Y (List.length_map ..) Y)<|Ent.closeS (r := 2) Y (Zo h_l3) Y)<|⟨_, h, ES [some 0, some 1, some 2, some 3, some 4] (hhp := .cons Y (ro1 (by exact tZ_60.symm)<|rld Y)<|.cons Y (ro1 (by exact tZ_60.symm)<|rlc (.dat Y)<|rlc (.dat Y)<|rlc (.own _ Y)<|rlc (.own _ Y)<|rlc (.own _ Y) rln)<|.cons Y (roO Jo)<|.cons Y (roM D3)<|.cons Y (roM D4) .nil)⟩
         ·
          refine Dw 1 6 Y (Zv (ov Y) Y Y Y QH Y) (Q3 (r := 6) Y Qo (.cons (cvs (ov Y)<|Zn Y) Y .nil) Y Y) ?_ ?_
          ·
           exact Do 6 Y (Q3 (r := 6) Y Qo (.cons (cvs (ov Y)<|Zn Y) Y .nil) Y Y)<|bE h fun l3 h_l3 h=>Do 7 Y (ZP (f := O29) (ov Y) (Qf (o := ⟨29, [[.own 5 y5.length]]⟩) (ov Y) Y Y tZ_29) Qo Y Y (Zb Y) Y h_l3)<|Dq 8 Y (Zd (ov Y) Y Y ZQ)<|Do 9 Y (Zk (ov Y) (ov Y) (Ze QH) Y Y Y (Nat.le_of_ble_eq_true Y) (Zb Y) Y)<|Qg (by kernel_rfl) (Ent.trans (Ent.absorbH (r := 2) (j := 0) (q := 5) Y (Zo h_l3) Y Y (List.length_map ..) Y)<|Ent.closeS (r := 2) Y (Zo h_l3) Y)<|⟨_, h, ES [some 0, some 1, some 2, some 3, some 4] (hhp := .cons Y (ro1 (by exact tZ_60.symm)<|rld Y)<|.cons Y (ro1 (by exact tZ_60.symm)<|rlc (.dat Y)<|rlc (.dat Y)<|rlc (.own _ Y)<|rlc (.own _ Y)<|rlc (.own _ Y) rln)<|.cons Y (roO Jo)<|.cons Y (roM D3)<|.cons Y (roM D4) .nil)⟩
          ·
           exact Dq 1 Y (Zv (ov Y) Y Y Y QH Y)<|bE h fun l3 h_l3 h=>Do 7 Y (ZP (f := O29) (ov Y) (Qf (o := ⟨29, [[.own 5 y5.length]]⟩) (ov Y) Y Y tZ_29) Qo Y Y (Zb Y) Y h_l3)<|Dq 8 Y (Zd (ov Y) Y Y ZQ)<|Do 9 Y (Zk (ov Y) (ov Y) (Ze QH) Y Y Y (Nat.le_of_ble_eq_true Y) (Zb Y) Y)<|Qg (by kernel_rfl) (Ent.trans (Ent.absorbH (r := 2) (j := 0) (q := 5) Y (Zo h_l3) Y Y (List.length_map ..) Y)<|Ent.closeS (r := 2) Y (Zo h_l3) Y)<|⟨_, h, ES [some 0, some 1, some 2, some 3, some 4] (hhp := .cons Y (ro1 (by exact tZ_60.symm)<|rld Y)<|.cons Y (ro1 (by exact tZ_60.symm)<|rlc (.dat Y)<|rlc (.dat Y)<|rlc (.own _ Y)<|rlc (.own _ Y)<|rlc (.own _ Y) rln)<|.cons Y (roO Jo)<|.cons Y (roM D3)<|.cons Y (roM D4) .nil)⟩
        ·
         refine Dw 0 6 Y (Zd (ov Y) Y Y ZQ) (Q3 (r := 6) Y Qo (.cons (cvs (ov Y)<|Zn Y) Y .nil) Y Y) ?_ ?_
         ·
          refine Dw 1 6 Y (Zv (ov Y) Y Y Y QH Y) (Q3 (r := 6) Y Qo (.cons (cvs (ov Y)<|Zn Y) Y .nil) Y Y) ?_ ?_
          ·
           exact Do 6 Y (Q3 (r := 6) Y Qo (.cons (cvs (ov Y)<|Zn Y) Y .nil) Y Y)<|bE h fun l3 h_l3 h=>Do 7 Y (ZP (f := O29) (ov Y) (Qf (o := ⟨29, [[.own 5 y5.length]]⟩) (ov Y) Y Y tZ_29) Qo Y Y (Zb Y) Y h_l3)<|Dq 8 Y (Zd (ov Y) Y Y ZQ)<|Do 9 Y (Zk (ov Y) (ov Y) (Ze QH) Y Y Y (Nat.le_of_ble_eq_true Y) (Zb Y) Y)<|Qg (by kernel_rfl) (Ent.trans (Ent.absorbH (r := 2) (j := 0) (q := 5) Y (Zo h_l3) Y Y (List.length_map ..) Y)<|Ent.closeS (r := 2) Y (Zo h_l3) Y)<|⟨_, h, ES [some 0, some 1, some 2, some 3, some 4] (hhp := .cons Y (ro1 (by exact tZ_60.symm)<|rld Y)<|.cons Y (ro1 (by exact tZ_60.symm)<|rlc (.dat Y)<|rlc (.dat Y)<|rlc (.own _ Y)<|rlc (.own _ Y)<|rlc (.own _ Y) rln)<|.cons Y (roO Jo)<|.cons Y (roM D3)<|.cons Y (roM D4) .nil)⟩
          ·
           exact Dq 1 Y (Zv (ov Y) Y Y Y QH Y)<|bE h fun l3 h_l3 h=>Do 7 Y (ZP (f := O29) (ov Y) (Qf (o := ⟨29, [[.own 5 y5.length]]⟩) (ov Y) Y Y tZ_29) Qo Y Y (Zb Y) Y h_l3)<|Dq 8 Y (Zd (ov Y) Y Y ZQ)<|Do 9 Y (Zk (ov Y) (ov Y) (Ze QH) Y Y Y (Nat.le_of_ble_eq_true Y) (Zb Y) Y)<|Qg (by kernel_rfl) (Ent.trans (Ent.absorbH (r := 2) (j := 0) (q := 5) Y (Zo h_l3) Y Y (List.length_map ..) Y)<|Ent.closeS (r := 2) Y (Zo h_l3) Y)<|⟨_, h, ES [some 0, some 1, some 2, some 3, some 4] (hhp := .cons Y (ro1 (by exact tZ_60.symm)<|rld Y)<|.cons Y (ro1 (by exact tZ_60.symm)<|rlc (.dat Y)<|rlc (.dat Y)<|rlc (.own _ Y)<|rlc (.own _ Y)<|rlc (.own _ Y) rln)<|.cons Y (roO Jo)<|.cons Y (roM D3)<|.cons Y (roM D4) .nil)⟩
         ·
          exact Dq 0 Y (Zd (ov Y) Y Y ZQ)<|Dq 1 Y (Zv (ov Y) Y Y Y QH Y)<|bE h fun l3 h_l3 h=>Do 7 Y (ZP (f := O29) (ov Y) (Qf (o := ⟨29, [[.own 5 y5.length]]⟩) (ov Y) Y Y tZ_29) Qo Y Y (Zb Y) Y h_l3)<|Dq 8 Y (Zd (ov Y) Y Y ZQ)<|Do 9 Y (Zk (ov Y) (ov Y) (Ze QH) Y Y Y (Nat.le_of_ble_eq_true Y) (Zb Y) Y)<|Qg (by kernel_rfl) (Ent.trans (Ent.absorbH (r := 2) (j := 0) (q := 5) Y (Zo h_l3) Y Y (List.length_map ..) Y)<|Ent.closeS (r := 2) Y (Zo h_l3) Y)<|⟨_, h, ES [some 0, some 1, some 2, some 3, some 4] (hhp := .cons Y (ro1 (by exact tZ_60.symm)<|rld Y)<|.cons Y (ro1 (by exact tZ_60.symm)<|rlc (.dat Y)<|rlc (.dat Y)<|rlc (.own _ Y)<|rlc (.own _ Y)<|rlc (.own _ Y) rln)<|.cons Y (roO Jo)<|.cons Y (roM D3)<|.cons Y (roM D4) .nil)⟩
     ·
      exact Zs<|R2 ZU Y<|Rm Y<|Za<|⟨_, h, ES [some 0, some 1, some 2, some 3, some 4] (hhp := .cons Y (ro1 (by exact tZ_60.symm)<|rld Y)<|.cons Y (ro1 (by exact tZ_60.symm)<|rlc (.dat Y)<|rlc (.dat Y)<|rlc (.own _ Y)<|rlc (.own _ Y)<|rlc (.own _ Y) rln)<|.cons Y (roO Jo)<|.cons Y (roM D3)<|.cons Y (roM D4) .nil)⟩
    ·
     refine ZM<|?_
     replace h := lx h ▸ ho1
     exact ⟨_, h, ES [some 0, some 1, some 2, some 3, some 4] (hhp := .cons Y (ro1 (by exact tZ_60.symm)<|rld Y)<|.cons Y (ro1 (by exact tZ_60.symm)<|rlc (.dat Y)<|rlc (.dat Y)<|rlc (.own _ Y)<|rlc (.own _ Y)<|rlc (.own _ Y) rln)<|.cons Y (roO Jo)<|.cons Y (roM D3)<|.cons Y (roM D4) .nil)⟩
   ·
    refine Tr<|Rq Y (QD (ov Y) Y Y Y Zax Y Y)<|Rx Y (Zk (ov Y) (ov Y) (ZB Zax Y) Y Y Y (Nat.le_of_ble_eq_true Y) (Zb Y) Y)<|Ra Y<|Za<|?_
    obtain rfl := rt h
    exact Zp (Z5 Y (.two (.agg Y Y Y Y Zax Y Y<|.cons (Dat.view<|.b Y)<|.cons (Dat.view<|.b Y)<|.cons (View.ownO Y Y Jo (fun x=>(D29 x).1) ZqH)<|.cons (View.ownM Y Y D3)<|.cons (View.ownM Y Y D4) .nil)<|rb Y))
end Go.Proofs.YtnlmjeleocelgaaDoor
