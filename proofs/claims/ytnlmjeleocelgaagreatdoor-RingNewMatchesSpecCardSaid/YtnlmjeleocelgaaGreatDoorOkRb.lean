/- A text of the proof: a verified executor of the program form, or the contracts of the functions that the law reaches. -/
import Derived.Test.YtnlmjeleocelgaaGreatDoorOkRa
set_option linter.all false
namespace Go.Proofs.YtnlmjeleocelgaaGreatDoor
open Go Go.Vx
set_option maxRecDepth 10000
set_option maxHeartbeats 2000000
set_option linter.unusedVariables false
theorem Zcd {data : Int} {r : Int} (h : Zav data = some r) :
 CSpec Tryz.prog gl0 131 [.int .i64 data] (.int .i64 r) := by
 unfold Zav at h
 replace h := Qd h
 refine So Tryz.func131 Y fun w0 A=>Tr<|Ra Y<|Za<|Zl<|K1 0 Y<|Tr<|Rm Y<|bE h fun y h_y h=>Rq Y (Zq (Ziw h_y)<|.cons (ov Y) (.b Y) .nil)<|Za<|K2 0 4 Y<|If h Y (fun h=>?_) fun h=>?_
 ·
  refine K1 0 Y<|Tr<|Rm Y<|Ra Y<|Za<|?_
  obtain rfl := rt h
  exact Zs (ZQ Y (.one<|rb Y))
 ·
  refine Zm<|K1 0 Y<|Tr<|Rm Y<|R2 ZY Y<|Ra Y<|Za<|?_
  obtain rfl := rt h
  exact Zs (ZQ Y (.one<|rb Y))
theorem Zgg {f : Vector Int 64} {r : Int} (h : JW f = some r) :
 CSpec Tryz.prog gl0 123 [.agg (List.map C40 f.toList)] (.int .i64 r) := by
 unfold JW at h
 replace h := Qd h
 refine So Tryz.func123 Y fun w0 A=>Tr<|Rq Y (ZbY (cva<|ov Y) arL tZ_42<|arD fun _ => Y)<|Ra Y<|Za<|K2 1 2 Y<|Tr<|bE h fun x h_x h=>Rq Y (QC (ov Y) (ov Y) JL h_x)<|Rq Y (Zi (ov Y) ZaG<|Qp<|Xd (o := 0) (o' := ((Int.toNat 1) * 1)) (ZB arL)<|Xj h_x)<|Rq Y (Qv (ov Y) ZcJ tI3 Y)<|bE h fun q h_q h=>Rq Y (JM (ov Y) (ov Y) h_q)<|bE h fun x2 h_x2 h=>Rq Y (QC (ov Y) (ov Y) JL h_x2)<|Rq Y (Zi (ov Y) ZaG<|Qp<|Xd (o := 0) (o' := ((Int.toNat 2) * 1)) (ZB arL)<|Xj h_x2)<|Rq Y (Qv (ov Y) ZcJ tI3 Y)<|bE h fun q2 h_q2 h=>Rq Y (JM (ov Y) (ov Y) h_q2)<|R2 Zft Y<|R2 ZY Y<|Ra Y<|Za<|?_
 obtain rfl := rt h
 exact Zs (ZQ Y (.one<|rb Y))
theorem ZgP {number : Int} {r : Int} (h : ZbQ number = some r) :
 CSpec Tryz.prog gl0 132 [.int .i64 number] (.int .i64 r) := by
 unfold ZbQ at h
 replace h := Qd h
 refine So Tryz.func132 Y fun w0 A=>Tr<|Ra Y<|Za<|Tr<|R_q (.agg<|List.map C3 (#v[583, 1464, 2631, 3512] : Vector Int 4).toList) Y (Zdi (ys := [_, _, _, _]) ZkT ZlL (.cons (cvs (ov Y)<|Zd Y)<|.cons (cvs (ov Y)<|Zd Y)<|.cons (cvs (ov Y)<|Zd Y)<|.cons (cvs (ov Y)<|Zd Y) .nil) Y)<|Rm Y<|bE h fun q h_q h=>Rq Y (JM (ov Y) (ov Y) h_q)<|bE h fun x h_x h=>Rq Y (Zhv (ov Y) (ov Y) ZkT tS3 h_x)<|Ra Y<|Za<|?_
 obtain rfl := rt h
 exact Zs (ZQ Y (.one<|rb Y))
theorem Zip {f : Vector Int 64} {r : Int} (h : Zee f = some r) :
 CSpec Tryz.prog gl0 133 [.agg (List.map C40 f.toList)] (.int .i64 r) := by
 unfold Zee at h
 replace h := Qd h
 refine So Tryz.func133 Y fun w0 A=>Tr<|Rq Y (ZbY (cva<|ov Y) arL tZ_42<|arD fun _ => Y)<|Ra Y<|Za<|K1 1 Y<|Tr<|Ra Y<|Za<|I1 (fun x=>⟨[(3, .int .i64 x)], []⟩) h (fun h=>?_) fun x h=>?_
 ·
  refine Tr<|Ra Y<|Za<|Zk<|?_
  obtain ⟨r1, hl1, ho1⟩ := QY h
  refine L2 (fun x2 i=>⟨[(1, .rp (List.map C40 f.toList) 0), (3, .int .i64 x2), (4, .int .i64 i)], []⟩) hl1 (ES []) fun n1 x2 i h=>?_
  unfold ZcY at h
  refine Zl<|Tr<|Rm Y<|R2 ZhD Y<|Za<|K4 1 3 4 6 Y<|If h Y (fun h=>?_) fun h=>?_
  ·
   exact Zm<|Zl<|Zk<|K3 1 3 4 Y<|ZA<|Rm Y<|Rm Y<|bE h fun x3 h_x3 h=>Rq Y (QC (ov Y) (ov Y) JL h_x3)<|Rq Y (Zi (ov Y) ZaG<|Qp<|Xd (o := 0) (o' := (i.toNat * 1)) (ZB arL)<|Xj h_x3)<|Rq Y (Qv (ov Y) ZcJ tI3 Y)<|bE h fun q h_q h=>Rq Y (JM (ov Y) (ov Y) h_q)<|R2 Zh2 Y<|Ra Y<|Za<|K3 1 3 4 Y<|ZA<|Rm Y<|R2 ZY Y<|Ra Y<|Za<|⟨_, h, ES []⟩
  ·
   refine ZN<|?_
   replace h := lx h ▸ ho1
   exact ⟨_, h, ES []⟩
 ·
  refine Tr<|Rm Y<|Ra Y<|Za<|?_
  obtain rfl := rt h
  exact Zs (ZQ Y (.one<|rb Y))
theorem Zhj {f : Vector Int 64} {r : Int} (h : ZcB f = some r) :
 CSpec Tryz.prog gl0 152 [.agg (List.map C40 f.toList)] (.int .i64 r) := by
 unfold ZcB at h
 replace h := Qd h
 refine So Tryz.func152 Y fun w0 A=>Tr<|Rq Y (ZbY (cva<|ov Y) arL tZ_42<|arD fun _ => Y)<|Ra Y<|Za<|K1 1 Y<|Tr<|Ra Y<|Za<|I1 (fun rest=>⟨[(3, .int .i64 rest)], []⟩) h (fun h=>?_) fun rest h=>?_
 ·
  refine Tr<|Ra Y<|Za<|Zk<|?_
  obtain ⟨r1, hl1, ho1⟩ := QY h
  refine L2 (fun rest2 i=>⟨[(1, .rp (List.map C40 f.toList) 0), (3, .int .i64 rest2), (4, .int .i64 i)], []⟩) hl1 (ES []) fun n1 rest2 i h=>?_
  unfold ZbG at h
  refine Zl<|Tr<|Rm Y<|R2 Z1 Y<|Za<|K4 1 3 4 7 Y<|If h Y (fun h=>?_) fun h=>?_
  ·
   refine Zm<|Zl<|Zk<|K3 1 3 4 Y<|Tr<|Ra Y<|Za<|I1 (fun bit=>⟨[(1, .rp (List.map C40 f.toList) 0), (3, .int .i64 rest2), (4, .int .i64 i), (5, .int .i64 bit)], []⟩) h (fun h=>?_) fun bit h=>?_
   ·
    refine Tr<|Rm Y<|R2 Z1 Y<|Za<|K5 1 3 4 5 11 Y<|If h Y (fun h=>?_) fun h=>?_
    ·
     exact K4 1 3 4 5 Y<|ZA<|Rm Y<|bE h fun q h_q h=>Rq Y (Zfe (ov Y) (ov Y) h_q)<|bE h fun x h_x h=>Rq Y (QC (ov Y) (ov Y) JL h_x)<|Rq Y (Zi (ov Y) ZaG<|Qp<|Xd (o := 0) (o' := (q.toNat * 1)) (ZB arL)<|Xj h_x)<|Rq Y (Qv (ov Y) ZcJ tI3 Y)<|Rm Y<|bE h fun q2 h_q2 h=>Rq Y (JM (ov Y) (ov Y) h_q2)<|R2 Zg9 Y<|bE h fun q3 h_q3 h=>Rq Y (Zb8 (ov Y) (ov Y) h_q3)<|R2 Zan Y<|Ra Y<|Za<|⟨_, h, ES []⟩
    ·
     exact Zm<|⟨_, h, ES []⟩
   ·
    refine Tr<|Rm Y<|R2 Zft Y<|Rm Y<|R2 ZY Y<|Ra Y<|Za<|K3 1 3 4 Y<|Tr<|Rm Y<|R2 Zha Y<|Za<|K4 1 3 4 27 Y<|If h Y (fun h=>?_) fun h=>?_
    ·
     exact K3 1 3 4 Y<|ZA<|Rm Y<|R2 Zh2 Y<|Ra Y<|Za<|K3 1 3 4 Y<|ZA<|Rm Y<|R2 ZY Y<|Ra Y<|Za<|⟨_, h, ES []⟩
    ·
     exact Zm<|K3 1 3 4 Y<|ZA<|Rm Y<|R2 ZY Y<|Ra Y<|Za<|⟨_, h, ES []⟩
  ·
   refine ZN<|?_
   replace h := lx h ▸ ho1
   exact ⟨_, h, ES []⟩
 ·
  refine Tr<|Rm Y<|Ra Y<|Za<|?_
  obtain rfl := rt h
  exact Zs (ZQ Y (.one<|rb Y))
theorem Zgu {f : Vector Int 64} {r : (Vector Int 64)} (h : ZaZ f = some r) :
 CSpec Tryz.prog gl0 134 [.agg (List.map C40 f.toList)] (.agg (List.map C40 r.toList)) := by
 unfold ZaZ at h
 replace h := Qd h
 refine So Tryz.func134 Y fun w0 A=>Tr<|Rx Y (Zja 0 Y (ov Y) XT arL)<|Rx Y (ZL (row := (List.map C40 (Vector.replicate 64 0).toList)) 1 Y Zfv Y tZ_42)<|Za<|K2 1 2 Y<|Tr<|Rq Y (Qb (ov Y) Y Y Y XT (Qx<|ZB arL) arL (hns := (nsM fun _ => Y)))<|bE h fun y h_y h=>Rq Y (Zq (Zhj h_y)<|.cons (ov Y) (.aggB<|arD fun _ => Y) .nil)<|Ra Y<|Za<|K3 1 2 3 Y<|Tr<|Rm Y<|bE h fun q h_q h=>Rq Y (Zfe (ov Y) (ov Y) h_q)<|bE h fun y2 h_y2 h=>Rq Y (Zq (Zcd h_y2)<|.cons (ov Y) (.b Y) .nil)<|Rq Y (Qv (ov Y) tI3 ZcJ Y)<|Rm Y<|bE h fun q2 h_q2 h=>Rq Y (JM (ov Y) (ov Y) h_q2)<|bE h fun y3 h_y3 h=>Rq Y (Zq (Zcd h_y3)<|.cons (ov Y) (.b Y) .nil)<|Rq Y (Qv (ov Y) tI3 ZcJ Y)<|bE h fun x h_x h=>Rq Y (Ji (ov Y) (ov Y) JL Y Y h_x)<|Rx Y (Zh (ov Y) (ov Y) (Zf ZaG) Y Y Y (arB h_x) (Zb Y)<|arS h_x)<|bE h fun x2 h_x2 h=>Rq Y (Ji (ov Y) (ov Y) JL Y Y h_x2)<|Rx Y (Zh (ov Y) (ov Y) (Zf ZaG) Y Y Y (arB h_x2) (Zb Y)<|arS h_x2)<|Za<|K2 1 2 Y<|Tr<|Rq Y (Qb (ov Y) Y Y Y XT (Qx<|ZB arL) arL (hns := (nsM fun _ => Y)))<|Rx Y (Zh (ov Y) (ov Y) (Zu XT arL) Y Y Y (Zae (ZB arL) arL) (Zb<|arC fun _ => Y)<|X0<|Eq.trans arL<|Eq.symm arL)<|Za<|?_
 obtain rfl := rt h
 exact Zs (ZQ Y (.one<|.agg Y Y Y Y XT (Qx<|ZB arL) arL (pwB<|arD fun _ => Y) (hns := (nsM fun _ => Y))))
theorem Zg1 {f : Vector Int 64} {r : (Vector Int 64)} (h : ZbO f = some r) :
 CSpec Tryz.prog gl0 101 [.agg (List.map C40 f.toList)] (.agg (List.map C40 r.toList)) := by
 unfold ZbO at h
 replace h := Qd h
 refine So Tryz.func101 Y fun w0 A=>Tr<|Rx Y (Zja 0 Y (ov Y) XT arL)<|Rx Y (ZL (row := (List.map C40 (Vector.replicate 64 0).toList)) 1 Y Zfv Y tZ_42)<|Za<|I1 (fun f2=>⟨[(1, .ptr 0 1 0 0), (2, .ptr 1 1 0 0)], [some ⟨42, [(List.map C40 f2.toList)]⟩, some ⟨42, [(List.map C40 (Vector.replicate 64 0).toList)]⟩]⟩) h (fun h=>?_) fun f2 h=>?_
 ·
  refine K2 1 2 Y<|Tr<|Ra Y<|Za<|Zk<|?_
  obtain ⟨r1, hl1, ho1⟩ := QY h
  refine L2 (fun f3 i=>⟨[(1, .ptr 0 1 0 0), (2, .ptr 1 1 0 0), (3, .int .i64 i)], [some ⟨42, [(List.map C40 f3.toList)]⟩, some ⟨42, [(List.map C40 (Vector.replicate 64 0).toList)]⟩]⟩) hl1 (ES [some 0, some 1]) fun n1 f3 i h=>?_
  unfold Za0 at h
  refine Zl<|Tr<|Rm Y<|R2 ZhD Y<|Za<|K4 1 2 3 5 Y<|If h Y (fun h=>?_) fun h=>?_
  ·
   exact Zm<|Zl<|Zk<|K3 1 2 3 Y<|ZA<|Rm Y<|Rm Y<|bE h fun x h_x h=>Rq Y (Ji (ov Y) (ov Y) JL Y Y h_x)<|Rq Y (Zo (ov Y) Y Y Y ZaG<|Qp<|Xd (o := 0) (o' := (i.toNat * 1)) (ZB arL)<|Xj h_x)<|Rq Y (Qv (ov Y) ZcJ tI3 Y)<|bE h fun q h_q h=>Rq Y (JM (ov Y) (ov Y) h_q)<|bE h fun y h_y h=>Rq Y (Zq (Zcd h_y)<|.cons (ov Y) (.b Y) .nil)<|Rq Y (Qv (ov Y) tI3 ZcJ Y)<|bE h fun x2 h_x2 h=>Rq Y (Ji (ov Y) (ov Y) JL Y Y h_x2)<|Rx Y (Zh (ov Y) (ov Y) (Zf ZaG) Y Y Y (arB h_x2) (Zb Y)<|arS h_x2)<|Za<|K3 1 2 3 Y<|ZA<|Rm Y<|R2 ZY Y<|Ra Y<|Za<|⟨_, h, ES [some 0, some 1]⟩
  ·
   refine ZN<|?_
   replace h := lx h ▸ ho1
   exact ⟨_, h, ES [some 0, some 1]⟩
 ·
  refine Tr<|Rq Y (Qb (ov Y) Y Y Y XT (Qx<|ZB arL) arL (hns := (nsM fun _ => Y)))<|bE h fun y2 h_y2 h=>Rq Y (Zq (Zgg h_y2)<|.cons (ov Y) (.aggB<|arD fun _ => Y) .nil)<|bE h fun y3 h_y3 h=>Rq Y (Zq (ZgP h_y3)<|.cons (ov Y) (.b Y) .nil)<|Rq Y (Qv (ov Y) tI3 ZcJ Y)<|bE h fun x3 h_x3 h=>Rq Y (Ji (ov Y) (ov Y) JL Y Y h_x3)<|Rx Y (Zh (ov Y) (ov Y) (Zf ZaG) Y Y Y (arB h_x3) (Zb Y)<|arS h_x3)<|Za<|K2 1 2 Y<|Tr<|Rq Y (Qb (ov Y) Y Y Y XT (Qx<|ZB arL) arL (hns := (nsM fun _ => Y)))<|bE h fun y4 h_y4 h=>Rq Y (Zq (Zip h_y4)<|.cons (ov Y) (.aggB<|arD fun _ => Y) .nil)<|bE h fun y5 h_y5 h=>Rq Y (Zq (Zcd h_y5)<|.cons (ov Y) (.b Y) .nil)<|Rq Y (Qv (ov Y) tI3 ZcJ Y)<|bE h fun x4 h_x4 h=>Rq Y (Ji (ov Y) (ov Y) JL Y Y h_x4)<|Rx Y (Zh (ov Y) (ov Y) (Zf ZaG) Y Y Y (arB h_x4) (Zb Y)<|arS h_x4)<|Za<|K2 1 2 Y<|Tr<|Rq Y (Qb (ov Y) Y Y Y XT (Qx<|ZB arL) arL (hns := (nsM fun _ => Y)))<|bE h fun y6 h_y6 h=>Rq Y (Zq (Zgu h_y6)<|.cons (ov Y) (.aggB<|arD fun _ => Y) .nil)<|Rx Y (Zh (ov Y) (ov Y) (Zu XT arL) Y Y Y (Zae (ZB arL) arL) (Zb<|arC fun _ => Y)<|X0<|Eq.trans arL<|Eq.symm arL)<|Za<|?_
  obtain rfl := rt h
  exact Zs (ZQ Y (.one<|.agg Y Y Y Y XT (Qx<|ZB arL) arL (pwB<|arD fun _ => Y) (hns := (nsM fun _ => Y))))
theorem Zij {number : Int} {data : List Int} {r : (Vector Int 64) × Int} (h : Zd2 number data = some r) :
 CSpec Tryz.prog gl0 61 [.int .i64 number, .sl 3 (List.map R3 data)] (.tuple [.agg (List.map C40 r.1.toList), .int .i64 r.2]) := by
 unfold Zd2 at h
 replace h := Qd h
 refine So Tryz.func61 Y fun w0 A=>Tr<|Rx Y (ZL (row := (List.map C40 (Vector.replicate 64 0).toList)) 0 Y Zfv Y tZ_42)<|Ra Y<|Za<|Zl<|K3 0 1 4 Y<|Tr<|Rm Y<|R2 Z1 Y<|Rm Y<|Rq Y (.guarded ((decide (number < 0)) == false) Y Y Y Y fun h => Zj<|ov Y)<|Rq Y (.guarded ((decide (number < 0)) == false) Y Y Y Y fun h => Zha (ow Y h)<|ov Y)<|Rq Y (ZdS (ov Y) fun hp=>ow Y<|gF hp)<|Za<|K4 0 1 4 14 Y<|If h Y (fun h=>?_) fun h=>?_
 ·
  refine K1 4 Y<|Tr<|R_q (.agg<|List.map C40 (#v[0, 0, 0, 0, 0, 0, 0, 0, 0, 0, 0, 0, 0, 0, 0, 0, 0, 0, 0, 0, 0, 0, 0, 0, 0, 0, 0, 0, 0, 0, 0, 0, 0, 0, 0, 0, 0, 0, 0, 0, 0, 0, 0, 0, 0, 0, 0, 0, 0, 0, 0, 0, 0, 0, 0, 0, 0, 0, 0, 0, 0, 0, 0, 0] : Vector Int 64).toList) Y (Zdi (ys := [_, _, _, _, _, _, _, _, _, _, _, _, _, _, _, _, _, _, _, _, _, _, _, _, _, _, _, _, _, _, _, _, _, _, _, _, _, _, _, _, _, _, _, _, _, _, _, _, _, _, _, _, _, _, _, _, _, _, _, _, _, _, _, _]) JL Zfv .nil Y)<|Rx Y (Zh (ov Y) (ov Y) (Zu XT arL) Y Y Y (Zae (ZB arL) arL) (Zb<|arC fun _ => Y)<|X0<|Eq.trans arL<|Eq.symm arL)<|Ra Y<|Za<|?_
  obtain rfl := rt h
  exact Zs (ZQ Y (.two (.agg Y Y Y Y XT (Qx<|ZB arL) arL (pwB<|arD fun _ => Y) (hns := (nsM fun _ => Y)))<|rb Y))
 ·
  refine Zm<|Zl<|K3 0 1 4 Y<|Tr<|Rm Y<|Rl tZ_3 QH Y<|R2 XK Y<|Za<|K4 0 1 4 18 Y<|If h Y (fun h=>?_) fun h=>?_
  ·
   refine K1 4 Y<|Tr<|R_q (.agg<|List.map C40 (#v[0, 0, 0, 0, 0, 0, 0, 0, 0, 0, 0, 0, 0, 0, 0, 0, 0, 0, 0, 0, 0, 0, 0, 0, 0, 0, 0, 0, 0, 0, 0, 0, 0, 0, 0, 0, 0, 0, 0, 0, 0, 0, 0, 0, 0, 0, 0, 0, 0, 0, 0, 0, 0, 0, 0, 0, 0, 0, 0, 0, 0, 0, 0, 0] : Vector Int 64).toList) Y (Zdi (ys := [_, _, _, _, _, _, _, _, _, _, _, _, _, _, _, _, _, _, _, _, _, _, _, _, _, _, _, _, _, _, _, _, _, _, _, _, _, _, _, _, _, _, _, _, _, _, _, _, _, _, _, _, _, _, _, _, _, _, _, _, _, _, _, _]) JL Zfv .nil Y)<|Rx Y (Zh (ov Y) (ov Y) (Zu XT arL) Y Y Y (Zae (ZB arL) arL) (Zb<|arC fun _ => Y)<|X0<|Eq.trans arL<|Eq.symm arL)<|Ra Y<|Za<|?_
   obtain rfl := rt h
   exact Zs (ZQ Y (.two (.agg Y Y Y Y XT (Qx<|ZB arL) arL (pwB<|arD fun _ => Y) (hns := (nsM fun _ => Y)))<|rb Y))
  ·
   refine Zm<|K3 0 1 4 Y<|Tr<|R_q (.agg<|List.map C40 (#v[0, 0, 0, 0, 0, 0, 0, 0, 0, 0, 0, 0, 0, 0, 0, 0, 0, 0, 0, 0, 0, 0, 0, 0, 0, 0, 0, 0, 0, 0, 0, 0, 0, 0, 0, 0, 0, 0, 0, 0, 0, 0, 0, 0, 0, 0, 0, 0, 0, 0, 0, 0, 0, 0, 0, 0, 0, 0, 0, 0, 0, 0, 0, 0] : Vector Int 64).toList) Y (Zdi (ys := [_, _, _, _, _, _, _, _, _, _, _, _, _, _, _, _, _, _, _, _, _, _, _, _, _, _, _, _, _, _, _, _, _, _, _, _, _, _, _, _, _, _, _, _, _, _, _, _, _, _, _, _, _, _, _, _, _, _, _, _, _, _, _, _]) JL Zfv .nil Y)<|Rx Y (ZL (row := (List.map C40 (Vector.replicate 64 0).toList)) 1 Y Zfv Y tZ_42)<|Rx Y (Zh (ov Y) (ov Y) (Zu XT arL) Y Y Y (Zae (ZB arL) arL) (Zb<|arC fun _ => Y)<|X0<|Eq.trans arL<|Eq.symm arL)<|Za<|K4 0 1 4 6 Y<|Tr<|Rm Y<|bE h fun q h_q h=>Rq Y (JM (ov Y) (ov Y) h_q)<|Rq Y (Qv (ov Y) tI3 ZcJ Y)<|Rm Y<|bE h fun q2 h_q2 h=>Rq Y (Zfe (ov Y) (ov Y) h_q2)<|Rq Y (Qv (ov Y) tI3 ZcJ Y)<|bE h fun x h_x h=>Rq Y (Ji (ov Y) (ov Y) JL Y Y h_x)<|Rx Y (Zh (ov Y) (ov Y) (Zf ZaG) Y Y Y (arB h_x) (Zb Y)<|arS h_x)<|bE h fun x2 h_x2 h=>Rq Y (Ji (ov Y) (ov Y) JL Y Y h_x2)<|Rx Y (Zh (ov Y) (ov Y) (Zf ZaG) Y Y Y (arB h_x2) (Zb Y)<|arS h_x2)<|Za<|J1 (fun j => (.inr j)) (fun f=>⟨[(4, .ptr 0 1 0 0), (6, .ptr 1 1 0 0)], [some ⟨42, [(List.map C40 (Vector.replicate 64 0).toList)]⟩, some ⟨42, [(List.map C40 f.toList)]⟩]⟩) h (fun h=>?_) fun f h=>?_
   ·
    refine K3 1 4 6 Y<|Tr<|Rm Y<|Rl tZ_3 QH Y<|Rm Y<|Za<|Zk<|?_
    obtain ⟨r1, hl1, ho1⟩ := QY h
    refine L2 (fun f2 i=>⟨[(4, .ptr 0 1 0 0), (6, .ptr 1 1 0 0), (29, .sl 3 (List.map R3 data)), (30, .int .i64 (data.length : Int)), (31, .int .i64 i)], [some ⟨42, [(List.map C40 (Vector.replicate 64 0).toList)]⟩, some ⟨42, [(List.map C40 f2.toList)]⟩]⟩) hl1 (ES [some 0, some 1]) fun n1 f2 i h=>?_
    unfold ZcX at h
    refine Tr<|R2 Z1 Y<|Za<|Zl<|If h Y (fun h=>?_) fun h=>?_
    ·
     refine Zm<|Zl<|Zk<|K5 4 6 29 30 31 Y<|Tr<|Rm Y<|bE h fun x3 h_x3 h=>Rq Y (Z4 (ov Y) (ov Y) QH h_x3)<|Rq Y (Zi (ov Y) tS3 Y)<|Ra Y<|Ra Y<|Za<|Zl<|K7 4 6 7 8 29 30 31 Y<|Tr<|Rm Y<|R2 Z1 Y<|Rm Y<|Rq Y (.guarded ((decide (x3 < 0)) == false) Y Y Y Y fun h => Zj<|ov Y)<|Rq Y (.guarded ((decide (x3 < 0)) == false) Y Y Y Y fun h => Zcu (ow Y h)<|ov Y)<|Rq Y (ZdS (ov Y) fun hp=>ow Y<|gF hp)<|Za<|K8 4 6 7 8 29 30 31 41 Y<|If h Y (fun h=>?_) fun h=>?_
     ·
      refine K1 4 Y<|Tr<|R_q (.agg<|List.map C40 (#v[0, 0, 0, 0, 0, 0, 0, 0, 0, 0, 0, 0, 0, 0, 0, 0, 0, 0, 0, 0, 0, 0, 0, 0, 0, 0, 0, 0, 0, 0, 0, 0, 0, 0, 0, 0, 0, 0, 0, 0, 0, 0, 0, 0, 0, 0, 0, 0, 0, 0, 0, 0, 0, 0, 0, 0, 0, 0, 0, 0, 0, 0, 0, 0] : Vector Int 64).toList) Y (Zdi (ys := [_, _, _, _, _, _, _, _, _, _, _, _, _, _, _, _, _, _, _, _, _, _, _, _, _, _, _, _, _, _, _, _, _, _, _, _, _, _, _, _, _, _, _, _, _, _, _, _, _, _, _, _, _, _, _, _, _, _, _, _, _, _, _, _]) JL Zfv .nil Y)<|Rx Y (Zh (ov Y) (ov Y) (Zu XT arL) Y Y Y (Zae (ZB arL) arL) (Zb<|arC fun _ => Y)<|X0<|Eq.trans arL<|Eq.symm arL)<|Ra Y<|Za<|?_
      replace h := lx h ▸ ho1
      obtain rfl := rt h
      exact Zs (ZQ Y (.two (.agg Y Y Y Y XT (Qx<|ZB arL) arL (pwB<|arD fun _ => Y) (hns := (nsM fun _ => Y)))<|rb Y))
     ·
      exact Zm<|K7 4 6 7 8 29 30 31 Y<|ZA<|Rm Y<|R2 ZY Y<|Rm Y<|Rq Y (Qv (ov Y) tI3 ZcJ Y)<|bE h fun x4 h_x4 h=>Rq Y (Ji (ov Y) (ov Y) JL Y Y h_x4)<|Rx Y (Zh (ov Y) (ov Y) (Zf ZaG) Y Y Y (arB h_x4) (Zb Y)<|arS h_x4)<|Za<|K5 4 6 29 30 31 Y<|ZA<|R2 ZY Y<|Rm Y<|Za<|⟨_, h, ES [some 0, some 1]⟩
    ·
     refine ZN<|?_
     replace h := lx h ▸ ho1
     exact ⟨_, h, ES [some 0, some 1]⟩
   ·
    replace h := elr h
    replace h := t1i h
    refine Tr<|Rq Y (Qb (ov Y) Y Y Y XT (Qx<|ZB arL) arL (hns := (nsM fun _ => Y)))<|bE h fun y h_y h=>Rq Y (Zq (Zg1 h_y)<|.cons (ov Y) (.aggB<|arD fun _ => Y) .nil)<|Rx Y (Zh (ov Y) (ov Y) (Zu XT arL) Y Y Y (Zae (ZB arL) arL) (Zb<|arC fun _ => Y)<|X0<|Eq.trans arL<|Eq.symm arL)<|Ra Y<|Za<|?_
    obtain rfl := rt h
    exact Zs (ZQ Y (.two (.agg Y Y Y Y XT (Qx<|ZB arL) arL (pwB<|arD fun _ => Y) (hns := (nsM fun _ => Y)))<|rb Y))
theorem ZfA {sectors : Int} {slots : Int} {limit : Int} {r : api_Memory × Int} (h : Qa sectors slots limit = some r) :
 CSpec Tryz.prog gl0 10 [.int .i64 sectors, .int .i64 slots, .int .i64 limit] (.tuple [.agg [.int .i64 r.1.Slots, .int .i64 r.1.Limit, .sl 49 (List.map R49 r.1.Sectors), .sl 3 (List.map R3 r.1.Wear), .sl 4 (List.map R4 r.1.Bad)], .int .i64 r.2]) := by
 unfold Qa at h
 replace h := Qd h
 refine So Tryz.func10 Y fun w0 A=>Tr<|Rx Y (ZL (row := [_, _, _, _, _]) 0 Y Q8 Y tZ_26)<|Ra Y<|Za<|Zl<|K4 0 1 2 6 Y<|Tr<|Rm Y<|bE h fun y h_y h=>Rq Y (Zq (ZZ h_y)<|.cons (ov Y) (.b Y)<|.cons (ov Y) (.b Y)<|.cons (ov Y) (.b Y) .nil)<|R1 XU Y<|Rm Y<|Rq Y (.guarded ((!y) == false) Y Y Y Y fun h => Zj<|ov Y)<|bE h fun y2 h_y2 h=>Rq Y (.guarded ((!y) == false) Y Y Y Y fun h => Zq (ZZ<|gdT h_y2 h)<|.cons (ow Y h) (.b Y)<|.cons (ov Y) (.b Y)<|.cons (ov Y) (.b Y) .nil)<|Rq Y (.guarded ((!y) == false) Y Y Y Y fun h => XU<|ow Y h)<|Rq Y (ZdS (ov Y) fun hp=>ow Y<|gF hp)<|Rm Y<|Rq Y (.guarded (((!y) || (!y2)) == false) Y Y Y Y fun h => Zj<|ov Y)<|bE h fun y3 h_y3 h=>Rq Y (.guarded (((!y) || (!y2)) == false) Y Y Y Y fun h => Zq (ZZ<|gdT h_y3 h)<|.cons (ow Y h) (.b Y)<|.cons (ov Y) (.b Y)<|.cons (ov Y) (.b Y) .nil)<|Rq Y (.guarded (((!y) || (!y2)) == false) Y Y Y Y fun h => XU<|ow Y h)<|Rq Y (ZdS (ov Y) fun hp=>ow Y<|gF hp)<|Za<|K5 0 1 2 6 21 Y<|If h Y (fun h=>?_) fun h=>?_
 ·
  refine K1 6 Y<|Tr<|Rq Y (Z8 (ys := [_, _, _, _, _]) JR JS Q8 .nil Y)<|Rx Y (Zh (ov Y) (ov Y) (Zu Qu Y) Y Y Y (Nat.le_of_ble_eq_true Y) (Zb Y) Y)<|Ra Y<|Za<|?_
  obtain rfl := rt h
  exact Zs (ZQ Y (.two (.agg Y Y Y Y Qu Y Y<|.cons (Dat.view<|.b Y)<|.cons (Dat.view<|.b Y)<|.cons (View.nils 49)<|.cons (View.nils 3)<|.cons (View.nils 4) .nil)<|rb Y))
 ·
  refine Zm<|I2 (fun Wear Bad=>⟨[(0, .int .i64 sectors), (1, .int .i64 slots), (6, .ptr 0 1 0 0), (8, .ptr 1 1 0 0)], [some ⟨26, [[.int .i64 0, .int .i64 0, .nils, .nils, .nils]]⟩, some ⟨26, [[.int .i64 slots, .int .i64 limit, .nils, .own 2 Wear.length, .own 3 Bad.length]]⟩, some ⟨3, List.map R3 Wear⟩, some ⟨4, List.map R4 Bad⟩]⟩) h (fun h=>?_) fun Wear Bad h=>?_
  ·
   refine K4 0 1 2 6 Y<|Qj (cw := md0) (by kernel_rfl)<|ZP 0 _ Y (by kernel_rfl) Y Y (fun hp'=>Zj<|ov Y)<|ZP 1 _ Y (by kernel_rfl) Y Y (fun hp'=>Zj<|ov Y)<|ZP 2 _ Y (by kernel_rfl) Y Y (fun hp'=>Zj<|ov Y)<|ZP 4 _ Y (by kernel_rfl) Y Y (fun hp'=>Zj<|ov Y)<|bE h fun l h_l h=>bE h fun l2 h_l2 h=>Ze8 [3, 5, 7] (by kernel_rfl)<|.w Y Y Y (fun _=>Ext.app) (fun h=>by cases h) (Z2 [none] (r := 1) (f := R3) (z0 := 0) Y (ov Y) (ov Y) QH Y tZ3 Y Y h_l) ?_<|.w Y Y Y (fun _=>Ext.app) (fun h=>by cases h) (Z2 [none] (r := 1) (f := R4) (z0 := false) Y (ov Y) (ov Y) Zb0 Y tZ4 Y Y h_l2) ?_<|.w Y Y Y (fun _=>Ext.app) (fun h=>by cases h) (ZL (row := [_, _, _, _, _]) 1 Y Q8 Y tZ_26) ?_ .nil
   ·
    refine Zd8 5 7 Y Y (by kernel_rfl) Y Y Y Y (fun _=>Ext.app) (fun _=>Ext.app) (fun h=>by cases h) (fun h=>by cases h) (Z2 [none] (r := 2) (f := R4) (z0 := false) Y (ov Y) (ov Y) Zb0 Y tZ4 Y Y h_l2) (ZL (row := [_, _, _, _, _]) 2 Y Q8 Y tZ_26) ?_ ?_
    ·
     exact ZP 6 _ Y (by kernel_rfl) Y Y (fun hp'=>Z8 (ys := [_, _, _, _, _]) JR JS Q8 (.cons (cvs (ov Y)<|Zd Y)<|.cons (cvs (ov Y)<|Zd Y)<|.cons (cvs (ov Y)<|Zd Y)<|.cons (cvs (ov Y)<|Zd Y) .nil) Y)<|QA 7 _ _ Y (by kernel_rfl) Y Y (fun _=>Ext.app) (fun h=>by cases h) (ZL (row := [_, _, _, _, _]) 3 Y Q8 Y tZ_26)<|Do 8 Y (Zh (ov Y) (ov Y) (Zu Qu Y) Y Y Y (Nat.le_of_ble_eq_true Y) (Zb Y) Y)<|Dd<|⟨_, h, ES [some 0, some 3, some 1, some 2]⟩
    ·
     exact QA 5 _ _ Y (by kernel_rfl) Y Y (fun _=>Ext.app) (fun h=>by cases h) (Z2 [none] (r := 3) (f := R4) (z0 := false) Y (ov Y) (ov Y) Zb0 Y tZ4 Y Y h_l2)<|Dq 6 Y (Z8 (ys := [_, _, _, _, _]) JR JS Q8 (.cons (cvs (ov Y)<|Zd Y)<|.cons (cvs (ov Y)<|Zd Y)<|.cons (cvs (ov Y)<|Zd Y)<|.cons (cvs (ov Y)<|Zd Y) .nil) Y)<|Do 8 Y (Zh (ov Y) (ov Y) (Zu Qu Y) Y Y Y (Nat.le_of_ble_eq_true Y) (Zb Y) Y)<|Dd<|⟨_, h, ES [some 0, some 2, some 1, some 3]⟩
   ·
    refine Zd8 3 7 Y Y (by kernel_rfl) Y Y Y Y (fun _=>Ext.app) (fun _=>Ext.app) (fun h=>by cases h) (fun h=>by cases h) (Z2 [none] (r := 2) (f := R3) (z0 := 0) Y (ov Y) (ov Y) QH Y tZ3 Y Y h_l) (ZL (row := [_, _, _, _, _]) 2 Y Q8 Y tZ_26) ?_ ?_
    ·
     exact ZP 6 _ Y (by kernel_rfl) Y Y (fun hp'=>Z8 (ys := [_, _, _, _, _]) JR JS Q8 (.cons (cvs (ov Y)<|Zd Y)<|.cons (cvs (ov Y)<|Zd Y)<|.cons (cvs (ov Y)<|Zd Y)<|.cons (cvs (ov Y)<|Zd Y) .nil) Y)<|QA 7 _ _ Y (by kernel_rfl) Y Y (fun _=>Ext.app) (fun h=>by cases h) (ZL (row := [_, _, _, _, _]) 3 Y Q8 Y tZ_26)<|Do 8 Y (Zh (ov Y) (ov Y) (Zu Qu Y) Y Y Y (Nat.le_of_ble_eq_true Y) (Zb Y) Y)<|Dd<|⟨_, h, ES [some 0, some 3, some 2, some 1]⟩
    ·
     exact QA 3 _ _ Y (by kernel_rfl) Y Y (fun _=>Ext.app) (fun h=>by cases h) (Z2 [none] (r := 3) (f := R3) (z0 := 0) Y (ov Y) (ov Y) QH Y tZ3 Y Y h_l)<|Dq 6 Y (Z8 (ys := [_, _, _, _, _]) JR JS Q8 (.cons (cvs (ov Y)<|Zd Y)<|.cons (cvs (ov Y)<|Zd Y)<|.cons (cvs (ov Y)<|Zd Y)<|.cons (cvs (ov Y)<|Zd Y) .nil) Y)<|Do 8 Y (Zh (ov Y) (ov Y) (Zu Qu Y) Y Y Y (Nat.le_of_ble_eq_true Y) (Zb Y) Y)<|Dd<|⟨_, h, ES [some 0, some 2, some 3, some 1]⟩
   ·
    refine Zd8 3 5 Y Y (by kernel_rfl) Y Y Y Y (fun _=>Ext.app) (fun _=>Ext.app) (fun h=>by cases h) (fun h=>by cases h) (Z2 [none] (r := 2) (f := R3) (z0 := 0) Y (ov Y) (ov Y) QH Y tZ3 Y Y h_l) (Z2 [none] (r := 2) (f := R4) (z0 := false) Y (ov Y) (ov Y) Zb0 Y tZ4 Y Y h_l2) ?_ ?_
    ·
     exact QA 5 _ _ Y (by kernel_rfl) Y Y (fun _=>Ext.app) (fun h=>by cases h) (Z2 [none] (r := 3) (f := R4) (z0 := false) Y (ov Y) (ov Y) Zb0 Y tZ4 Y Y h_l2)<|Dq 6 Y (Z8 (ys := [_, _, _, _, _]) JR JS Q8 (.cons (cvs (ov Y)<|Zd Y)<|.cons (cvs (ov Y)<|Zd Y)<|.cons (cvs (ov Y)<|Zd Y)<|.cons (cvs (ov Y)<|Zd Y) .nil) Y)<|Do 8 Y (Zh (ov Y) (ov Y) (Zu Qu Y) Y Y Y (Nat.le_of_ble_eq_true Y) (Zb Y) Y)<|Dd<|⟨_, h, ES [some 0, some 1, some 2, some 3]⟩
    ·
     exact QA 3 _ _ Y (by kernel_rfl) Y Y (fun _=>Ext.app) (fun h=>by cases h) (Z2 [none] (r := 3) (f := R3) (z0 := 0) Y (ov Y) (ov Y) QH Y tZ3 Y Y h_l)<|Dq 6 Y (Z8 (ys := [_, _, _, _, _]) JR JS Q8 (.cons (cvs (ov Y)<|Zd Y)<|.cons (cvs (ov Y)<|Zd Y)<|.cons (cvs (ov Y)<|Zd Y)<|.cons (cvs (ov Y)<|Zd Y) .nil) Y)<|Do 8 Y (Zh (ov Y) (ov Y) (Zu Qu Y) Y Y Y (Nat.le_of_ble_eq_true Y) (Zb Y) Y)<|Dd<|⟨_, h, ES [some 0, some 1, some 3, some 2]⟩
  ·
   refine I1 (fun Sectors=>⟨[(6, .ptr 0 1 0 0), (8, .ptr 1 1 0 0)], [some ⟨26, [[.int .i64 0, .int .i64 0, .nils, .nils, .nils]]⟩, some ⟨26, [[.int .i64 slots, .int .i64 limit, .own 2 Sectors.length, .own 3 Wear.length, .own 4 Bad.length]]⟩, some ⟨49, List.map O49 Sectors⟩, some ⟨3, List.map R3 Wear⟩, some ⟨4, List.map R4 Bad⟩]⟩) h (fun h=>?_) fun Sectors h=>?_
   ·
    refine Tr<|Rm Y<|Rm Y<|Za<|Zk<|?_
    obtain ⟨r1, hl1, ho1⟩ := QY h
    refine L2 (fun Sectors2 i=>⟨[(1, .int .i64 slots), (6, .ptr 0 1 0 0), (8, .ptr 1 1 0 0), (30, .int .i64 sectors), (31, .int .i64 i)], [some ⟨26, [[.int .i64 0, .int .i64 0, .nils, .nils, .nils]]⟩, some ⟨26, [[.int .i64 slots, .int .i64 limit, .own 2 Sectors2.length, .own 3 Wear.length, .own 4 Bad.length]]⟩, some ⟨49, List.map O49 Sectors2⟩, some ⟨3, List.map R3 Wear⟩, some ⟨4, List.map R4 Bad⟩]⟩) hl1 (ES [some 0, some 1, none, some 2, some 3]) fun n1 Sectors2 i h=>?_
    unfold Q1 at h
    refine Tr<|R2 Z1 Y<|Za<|Zl<|If h Y (fun h=>?_) fun h=>?_
    ·
     refine Zm<|I1 (fun Sectors3=>⟨[(1, .int .i64 slots), (6, .ptr 0 1 0 0), (8, .ptr 1 1 0 0), (30, .int .i64 sectors), (31, .int .i64 i)], [some ⟨26, [[.int .i64 0, .int .i64 0, .nils, .nils, .nils]]⟩, some ⟨26, [[.int .i64 slots, .int .i64 limit, .own 2 Sectors3.length, .own 3 Wear.length, .own 4 Bad.length]]⟩, some ⟨49, List.map O49 Sectors3⟩, some ⟨3, List.map R3 Wear⟩, some ⟨4, List.map R4 Bad⟩]⟩) h (fun h=>?_) fun Sectors3 h=>?_
     ·
      refine Zk<|K5 1 6 8 30 31 Y<|Qj (cw := ⟨true, false, [], [], []⟩) (by kernel_rfl)<|ZP 3 _ Y (by kernel_rfl) Y Y (fun hp'=>Zj<|ov Y)<|bE h fun y4 h_y4 h=>Ze8 [0, 2, 4] (by kernel_rfl)<|.q Y Y Y (Zg (ov Y) Y Y Zp) ?_<|.w Y Y Y (fun h=>by cases h) (fun h=>by cases h) (Z7<|Q0 Qg (.cons (cvs (ov Y)<|Zd Y) Y (.cons (.b Y) .nil) .nil) Y Y) ?_<|.w Y Y Y (fun h=>by cases h) (fun h=>by cases h) (Z7<|Zq (Zy h_y4)<|.cons (ov Y) (.b Y) .nil) ?_ .nil
      ·
       refine Ze8 [1, 2, 4] (by kernel_rfl)<|.q Y Y Y (Zo (ov Y) Y Y Y ZD Y) ?_<|.w Y Y Y (fun h=>by cases h) (fun h=>by cases h) (Z7<|Q0 Qg (.cons (cvs (ov Y)<|Zd Y) Y (.cons (.b Y) .nil) .nil) Y Y) ?_<|.w Y Y Y (fun h=>by cases h) (fun h=>by cases h) (Z7<|Zq (Zy h_y4)<|.cons (ov Y) (.b Y) .nil) ?_ .nil
       ·
        refine Zd8 2 4 Y Y (by kernel_rfl) Y Y Y Y (fun h=>by cases h) (fun h=>by cases h) (fun h=>by cases h) (fun h=>by cases h) (Z7<|Q0 Qg (.cons (cvs (ov Y)<|Zd Y) Y (.cons (.b Y) .nil) .nil) Y Y) (Z7<|Zq (Zy h_y4)<|.cons (ov Y) (.b Y) .nil) ?_ ?_
        ·
         exact Do 4 Y (Z7<|Zq (Zy h_y4)<|.cons (ov Y) (.b Y) .nil)<|bE h fun y5 h_y5 h=>Do 5 Y (Zv [] (Zc h_y5) (.cons (ov Y) (.dat Y)<|.cons (ov Y) (.dat Y) .nil) .nil Y (.keep Y Y<|.keep Y Y<|.keep Y Y<|.keep Y Y<|.keep Y Y<|.lent 0 (.inr ⟨Nat.le_of_ble_eq_true Y, Y⟩) Y (roM D5) .nil) Y Y<|.own _<|.inr ⟨Nat.le_of_ble_eq_true Y, Y⟩)<|Do 6 Y (ZE (r := 6) Y Zz (.cons (cvs (ov Y)<|Zd Y) Y .nil) Y Y)<|bE h fun l3 h_l3 h=>Do 7 Y (Zn (f := O49) (ov Y) (Zw (o := ⟨49, [[.own 5 y5.length]]⟩) (ov Y) Y Y tZ_49) Zz Y Y (Zb Y) Y h_l3)<|Dq 8 Y (Zg (ov Y) Y Y Zp)<|Do 9 Y (Zh (ov Y) (ov Y) (Zf ZD) Y Y Y (Nat.le_of_ble_eq_true Y) (Zb Y) Y)<|Zx (by kernel_rfl) (Ent.trans (Ent.absorbH (r := 2) (j := 0) (q := 5) Y (Ze h_l3) Y Y (List.length_map ..) Y)<|Ent.closeS (r := 2) Y (Ze h_l3) Y)<|⟨_, h, ES [some 0, some 1, some 2, some 3, some 4] (hhp := .cons Y (ro1 (by exact tZ_26.symm)<|rld Y)<|.cons Y (ro1 (by exact tZ_26.symm)<|rlc (.dat Y)<|rlc (.dat Y)<|rlc (.own _ Y)<|rlc (.own _ Y)<|rlc (.own _ Y) rln)<|.cons Y (roO ZW)<|.cons Y (roM D3)<|.cons Y (roM D4) .nil)⟩
        ·
         exact QA 2 (.sl 5<|List.map R5 ([255] : List Int)) _ Y (by kernel_rfl) Y Y (fun h=>by cases h) (fun h=>by cases h) (Z7<|Q0 Qg (.cons (cvs (ov Y)<|Zd Y) Y (.cons (.b Y) .nil) .nil) Y Y)<|bE h fun y5 h_y5 h=>Do 5 Y (Zv [] (Zc h_y5) (.cons (ov Y) (.dat Y)<|.cons (ov Y) (.dat Y) .nil) .nil Y (.keep Y Y<|.keep Y Y<|.keep Y Y<|.keep Y Y<|.keep Y Y<|.lent 0 (.inr ⟨Nat.le_of_ble_eq_true Y, Y⟩) Y (roM D5) .nil) Y Y<|.own _<|.inr ⟨Nat.le_of_ble_eq_true Y, Y⟩)<|Do 6 Y (ZE (r := 6) Y Zz (.cons (cvs (ov Y)<|Zd Y) Y .nil) Y Y)<|bE h fun l3 h_l3 h=>Do 7 Y (Zn (f := O49) (ov Y) (Zw (o := ⟨49, [[.own 5 y5.length]]⟩) (ov Y) Y Y tZ_49) Zz Y Y (Zb Y) Y h_l3)<|Dq 8 Y (Zg (ov Y) Y Y Zp)<|Do 9 Y (Zh (ov Y) (ov Y) (Zf ZD) Y Y Y (Nat.le_of_ble_eq_true Y) (Zb Y) Y)<|Zx (by kernel_rfl) (Ent.trans (Ent.absorbH (r := 2) (j := 0) (q := 5) Y (Ze h_l3) Y Y (List.length_map ..) Y)<|Ent.closeS (r := 2) Y (Ze h_l3) Y)<|⟨_, h, ES [some 0, some 1, some 2, some 3, some 4] (hhp := .cons Y (ro1 (by exact tZ_26.symm)<|rld Y)<|.cons Y (ro1 (by exact tZ_26.symm)<|rlc (.dat Y)<|rlc (.dat Y)<|rlc (.own _ Y)<|rlc (.own _ Y)<|rlc (.own _ Y) rln)<|.cons Y (roO ZW)<|.cons Y (roM D3)<|.cons Y (roM D4) .nil)⟩
       ·
        refine Dw 1 4 Y (Zo (ov Y) Y Y Y ZD Y) (Z7<|Zq (Zy h_y4)<|.cons (ov Y) (.b Y) .nil) ?_ ?_
        ·
         exact Do 4 Y (Z7<|Zq (Zy h_y4)<|.cons (ov Y) (.b Y) .nil)<|bE h fun y5 h_y5 h=>Do 5 Y (Zv [] (Zc h_y5) (.cons (ov Y) (.dat Y)<|.cons (ov Y) (.dat Y) .nil) .nil Y (.keep Y Y<|.keep Y Y<|.keep Y Y<|.keep Y Y<|.keep Y Y<|.lent 0 (.inr ⟨Nat.le_of_ble_eq_true Y, Y⟩) Y (roM D5) .nil) Y Y<|.own _<|.inr ⟨Nat.le_of_ble_eq_true Y, Y⟩)<|Do 6 Y (ZE (r := 6) Y Zz (.cons (cvs (ov Y)<|Zd Y) Y .nil) Y Y)<|bE h fun l3 h_l3 h=>Do 7 Y (Zn (f := O49) (ov Y) (Zw (o := ⟨49, [[.own 5 y5.length]]⟩) (ov Y) Y Y tZ_49) Zz Y Y (Zb Y) Y h_l3)<|Dq 8 Y (Zg (ov Y) Y Y Zp)<|Do 9 Y (Zh (ov Y) (ov Y) (Zf ZD) Y Y Y (Nat.le_of_ble_eq_true Y) (Zb Y) Y)<|Zx (by kernel_rfl) (Ent.trans (Ent.absorbH (r := 2) (j := 0) (q := 5) Y (Ze h_l3) Y Y (List.length_map ..) Y)<|Ent.closeS (r := 2) Y (Ze h_l3) Y)<|⟨_, h, ES [some 0, some 1, some 2, some 3, some 4] (hhp := .cons Y (ro1 (by exact tZ_26.symm)<|rld Y)<|.cons Y (ro1 (by exact tZ_26.symm)<|rlc (.dat Y)<|rlc (.dat Y)<|rlc (.own _ Y)<|rlc (.own _ Y)<|rlc (.own _ Y) rln)<|.cons Y (roO ZW)<|.cons Y (roM D3)<|.cons Y (roM D4) .nil)⟩
        ·
         refine bE h fun y5 h_y5 h=>Dw 1 5 Y (Zo (ov Y) Y Y Y ZD Y) (Zv [] (Zc h_y5) (.cons (ov Y) (.dat Y)<|.cons (ov Y) (.dat Y) .nil) .nil Y (.keep Y Y<|.keep Y Y<|.keep Y Y<|.keep Y Y<|.keep Y Y<|.lent 0 (.inr ⟨Nat.le_of_ble_eq_true Y, Y⟩) Y (roM D5) .nil) Y Y<|.own _<|.inr ⟨Nat.le_of_ble_eq_true Y, Y⟩) ?_ ?_
         ·
          exact Do 5 Y (Zv [] (Zc h_y5) (.cons (ov Y) (.dat Y)<|.cons (ov Y) (.dat Y) .nil) .nil Y (.keep Y Y<|.keep Y Y<|.keep Y Y<|.keep Y Y<|.keep Y Y<|.lent 0 (.inr ⟨Nat.le_of_ble_eq_true Y, Y⟩) Y (roM D5) .nil) Y Y<|.own _<|.inr ⟨Nat.le_of_ble_eq_true Y, Y⟩)<|Do 6 Y (ZE (r := 6) Y Zz (.cons (cvs (ov Y)<|Zd Y) Y .nil) Y Y)<|bE h fun l3 h_l3 h=>Do 7 Y (Zn (f := O49) (ov Y) (Zw (o := ⟨49, [[.own 5 y5.length]]⟩) (ov Y) Y Y tZ_49) Zz Y Y (Zb Y) Y h_l3)<|Dq 8 Y (Zg (ov Y) Y Y Zp)<|Do 9 Y (Zh (ov Y) (ov Y) (Zf ZD) Y Y Y (Nat.le_of_ble_eq_true Y) (Zb Y) Y)<|Zx (by kernel_rfl) (Ent.trans (Ent.absorbH (r := 2) (j := 0) (q := 5) Y (Ze h_l3) Y Y (List.length_map ..) Y)<|Ent.closeS (r := 2) Y (Ze h_l3) Y)<|⟨_, h, ES [some 0, some 1, some 2, some 3, some 4] (hhp := .cons Y (ro1 (by exact tZ_26.symm)<|rld Y)<|.cons Y (ro1 (by exact tZ_26.symm)<|rlc (.dat Y)<|rlc (.dat Y)<|rlc (.own _ Y)<|rlc (.own _ Y)<|rlc (.own _ Y) rln)<|.cons Y (roO ZW)<|.cons Y (roM D3)<|.cons Y (roM D4) .nil)⟩
         ·
          refine Dw 1 6 Y (Zo (ov Y) Y Y Y ZD Y) (ZE (r := 6) Y Zz (.cons (cvs (ov Y)<|Zd Y) Y .nil) Y Y) ?_ ?_
          ·
           exact Do 6 Y (ZE (r := 6) Y Zz (.cons (cvs (ov Y)<|Zd Y) Y .nil) Y Y)<|bE h fun l3 h_l3 h=>Do 7 Y (Zn (f := O49) (ov Y) (Zw (o := ⟨49, [[.own 5 y5.length]]⟩) (ov Y) Y Y tZ_49) Zz Y Y (Zb Y) Y h_l3)<|Dq 8 Y (Zg (ov Y) Y Y Zp)<|Do 9 Y (Zh (ov Y) (ov Y) (Zf ZD) Y Y Y (Nat.le_of_ble_eq_true Y) (Zb Y) Y)<|Zx (by kernel_rfl) (Ent.trans (Ent.absorbH (r := 2) (j := 0) (q := 5) Y (Ze h_l3) Y Y (List.length_map ..) Y)<|Ent.closeS (r := 2) Y (Ze h_l3) Y)<|⟨_, h, ES [some 0, some 1, some 2, some 3, some 4] (hhp := .cons Y (ro1 (by exact tZ_26.symm)<|rld Y)<|.cons Y (ro1 (by exact tZ_26.symm)<|rlc (.dat Y)<|rlc (.dat Y)<|rlc (.own _ Y)<|rlc (.own _ Y)<|rlc (.own _ Y) rln)<|.cons Y (roO ZW)<|.cons Y (roM D3)<|.cons Y (roM D4) .nil)⟩
          ·
           exact Dq 1 Y (Zo (ov Y) Y Y Y ZD Y)<|bE h fun l3 h_l3 h=>Do 7 Y (Zn (f := O49) (ov Y) (Zw (o := ⟨49, [[.own 5 y5.length]]⟩) (ov Y) Y Y tZ_49) Zz Y Y (Zb Y) Y h_l3)<|Dq 8 Y (Zg (ov Y) Y Y Zp)<|Do 9 Y (Zh (ov Y) (ov Y) (Zf ZD) Y Y Y (Nat.le_of_ble_eq_true Y) (Zb Y) Y)<|Zx (by kernel_rfl) (Ent.trans (Ent.absorbH (r := 2) (j := 0) (q := 5) Y (Ze h_l3) Y Y (List.length_map ..) Y)<|Ent.closeS (r := 2) Y (Ze h_l3) Y)<|⟨_, h, ES [some 0, some 1, some 2, some 3, some 4] (hhp := .cons Y (ro1 (by exact tZ_26.symm)<|rld Y)<|.cons Y (ro1 (by exact tZ_26.symm)<|rlc (.dat Y)<|rlc (.dat Y)<|rlc (.own _ Y)<|rlc (.own _ Y)<|rlc (.own _ Y) rln)<|.cons Y (roO ZW)<|.cons Y (roM D3)<|.cons Y (roM D4) .nil)⟩
       ·
        refine Dw 1 2 Y (Zo (ov Y) Y Y Y ZD Y) (Z7<|Q0 Qg (.cons (cvs (ov Y)<|Zd Y) Y (.cons (.b Y) .nil) .nil) Y Y) ?_ ?_
        ·
         exact QA 2 (.sl 5<|List.map R5 ([255] : List Int)) _ Y (by kernel_rfl) Y Y (fun h=>by cases h) (fun h=>by cases h) (Z7<|Q0 Qg (.cons (cvs (ov Y)<|Zd Y) Y (.cons (.b Y) .nil) .nil) Y Y)<|bE h fun y5 h_y5 h=>Do 5 Y (Zv [] (Zc h_y5) (.cons (ov Y) (.dat Y)<|.cons (ov Y) (.dat Y) .nil) .nil Y (.keep Y Y<|.keep Y Y<|.keep Y Y<|.keep Y Y<|.keep Y Y<|.lent 0 (.inr ⟨Nat.le_of_ble_eq_true Y, Y⟩) Y (roM D5) .nil) Y Y<|.own _<|.inr ⟨Nat.le_of_ble_eq_true Y, Y⟩)<|Do 6 Y (ZE (r := 6) Y Zz (.cons (cvs (ov Y)<|Zd Y) Y .nil) Y Y)<|bE h fun l3 h_l3 h=>Do 7 Y (Zn (f := O49) (ov Y) (Zw (o := ⟨49, [[.own 5 y5.length]]⟩) (ov Y) Y Y tZ_49) Zz Y Y (Zb Y) Y h_l3)<|Dq 8 Y (Zg (ov Y) Y Y Zp)<|Do 9 Y (Zh (ov Y) (ov Y) (Zf ZD) Y Y Y (Nat.le_of_ble_eq_true Y) (Zb Y) Y)<|Zx (by kernel_rfl) (Ent.trans (Ent.absorbH (r := 2) (j := 0) (q := 5) Y (Ze h_l3) Y Y (List.length_map ..) Y)<|Ent.closeS (r := 2) Y (Ze h_l3) Y)<|⟨_, h, ES [some 0, some 1, some 2, some 3, some 4] (hhp := .cons Y (ro1 (by exact tZ_26.symm)<|rld Y)<|.cons Y (ro1 (by exact tZ_26.symm)<|rlc (.dat Y)<|rlc (.dat Y)<|rlc (.own _ Y)<|rlc (.own _ Y)<|rlc (.own _ Y) rln)<|.cons Y (roO ZW)<|.cons Y (roM D3)<|.cons Y (roM D4) .nil)⟩
        ·
         refine bE h fun y5 h_y5 h=>Dw 1 5 Y (Zo (ov Y) Y Y Y ZD Y) (Zv [] (Zc h_y5) (.cons (ov Y) (.dat Y)<|.cons (ov Y) (.dat Y) .nil) .nil Y (.keep Y Y<|.keep Y Y<|.keep Y Y<|.keep Y Y<|.keep Y Y<|.lent 0 (.inr ⟨Nat.le_of_ble_eq_true Y, Y⟩) Y (roM D5) .nil) Y Y<|.own _<|.inr ⟨Nat.le_of_ble_eq_true Y, Y⟩) ?_ ?_
         ·
          exact Do 5 Y (Zv [] (Zc h_y5) (.cons (ov Y) (.dat Y)<|.cons (ov Y) (.dat Y) .nil) .nil Y (.keep Y Y<|.keep Y Y<|.keep Y Y<|.keep Y Y<|.keep Y Y<|.lent 0 (.inr ⟨Nat.le_of_ble_eq_true Y, Y⟩) Y (roM D5) .nil) Y Y<|.own _<|.inr ⟨Nat.le_of_ble_eq_true Y, Y⟩)<|Do 6 Y (ZE (r := 6) Y Zz (.cons (cvs (ov Y)<|Zd Y) Y .nil) Y Y)<|bE h fun l3 h_l3 h=>Do 7 Y (Zn (f := O49) (ov Y) (Zw (o := ⟨49, [[.own 5 y5.length]]⟩) (ov Y) Y Y tZ_49) Zz Y Y (Zb Y) Y h_l3)<|Dq 8 Y (Zg (ov Y) Y Y Zp)<|Do 9 Y (Zh (ov Y) (ov Y) (Zf ZD) Y Y Y (Nat.le_of_ble_eq_true Y) (Zb Y) Y)<|Zx (by kernel_rfl) (Ent.trans (Ent.absorbH (r := 2) (j := 0) (q := 5) Y (Ze h_l3) Y Y (List.length_map ..) Y)<|Ent.closeS (r := 2) Y (Ze h_l3) Y)<|⟨_, h, ES [some 0, some 1, some 2, some 3, some 4] (hhp := .cons Y (ro1 (by exact tZ_26.symm)<|rld Y)<|.cons Y (ro1 (by exact tZ_26.symm)<|rlc (.dat Y)<|rlc (.dat Y)<|rlc (.own _ Y)<|rlc (.own _ Y)<|rlc (.own _ Y) rln)<|.cons Y (roO ZW)<|.cons Y (roM D3)<|.cons Y (roM D4) .nil)⟩
         ·
          refine Dw 1 6 Y (Zo (ov Y) Y Y Y ZD Y) (ZE (r := 6) Y Zz (.cons (cvs (ov Y)<|Zd Y) Y .nil) Y Y) ?_ ?_
          ·
           exact Do 6 Y (ZE (r := 6) Y Zz (.cons (cvs (ov Y)<|Zd Y) Y .nil) Y Y)<|bE h fun l3 h_l3 h=>Do 7 Y (Zn (f := O49) (ov Y) (Zw (o := ⟨49, [[.own 5 y5.length]]⟩) (ov Y) Y Y tZ_49) Zz Y Y (Zb Y) Y h_l3)<|Dq 8 Y (Zg (ov Y) Y Y Zp)<|Do 9 Y (Zh (ov Y) (ov Y) (Zf ZD) Y Y Y (Nat.le_of_ble_eq_true Y) (Zb Y) Y)<|Zx (by kernel_rfl) (Ent.trans (Ent.absorbH (r := 2) (j := 0) (q := 5) Y (Ze h_l3) Y Y (List.length_map ..) Y)<|Ent.closeS (r := 2) Y (Ze h_l3) Y)<|⟨_, h, ES [some 0, some 1, some 2, some 3, some 4] (hhp := .cons Y (ro1 (by exact tZ_26.symm)<|rld Y)<|.cons Y (ro1 (by exact tZ_26.symm)<|rlc (.dat Y)<|rlc (.dat Y)<|rlc (.own _ Y)<|rlc (.own _ Y)<|rlc (.own _ Y) rln)<|.cons Y (roO ZW)<|.cons Y (roM D3)<|.cons Y (roM D4) .nil)⟩
          ·
           exact Dq 1 Y (Zo (ov Y) Y Y Y ZD Y)<|bE h fun l3 h_l3 h=>Do 7 Y (Zn (f := O49) (ov Y) (Zw (o := ⟨49, [[.own 5 y5.length]]⟩) (ov Y) Y Y tZ_49) Zz Y Y (Zb Y) Y h_l3)<|Dq 8 Y (Zg (ov Y) Y Y Zp)<|Do 9 Y (Zh (ov Y) (ov Y) (Zf ZD) Y Y Y (Nat.le_of_ble_eq_true Y) (Zb Y) Y)<|Zx (by kernel_rfl) (Ent.trans (Ent.absorbH (r := 2) (j := 0) (q := 5) Y (Ze h_l3) Y Y (List.length_map ..) Y)<|Ent.closeS (r := 2) Y (Ze h_l3) Y)<|⟨_, h, ES [some 0, some 1, some 2, some 3, some 4] (hhp := .cons Y (ro1 (by exact tZ_26.symm)<|rld Y)<|.cons Y (ro1 (by exact tZ_26.symm)<|rlc (.dat Y)<|rlc (.dat Y)<|rlc (.own _ Y)<|rlc (.own _ Y)<|rlc (.own _ Y) rln)<|.cons Y (roO ZW)<|.cons Y (roM D3)<|.cons Y (roM D4) .nil)⟩
      ·
       refine Dw 0 4 Y (Zg (ov Y) Y Y Zp) (Z7<|Zq (Zy h_y4)<|.cons (ov Y) (.b Y) .nil) ?_ ?_
       ·
        refine Dw 1 4 Y (Zo (ov Y) Y Y Y ZD Y) (Z7<|Zq (Zy h_y4)<|.cons (ov Y) (.b Y) .nil) ?_ ?_
        ·
         exact Do 4 Y (Z7<|Zq (Zy h_y4)<|.cons (ov Y) (.b Y) .nil)<|bE h fun y5 h_y5 h=>Do 5 Y (Zv [] (Zc h_y5) (.cons (ov Y) (.dat Y)<|.cons (ov Y) (.dat Y) .nil) .nil Y (.keep Y Y<|.keep Y Y<|.keep Y Y<|.keep Y Y<|.keep Y Y<|.lent 0 (.inr ⟨Nat.le_of_ble_eq_true Y, Y⟩) Y (roM D5) .nil) Y Y<|.own _<|.inr ⟨Nat.le_of_ble_eq_true Y, Y⟩)<|Do 6 Y (ZE (r := 6) Y Zz (.cons (cvs (ov Y)<|Zd Y) Y .nil) Y Y)<|bE h fun l3 h_l3 h=>Do 7 Y (Zn (f := O49) (ov Y) (Zw (o := ⟨49, [[.own 5 y5.length]]⟩) (ov Y) Y Y tZ_49) Zz Y Y (Zb Y) Y h_l3)<|Dq 8 Y (Zg (ov Y) Y Y Zp)<|Do 9 Y (Zh (ov Y) (ov Y) (Zf ZD) Y Y Y (Nat.le_of_ble_eq_true Y) (Zb Y) Y)<|Zx (by kernel_rfl) (Ent.trans (Ent.absorbH (r := 2) (j := 0) (q := 5) Y (Ze h_l3) Y Y (List.length_map ..) Y)<|Ent.closeS (r := 2) Y (Ze h_l3) Y)<|⟨_, h, ES [some 0, some 1, some 2, some 3, some 4] (hhp := .cons Y (ro1 (by exact tZ_26.symm)<|rld Y)<|.cons Y (ro1 (by exact tZ_26.symm)<|rlc (.dat Y)<|rlc (.dat Y)<|rlc (.own _ Y)<|rlc (.own _ Y)<|rlc (.own _ Y) rln)<|.cons Y (roO ZW)<|.cons Y (roM D3)<|.cons Y (roM D4) .nil)⟩
        ·
         refine bE h fun y5 h_y5 h=>Dw 1 5 Y (Zo (ov Y) Y Y Y ZD Y) (Zv [] (Zc h_y5) (.cons (ov Y) (.dat Y)<|.cons (ov Y) (.dat Y) .nil) .nil Y (.keep Y Y<|.keep Y Y<|.keep Y Y<|.keep Y Y<|.keep Y Y<|.lent 0 (.inr ⟨Nat.le_of_ble_eq_true Y, Y⟩) Y (roM D5) .nil) Y Y<|.own _<|.inr ⟨Nat.le_of_ble_eq_true Y, Y⟩) ?_ ?_
         ·
          exact Do 5 Y (Zv [] (Zc h_y5) (.cons (ov Y) (.dat Y)<|.cons (ov Y) (.dat Y) .nil) .nil Y (.keep Y Y<|.keep Y Y<|.keep Y Y<|.keep Y Y<|.keep Y Y<|.lent 0 (.inr ⟨Nat.le_of_ble_eq_true Y, Y⟩) Y (roM D5) .nil) Y Y<|.own _<|.inr ⟨Nat.le_of_ble_eq_true Y, Y⟩)<|Do 6 Y (ZE (r := 6) Y Zz (.cons (cvs (ov Y)<|Zd Y) Y .nil) Y Y)<|bE h fun l3 h_l3 h=>Do 7 Y (Zn (f := O49) (ov Y) (Zw (o := ⟨49, [[.own 5 y5.length]]⟩) (ov Y) Y Y tZ_49) Zz Y Y (Zb Y) Y h_l3)<|Dq 8 Y (Zg (ov Y) Y Y Zp)<|Do 9 Y (Zh (ov Y) (ov Y) (Zf ZD) Y Y Y (Nat.le_of_ble_eq_true Y) (Zb Y) Y)<|Zx (by kernel_rfl) (Ent.trans (Ent.absorbH (r := 2) (j := 0) (q := 5) Y (Ze h_l3) Y Y (List.length_map ..) Y)<|Ent.closeS (r := 2) Y (Ze h_l3) Y)<|⟨_, h, ES [some 0, some 1, some 2, some 3, some 4] (hhp := .cons Y (ro1 (by exact tZ_26.symm)<|rld Y)<|.cons Y (ro1 (by exact tZ_26.symm)<|rlc (.dat Y)<|rlc (.dat Y)<|rlc (.own _ Y)<|rlc (.own _ Y)<|rlc (.own _ Y) rln)<|.cons Y (roO ZW)<|.cons Y (roM D3)<|.cons Y (roM D4) .nil)⟩
         ·
          refine Dw 1 6 Y (Zo (ov Y) Y Y Y ZD Y) (ZE (r := 6) Y Zz (.cons (cvs (ov Y)<|Zd Y) Y .nil) Y Y) ?_ ?_
          ·
           exact Do 6 Y (ZE (r := 6) Y Zz (.cons (cvs (ov Y)<|Zd Y) Y .nil) Y Y)<|bE h fun l3 h_l3 h=>Do 7 Y (Zn (f := O49) (ov Y) (Zw (o := ⟨49, [[.own 5 y5.length]]⟩) (ov Y) Y Y tZ_49) Zz Y Y (Zb Y) Y h_l3)<|Dq 8 Y (Zg (ov Y) Y Y Zp)<|Do 9 Y (Zh (ov Y) (ov Y) (Zf ZD) Y Y Y (Nat.le_of_ble_eq_true Y) (Zb Y) Y)<|Zx (by kernel_rfl) (Ent.trans (Ent.absorbH (r := 2) (j := 0) (q := 5) Y (Ze h_l3) Y Y (List.length_map ..) Y)<|Ent.closeS (r := 2) Y (Ze h_l3) Y)<|⟨_, h, ES [some 0, some 1, some 2, some 3, some 4] (hhp := .cons Y (ro1 (by exact tZ_26.symm)<|rld Y)<|.cons Y (ro1 (by exact tZ_26.symm)<|rlc (.dat Y)<|rlc (.dat Y)<|rlc (.own _ Y)<|rlc (.own _ Y)<|rlc (.own _ Y) rln)<|.cons Y (roO ZW)<|.cons Y (roM D3)<|.cons Y (roM D4) .nil)⟩
          ·
           exact Dq 1 Y (Zo (ov Y) Y Y Y ZD Y)<|bE h fun l3 h_l3 h=>Do 7 Y (Zn (f := O49) (ov Y) (Zw (o := ⟨49, [[.own 5 y5.length]]⟩) (ov Y) Y Y tZ_49) Zz Y Y (Zb Y) Y h_l3)<|Dq 8 Y (Zg (ov Y) Y Y Zp)<|Do 9 Y (Zh (ov Y) (ov Y) (Zf ZD) Y Y Y (Nat.le_of_ble_eq_true Y) (Zb Y) Y)<|Zx (by kernel_rfl) (Ent.trans (Ent.absorbH (r := 2) (j := 0) (q := 5) Y (Ze h_l3) Y Y (List.length_map ..) Y)<|Ent.closeS (r := 2) Y (Ze h_l3) Y)<|⟨_, h, ES [some 0, some 1, some 2, some 3, some 4] (hhp := .cons Y (ro1 (by exact tZ_26.symm)<|rld Y)<|.cons Y (ro1 (by exact tZ_26.symm)<|rlc (.dat Y)<|rlc (.dat Y)<|rlc (.own _ Y)<|rlc (.own _ Y)<|rlc (.own _ Y) rln)<|.cons Y (roO ZW)<|.cons Y (roM D3)<|.cons Y (roM D4) .nil)⟩
       ·
        refine bE h fun y5 h_y5 h=>Dw 0 5 Y (Zg (ov Y) Y Y Zp) (Zv [] (Zc h_y5) (.cons (ov Y) (.dat Y)<|.cons (ov Y) (.dat Y) .nil) .nil Y (.keep Y Y<|.keep Y Y<|.keep Y Y<|.keep Y Y<|.keep Y Y<|.lent 0 (.inr ⟨Nat.le_of_ble_eq_true Y, Y⟩) Y (roM D5) .nil) Y Y<|.own _<|.inr ⟨Nat.le_of_ble_eq_true Y, Y⟩) ?_ ?_
        ·
         refine Dw 1 5 Y (Zo (ov Y) Y Y Y ZD Y) (Zv [] (Zc h_y5) (.cons (ov Y) (.dat Y)<|.cons (ov Y) (.dat Y) .nil) .nil Y (.keep Y Y<|.keep Y Y<|.keep Y Y<|.keep Y Y<|.keep Y Y<|.lent 0 (.inr ⟨Nat.le_of_ble_eq_true Y, Y⟩) Y (roM D5) .nil) Y Y<|.own _<|.inr ⟨Nat.le_of_ble_eq_true Y, Y⟩) ?_ ?_
         ·
          exact Do 5 Y (Zv [] (Zc h_y5) (.cons (ov Y) (.dat Y)<|.cons (ov Y) (.dat Y) .nil) .nil Y (.keep Y Y<|.keep Y Y<|.keep Y Y<|.keep Y Y<|.keep Y Y<|.lent 0 (.inr ⟨Nat.le_of_ble_eq_true Y, Y⟩) Y (roM D5) .nil) Y Y<|.own _<|.inr ⟨Nat.le_of_ble_eq_true Y, Y⟩)<|Do 6 Y (ZE (r := 6) Y Zz (.cons (cvs (ov Y)<|Zd Y) Y .nil) Y Y)<|bE h fun l3 h_l3 h=>Do 7 Y (Zn (f := O49) (ov Y) (Zw (o := ⟨49, [[.own 5 y5.length]]⟩) (ov Y) Y Y tZ_49) Zz Y Y (Zb Y) Y h_l3)<|Dq 8 Y (Zg (ov Y) Y Y Zp)<|Do 9 Y (Zh (ov Y) (ov Y) (Zf ZD) Y Y Y (Nat.le_of_ble_eq_true Y) (Zb Y) Y)<|Zx (by kernel_rfl) (Ent.trans (Ent.absorbH (r := 2) (j := 0) (q := 5) Y (Ze h_l3) Y Y (List.length_map ..) Y)<|Ent.closeS (r := 2) Y (Ze h_l3) Y)<|⟨_, h, ES [some 0, some 1, some 2, some 3, some 4] (hhp := .cons Y (ro1 (by exact tZ_26.symm)<|rld Y)<|.cons Y (ro1 (by exact tZ_26.symm)<|rlc (.dat Y)<|rlc (.dat Y)<|rlc (.own _ Y)<|rlc (.own _ Y)<|rlc (.own _ Y) rln)<|.cons Y (roO ZW)<|.cons Y (roM D3)<|.cons Y (roM D4) .nil)⟩
         ·
          refine Dw 1 6 Y (Zo (ov Y) Y Y Y ZD Y) (ZE (r := 6) Y Zz (.cons (cvs (ov Y)<|Zd Y) Y .nil) Y Y) ?_ ?_
          ·
           exact Do 6 Y (ZE (r := 6) Y Zz (.cons (cvs (ov Y)<|Zd Y) Y .nil) Y Y)<|bE h fun l3 h_l3 h=>Do 7 Y (Zn (f := O49) (ov Y) (Zw (o := ⟨49, [[.own 5 y5.length]]⟩) (ov Y) Y Y tZ_49) Zz Y Y (Zb Y) Y h_l3)<|Dq 8 Y (Zg (ov Y) Y Y Zp)<|Do 9 Y (Zh (ov Y) (ov Y) (Zf ZD) Y Y Y (Nat.le_of_ble_eq_true Y) (Zb Y) Y)<|Zx (by kernel_rfl) (Ent.trans (Ent.absorbH (r := 2) (j := 0) (q := 5) Y (Ze h_l3) Y Y (List.length_map ..) Y)<|Ent.closeS (r := 2) Y (Ze h_l3) Y)<|⟨_, h, ES [some 0, some 1, some 2, some 3, some 4] (hhp := .cons Y (ro1 (by exact tZ_26.symm)<|rld Y)<|.cons Y (ro1 (by exact tZ_26.symm)<|rlc (.dat Y)<|rlc (.dat Y)<|rlc (.own _ Y)<|rlc (.own _ Y)<|rlc (.own _ Y) rln)<|.cons Y (roO ZW)<|.cons Y (roM D3)<|.cons Y (roM D4) .nil)⟩
          ·
           exact Dq 1 Y (Zo (ov Y) Y Y Y ZD Y)<|bE h fun l3 h_l3 h=>Do 7 Y (Zn (f := O49) (ov Y) (Zw (o := ⟨49, [[.own 5 y5.length]]⟩) (ov Y) Y Y tZ_49) Zz Y Y (Zb Y) Y h_l3)<|Dq 8 Y (Zg (ov Y) Y Y Zp)<|Do 9 Y (Zh (ov Y) (ov Y) (Zf ZD) Y Y Y (Nat.le_of_ble_eq_true Y) (Zb Y) Y)<|Zx (by kernel_rfl) (Ent.trans (Ent.absorbH (r := 2) (j := 0) (q := 5) Y (Ze h_l3) Y Y (List.length_map ..) Y)<|Ent.closeS (r := 2) Y (Ze h_l3) Y)<|⟨_, h, ES [some 0, some 1, some 2, some 3, some 4] (hhp := .cons Y (ro1 (by exact tZ_26.symm)<|rld Y)<|.cons Y (ro1 (by exact tZ_26.symm)<|rlc (.dat Y)<|rlc (.dat Y)<|rlc (.own _ Y)<|rlc (.own _ Y)<|rlc (.own _ Y) rln)<|.cons Y (roO ZW)<|.cons Y (roM D3)<|.cons Y (roM D4) .nil)⟩
        ·
         refine Dw 0 6 Y (Zg (ov Y) Y Y Zp) (ZE (r := 6) Y Zz (.cons (cvs (ov Y)<|Zd Y) Y .nil) Y Y) ?_ ?_
         ·
          refine Dw 1 6 Y (Zo (ov Y) Y Y Y ZD Y) (ZE (r := 6) Y Zz (.cons (cvs (ov Y)<|Zd Y) Y .nil) Y Y) ?_ ?_
          ·
           exact Do 6 Y (ZE (r := 6) Y Zz (.cons (cvs (ov Y)<|Zd Y) Y .nil) Y Y)<|bE h fun l3 h_l3 h=>Do 7 Y (Zn (f := O49) (ov Y) (Zw (o := ⟨49, [[.own 5 y5.length]]⟩) (ov Y) Y Y tZ_49) Zz Y Y (Zb Y) Y h_l3)<|Dq 8 Y (Zg (ov Y) Y Y Zp)<|Do 9 Y (Zh (ov Y) (ov Y) (Zf ZD) Y Y Y (Nat.le_of_ble_eq_true Y) (Zb Y) Y)<|Zx (by kernel_rfl) (Ent.trans (Ent.absorbH (r := 2) (j := 0) (q := 5) Y (Ze h_l3) Y Y (List.length_map ..) Y)<|Ent.closeS (r := 2) Y (Ze h_l3) Y)<|⟨_, h, ES [some 0, some 1, some 2, some 3, some 4] (hhp := .cons Y (ro1 (by exact tZ_26.symm)<|rld Y)<|.cons Y (ro1 (by exact tZ_26.symm)<|rlc (.dat Y)<|rlc (.dat Y)<|rlc (.own _ Y)<|rlc (.own _ Y)<|rlc (.own _ Y) rln)<|.cons Y (roO ZW)<|.cons Y (roM D3)<|.cons Y (roM D4) .nil)⟩
          ·
           exact Dq 1 Y (Zo (ov Y) Y Y Y ZD Y)<|bE h fun l3 h_l3 h=>Do 7 Y (Zn (f := O49) (ov Y) (Zw (o := ⟨49, [[.own 5 y5.length]]⟩) (ov Y) Y Y tZ_49) Zz Y Y (Zb Y) Y h_l3)<|Dq 8 Y (Zg (ov Y) Y Y Zp)<|Do 9 Y (Zh (ov Y) (ov Y) (Zf ZD) Y Y Y (Nat.le_of_ble_eq_true Y) (Zb Y) Y)<|Zx (by kernel_rfl) (Ent.trans (Ent.absorbH (r := 2) (j := 0) (q := 5) Y (Ze h_l3) Y Y (List.length_map ..) Y)<|Ent.closeS (r := 2) Y (Ze h_l3) Y)<|⟨_, h, ES [some 0, some 1, some 2, some 3, some 4] (hhp := .cons Y (ro1 (by exact tZ_26.symm)<|rld Y)<|.cons Y (ro1 (by exact tZ_26.symm)<|rlc (.dat Y)<|rlc (.dat Y)<|rlc (.own _ Y)<|rlc (.own _ Y)<|rlc (.own _ Y) rln)<|.cons Y (roO ZW)<|.cons Y (roM D3)<|.cons Y (roM D4) .nil)⟩
         ·
          exact Dq 0 Y (Zg (ov Y) Y Y Zp)<|Dq 1 Y (Zo (ov Y) Y Y Y ZD Y)<|bE h fun l3 h_l3 h=>Do 7 Y (Zn (f := O49) (ov Y) (Zw (o := ⟨49, [[.own 5 y5.length]]⟩) (ov Y) Y Y tZ_49) Zz Y Y (Zb Y) Y h_l3)<|Dq 8 Y (Zg (ov Y) Y Y Zp)<|Do 9 Y (Zh (ov Y) (ov Y) (Zf ZD) Y Y Y (Nat.le_of_ble_eq_true Y) (Zb Y) Y)<|Zx (by kernel_rfl) (Ent.trans (Ent.absorbH (r := 2) (j := 0) (q := 5) Y (Ze h_l3) Y Y (List.length_map ..) Y)<|Ent.closeS (r := 2) Y (Ze h_l3) Y)<|⟨_, h, ES [some 0, some 1, some 2, some 3, some 4] (hhp := .cons Y (ro1 (by exact tZ_26.symm)<|rld Y)<|.cons Y (ro1 (by exact tZ_26.symm)<|rlc (.dat Y)<|rlc (.dat Y)<|rlc (.own _ Y)<|rlc (.own _ Y)<|rlc (.own _ Y) rln)<|.cons Y (roO ZW)<|.cons Y (roM D3)<|.cons Y (roM D4) .nil)⟩
      ·
       refine Dw 0 2 Y (Zg (ov Y) Y Y Zp) (Z7<|Q0 Qg (.cons (cvs (ov Y)<|Zd Y) Y (.cons (.b Y) .nil) .nil) Y Y) ?_ ?_
       ·
        refine Dw 1 2 Y (Zo (ov Y) Y Y Y ZD Y) (Z7<|Q0 Qg (.cons (cvs (ov Y)<|Zd Y) Y (.cons (.b Y) .nil) .nil) Y Y) ?_ ?_
        ·
         exact QA 2 (.sl 5<|List.map R5 ([255] : List Int)) _ Y (by kernel_rfl) Y Y (fun h=>by cases h) (fun h=>by cases h) (Z7<|Q0 Qg (.cons (cvs (ov Y)<|Zd Y) Y (.cons (.b Y) .nil) .nil) Y Y)<|bE h fun y5 h_y5 h=>Do 5 Y (Zv [] (Zc h_y5) (.cons (ov Y) (.dat Y)<|.cons (ov Y) (.dat Y) .nil) .nil Y (.keep Y Y<|.keep Y Y<|.keep Y Y<|.keep Y Y<|.keep Y Y<|.lent 0 (.inr ⟨Nat.le_of_ble_eq_true Y, Y⟩) Y (roM D5) .nil) Y Y<|.own _<|.inr ⟨Nat.le_of_ble_eq_true Y, Y⟩)<|Do 6 Y (ZE (r := 6) Y Zz (.cons (cvs (ov Y)<|Zd Y) Y .nil) Y Y)<|bE h fun l3 h_l3 h=>Do 7 Y (Zn (f := O49) (ov Y) (Zw (o := ⟨49, [[.own 5 y5.length]]⟩) (ov Y) Y Y tZ_49) Zz Y Y (Zb Y) Y h_l3)<|Dq 8 Y (Zg (ov Y) Y Y Zp)<|Do 9 Y (Zh (ov Y) (ov Y) (Zf ZD) Y Y Y (Nat.le_of_ble_eq_true Y) (Zb Y) Y)<|Zx (by kernel_rfl) (Ent.trans (Ent.absorbH (r := 2) (j := 0) (q := 5) Y (Ze h_l3) Y Y (List.length_map ..) Y)<|Ent.closeS (r := 2) Y (Ze h_l3) Y)<|⟨_, h, ES [some 0, some 1, some 2, some 3, some 4] (hhp := .cons Y (ro1 (by exact tZ_26.symm)<|rld Y)<|.cons Y (ro1 (by exact tZ_26.symm)<|rlc (.dat Y)<|rlc (.dat Y)<|rlc (.own _ Y)<|rlc (.own _ Y)<|rlc (.own _ Y) rln)<|.cons Y (roO ZW)<|.cons Y (roM D3)<|.cons Y (roM D4) .nil)⟩
        ·
         refine bE h fun y5 h_y5 h=>Dw 1 5 Y (Zo (ov Y) Y Y Y ZD Y) (Zv [] (Zc h_y5) (.cons (ov Y) (.dat Y)<|.cons (ov Y) (.dat Y) .nil) .nil Y (.keep Y Y<|.keep Y Y<|.keep Y Y<|.keep Y Y<|.keep Y Y<|.lent 0 (.inr ⟨Nat.le_of_ble_eq_true Y, Y⟩) Y (roM D5) .nil) Y Y<|.own _<|.inr ⟨Nat.le_of_ble_eq_true Y, Y⟩) ?_ ?_
         ·
          exact Do 5 Y (Zv [] (Zc h_y5) (.cons (ov Y) (.dat Y)<|.cons (ov Y) (.dat Y) .nil) .nil Y (.keep Y Y<|.keep Y Y<|.keep Y Y<|.keep Y Y<|.keep Y Y<|.lent 0 (.inr ⟨Nat.le_of_ble_eq_true Y, Y⟩) Y (roM D5) .nil) Y Y<|.own _<|.inr ⟨Nat.le_of_ble_eq_true Y, Y⟩)<|Do 6 Y (ZE (r := 6) Y Zz (.cons (cvs (ov Y)<|Zd Y) Y .nil) Y Y)<|bE h fun l3 h_l3 h=>Do 7 Y (Zn (f := O49) (ov Y) (Zw (o := ⟨49, [[.own 5 y5.length]]⟩) (ov Y) Y Y tZ_49) Zz Y Y (Zb Y) Y h_l3)<|Dq 8 Y (Zg (ov Y) Y Y Zp)<|Do 9 Y (Zh (ov Y) (ov Y) (Zf ZD) Y Y Y (Nat.le_of_ble_eq_true Y) (Zb Y) Y)<|Zx (by kernel_rfl) (Ent.trans (Ent.absorbH (r := 2) (j := 0) (q := 5) Y (Ze h_l3) Y Y (List.length_map ..) Y)<|Ent.closeS (r := 2) Y (Ze h_l3) Y)<|⟨_, h, ES [some 0, some 1, some 2, some 3, some 4] (hhp := .cons Y (ro1 (by exact tZ_26.symm)<|rld Y)<|.cons Y (ro1 (by exact tZ_26.symm)<|rlc (.dat Y)<|rlc (.dat Y)<|rlc (.own _ Y)<|rlc (.own _ Y)<|rlc (.own _ Y) rln)<|.cons Y (roO ZW)<|.cons Y (roM D3)<|.cons Y (roM D4) .nil)⟩
         ·
          refine Dw 1 6 Y (Zo (ov Y) Y Y Y ZD Y) (ZE (r := 6) Y Zz (.cons (cvs (ov Y)<|Zd Y) Y .nil) Y Y) ?_ ?_
          ·
           exact Do 6 Y (ZE (r := 6) Y Zz (.cons (cvs (ov Y)<|Zd Y) Y .nil) Y Y)<|bE h fun l3 h_l3 h=>Do 7 Y (Zn (f := O49) (ov Y) (Zw (o := ⟨49, [[.own 5 y5.length]]⟩) (ov Y) Y Y tZ_49) Zz Y Y (Zb Y) Y h_l3)<|Dq 8 Y (Zg (ov Y) Y Y Zp)<|Do 9 Y (Zh (ov Y) (ov Y) (Zf ZD) Y Y Y (Nat.le_of_ble_eq_true Y) (Zb Y) Y)<|Zx (by kernel_rfl) (Ent.trans (Ent.absorbH (r := 2) (j := 0) (q := 5) Y (Ze h_l3) Y Y (List.length_map ..) Y)<|Ent.closeS (r := 2) Y (Ze h_l3) Y)<|⟨_, h, ES [some 0, some 1, some 2, some 3, some 4] (hhp := .cons Y (ro1 (by exact tZ_26.symm)<|rld Y)<|.cons Y (ro1 (by exact tZ_26.symm)<|rlc (.dat Y)<|rlc (.dat Y)<|rlc (.own _ Y)<|rlc (.own _ Y)<|rlc (.own _ Y) rln)<|.cons Y (roO ZW)<|.cons Y (roM D3)<|.cons Y (roM D4) .nil)⟩
          ·
           exact Dq 1 Y (Zo (ov Y) Y Y Y ZD Y)<|bE h fun l3 h_l3 h=>Do 7 Y (Zn (f := O49) (ov Y) (Zw (o := ⟨49, [[.own 5 y5.length]]⟩) (ov Y) Y Y tZ_49) Zz Y Y (Zb Y) Y h_l3)<|Dq 8 Y (Zg (ov Y) Y Y Zp)<|Do 9 Y (Zh (ov Y) (ov Y) (Zf ZD) Y Y Y (Nat.le_of_ble_eq_true Y) (Zb Y) Y)<|Zx (by kernel_rfl) (Ent.trans (Ent.absorbH (r := 2) (j := 0) (q := 5) Y (Ze h_l3) Y Y (List.length_map ..) Y)<|Ent.closeS (r := 2) Y (Ze h_l3) Y)<|⟨_, h, ES [some 0, some 1, some 2, some 3, some 4] (hhp := .cons Y (ro1 (by exact tZ_26.symm)<|rld Y)<|.cons Y (ro1 (by exact tZ_26.symm)<|rlc (.dat Y)<|rlc (.dat Y)<|rlc (.own _ Y)<|rlc (.own _ Y)<|rlc (.own _ Y) rln)<|.cons Y (roO ZW)<|.cons Y (roM D3)<|.cons Y (roM D4) .nil)⟩
       ·
        refine bE h fun y5 h_y5 h=>Dw 0 5 Y (Zg (ov Y) Y Y Zp) (Zv [] (Zc h_y5) (.cons (ov Y) (.dat Y)<|.cons (ov Y) (.dat Y) .nil) .nil Y (.keep Y Y<|.keep Y Y<|.keep Y Y<|.keep Y Y<|.keep Y Y<|.lent 0 (.inr ⟨Nat.le_of_ble_eq_true Y, Y⟩) Y (roM D5) .nil) Y Y<|.own _<|.inr ⟨Nat.le_of_ble_eq_true Y, Y⟩) ?_ ?_
        ·
         refine Dw 1 5 Y (Zo (ov Y) Y Y Y ZD Y) (Zv [] (Zc h_y5) (.cons (ov Y) (.dat Y)<|.cons (ov Y) (.dat Y) .nil) .nil Y (.keep Y Y<|.keep Y Y<|.keep Y Y<|.keep Y Y<|.keep Y Y<|.lent 0 (.inr ⟨Nat.le_of_ble_eq_true Y, Y⟩) Y (roM D5) .nil) Y Y<|.own _<|.inr ⟨Nat.le_of_ble_eq_true Y, Y⟩) ?_ ?_
         ·
          exact Do 5 Y (Zv [] (Zc h_y5) (.cons (ov Y) (.dat Y)<|.cons (ov Y) (.dat Y) .nil) .nil Y (.keep Y Y<|.keep Y Y<|.keep Y Y<|.keep Y Y<|.keep Y Y<|.lent 0 (.inr ⟨Nat.le_of_ble_eq_true Y, Y⟩) Y (roM D5) .nil) Y Y<|.own _<|.inr ⟨Nat.le_of_ble_eq_true Y, Y⟩)<|Do 6 Y (ZE (r := 6) Y Zz (.cons (cvs (ov Y)<|Zd Y) Y .nil) Y Y)<|bE h fun l3 h_l3 h=>Do 7 Y (Zn (f := O49) (ov Y) (Zw (o := ⟨49, [[.own 5 y5.length]]⟩) (ov Y) Y Y tZ_49) Zz Y Y (Zb Y) Y h_l3)<|Dq 8 Y (Zg (ov Y) Y Y Zp)<|Do 9 Y (Zh (ov Y) (ov Y) (Zf ZD) Y Y Y (Nat.le_of_ble_eq_true Y) (Zb Y) Y)<|Zx (by kernel_rfl) (Ent.trans (Ent.absorbH (r := 2) (j := 0) (q := 5) Y (Ze h_l3) Y Y (List.length_map ..) Y)<|Ent.closeS (r := 2) Y (Ze h_l3) Y)<|⟨_, h, ES [some 0, some 1, some 2, some 3, some 4] (hhp := .cons Y (ro1 (by exact tZ_26.symm)<|rld Y)<|.cons Y (ro1 (by exact tZ_26.symm)<|rlc (.dat Y)<|rlc (.dat Y)<|rlc (.own _ Y)<|rlc (.own _ Y)<|rlc (.own _ Y) rln)<|.cons Y (roO ZW)<|.cons Y (roM D3)<|.cons Y (roM D4) .nil)⟩
         ·
          refine Dw 1 6 Y (Zo (ov Y) Y Y Y ZD Y) (ZE (r := 6) Y Zz (.cons (cvs (ov Y)<|Zd Y) Y .nil) Y Y) ?_ ?_
          ·
           exact Do 6 Y (ZE (r := 6) Y Zz (.cons (cvs (ov Y)<|Zd Y) Y .nil) Y Y)<|bE h fun l3 h_l3 h=>Do 7 Y (Zn (f := O49) (ov Y) (Zw (o := ⟨49, [[.own 5 y5.length]]⟩) (ov Y) Y Y tZ_49) Zz Y Y (Zb Y) Y h_l3)<|Dq 8 Y (Zg (ov Y) Y Y Zp)<|Do 9 Y (Zh (ov Y) (ov Y) (Zf ZD) Y Y Y (Nat.le_of_ble_eq_true Y) (Zb Y) Y)<|Zx (by kernel_rfl) (Ent.trans (Ent.absorbH (r := 2) (j := 0) (q := 5) Y (Ze h_l3) Y Y (List.length_map ..) Y)<|Ent.closeS (r := 2) Y (Ze h_l3) Y)<|⟨_, h, ES [some 0, some 1, some 2, some 3, some 4] (hhp := .cons Y (ro1 (by exact tZ_26.symm)<|rld Y)<|.cons Y (ro1 (by exact tZ_26.symm)<|rlc (.dat Y)<|rlc (.dat Y)<|rlc (.own _ Y)<|rlc (.own _ Y)<|rlc (.own _ Y) rln)<|.cons Y (roO ZW)<|.cons Y (roM D3)<|.cons Y (roM D4) .nil)⟩
          ·
           exact Dq 1 Y (Zo (ov Y) Y Y Y ZD Y)<|bE h fun l3 h_l3 h=>Do 7 Y (Zn (f := O49) (ov Y) (Zw (o := ⟨49, [[.own 5 y5.length]]⟩) (ov Y) Y Y tZ_49) Zz Y Y (Zb Y) Y h_l3)<|Dq 8 Y (Zg (ov Y) Y Y Zp)<|Do 9 Y (Zh (ov Y) (ov Y) (Zf ZD) Y Y Y (Nat.le_of_ble_eq_true Y) (Zb Y) Y)<|Zx (by kernel_rfl) (Ent.trans (Ent.absorbH (r := 2) (j := 0) (q := 5) Y (Ze h_l3) Y Y (List.length_map ..) Y)<|Ent.closeS (r := 2) Y (Ze h_l3) Y)<|⟨_, h, ES [some 0, some 1, some 2, some 3, some 4] (hhp := .cons Y (ro1 (by exact tZ_26.symm)<|rld Y)<|.cons Y (ro1 (by exact tZ_26.symm)<|rlc (.dat Y)<|rlc (.dat Y)<|rlc (.own _ Y)<|rlc (.own _ Y)<|rlc (.own _ Y) rln)<|.cons Y (roO ZW)<|.cons Y (roM D3)<|.cons Y (roM D4) .nil)⟩
        ·
         refine Dw 0 6 Y (Zg (ov Y) Y Y Zp) (ZE (r := 6) Y Zz (.cons (cvs (ov Y)<|Zd Y) Y .nil) Y Y) ?_ ?_
         ·
          refine Dw 1 6 Y (Zo (ov Y) Y Y Y ZD Y) (ZE (r := 6) Y Zz (.cons (cvs (ov Y)<|Zd Y) Y .nil) Y Y) ?_ ?_
          ·
           exact Do 6 Y (ZE (r := 6) Y Zz (.cons (cvs (ov Y)<|Zd Y) Y .nil) Y Y)<|bE h fun l3 h_l3 h=>Do 7 Y (Zn (f := O49) (ov Y) (Zw (o := ⟨49, [[.own 5 y5.length]]⟩) (ov Y) Y Y tZ_49) Zz Y Y (Zb Y) Y h_l3)<|Dq 8 Y (Zg (ov Y) Y Y Zp)<|Do 9 Y (Zh (ov Y) (ov Y) (Zf ZD) Y Y Y (Nat.le_of_ble_eq_true Y) (Zb Y) Y)<|Zx (by kernel_rfl) (Ent.trans (Ent.absorbH (r := 2) (j := 0) (q := 5) Y (Ze h_l3) Y Y (List.length_map ..) Y)<|Ent.closeS (r := 2) Y (Ze h_l3) Y)<|⟨_, h, ES [some 0, some 1, some 2, some 3, some 4] (hhp := .cons Y (ro1 (by exact tZ_26.symm)<|rld Y)<|.cons Y (ro1 (by exact tZ_26.symm)<|rlc (.dat Y)<|rlc (.dat Y)<|rlc (.own _ Y)<|rlc (.own _ Y)<|rlc (.own _ Y) rln)<|.cons Y (roO ZW)<|.cons Y (roM D3)<|.cons Y (roM D4) .nil)⟩
          ·
           exact Dq 1 Y (Zo (ov Y) Y Y Y ZD Y)<|bE h fun l3 h_l3 h=>Do 7 Y (Zn (f := O49) (ov Y) (Zw (o := ⟨49, [[.own 5 y5.length]]⟩) (ov Y) Y Y tZ_49) Zz Y Y (Zb Y) Y h_l3)<|Dq 8 Y (Zg (ov Y) Y Y Zp)<|Do 9 Y (Zh (ov Y) (ov Y) (Zf ZD) Y Y Y (Nat.le_of_ble_eq_true Y) (Zb Y) Y)<|Zx (by kernel_rfl) (Ent.trans (Ent.absorbH (r := 2) (j := 0) (q := 5) Y (Ze h_l3) Y Y (List.length_map ..) Y)<|Ent.closeS (r := 2) Y (Ze h_l3) Y)<|⟨_, h, ES [some 0, some 1, some 2, some 3, some 4] (hhp := .cons Y (ro1 (by exact tZ_26.symm)<|rld Y)<|.cons Y (ro1 (by exact tZ_26.symm)<|rlc (.dat Y)<|rlc (.dat Y)<|rlc (.own _ Y)<|rlc (.own _ Y)<|rlc (.own _ Y) rln)<|.cons Y (roO ZW)<|.cons Y (roM D3)<|.cons Y (roM D4) .nil)⟩
         ·
          exact Dq 0 Y (Zg (ov Y) Y Y Zp)<|Dq 1 Y (Zo (ov Y) Y Y Y ZD Y)<|bE h fun l3 h_l3 h=>Do 7 Y (Zn (f := O49) (ov Y) (Zw (o := ⟨49, [[.own 5 y5.length]]⟩) (ov Y) Y Y tZ_49) Zz Y Y (Zb Y) Y h_l3)<|Dq 8 Y (Zg (ov Y) Y Y Zp)<|Do 9 Y (Zh (ov Y) (ov Y) (Zf ZD) Y Y Y (Nat.le_of_ble_eq_true Y) (Zb Y) Y)<|Zx (by kernel_rfl) (Ent.trans (Ent.absorbH (r := 2) (j := 0) (q := 5) Y (Ze h_l3) Y Y (List.length_map ..) Y)<|Ent.closeS (r := 2) Y (Ze h_l3) Y)<|⟨_, h, ES [some 0, some 1, some 2, some 3, some 4] (hhp := .cons Y (ro1 (by exact tZ_26.symm)<|rld Y)<|.cons Y (ro1 (by exact tZ_26.symm)<|rlc (.dat Y)<|rlc (.dat Y)<|rlc (.own _ Y)<|rlc (.own _ Y)<|rlc (.own _ Y) rln)<|.cons Y (roO ZW)<|.cons Y (roM D3)<|.cons Y (roM D4) .nil)⟩
     ·
      exact ZA<|R2 ZY Y<|Rm Y<|Za<|⟨_, h, ES [some 0, some 1, some 2, some 3, some 4] (hhp := .cons Y (ro1 (by exact tZ_26.symm)<|rld Y)<|.cons Y (ro1 (by exact tZ_26.symm)<|rlc (.dat Y)<|rlc (.dat Y)<|rlc (.own _ Y)<|rlc (.own _ Y)<|rlc (.own _ Y) rln)<|.cons Y (roO ZW)<|.cons Y (roM D3)<|.cons Y (roM D4) .nil)⟩
    ·
     refine ZN<|?_
     replace h := lx h ▸ ho1
     exact ⟨_, h, ES [some 0, some 1, some 2, some 3, some 4] (hhp := .cons Y (ro1 (by exact tZ_26.symm)<|rld Y)<|.cons Y (ro1 (by exact tZ_26.symm)<|rlc (.dat Y)<|rlc (.dat Y)<|rlc (.own _ Y)<|rlc (.own _ Y)<|rlc (.own _ Y) rln)<|.cons Y (roO ZW)<|.cons Y (roM D3)<|.cons Y (roM D4) .nil)⟩
   ·
    refine Tr<|Rq Y (Qb (ov Y) Y Y Y Qu Y Y)<|Rx Y (Zh (ov Y) (ov Y) (Zu Qu Y) Y Y Y (Nat.le_of_ble_eq_true Y) (Zb Y) Y)<|Ra Y<|Za<|?_
    obtain rfl := rt h
    exact Zs (ZQ Y (.two (.agg Y Y Y Y Qu Y Y<|.cons (Dat.view<|.b Y)<|.cons (Dat.view<|.b Y)<|.cons (View.ownO Y Y ZW (fun x=>(D49 x).1) Zj0)<|.cons (View.ownM Y Y D3)<|.cons (View.ownM Y Y D4) .nil)<|rb Y))
theorem ZeG {m : api_Memory} {r : Int} (h : XO m = some r) :
 CSpec Tryz.prog gl0 43 [.agg [.int .i64 m.Slots, .int .i64 m.Limit, .sl 49 (List.map R49 m.Sectors), .sl 3 (List.map R3 m.Wear), .sl 4 (List.map R4 m.Bad)]] (.int .i64 r) := by
 unfold XO at h
 replace h := Qd h
 refine So Tryz.func43 Y fun w0 A=>Tr<|Rq Y (ZbY (cva<|ov Y) Y tZ_26 Y)<|Ra Y<|Za<|K1 1 Y<|Tr<|Rq Y (ZM (ov Y) Zp)<|Rq Y (Zi (ov Y) ZD Y)<|Rl tZ_49 Zz Y<|Ra Y<|Za<|Zl<|Zk<|K2 1 3 Y<|Tr<|Rq Y (ZM (ov Y) Ze3)<|Rq Y (Zi (ov Y) tS3 Y)<|bE h fun y h_y h=>Rq Y (Zq (ZZ h_y)<|.cons (ov Y) (.b Y)<|.cons (ov Y) (.b Y)<|.cons (ov Y) (.b Y) .nil)<|R1 XU Y<|Rm Y<|Rq Y (.guarded ((!y) == false) Y Y Y Y fun h => ZM (ov Y) ZgO)<|Rq Y (.guarded ((!y) == false) Y Y Y Y fun h => Zi (ow Y h) tS3 Y)<|bE h fun y2 h_y2 h=>Rq Y (.guarded ((!y) == false) Y Y Y Y fun h => Zq (ZZ<|gdT h_y2 h)<|.cons (ow Y h) (.b Y)<|.cons (ov Y) (.b Y)<|.cons (ov Y) (.b Y) .nil)<|Rq Y (.guarded ((!y) == false) Y Y Y Y fun h => XU<|ow Y h)<|Rq Y (ZdS (ov Y) fun hp=>ow Y<|gF hp)<|Rm Y<|Rq Y (.guarded (((!y) || (!y2)) == false) Y Y Y Y fun h => Zj<|ov Y)<|bE h fun y3 h_y3 h=>Rq Y (.guarded (((!y) || (!y2)) == false) Y Y Y Y fun h => Zq (ZZ<|gdT h_y3 h)<|.cons (ow Y h) (.b Y)<|.cons (ov Y) (.b Y)<|.cons (ov Y) (.b Y) .nil)<|Rq Y (.guarded (((!y) || (!y2)) == false) Y Y Y Y fun h => XU<|ow Y h)<|Rq Y (ZdS (ov Y) fun hp=>ow Y<|gF hp)<|Ra Y<|Za<|K3 1 3 9 Y<|If h Y (fun h=>?_) fun h=>?_
 ·
  refine K0<|Tr<|Ra Y<|Za<|?_
  obtain rfl := rt h
  exact Zs (ZQ Y (.one<|rb Y))
 ·
  refine K2 1 3 Y<|Tr<|Rq Y (ZM (ov Y) Zdy)<|Rq Y (Zi (ov Y) Zh4 Y)<|Rl tZ_3 QH Y<|Rm Y<|R2 XK Y<|Rm Y<|Rq Y (.guarded ((!decide ((m.Wear.length : Int) = (m.Sectors.length : Int))) == false) Y Y Y Y fun h => ZM (ov Y) Zd1)<|Rq Y (.guarded ((!decide ((m.Wear.length : Int) = (m.Sectors.length : Int))) == false) Y Y Y Y fun h => Zi (ow Y h) ZhO Y)<|Rq Y (.guarded ((!decide ((m.Wear.length : Int) = (m.Sectors.length : Int))) == false) Y Y Y Y fun h => Ziz (QX (ow Y h) tZ_4) Zb0<|Zfx _ _)<|Rq Y (.guarded ((!decide ((m.Wear.length : Int) = (m.Sectors.length : Int))) == false) Y Y Y Y fun h => Zj<|ov Y)<|Rq Y (.guarded ((!decide ((m.Wear.length : Int) = (m.Sectors.length : Int))) == false) Y Y Y Y fun h => XK (ow Y h)<|ow Y h)<|Rq Y (ZdS (ov Y) fun hp=>ow Y<|gF hp)<|Ra Y<|Za<|K2 1 25 Y<|If h Y (fun h=>?_) fun h=>?_
  ·
   refine K0<|Tr<|Ra Y<|Za<|?_
   obtain rfl := rt h
   exact Zs (ZQ Y (.one<|rb Y))
  ·
   refine Zm<|J0 (fun j => (.inr j)) ⟨[], []⟩ h (fun h=>?_) fun h=>?_
   ·
    refine K1 1 Y<|Tr<|Rq Y (ZM (ov Y) Zp)<|Rq Y (Zi (ov Y) ZD Y)<|Rl tZ_49 Zz Y<|Rm Y<|Za<|Zk<|?_
    obtain ⟨r1, hl1, ho1⟩ := QY h
    refine L1 (fun i=>⟨[(1, .rp [.int .i64 m.Slots, .int .i64 m.Limit, .sl 49 (List.map R49 m.Sectors), .sl 3 (List.map R3 m.Wear), .sl 4 (List.map R4 m.Bad)] 0), (39, .sl 49 (List.map R49 m.Sectors)), (40, .int .i64 (m.Sectors.length : Int)), (41, .int .i64 i)], []⟩) hl1 (ES []) fun n1 i h=>?_
    unfold XI at h
    refine Tr<|R2 Z1 Y<|Za<|Zl<|If h Y (fun h=>?_) fun h=>?_
    ·
     refine Zm<|Zl<|Zk<|K4 1 39 40 41 Y<|Tr<|Rm Y<|bE h fun x h_x h=>Rq Y (Z4 (ov Y) (ov Y) Zz h_x)<|Rq Y (Zi (ov Y) Zfl Y)<|Ra Y<|Ra Y<|Za<|Zl<|K6 1 4 5 39 40 41 Y<|Tr<|Rm Y<|Rl tZ_5 Qg Y<|Rq Y (ZM (ov Y) Ze3)<|Rq Y (Zi (ov Y) tS3 Y)<|bE h fun y4 h_y4 h=>Rq Y (Zq (Zy h_y4)<|.cons (ov Y) (.b Y) .nil)<|R2 XK Y<|Za<|K6 1 4 39 40 41 51 Y<|If h Y (fun h=>?_) fun h=>?_
     ·
      refine K0<|Tr<|Ra Y<|Za<|?_
      replace h := lx h ▸ ho1
      obtain rfl := rt h
      exact Zs (ZQ Y (.one<|rb Y))
     ·
      refine Zm<|Zl<|K5 1 4 39 40 41 Y<|Qj (cw := md0) (by kernel_rfl)<|Dq 0 Y (ZM (ov Y) Zdy)<|Dq 1 Y (Zi (ov Y) Zh4 Y)<|D1 2 Zj Y<|bE h fun x2 h_x2 h=>Dq 3 Y (Z4 (ov Y) (ov Y) QH h_x2)<|Dq 4 Y (Zi (ov Y) tS3 Y)<|Dq 5 Y (ZM (ov Y) ZgO)<|Dq 6 Y (Zi (ov Y) tS3 Y)<|bE h fun y5 h_y5 h=>Dq 7 Y (Zq (ZZ h_y5)<|.cons (ov Y) (.b Y)<|.cons (ov Y) (.b Y)<|.cons (ov Y) (.b Y) .nil)<|D1 8 XU Y<|Dd<|K5 1 39 40 41 60 Y<|If h Y (fun h=>?_) fun h=>?_
      ·
       refine K0<|Tr<|Ra Y<|Za<|?_
       replace h := lx h ▸ ho1
       obtain rfl := rt h
       exact Zs (ZQ Y (.one<|rb Y))
      ·
       exact Zm<|K4 1 39 40 41 Y<|ZA<|R2 ZY Y<|Rm Y<|Za<|⟨_, h, ES []⟩
    ·
     refine ZN<|?_
     replace h := lx h ▸ ho1
     exact ⟨(), h, ES []⟩
   ·
    replace h := elr h
    replace h := t0i h
    refine Tr<|Ra Y<|Za<|?_
    obtain rfl := rt h
    exact Zs (ZQ Y (.one<|rb Y))
theorem Zdb {l : List api_Memory} {r : Int} (h : Jd l = some r) :
 CSpec Tryz.prog gl0 62 [.sl 26 (List.map R26 l)] (.int .i64 r) := by
 unfold Jd at h
 replace h := Qd h
 refine So Tryz.func62 Y fun w0 A=>Tr<|Ra Y<|Za<|Zl<|K1 0 Y<|Tr<|Rm Y<|Rl tZ_26 ZcD Y<|bE h fun y h_y h=>Rq Y (Zq (ZZ h_y)<|.cons (ov Y) (.b Y)<|.cons (ov Y) (.b Y)<|.cons (ov Y) (.b Y) .nil)<|R1 XU Y<|Za<|K2 0 9 Y<|If h Y (fun h=>?_) fun h=>?_
 ·
  refine K0<|Tr<|Ra Y<|Za<|?_
  obtain rfl := rt h
  exact Zs (ZQ Y (.one<|rb Y))
 ·
  refine Zm<|J0 (fun j => (.inr j)) ⟨[], []⟩ h (fun h=>?_) fun h=>?_
  ·
   refine K1 0 Y<|Tr<|Rm Y<|Rl tZ_26 ZcD Y<|Rm Y<|Za<|Zk<|?_
   obtain ⟨r1, hl1, ho1⟩ := QY h
   refine L1 (fun i=>⟨[(10, .sl 26 (List.map R26 l)), (11, .int .i64 (l.length : Int)), (12, .int .i64 i)], []⟩) hl1 (ES []) fun n1 i h=>?_
   unfold Jw at h
   refine Tr<|R2 Z1 Y<|Za<|Zl<|If h Y (fun h=>?_) fun h=>?_
   ·
    refine Zm<|Zl<|Zk<|K3 10 11 12 Y<|Tr<|bE h fun x h_x h=>Rq Y (Z4 (ov Y) (ov Y) ZcD h_x)<|Rq Y (Xb (ov Y) Qu Y Y)<|Rx Y (ZL (row := [_, _, _, _, _]) 0 Y Q8 Y tZ_26)<|Rx Y (Zh (ov Y) (ov Y) (Zu Qu Y) Y Y Y (Nat.le_of_ble_eq_true Y) (Zb Y) Y)<|Za<|K4 4 10 11 12 Y<|Tr<|Rq Y (Qb (ov Y) Y Y Y Qu Y Y)<|bE h fun y2 h_y2 h=>Rq Y (Zq (ZeG h_y2)<|.cons (ov Y) (.aggB Y) .nil)<|Ra Y<|Za<|K4 5 10 11 12 Y<|Tr<|Rm Y<|R2 XK Y<|Za<|K5 5 10 11 12 19 Y<|If h Y (fun h=>?_) fun h=>?_
    ·
     refine K1 5 Y<|Tr<|Rm Y<|Ra Y<|Za<|?_
     replace h := lx h ▸ ho1
     obtain rfl := rt h
     exact Zs (ZQ Y (.one<|rb Y))
    ·
     exact Zm<|K3 10 11 12 Y<|ZA<|R2 ZY Y<|Rm Y<|Za<|⟨_, h, ES []⟩
   ·
    refine ZN<|?_
    replace h := lx h ▸ ho1
    exact ⟨(), h, ES []⟩
  ·
   replace h := elr h
   replace h := t0i h
   refine Tr<|Ra Y<|Za<|?_
   obtain rfl := rt h
   exact Zs (ZQ Y (.one<|rb Y))
theorem Zis {xs r : List Int} (h : ZdB 1 xs = some r) :
 GSpec Tryz.prog gl0 125 [.sl 5 (List.map R5 xs)] [] (.own 0 r.length) [some ⟨5, List.map R5 r⟩] := by
 have h2 : apz 1 [] xs = some r := h
 refine Qt (by kernel_rfl) Tryz.func125 Y Y<|?_
 intro w0 A W φ0
 refine Tr<|Ra Y<|Za<|Zl<|Zl<|ZA<|Rm Y<|ZhL (ov Y) ZkZ Y fun b hb=>?_
 refine Za<|ZhY Y (fun hb2=>?_) fun hb2=>?_
 ·
  obtain rfl : xs = [] := by simpa using hb hb2
  obtain rfl : r = [] := by simpa [app, apz] using h2.symm
  exact Tr<|Ra Y<|Za<|Zs<|JI [none] Y (.cons (.tmp Y) .nil) (.row 5 .nil) Y Y<|.row Y
 ·
  exact Zm<|Tr<|Rx Y (ZhW (r := 0) (xs := []) (f := R5) Y Qg .nil Y Y Y)<|Rm Y<|Rx Y (Zf6 (ov Y) (QX (ov Y) tZ_5) Qg Y Y (fun _=>Zb Y) Y h2)<|Ra Y<|Za<|Zs<|JI [some 0] Y (.cons (.tmp Y) .nil) (.cons Y (roM D5) .nil) Y Y<|.own _ Y
theorem Zgs {xs r : List Int} (h : ZdB 8 xs = some r) :
 GSpec Tryz.prog gl0 126 [.sl 3 (List.map R3 xs)] [] (.own 0 r.length) [some ⟨3, List.map R3 r⟩] := by
 have h2 : apz 8 [] xs = some r := h
 refine Qt (by kernel_rfl) Tryz.func126 Y Y<|?_
 intro w0 A W φ0
 refine Tr<|Ra Y<|Za<|Zl<|Zl<|ZA<|Rm Y<|ZhL (ov Y) Zld Y fun b hb=>?_
 refine Za<|ZhY Y (fun hb2=>?_) fun hb2=>?_
 ·
  obtain rfl : xs = [] := by simpa using hb hb2
  obtain rfl : r = [] := by simpa [app, apz] using h2.symm
  exact Tr<|Ra Y<|Za<|Zs<|JI [none] Y (.cons (.tmp Y) .nil) (.row 3 .nil) Y Y<|.row Y
 ·
  exact Zm<|Tr<|Rx Y (ZhW (r := 0) (xs := []) (f := R3) Y QH .nil Y Y Y)<|Rm Y<|Rx Y (Zf6 (ov Y) (QX (ov Y) tZ_3) QH Y Y (fun _=>Zb Y) Y h2)<|Ra Y<|Za<|Zs<|JI [some 0] Y (.cons (.tmp Y) .nil) (.cons Y (roM D3) .nil) Y Y<|.own _ Y
theorem Zgm {xs r : List Bool} (h : ZdB 1 xs = some r) :
 GSpec Tryz.prog gl0 127 [.sl 4 (List.map R4 xs)] [] (.own 0 r.length) [some ⟨4, List.map R4 r⟩] := by
 have h2 : apz 1 [] xs = some r := h
 refine Qt (by kernel_rfl) Tryz.func127 Y Y<|?_
 intro w0 A W φ0
 refine Tr<|Ra Y<|Za<|Zl<|Zl<|ZA<|Rm Y<|ZhL (ov Y) Zlf Y fun b hb=>?_
 refine Za<|ZhY Y (fun hb2=>?_) fun hb2=>?_
 ·
  obtain rfl : xs = [] := by simpa using hb hb2
  obtain rfl : r = [] := by simpa [app, apz] using h2.symm
  exact Tr<|Ra Y<|Za<|Zs<|JI [none] Y (.cons (.tmp Y) .nil) (.row 4 .nil) Y Y<|.row Y
 ·
  exact Zm<|Tr<|Rx Y (ZhW (r := 0) (xs := []) (f := R4) Y Zb0 .nil Y Y Y)<|Rm Y<|Rx Y (Zf6 (ov Y) (QX (ov Y) tZ_4) Zb0 Y Y (fun _=>Zb Y) Y h2)<|Ra Y<|Za<|Zs<|JI [some 0] Y (.cons (.tmp Y) .nil) (.cons Y (roM D4) .nil) Y Y<|.own _ Y
theorem ZbR {m : api_Memory} {r : api_Memory} (h : Jc m = some r) :
 GSpec Tryz.prog gl0 93 [.agg [.int .i64 m.Slots, .int .i64 m.Limit, .sl 49 (List.map R49 m.Sectors), .sl 3 (List.map R3 m.Wear), .sl 4 (List.map R4 m.Bad)]] [] (.agg [.int .i64 r.Slots, .int .i64 r.Limit, .own 0 r.Sectors.length, .own 1 r.Wear.length, .own 2 r.Bad.length]) [some ⟨49, List.map O49 r.Sectors⟩, some ⟨3, List.map R3 r.Wear⟩, some ⟨4, List.map R4 r.Bad⟩] := by
 unfold Jc at h
 replace h := Qd h
 refine Qt (by kernel_rfl) Tryz.func93 Y Y<|?_
 intro w0 A W φ0
 refine Tr<|Rx Y (Zja 0 Y (ov Y) Qu Y)<|Rx Y (ZL (row := [_, _, _, _, _]) 1 Y Q8 Y tZ_26)<|Za<|K2 1 2 Y<|Tr<|Ra Y<|Za<|I1 (fun sectors=>⟨[(1, .ptr 0 1 0 0), (2, .ptr 1 1 0 0), (3, .own 2 sectors.length)], [some ⟨26, [[.int .i64 m.Slots, .int .i64 m.Limit, .sl 49 (List.map R49 m.Sectors), .sl 3 (List.map R3 m.Wear), .sl 4 (List.map R4 m.Bad)]]⟩, some ⟨26, [[.int .i64 0, .int .i64 0, .nils, .nils, .nils]]⟩, some ⟨49, List.map O49 sectors⟩]⟩) h (fun h=>?_) fun sectors h=>?_
 ·
  refine Tr<|Rq Y (Zg (ov Y) Y Y Zp)<|Rq Y (Zo (ov Y) Y Y Y ZD Y)<|Rl tZ_49 Zz Y<|Rm Y<|Za<|Zk<|?_
  obtain ⟨r1, hl1, ho1⟩ := QY h
  refine L2 (fun sectors2 i=>⟨[(1, .ptr 0 1 0 0), (2, .ptr 1 1 0 0), (3, .own 2 sectors2.length), (7, .sl 49 (List.map R49 m.Sectors)), (8, .int .i64 (m.Sectors.length : Int)), (9, .int .i64 i)], [some ⟨26, [[.int .i64 m.Slots, .int .i64 m.Limit, .sl 49 (List.map R49 m.Sectors), .sl 3 (List.map R3 m.Wear), .sl 4 (List.map R4 m.Bad)]]⟩, some ⟨26, [[.int .i64 0, .int .i64 0, .nils, .nils, .nils]]⟩, some ⟨49, List.map O49 sectors2⟩]⟩) hl1 (ES [some 0, some 1, none]) fun n1 sectors2 i h=>?_
  unfold X3 at h
  refine Tr<|R2 Z1 Y<|Za<|Zl<|If h Y (fun h=>?_) fun h=>?_
  ·
   exact Zm<|Zl<|Zk<|K6 1 2 3 7 8 9 Y<|Tr<|bE h fun x h_x h=>Rq Y (Z4 (ov Y) (ov Y) Zz h_x)<|Rq Y (Zi (ov Y) Zfl Y)<|Ra Y<|Za<|K7 1 2 3 5 7 8 9 Y<|ZA<|Rm Y<|Rm Y<|bE h fun y h_y h=>Rx Y (Zv [] (Zis h_y) (.cons (ov Y) (.dat Y) .nil) .nil Y (.keep Y Y<|.keep Y Y<|.keep Y Y<|.lent 0 (.inr ⟨Nat.le_of_ble_eq_true Y, Y⟩) Y (roM D5) .nil) Y Y<|.own _<|.inr ⟨Nat.le_of_ble_eq_true Y, Y⟩)<|Rx Y (ZE (r := 4) Y Zz (.cons (cvs (ov Y)<|Zd Y) Y .nil) Y Y)<|bE h fun l h_l h=>Rx Y (Zn (f := O49) (ov Y) (Zw (o := ⟨49, [[.own 3 y.length]]⟩) (ov Y) Y Y tZ_49) Zz Y Y (Zb Y) Y h_l)<|Ra Y<|Zd6 [some ⟨26, [[.int .i64 m.Slots, .int .i64 m.Limit, .sl 49 (List.map R49 m.Sectors), .sl 3 (List.map R3 m.Wear), .sl 4 (List.map R4 m.Bad)]]⟩, some ⟨26, [[.int .i64 0, .int .i64 0, .nils, .nils, .nils]]⟩, some ⟨49, List.set (List.map O49 l) sectors2.length [.own 3 y.length]⟩, some ⟨5, List.map R5 y⟩, some ⟨49, [[.own 3 y.length]]⟩] Y<|QK (Ent.absorbH (r := 2) (j := 0) (q := 3) Y (Ze h_l) Y Y (List.length_map ..) Y)<|QK (Ent.closeS (r := 2) Y (Ze h_l) Y)<|Za<|K6 1 2 3 7 8 9 Y<|QF [some ⟨26, [[.int .i64 m.Slots, .int .i64 m.Limit, .sl 49 (List.map R49 m.Sectors), .sl 3 (List.map R3 m.Wear), .sl 4 (List.map R4 m.Bad)]]⟩, some ⟨26, [[.int .i64 0, .int .i64 0, .nils, .nils, .nils]]⟩, some ⟨49, List.map O49 l⟩, none, some ⟨49, [[.own 3 y.length]]⟩] Y<|ZA<|R2 ZY Y<|Rm Y<|Za<|⟨_, h, ES [some 0, some 1, some 2] (hhp := .cons Y (ro1 (by exact tZ_26.symm)<|rld Y)<|.cons Y (ro1 (by exact tZ_26.symm)<|rld Y)<|.cons Y (roO ZW) .nil)⟩
  ·
   refine ZN<|?_
   replace h := lx h ▸ ho1
   exact ⟨_, h, ES [some 0, some 1, some 2] (hhp := .cons Y (ro1 (by exact tZ_26.symm)<|rld Y)<|.cons Y (ro1 (by exact tZ_26.symm)<|rld Y)<|.cons Y (roO ZW) .nil)⟩
 ·
  refine Zl<|Qj (cw := ⟨true, true, [some ⟨26, [[.int .i64 m.Slots, .int .i64 m.Limit, .sl 49 (List.map R49 m.Sectors), .sl 3 (List.map R3 m.Wear), .sl 4 (List.map R4 m.Bad)]]⟩, some ⟨26, [[.int .i64 0, .int .i64 0, .nils, .nils, .nils]]⟩, some ⟨49, List.map O49 sectors⟩], [], [0]⟩) (by kernel_rfl)<|Dq 1 Y (Zg (ov Y) Y Y Zdy)<|Dq 2 Y (Zo (ov Y) Y Y Y Zh4 Y)<|ZP 0 _ Y (by kernel_rfl) Y Y (fun hp'=>Zj<|ov Y)<|Xq 4 _ Y (by kernel_rfl) Y Y Y (EL.ext<|.wr Y Y Y<|.keep<|.keep .nil) (fun hp' hx=>exW (r := 0) hx Y fun _ ho hn => Zg (ov Y) ho hn Zd1)<|bE h fun y2 h_y2 h=>ZjZ 5 3 Y Y (by kernel_rfl) Y Y Y Y (fun h=>by cases h) (fun _=>by exact EL.ext (.wr rfl rfl rfl <| .keep <| .keep <| .nil)) (Zo (ov Y) Y Y Y ZhO Y) (Zv [] (Zgs h_y2) (.cons (ov Y) (.dat Y) .nil) .nil Y (.keep Y Y<|.keep Y Y<|.keep Y Y<|.lent 0 (.inr ⟨Nat.le_of_ble_eq_true Y, Y⟩) Y (roM D3) .nil) Y Y<|.own _<|.inr ⟨Nat.le_of_ble_eq_true Y, Y⟩) ?_ ?_
  ·
   refine Xq 7 _ Y (by kernel_rfl) Y Y Y (EL.ext<|.wr Y Y Y<|.keep<|.keep .nil) (fun hp' hx=>exW (r := 0) hx Y fun _ ho hn => Zg (ov Y) ho hn Zp)<|QA 3 _ _ Y (by kernel_rfl) Y Y (fun h=>by cases h) (fun _=>by exact EL.ext (.wr rfl rfl rfl <| .keep <| .keep <| .nil)) (Zv [] (Zgs h_y2) (.cons (ov Y) (.dat Y) .nil) .nil Y (.keep Y Y<|.keep Y Y<|.keep Y Y<|.lent 0 (.inr ⟨Nat.le_of_ble_eq_true Y, Y⟩) Y (roM D3) .nil) Y Y<|.own _<|.inr ⟨Nat.le_of_ble_eq_true Y, Y⟩)<|bE h fun y3 h_y3 h=>QA 6 _ _ Y (by kernel_rfl) Y Y (fun h=>by cases h) (fun _=>by exact EL.ext (.wr rfl rfl rfl <| .keep <| .keep <| .nil)) (Zv [] (Zgm h_y3) (.cons (ov Y) (.dat Y) .nil) .nil Y (.keep Y Y<|.keep Y Y<|.keep Y Y<|.keep Y Y<|.lent 0 (.inr ⟨Nat.le_of_ble_eq_true Y, Y⟩) Y (roM D4) .nil) Y Y<|.own _<|.inr ⟨Nat.le_of_ble_eq_true Y, Y⟩)<|QA 8 _ _ Y (by kernel_rfl) Y Y (fun h=>by cases h) (fun _=>by exact EL.ext (.wr rfl rfl rfl <| .keep <| .keep <| .nil)) (Zh (ov Y) (ov Y) (Zf ZD) Y Y Y (Nat.le_of_ble_eq_true Y) (Zb Y) Y)<|Dq 9 Y (Zg (ov Y) Y Y Zdy)<|QA 10 _ _ Y (by kernel_rfl) Y Y (fun h=>by cases h) (fun _=>by exact EL.ext (.wr rfl rfl rfl <| .keep <| .keep <| .nil)) (Zh (ov Y) (ov Y) (Zf Zh4) Y Y Y (Nat.le_of_ble_eq_true Y) (Zb Y) Y)<|Dq 11 Y (Zg (ov Y) Y Y Zd1)<|QA 12 _ _ Y (by kernel_rfl) Y Y (fun h=>by cases h) (fun _=>by exact EL.ext (.wr rfl rfl rfl <| .keep <| .keep <| .nil)) (Zh (ov Y) (ov Y) (Zf ZhO) Y Y Y (Nat.le_of_ble_eq_true Y) (Zb Y) Y)<|Dd<|K2 1 2 Y<|QF [some ⟨26, [[.int .i64 m.Slots, .int .i64 m.Limit, .own 2 sectors.length, .own 3 y2.length, .own 4 y3.length]]⟩, some ⟨26, [[.int .i64 0, .int .i64 0, .nils, .nils, .nils]]⟩, some ⟨49, List.map O49 sectors⟩, some ⟨3, List.map R3 y2⟩, some ⟨4, List.map R4 y3⟩] Y<|Tr<|Rq Y (Qb (ov Y) Y Y Y Qu Y Y)<|Rx Y (Zh (ov Y) (ov Y) (Zu Qu Y) Y Y Y (Nat.le_of_ble_eq_true Y) (Zb Y) Y)<|Za<|?_
   obtain rfl := rt h
   exact Zs<|JI [some 2, some 3, some 4] Y (.cons (.agg Y Y Y Y Qu Y Y) .nil) (.cons Y (roO ZW)<|.cons Y (roM D3)<|.cons Y (roM D4) .nil) Y Y<|Zcc<|rlc (.dat Y)<|rlc (.dat Y)<|rlc (.own _ Y)<|rlc (.own _ Y)<|rlc (.own _ Y) rln
  ·
   refine Dq 5 Y (Zo (ov Y) Y Y Y ZhO Y)<|Xq 7 _ Y (by kernel_rfl) Y Y Y (EL.ext<|.wr Y Y Y<|.keep<|.keep .nil) (fun hp' hx=>exW (r := 0) hx Y fun _ ho hn => Zg (ov Y) ho hn Zp)<|bE h fun y3 h_y3 h=>QA 6 _ _ Y (by kernel_rfl) Y Y (fun h=>by cases h) (fun _=>by exact EL.ext (.wr rfl rfl rfl <| .keep <| .keep <| .nil)) (Zv [] (Zgm h_y3) (.cons (ov Y) (.dat Y) .nil) .nil Y (.keep Y Y<|.keep Y Y<|.keep Y Y<|.keep Y Y<|.lent 0 (.inr ⟨Nat.le_of_ble_eq_true Y, Y⟩) Y (roM D4) .nil) Y Y<|.own _<|.inr ⟨Nat.le_of_ble_eq_true Y, Y⟩)<|QA 8 _ _ Y (by kernel_rfl) Y Y (fun h=>by cases h) (fun _=>by exact EL.ext (.wr rfl rfl rfl <| .keep <| .keep <| .nil)) (Zh (ov Y) (ov Y) (Zf ZD) Y Y Y (Nat.le_of_ble_eq_true Y) (Zb Y) Y)<|Dq 9 Y (Zg (ov Y) Y Y Zdy)<|QA 10 _ _ Y (by kernel_rfl) Y Y (fun h=>by cases h) (fun _=>by exact EL.ext (.wr rfl rfl rfl <| .keep <| .keep <| .nil)) (Zh (ov Y) (ov Y) (Zf Zh4) Y Y Y (Nat.le_of_ble_eq_true Y) (Zb Y) Y)<|Dq 11 Y (Zg (ov Y) Y Y Zd1)<|QA 12 _ _ Y (by kernel_rfl) Y Y (fun h=>by cases h) (fun _=>by exact EL.ext (.wr rfl rfl rfl <| .keep <| .keep <| .nil)) (Zh (ov Y) (ov Y) (Zf ZhO) Y Y Y (Nat.le_of_ble_eq_true Y) (Zb Y) Y)<|Dd<|K2 1 2 Y<|QF [some ⟨26, [[.int .i64 m.Slots, .int .i64 m.Limit, .own 2 sectors.length, .own 3 y2.length, .own 4 y3.length]]⟩, some ⟨26, [[.int .i64 0, .int .i64 0, .nils, .nils, .nils]]⟩, some ⟨49, List.map O49 sectors⟩, some ⟨3, List.map R3 y2⟩, some ⟨4, List.map R4 y3⟩] Y<|Tr<|Rq Y (Qb (ov Y) Y Y Y Qu Y Y)<|Rx Y (Zh (ov Y) (ov Y) (Zu Qu Y) Y Y Y (Nat.le_of_ble_eq_true Y) (Zb Y) Y)<|Za<|?_
   obtain rfl := rt h
   exact Zs<|JI [some 2, some 3, some 4] Y (.cons (.agg Y Y Y Y Qu Y Y) .nil) (.cons Y (roO ZW)<|.cons Y (roM D3)<|.cons Y (roM D4) .nil) Y Y<|Zcc<|rlc (.dat Y)<|rlc (.dat Y)<|rlc (.own _ Y)<|rlc (.own _ Y)<|rlc (.own _ Y) rln
theorem ZfC {l : List api_Memory} {r : (List api_Memory)} (h : Xz l = some r) :
 GSpec Tryz.prog gl0 63 [.sl 26 (List.map R26 l)] [] (.own 0 r.length) [some ⟨26, List.map O26 r⟩] := by
 unfold Xz at h
 replace h := Qd h
 refine Qt (by kernel_rfl) Tryz.func63 Y Y<|?_
 intro w0 A W φ0
 refine Tr<|Ra Y<|Za<|K1 0 Y<|Tr<|Ra Y<|Za<|I1 (fun out=>⟨[(3, .own 0 out.length)], [some ⟨26, List.map O26 out⟩]⟩) h (fun h=>?_) fun out h=>?_
 ·
  refine Tr<|Rm Y<|Rl tZ_26 ZcD Y<|Rm Y<|Za<|Zk<|?_
  obtain ⟨r1, hl1, ho1⟩ := QY h
  refine L2 (fun out2 i=>⟨[(3, .own 0 out2.length), (6, .sl 26 (List.map R26 l)), (7, .int .i64 (l.length : Int)), (8, .int .i64 i)], [some ⟨26, List.map O26 out2⟩]⟩) hl1 (ES [none]) fun n1 out2 i h=>?_
  unfold Ja at h
  refine Tr<|R2 Z1 Y<|Za<|Zl<|If h Y (fun h=>?_) fun h=>?_
  ·
   exact Zm<|Zl<|Zk<|K4 3 6 7 8 Y<|Tr<|bE h fun x h_x h=>Rq Y (Z4 (ov Y) (ov Y) ZcD h_x)<|Rq Y (Xb (ov Y) Qu Y Y)<|Rx Y (ZL (row := [_, _, _, _, _]) 1 Y Q8 Y tZ_26)<|Rx Y (Zh (ov Y) (ov Y) (Zu Qu Y) Y Y Y (Nat.le_of_ble_eq_true Y) (Zb Y) Y)<|Za<|K5 3 5 6 7 8 Y<|QF [some ⟨26, List.map O26 out2⟩, some ⟨26, [[.int .i64 x.Slots, .int .i64 x.Limit, .sl 49 (List.map R49 x.Sectors), .sl 3 (List.map R3 x.Wear), .sl 4 (List.map R4 x.Bad)]]⟩] Y<|ZA<|Rm Y<|Rq Y (Qb (ov Y) Y Y Y Qu Y Y)<|bE h fun y h_y h=>Rx Y (Zv [] (ZbR h_y) (.cons (ov Y) (Zcc<|rld Y) .nil) .nil Y (.keep Y Y<|.keep Y Y<|.lent 0 (.inr ⟨Nat.le_of_ble_eq_true Y, Y⟩) Y (roO ZW)<|.lent 1 (.inr ⟨Nat.le_of_ble_eq_true Y, Y⟩) Y (roM D3)<|.lent 2 (.inr ⟨Nat.le_of_ble_eq_true Y, Y⟩) Y (roM D4) .nil) Y Y<|Zcc<|rlc (.dat Y)<|rlc (.dat Y)<|rlc (.own _<|.inr ⟨Nat.le_of_ble_eq_true Y, Y⟩)<|rlc (.own _<|.inr ⟨Nat.le_of_ble_eq_true Y, Y⟩)<|rlc (.own _<|.inr ⟨Nat.le_of_ble_eq_true Y, Y⟩) rln)<|Rx Y (ZE (r := 5) Y ZcD (.cons (cva<|ov Y) Y .nil) Y Y)<|bE h fun l2 h_l2 h=>Rx Y (Zn (f := O26) (ov Y) (Zw (o := ⟨26, [[.int .i64 y.Slots, .int .i64 y.Limit, .own 2 y.Sectors.length, .own 3 y.Wear.length, .own 4 y.Bad.length]]⟩) (ov Y) Y Y tZ_26) ZcD Y Y (Zb Y) Y h_l2)<|Ra Y<|Zd6 [some ⟨26, List.set (List.map O26 l2) out2.length [.int .i64 y.Slots, .int .i64 y.Limit, .own 2 y.Sectors.length, .own 3 y.Wear.length, .own 4 y.Bad.length]⟩, some ⟨26, [[.int .i64 x.Slots, .int .i64 x.Limit, .sl 49 (List.map R49 x.Sectors), .sl 3 (List.map R3 x.Wear), .sl 4 (List.map R4 x.Bad)]]⟩, some ⟨49, List.map O49 y.Sectors⟩, some ⟨3, List.map R3 y.Wear⟩, some ⟨4, List.map R4 y.Bad⟩, some ⟨26, [[.int .i64 y.Slots, .int .i64 y.Limit, .own 2 y.Sectors.length, .own 3 y.Wear.length, .own 4 y.Bad.length]]⟩] Y<|QK (Ent.absorbH (r := 0) (j := 2) (q := 2) Y (Ze h_l2) Y Y (List.length_map ..) Y)<|QK (Ent.absorbH (r := 0) (j := 3) (q := 3) Y (Ze h_l2) Y Y (List.length_map ..) Y)<|QK (Ent.absorbH (r := 0) (j := 4) (q := 4) Y (Ze h_l2) Y Y (List.length_map ..) Y)<|QK (Ent.closeS (r := 0) Y (Ze h_l2) Y)<|Za<|K4 3 6 7 8 Y<|QF [some ⟨26, List.map O26 l2⟩, some ⟨26, [[.int .i64 x.Slots, .int .i64 x.Limit, .sl 49 (List.map R49 x.Sectors), .sl 3 (List.map R3 x.Wear), .sl 4 (List.map R4 x.Bad)]]⟩, none, none, none, some ⟨26, [[.int .i64 y.Slots, .int .i64 y.Limit, .own 2 y.Sectors.length, .own 3 y.Wear.length, .own 4 y.Bad.length]]⟩] Y<|ZA<|R2 ZY Y<|Rm Y<|Za<|⟨_, h, ES [some 0] (hhp := .cons Y (roO Xn) .nil)⟩
  ·
   refine ZN<|?_
   replace h := lx h ▸ ho1
   exact ⟨_, h, ES [some 0] (hhp := .cons Y (roO Xn) .nil)⟩
 ·
  refine Tr<|Rm Y<|Ra Y<|Za<|?_
  obtain rfl := rt h
  exact Zs<|JI [some 0] Y (.cons (.tmp Y) .nil) (.cons Y (roO Xn) .nil) Y Y<|.own _ Y
theorem ZdZ {sequence : Int} {r : (List Int)} (h : Zar sequence = some r) :
 CSpec Tryz.prog gl0 87 [.int .i64 sequence] (.sl 5 (List.map R5 r)) := by
 unfold Zar at h
 replace h := Qd h
 refine So Tryz.func87 Y fun w0 A=>Tr<|Ra Y<|Za<|K1 0 Y<|Tr<|Rx Y (ZhW (r := 0) (xs := ([79, 66] : List Int)) (f := R5) Y Qg (.cons (cvs (ov Y)<|Zd Y) Y (.cons (.b Y) .nil)<|.cons (cvs (ov Y)<|Zd Y) Y (.cons (.b Y) .nil) .nil) Y Y Y)<|Ra Y<|Za<|I1 (fun out=>⟨[(3, .own 0 out.length)], [some ⟨5, List.map R5 out⟩]⟩) h (fun h=>?_) fun out h=>?_
 ·
  refine K2 0 3 Y<|Tr<|Ra Y<|Za<|Zk<|?_
  obtain ⟨r1, hl1, ho1⟩ := QY h
  refine L2 (fun out2 shift=>⟨[(0, .int .i64 sequence), (3, .own 0 out2.length), (4, .int .i64 shift)], [some ⟨5, List.map R5 out2⟩]⟩) hl1 (ES [some 0]) fun n1 out2 shift h=>?_
  unfold Zay at h
  refine Zl<|Tr<|Rm Y<|R2 Zha Y<|Za<|K4 0 3 4 9 Y<|If h Y (fun h=>?_) fun h=>?_
  ·
   exact Zm<|Zl<|Zk<|K3 0 3 4 Y<|ZA<|Rm Y<|Rm Y<|Rm Y<|bE h fun q h_q h=>Rq Y (Zb8 (ov Y) (ov Y) h_q)<|Rq Y (Qv (ov Y) tI3 tI5 Y)<|R_q (.sl 5<|List.map R5 ([(u8 q)] : List Int)) Y (Q0 Qg (.cons (cvs (ov Y)<|Zd Y) Y (.cons (.b Y) .nil) .nil) Y Y)<|bE h fun l h_l h=>Rx Y (Q2 (ov Y) (QX (ov Y) tZ_5) Qg Y Y Y (fun _=>Zb Y) Y h_l)<|Ra Y<|Za<|K3 0 3 4 Y<|ZA<|Rm Y<|R2 Zg9 Y<|Ra Y<|Za<|⟨_, h, ES [some 0]⟩
  ·
   refine ZN<|?_
   replace h := lx h ▸ ho1
   exact ⟨_, h, ES [some 0]⟩
 ·
  refine I1 (fun out3=>⟨[(3, .own 0 out3.length)], [some ⟨5, List.map R5 out3⟩]⟩) h (fun h=>?_) fun out3 h=>?_
  ·
   refine Tr<|Rm Y<|bE h fun u h_u h=>Rq Y (ZkQ (ov Y) Y Y Qg (oi<|ov Y) (oi<|ov Y) h_u)<|Rq Y (Zkf (ov Y) Y (List.length_map ..) Qg)<|Rm Y<|Za<|Zk<|?_
   obtain ⟨r2, hl2, ho2⟩ := QY h
   refine ZkA (τ := Option (List Int)) _ (fun b s=>Option.elim b (t2 (fun out4 i=>(⟨[(3, .own 0 out4.length), (20, .osl 0 out4.length (Int.toNat 2) (Int.toNat (6 - 2))), (21, .int .i64 ((Int.toNat (6 - 2) : Nat) : Int)), (22, .int .i64 i)], [some ⟨5, List.map R5 out4⟩]⟩ : St)) s) fun old2=>t2 (fun out4 i=>(⟨[(3, .own 1 out4.length), (20, .osl 0 old2.length (Int.toNat 2) (Int.toNat (6 - 2))), (21, .int .i64 ((Int.toNat (6 - 2) : Nat) : Int)), (22, .int .i64 i)], [some ⟨5, List.map R5 old2⟩, some ⟨5, List.map R5 out4⟩]⟩ : St)) s) (fun b s => ∃ tl, Option.getD b s.1 = out ++ tl) none _ hl2 Zj7 (Ent.sel [some 0] (sr 3 Y (.own _ Y)<|sr 20 Y (.osl _ _ _ Y)<|sd 21 Y Y<|sd 22 Y Y sn) (.cons Y (roM D5) .nil) Y Y) fun b2 n2 s2 hC h=>?_
   obtain ⟨out4, i⟩ := s2
   replace h := t2i h
   unfold Zbc at h
   rcases b2 with _ | old2
   ·
    replace hC : ∃ tl, out4 = out ++ tl := hC
    show T _ _ ⟨[(3, .own 0 out4.length), (20, .osl 0 out4.length (Int.toNat 2) (Int.toNat (6 - 2))), (21, .int .i64 ((Int.toNat (6 - 2) : Nat) : Int)), (22, .int .i64 i)], [some ⟨5, List.map R5 out4⟩]⟩ _
    refine Tr<|R2 Z1 Y<|Za<|Zl<|If h Y (fun h=>?_) fun h=>?_
    ·
     refine Zm<|Zl<|Zk<|K4 3 20 21 22 Y<|Tr<|bE h fun u2 h_u2 h=>bE h fun x2 h_x2 h=>?_
     have h_x2P := Zjc hC h_x2
     refine Rq Y (ZjY (ov Y) (ov Y) Qg Y Y (Zfr h_u).1 h_u2 h_x2P)<|Rq Y (XQ (ov Y) Y Y h_x2P tS5 Y)<|Ra Y<|Za<|K5 3 6 20 21 22 Y<|ZA<|Rm Y<|Rm Y<|R1 Zi6 Y<|R_q (.sl 5<|List.map R5 ([(Zef .u8 255 x2)] : List Int)) Y (Q0 Qg (.cons (cvs (ov Y)<|Zd Y) Y (.cons (.b Y) .nil) .nil) Y Y)<|bE h fun l2 h_l2 h=>Zkr (f := R5) (tp := 20) (ys := ([(Zef .u8 255 x2)] : List Int)) Y (ov Y) (QX (ov Y) tZ_5) Qg Y Y Y (fun _=>Zb Y) Y (fun _=>nsR Y) h_l2 Y ?_ ?_
     ·
      exact Ra Y<|Za<|K4 3 20 21 22 Y<|ZA<|R2 ZY Y<|Rm Y<|Za<|⟨none, (l2, (i64 (i + 1))), Zkm hC h_l2, h, Ent.sel [some 0] (sr 3 Y (.own _ Y) <| sr 20 Y (.osl _ _ _ Y) <| sd 21 Y Y <| sd 22 Y Y <| sn) (.cons Y (roM D5) <| .nil) Y Y⟩
     ·
      exact Ra Y<|Za<|K4 3 20 21 22 Y<|ZA<|R2 ZY Y<|Rm Y<|Za<|⟨some out4, (l2, (i64 (i + 1))), hC, h, Ent.sel [some 0, some 1] (sr 3 Y (.own _ Y) <| sr 20 Y (.osl _ _ _ Y) <| sd 21 Y Y <| sd 22 Y Y <| sn) (.cons Y (roM D5) <| .cons Y (roM D5) <| .nil) Y Y⟩
    ·
     refine ZN<|?_
     replace h := lx h ▸ ho2
     exact ⟨_, h, ES [some 0]⟩
   ·
    replace hC : ∃ tl, old2 = out ++ tl := hC
    show T _ _ ⟨[(3, .own 1 out4.length), (20, .osl 0 old2.length (Int.toNat 2) (Int.toNat (6 - 2))), (21, .int .i64 ((Int.toNat (6 - 2) : Nat) : Int)), (22, .int .i64 i)], [some ⟨5, List.map R5 old2⟩, some ⟨5, List.map R5 out4⟩]⟩ _
    refine Tr<|R2 Z1 Y<|Za<|Zl<|If h Y (fun h=>?_) fun h=>?_
    ·
     refine Zm<|Zl<|Zk<|K4 3 20 21 22 Y<|Tr<|bE h fun u2 h_u2 h=>bE h fun x2 h_x2 h=>?_
     have h_x2P := Zjc hC h_x2
     exact Rq Y (ZjY (ov Y) (ov Y) Qg Y Y (Zfr h_u).1 h_u2 h_x2P)<|Rq Y (XQ (ov Y) Y Y h_x2P tS5 Y)<|Ra Y<|Za<|K5 3 6 20 21 22 Y<|ZA<|Rm Y<|Rm Y<|R1 Zi6 Y<|R_q (.sl 5<|List.map R5 ([(Zef .u8 255 x2)] : List Int)) Y (Q0 Qg (.cons (cvs (ov Y)<|Zd Y) Y (.cons (.b Y) .nil) .nil) Y Y)<|bE h fun l2 h_l2 h=>Rx Y (Q2 (ov Y) (QX (ov Y) tZ_5) Qg Y Y Y (fun _=>Zb Y) Y h_l2)<|Ra Y<|Za<|K4 3 20 21 22 Y<|ZA<|R2 ZY Y<|Rm Y<|Za<|⟨some old2, (l2, (i64 (i + 1))), hC, h, Ent.sel [some 0, some 1] (sr 3 Y (.own _ Y) <| sr 20 Y (.osl _ _ _ Y) <| sd 21 Y Y <| sd 22 Y Y <| sn) (.cons Y (roM D5) <| .cons Y (roM D5) <| .nil) Y Y⟩
    ·
     refine ZN<|?_
     replace h := lx h ▸ ho2
     exact ⟨_, h, ES [some 1]⟩
  ·
   refine Tr<|Rm Y<|Ra Y<|Za<|?_
   obtain rfl := rt h
   exact Zs (ZQ Y (.one<|.tmp Y<|View.ownM Y Y D5))
theorem ZcM {s1 : List Int} {s2 : List Int} {r : Bool} (h : QB s1 s2 = some r) :
 CSpec Tryz.prog gl0 86 [.sl 5 (List.map R5 s1), .sl 5 (List.map R5 s2)] (.bool r) := by
 unfold QB at h
 replace h := Qd h
 refine So Tryz.func86 Y fun w0 A=>Tr<|Ra Y<|Za<|Zl<|K2 0 1 Y<|Tr<|Rm Y<|Rl tZ_5 Qg Y<|Rm Y<|Rl tZ_5 Qg Y<|R2 XK Y<|Za<|K3 0 1 10 Y<|If h Y (fun h=>?_) fun h=>?_
 ·
  refine K0<|Tr<|Ra Y<|Za<|?_
  obtain rfl := rt h
  exact Zs (ZQ Y (.one<|rb Y))
 ·
  refine Zm<|J0 (fun j => (.inr j)) ⟨[], []⟩ h (fun h=>?_) fun h=>?_
  ·
   refine K2 0 1 Y<|Tr<|Rm Y<|Rl tZ_5 Qg Y<|Rm Y<|Za<|Zk<|?_
   obtain ⟨r1, hl1, ho1⟩ := QY h
   refine L1 (fun i=>⟨[(0, .sl 5 (List.map R5 s1)), (1, .sl 5 (List.map R5 s2)), (12, .int .i64 (s1.length : Int)), (13, .int .i64 i)], []⟩) hl1 (ES []) fun n1 i h=>?_
   unfold QI at h
   refine Tr<|R2 Z1 Y<|Za<|Zl<|If h Y (fun h=>?_) fun h=>?_
   ·
    refine Zm<|Zl<|Zk<|K4 0 1 12 13 Y<|Tr<|Rm Y<|Ra Y<|Za<|Zl<|K5 0 1 5 12 13 Y<|Qj (cw := md0) (by kernel_rfl)<|D1 0 Zj Y<|D1 1 Zj Y<|bE h fun x h_x h=>Dq 2 Y (Z4 (ov Y) (ov Y) Qg h_x)<|Dq 3 Y (Zi (ov Y) tS5 Y)<|D1 4 Zj Y<|D1 5 Zj Y<|bE h fun x2 h_x2 h=>Dq 6 Y (Z4 (ov Y) (ov Y) Qg h_x2)<|Dq 7 Y (Zi (ov Y) tS5 Y)<|D2 8 XK Y<|Dd<|K5 0 1 12 13 24 Y<|If h Y (fun h=>?_) fun h=>?_
    ·
     refine K0<|Tr<|Ra Y<|Za<|?_
     replace h := lx h ▸ ho1
     obtain rfl := rt h
     exact Zs (ZQ Y (.one<|rb Y))
    ·
     exact Zm<|K4 0 1 12 13 Y<|ZA<|R2 ZY Y<|Rm Y<|Za<|⟨_, h, ES []⟩
   ·
    refine ZN<|?_
    replace h := lx h ▸ ho1
    exact ⟨(), h, ES []⟩
  ·
   replace h := elr h
   replace h := t0i h
   refine Tr<|Ra Y<|Za<|?_
   obtain rfl := rt h
   exact Zs (ZQ Y (.one<|rb Y))
theorem Zaz {s : List Int} {r : Int × Bool × Bool} (h : JC s = some r) :
 CSpec Tryz.prog gl0 34 [.sl 5 (List.map R5 s)] (.tuple [.int .i64 r.1, .bool r.2.1, .bool r.2.2]) := by
 unfold JC at h
 replace h := Qd h
 refine So Tryz.func34 Y fun w0 A=>Tr<|Ra Y<|Ra Y<|Ra Y<|Za<|Zl<|K1 0 Y<|Tr<|Rm Y<|Rl tZ_5 Qg Y<|R2 Z1 Y<|Za<|K2 0 9 Y<|If h Y (fun h=>?_) fun h=>?_
 ·
  refine K0<|Tr<|Ra Y<|Ra Y<|Ra Y<|Za<|?_
  obtain rfl := rt h
  exact Zs (ZQ Y (.three (rb Y) (rb Y)<|rb Y))
 ·
  refine Zm<|K1 0 Y<|Tr<|Rm Y<|bE h fun l h_l h=>Rq Y (Zhf (ov Y) Qg on (oi<|ov Y) h_l)<|bE h fun v h_v h=>Rq Y (ZiN (f := C5) (ov Y) ZgM tZ_5 Y h_v)<|Ra Y<|Za<|Zl<|K1 5 Y<|Qj (cw := md0) (by kernel_rfl)<|D1 0 Zj Y<|D1 1 ZJ Y<|bE h fun x h_x h=>Dq 2 Y (QC (ov Y) (ov Y) ZgM h_x)<|Dq 3 Y (Zi (ov Y) tS5<|Qp<|Xd (o := 0) (o' := ((Int.toNat 2) * 1)) (ZB arL)<|Xj h_x)<|Dq 4 Y (Qv (ov Y) tI5 tI3 Y)<|bE h fun q h_q h=>Dq 5 Y (Zdr (ov Y) (ov Y) h_q)<|D1 6 Zj Y<|D1 7 ZJ Y<|bE h fun x2 h_x2 h=>Dq 8 Y (QC (ov Y) (ov Y) ZgM h_x2)<|Dq 9 Y (Zi (ov Y) tS5<|Qp<|Xd (o := 0) (o' := ((Int.toNat 3) * 1)) (ZB arL)<|Xj h_x2)<|Dq 10 Y (Qv (ov Y) tI5 tI3 Y)<|bE h fun q2 h_q2 h=>Dq 11 Y (Zdr (ov Y) (ov Y) h_q2)<|D2 12 ZeO Y<|D1 13 Zj Y<|D1 14 ZJ Y<|bE h fun x3 h_x3 h=>Dq 15 Y (QC (ov Y) (ov Y) ZgM h_x3)<|Dq 16 Y (Zi (ov Y) tS5<|Qp<|Xd (o := 0) (o' := ((Int.toNat 4) * 1)) (ZB arL)<|Xj h_x3)<|Dq 17 Y (Qv (ov Y) tI5 tI3 Y)<|bE h fun q3 h_q3 h=>Dq 18 Y (Zdr (ov Y) (ov Y) h_q3)<|D2 19 ZeO Y<|D1 20 Zj Y<|D1 21 ZJ Y<|bE h fun x4 h_x4 h=>Dq 22 Y (QC (ov Y) (ov Y) ZgM h_x4)<|Dq 23 Y (Zi (ov Y) tS5<|Qp<|Xd (o := 0) (o' := ((Int.toNat 5) * 1)) (ZB arL)<|Xj h_x4)<|Dq 24 Y (Qv (ov Y) tI5 tI3 Y)<|D2 25 ZeO Y<|D1 26 Qm Y<|Dd<|Zl<|Zl<|K2 5 6 Y<|Qj (cw := md0) (by kernel_rfl)<|D1 0 Zj Y<|bE h fun y h_y h=>Dq 1 Y (Zq (ZZ h_y)<|.cons (ov Y) (.b Y)<|.cons (ov Y) (.b Y)<|.cons (ov Y) (.b Y) .nil)<|D1 2 XU Y<|D1 3 Zj Y<|Dq 4 Y (.guarded ((!y) == false) Y Y Y Y fun h => Zj<|ov Y)<|Dq 5 Y (.guarded ((!y) == false) Y Y Y Y fun h => ZJ<|ow Y h)<|bE h fun l2 h_l2 h=>Dq 6 Y (.guarded ((!y) == false) Y Y Y Y fun h => ZiX (f := C5) (ow Y h) ZgM tZ_5 (ZB arL) Y on (oi<|ov Y)<|gdT h_l2 h)<|Dq 7 Y (.guarded ((!y) == false) Y Y Y Y fun h => Zj<|ov Y)<|bE h fun y2 h_y2 h=>Dq 8 Y (.guarded ((!y) == false) Y Y Y Y fun h => Zq (ZdZ<|gdT h_y2 h)<|.cons (ow Y h) (.b Y) .nil)<|bE h fun y3 h_y3 h=>Dq 9 Y (.guarded ((!y) == false) Y Y Y Y fun h => Zq (ZcM<|gdT h_y3 h)<|.cons (ow Y h) (.b Y)<|.cons (ow Y h) (.b Y) .nil)<|Dq 10 Y (.guarded ((!y) == false) Y Y Y Y fun h => XU<|ow Y h)<|Dq 11 Y (ZdS (ov Y) fun hp=>ow Y<|gF hp)<|Dd<|K3 5 6 50 Y<|If h Y (fun h=>?_) fun h=>?_
  ·
   refine K0<|Tr<|Ra Y<|Ra Y<|Ra Y<|Za<|?_
   obtain rfl := rt h
   exact Zs (ZQ Y (.three (rb Y) (rb Y)<|rb Y))
  ·
   refine Zm<|Zl<|K2 5 6 Y<|Qj (cw := md0) (by kernel_rfl)<|D1 0 Zj Y<|D1 1 Zj Y<|D1 2 ZJ Y<|bE h fun x5 h_x5 h=>Dq 3 Y (QC (ov Y) (ov Y) ZgM h_x5)<|Dq 4 Y (Zi (ov Y) tS5<|Qp<|Xd (o := 0) (o' := ((Int.toNat 10) * 1)) (ZB arL)<|Xj h_x5)<|D2 5 XK Y<|D1 6 Qm Y<|D1 7 Qm Y<|D1 8 Qm Y<|Dd<|?_
   obtain rfl := rt h
   exact Zs (ZQ Y (.three (rb Y) (rb Y)<|rb Y))
theorem Xf {data : List Int} {a : Int} {b : Int} {cmp : Int → Int → Option Int} {r : (List Int)} {cmp_f : FuncId} {cmp_c : List AV} (cmp_d : cmp_c.all datB = true) (cmp_h : ∀ (z0 : Int) (z1 : Int) z, cmp z0 z1 = some z → CSpec Tryz.prog gl0 cmp_f ([.int .i64 z0, .int .i64 z1] ++ cmp_c) (.int .i64 z)) (h : ZG data a b cmp = some r) :
 GSpec Tryz.prog gl0 155 [.own 0 data.length, .int .i64 a, .int .i64 b, .fn cmp_f cmp_c] [some ⟨3, List.map R3 data⟩] (.tuple []) [some ⟨3, List.map R3 r⟩] := by
 unfold ZG at h
 replace h := Qd h
 refine Qt (by kernel_rfl) Tryz.func155 Y Y<|?_
 intro w0 A W φ0
 refine Tr<|Rm Y<|R2 ZY Y<|Ra Y<|Za<|Zk<|?_
 obtain ⟨r1, hl1, ho1⟩ := QY h
 refine L2 (fun o i=>⟨[(0, .own 0 o.length), (1, .int .i64 a), (2, .int .i64 b), (3, .fn cmp_f cmp_c), (8, .int .i64 i)], [some ⟨3, List.map R3 o⟩]⟩) hl1 (ES [some 0]<|sr 0 Y (.own _ Y)<|sd 1 Y Y<|sd 2 Y Y<|sr 3 Y (rFn<|rld cmp_d)<|sd 8 Y Y sn) fun n1 o i h=>?_
 unfold ZI at h
 refine Zl<|Tr<|Rm Y<|Rm Y<|R2 Z1 Y<|Za<|K6 0 1 2 3 8 14 Y<|If h Y (fun h=>?_) fun h=>?_
 ·
  refine Zm<|I1 (fun o2=>⟨[(0, .own 0 o2.length), (1, .int .i64 a), (2, .int .i64 b), (3, .fn cmp_f cmp_c), (8, .int .i64 i)], [some ⟨3, List.map R3 o2⟩]⟩) h (fun h=>?_) fun o2 h=>?_
  ·
   refine Zk<|K5 0 1 2 3 8 Y<|Tr<|Rm Y<|Ra Y<|Za<|Zk<|?_
   obtain ⟨r2, hl2, ho2⟩ := QY h
   refine L2 (fun o3 j=>⟨[(0, .own 0 o3.length), (1, .int .i64 a), (2, .int .i64 b), (3, .fn cmp_f cmp_c), (8, .int .i64 i), (9, .int .i64 j)], [some ⟨3, List.map R3 o3⟩]⟩) hl2 (ES [some 0]<|sr 0 Y (.own _ Y)<|sd 1 Y Y<|sd 2 Y Y<|sr 3 Y (rFn<|rld cmp_d)<|sd 8 Y Y<|sd 9 Y Y sn) fun n2 o3 j h=>?_
   unfold ZH at h
   refine Zl<|Zl<|Qj (cw := md0) (by kernel_rfl)<|D1 0 Zj Y<|D1 1 Zj Y<|D2 2 Zcu Y<|D1 3 Zj Y<|Dq 4 Y (.guarded ((decide (a < j)) == true) Y Y Y Y fun h => Zj<|ov Y)<|Dq 5 Y (.guarded ((decide (a < j)) == true) Y Y Y Y fun h => Zj<|ov Y)<|Dq 6 Y (.guarded ((decide (a < j)) == true) Y Y Y Y fun h => Zj<|ov Y)<|bE h fun x h_x h=>Dq 7 Y (.guarded ((decide (a < j)) == true) Y Y Y Y fun h => XB (ow Y h) (ow Y h) QH Y Y<|gdT h_x h)<|Dq 8 Y (.guarded ((decide (a < j)) == true) Y Y Y Y fun h => XQ (ow Y h) Y Y (gdT h_x h) tS3 Y)<|Dq 9 Y (.guarded ((decide (a < j)) == true) Y Y Y Y fun h => Zj<|ov Y)<|Dq 10 Y (.guarded ((decide (a < j)) == true) Y Y Y Y fun h => Zj<|ov Y)<|Dq 11 Y (.guarded ((decide (a < j)) == true) Y Y Y Y fun h => Zj5 (ow Y h) (ov Y) Y)<|bE h fun x2 h_x2 h=>Dq 12 Y (.guarded ((decide (a < j)) == true) Y Y Y Y fun h => XB (ow Y h) (ow Y h) QH Y Y<|gdT h_x2 h)<|Dq 13 Y (.guarded ((decide (a < j)) == true) Y Y Y Y fun h => XQ (ow Y h) Y Y (gdT h_x2 h) tS3 Y)<|bE h fun y h_y h=>Dq 14 Y (.guarded ((decide (a < j)) == true) Y Y Y Y fun h => Zfn (ow Y h) cmp_d (cmp_h _ _ _<|gdT h_y h)<|.cons (ow Y h) (.b Y)<|.cons (ow Y h) (.b Y) .nil)<|Dq 15 Y (.guarded ((decide (a < j)) == true) Y Y Y Y fun h => Z1 (ow Y h)<|ov Y)<|Dq 16 Y (ZaX (ov Y) fun hp=>ow Y<|gT hp)<|Dd<|K7 0 1 2 3 8 9 34 Y<|If h Y (fun h=>?_) fun h=>?_
   ·
    exact Zm<|Zl<|Zk<|K6 0 1 2 3 8 9 Y<|Qj (cw := md0) (by kernel_rfl)<|D1 0 Zj Y<|D1 1 Zj Y<|D1 5 Zj Y<|D1 6 Zj Y<|D2 7 Zg9 Y<|bE h fun x3 h_x3 h=>Dq 8 Y (XB (ov Y) (ov Y) QH Y Y h_x3)<|Dq 9 Y (XQ (ov Y) Y Y h_x3 tS3 Y)<|D1 10 Zj Y<|D1 11 Zj Y<|bE h fun x4 h_x4 h=>Dq 12 Y (XB (ov Y) (ov Y) QH Y Y h_x4)<|Dq 13 Y (XQ (ov Y) Y Y h_x4 tS3 Y)<|bE h fun x5 h_x5 h=>Dq 14 Y (XB (ov Y) (ov Y) QH Y Y h_x5)<|ZP 2 _ Y (by kernel_rfl) Y Y (fun hp'=>Zj<|ov Y)<|ZP 3 _ Y (by kernel_rfl) Y Y (fun hp'=>Zj<|ov Y)<|ZP 4 _ Y (by kernel_rfl) Y Y (fun hp'=>Zj5 (ov Y) (ov Y) Y)<|Do 15 Y (JY (u' := x3) (ov Y) (ov Y) (Zf tS3) Y Y h_x5 Y (Zb Y) Y)<|bE h fun x6 h_x6 h=>Dq 16 Y (XB (ov Y) (ov Y) QH Y ((List.length_set ..).trans Y) h_x6)<|Do 17 Y (JY (u' := x4) (ov Y) (ov Y) (Zf tS3) Y ((List.length_set ..).trans Y) h_x6 Y (Zb Y) Y)<|Dd<|K6 0 1 2 3 8 9 Y<|ZA<|Rm Y<|R2 Zg9 Y<|Ra Y<|Za<|⟨_, h, ES [some 0]<|sr 0 Y (Zfd (Eq.symm<|(List.length_set ..).trans<|(List.length_set ..).trans Y) Y)<|sd 1 Y Y<|sd 2 Y Y<|sr 3 Y (rFn<|rld cmp_d)<|sd 8 Y Y<|sd 9 Y Y sn⟩
   ·
    refine ZN<|?_
    replace h := lx h ▸ ho2
    exact ⟨_, h, ES [some 0]<|sr 0 Y (.own _ Y)<|sd 1 Y Y<|sd 2 Y Y<|sr 3 Y (rFn<|rld cmp_d)<|sd 8 Y Y sn⟩
  ·
   exact ZA<|Rm Y<|R2 ZY Y<|Ra Y<|Za<|⟨_, h, ES [some 0]<|sr 0 Y (.own _ Y)<|sd 1 Y Y<|sd 2 Y Y<|sr 3 Y (rFn<|rld cmp_d)<|sd 8 Y Y sn⟩
 ·
  refine ZN<|?_
  replace h := lx h ▸ ho1
  obtain rfl := rt h
  exact Zhz [some 0] Y .nil (.cons Y (roM D3) .nil) Y Y<|Xo rln
end Go.Proofs.YtnlmjeleocelgaaGreatDoor
