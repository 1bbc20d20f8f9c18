/- A text of the proof: a verified executor of the program form, or the contracts of the functions that the law reaches. -/
import Derived.Test.YtnlmjeleocelgaaGreatDoorOkRa
set_option linter.all false
namespace Go.Proofs.YtnlmjeleocelgaaGreatDoor
open Go Go.Vx
set_option maxRecDepth 10000
set_option maxHeartbeats 1000000
set_option linter.unusedVariables false
theorem Zgp {n : Int} {r : Bool} (h : Zcd n = some r) :
 CSpec Tryz.prog gl0 151 [.int .i64 n] (.bool r) := by
 unfold Zcd at h
 replace h := Qk h
 refine So Tryz.func151 Y fun w0 A=>Tr<|Ra Y<|Za<|K1 0 Y<|Tr<|Ra Y<|Za<|I1 (fun ones=>⟨[(3, .int .i64 ones)], []⟩) h (fun h=>?_) fun ones h=>?_
 ·
  refine Ze<|?_
  obtain ⟨r1, hl1, ho1⟩ := QE h
  refine L2 (fun n2 ones2=>⟨[(0, .int .i64 n2), (3, .int .i64 ones2)], []⟩) hl1 (ES []) fun n1 n2 ones2 h=>?_
  unfold Zey at h
  refine Zg<|Tr<|Rm Y<|R2 Za8 Y<|Za<|K3 0 3 5 Y<|If h Y (fun h=>?_) fun h=>?_
  ·
   exact Zf<|Zg<|Ze<|K2 0 3 Y<|Zp<|Rm Y<|Rm Y<|bE h fun q h_q h=>Rq Y (Jr (ov Y) (ov Y) h_q)<|R2 ZF Y<|Ra Y<|Za<|K2 0 3 Y<|Zp<|Rm Y<|bE h fun q2 h_q2 h=>Rq Y (Zc2 (ov Y) (ov Y) h_q2)<|Ra Y<|Za<|⟨_, h, ES []⟩
  ·
   refine Zz<|?_
   replace h := lx h ▸ ho1
   exact ⟨_, h, ES []⟩
 ·
  refine Tr<|Rm Y<|bE h fun q3 h_q3 h=>Rq Y (Jr (ov Y) (ov Y) h_q3)<|R2 Zaw Y<|Ra Y<|Za<|?_
  obtain rfl := rt h
  exact Zo (ZG Y (.one<|rb Y))
theorem ZdT {data : Int} {r : Int} (h : Zb2 data = some r) :
 CSpec Tryz.prog gl0 131 [.int .i64 data] (.int .i64 r) := by
 unfold Zb2 at h
 replace h := Qk h
 refine So Tryz.func131 Y fun w0 A=>Tr<|Ra Y<|Za<|Zg<|K1 0 Y<|Tr<|Rm Y<|bE h fun y h_y h=>Rq Y (Zn (Zgp h_y)<|.cons (ov Y) (.b Y) .nil)<|Za<|K2 0 4 Y<|If h Y (fun h=>?_) fun h=>?_
 ·
  refine K1 0 Y<|Tr<|Rm Y<|Ra Y<|Za<|?_
  obtain rfl := rt h
  exact Zo (ZG Y (.one<|rb Y))
 ·
  refine Zf<|K1 0 Y<|Tr<|Rm Y<|R2 ZF Y<|Ra Y<|Za<|?_
  obtain rfl := rt h
  exact Zo (ZG Y (.one<|rb Y))
theorem ZcP {f : Vector Int 64} {r : Int} (h : Xx f = some r) :
 CSpec Tryz.prog gl0 123 [.agg (List.map C40 f.toList)] (.int .i64 r) := by
 unfold Xx at h
 replace h := Qk h
 refine So Tryz.func123 Y fun w0 A=>Tr<|Rq Y (ZbM (cva<|ov Y) arL tZ_42<|arD fun _ => Y)<|Ra Y<|Za<|K2 1 2 Y<|Tr<|bE h fun x h_x h=>Rq Y (QM (ov Y) (ov Y) Jk h_x)<|Rq Y (Zd (ov Y) Zae<|Qn<|Xe (o := 0) (o' := ((Int.toNat 1) * 1)) (Zq arL)<|Q9 h_x)<|Rq Y (Z4 (ov Y) Zcx tI3 Y)<|bE h fun q h_q h=>Rq Y (Jr (ov Y) (ov Y) h_q)<|bE h fun x2 h_x2 h=>Rq Y (QM (ov Y) (ov Y) Jk h_x2)<|Rq Y (Zd (ov Y) Zae<|Qn<|Xe (o := 0) (o' := ((Int.toNat 2) * 1)) (Zq arL)<|Q9 h_x2)<|Rq Y (Z4 (ov Y) Zcx tI3 Y)<|bE h fun q2 h_q2 h=>Rq Y (Jr (ov Y) (ov Y) h_q2)<|R2 Zds Y<|R2 ZF Y<|Ra Y<|Za<|?_
 obtain rfl := rt h
 exact Zo (ZG Y (.one<|rb Y))
theorem Zga {number : Int} {r : Int} (h : J7 number = some r) :
 CSpec Tryz.prog gl0 132 [.int .i64 number] (.int .i64 r) := by
 unfold J7 at h
 replace h := Qk h
 refine So Tryz.func132 Y fun w0 A=>Tr<|Ra Y<|Za<|Tr<|R_q (.agg<|List.map C3 (#v[583, 1464, 2631, 3512] : Vector Int 4).toList) Y (ZbA (ys := [_, _, _, _]) ZoN Zqi (.cons (cvs (ov Y)<|Zk Y)<|.cons (cvs (ov Y)<|Zk Y)<|.cons (cvs (ov Y)<|Zk Y)<|.cons (cvs (ov Y)<|Zk Y) .nil) Y)<|Rm Y<|bE h fun q h_q h=>Rq Y (Jr (ov Y) (ov Y) h_q)<|bE h fun x h_x h=>Rq Y (Zif (ov Y) (ov Y) ZoN tS3 h_x)<|Ra Y<|Za<|?_
 obtain rfl := rt h
 exact Zo (ZG Y (.one<|rb Y))
theorem ZiL {f : Vector Int 64} {r : Int} (h : Zdm f = some r) :
 CSpec Tryz.prog gl0 133 [.agg (List.map C40 f.toList)] (.int .i64 r) := by
 unfold Zdm at h
 replace h := Qk h
 refine So Tryz.func133 Y fun w0 A=>Tr<|Rq Y (ZbM (cva<|ov Y) arL tZ_42<|arD fun _ => Y)<|Ra Y<|Za<|K1 1 Y<|Tr<|Ra Y<|Za<|I1 (fun x=>⟨[(3, .int .i64 x)], []⟩) h (fun h=>?_) fun x h=>?_
 ·
  refine Tr<|Ra Y<|Za<|Ze<|?_
  obtain ⟨r1, hl1, ho1⟩ := QE h
  refine L2 (fun x2 i=>⟨[(1, .rp (List.map C40 f.toList) 0), (3, .int .i64 x2), (4, .int .i64 i)], []⟩) hl1 (ES []) fun n1 x2 i h=>?_
  unfold Za3 at h
  refine Zg<|Tr<|Rm Y<|R2 ZhU Y<|Za<|K4 1 3 4 6 Y<|If h Y (fun h=>?_) fun h=>?_
  ·
   exact Zf<|Zg<|Ze<|K3 1 3 4 Y<|Zp<|Rm Y<|Rm Y<|bE h fun x3 h_x3 h=>Rq Y (QM (ov Y) (ov Y) Jk h_x3)<|Rq Y (Zd (ov Y) Zae<|Qn<|Xe (o := 0) (o' := (i.toNat * 1)) (Zq arL)<|Q9 h_x3)<|Rq Y (Z4 (ov Y) Zcx tI3 Y)<|bE h fun q h_q h=>Rq Y (Jr (ov Y) (ov Y) h_q)<|R2 ZkH Y<|Ra Y<|Za<|K3 1 3 4 Y<|Zp<|Rm Y<|R2 ZF Y<|Ra Y<|Za<|⟨_, h, ES []⟩
  ·
   refine Zz<|?_
   replace h := lx h ▸ ho1
   exact ⟨_, h, ES []⟩
 ·
  refine Tr<|Rm Y<|Ra Y<|Za<|?_
  obtain rfl := rt h
  exact Zo (ZG Y (.one<|rb Y))
theorem ZgR {f : Vector Int 64} {r : Int} (h : Za1 f = some r) :
 CSpec Tryz.prog gl0 152 [.agg (List.map C40 f.toList)] (.int .i64 r) := by
 unfold Za1 at h
 replace h := Qk h
 refine So Tryz.func152 Y fun w0 A=>Tr<|Rq Y (ZbM (cva<|ov Y) arL tZ_42<|arD fun _ => Y)<|Ra Y<|Za<|K1 1 Y<|Tr<|Ra Y<|Za<|I1 (fun rest=>⟨[(3, .int .i64 rest)], []⟩) h (fun h=>?_) fun rest h=>?_
 ·
  refine Tr<|Ra Y<|Za<|Ze<|?_
  obtain ⟨r1, hl1, ho1⟩ := QE h
  refine L2 (fun rest2 i=>⟨[(1, .rp (List.map C40 f.toList) 0), (3, .int .i64 rest2), (4, .int .i64 i)], []⟩) hl1 (ES []) fun n1 rest2 i h=>?_
  unfold JM at h
  refine Zg<|Tr<|Rm Y<|R2 ZD Y<|Za<|K4 1 3 4 7 Y<|If h Y (fun h=>?_) fun h=>?_
  ·
   refine Zf<|Zg<|Ze<|K3 1 3 4 Y<|Tr<|Ra Y<|Za<|I1 (fun bit=>⟨[(1, .rp (List.map C40 f.toList) 0), (3, .int .i64 rest2), (4, .int .i64 i), (5, .int .i64 bit)], []⟩) h (fun h=>?_) fun bit h=>?_
   ·
    refine Tr<|Rm Y<|R2 ZD Y<|Za<|K5 1 3 4 5 11 Y<|If h Y (fun h=>?_) fun h=>?_
    ·
     exact K4 1 3 4 5 Y<|Zp<|Rm Y<|bE h fun q h_q h=>Rq Y (Zc2 (ov Y) (ov Y) h_q)<|bE h fun x h_x h=>Rq Y (QM (ov Y) (ov Y) Jk h_x)<|Rq Y (Zd (ov Y) Zae<|Qn<|Xe (o := 0) (o' := (q.toNat * 1)) (Zq arL)<|Q9 h_x)<|Rq Y (Z4 (ov Y) Zcx tI3 Y)<|Rm Y<|bE h fun q2 h_q2 h=>Rq Y (Jr (ov Y) (ov Y) h_q2)<|R2 Za4 Y<|bE h fun q3 h_q3 h=>Rq Y (ZaU (ov Y) (ov Y) h_q3)<|R2 ZbO Y<|Ra Y<|Za<|⟨_, h, ES []⟩
    ·
     exact Zf<|⟨_, h, ES []⟩
   ·
    refine Tr<|Rm Y<|R2 Zds Y<|Rm Y<|R2 ZF Y<|Ra Y<|Za<|K3 1 3 4 Y<|Tr<|Rm Y<|R2 ZhA Y<|Za<|K4 1 3 4 27 Y<|If h Y (fun h=>?_) fun h=>?_
    ·
     exact K3 1 3 4 Y<|Zp<|Rm Y<|R2 ZkH Y<|Ra Y<|Za<|K3 1 3 4 Y<|Zp<|Rm Y<|R2 ZF Y<|Ra Y<|Za<|⟨_, h, ES []⟩
    ·
     exact Zf<|K3 1 3 4 Y<|Zp<|Rm Y<|R2 ZF Y<|Ra Y<|Za<|⟨_, h, ES []⟩
  ·
   refine Zz<|?_
   replace h := lx h ▸ ho1
   exact ⟨_, h, ES []⟩
 ·
  refine Tr<|Rm Y<|Ra Y<|Za<|?_
  obtain rfl := rt h
  exact Zo (ZG Y (.one<|rb Y))
theorem ZiW {f : Vector Int 64} {r : (Vector Int 64)} (h : Zcz f = some r) :
 CSpec Tryz.prog gl0 134 [.agg (List.map C40 f.toList)] (.agg (List.map C40 r.toList)) := by
 unfold Zcz at h
 replace h := Qk h
 refine So Tryz.func134 Y fun w0 A=>Tr<|Rx Y (Zl6 0 Y (ov Y) QR arL)<|Rx Y (Z3 (row := (List.map C40 (Vector.replicate 64 0).toList)) 1 Y Zd8 Y tZ_42)<|Za<|K2 1 2 Y<|Tr<|Rq Y (Qe (ov Y) Y Y Y QR (ZW<|Zq arL) arL (hns := (nsM fun _ => Y)))<|bE h fun y h_y h=>Rq Y (Zn (ZgR h_y)<|.cons (ov Y) (.aggB<|arD fun _ => Y) .nil)<|Ra Y<|Za<|K3 1 2 3 Y<|Tr<|Rm Y<|bE h fun q h_q h=>Rq Y (Zc2 (ov Y) (ov Y) h_q)<|bE h fun y2 h_y2 h=>Rq Y (Zn (ZdT h_y2)<|.cons (ov Y) (.b Y) .nil)<|Rq Y (Z4 (ov Y) tI3 Zcx Y)<|Rm Y<|bE h fun q2 h_q2 h=>Rq Y (Jr (ov Y) (ov Y) h_q2)<|bE h fun y3 h_y3 h=>Rq Y (Zn (ZdT h_y3)<|.cons (ov Y) (.b Y) .nil)<|Rq Y (Z4 (ov Y) tI3 Zcx Y)<|bE h fun x h_x h=>Rq Y (JX (ov Y) (ov Y) Jk Y Y h_x)<|Rx Y (Zl (ov Y) (ov Y) (Zh Zae) Y Y Y (arB h_x) (Zb Y)<|arS h_x)<|bE h fun x2 h_x2 h=>Rq Y (JX (ov Y) (ov Y) Jk Y Y h_x2)<|Rx Y (Zl (ov Y) (ov Y) (Zh Zae) Y Y Y (arB h_x2) (Zb Y)<|arS h_x2)<|Za<|K2 1 2 Y<|Tr<|Rq Y (Qe (ov Y) Y Y Y QR (ZW<|Zq arL) arL (hns := (nsM fun _ => Y)))<|Rx Y (Zl (ov Y) (ov Y) (Zv QR arL) Y Y Y (Xt (Zq arL) arL) (Zb<|arC fun _ => Y)<|QS<|Eq.trans arL<|Eq.symm arL)<|Za<|?_
 obtain rfl := rt h
 exact Zo (ZG Y (.one<|.agg Y Y Y Y QR (ZW<|Zq arL) arL (pwB<|arD fun _ => Y) (hns := (nsM fun _ => Y))))
theorem Zju {f : Vector Int 64} {r : (Vector Int 64)} (h : Zdl f = some r) :
 CSpec Tryz.prog gl0 101 [.agg (List.map C40 f.toList)] (.agg (List.map C40 r.toList)) := by
 unfold Zdl at h
 replace h := Qk h
 refine So Tryz.func101 Y fun w0 A=>Tr<|Rx Y (Zl6 0 Y (ov Y) QR arL)<|Rx Y (Z3 (row := (List.map C40 (Vector.replicate 64 0).toList)) 1 Y Zd8 Y tZ_42)<|Za<|I1 (fun f2=>⟨[(1, .ptr 0 1 0 0), (2, .ptr 1 1 0 0)], [some ⟨42, [(List.map C40 f2.toList)]⟩, some ⟨42, [(List.map C40 (Vector.replicate 64 0).toList)]⟩]⟩) h (fun h=>?_) fun f2 h=>?_
 ·
  refine K2 1 2 Y<|Tr<|Ra Y<|Za<|Ze<|?_
  obtain ⟨r1, hl1, ho1⟩ := QE h
  refine L2 (fun f3 i=>⟨[(1, .ptr 0 1 0 0), (2, .ptr 1 1 0 0), (3, .int .i64 i)], [some ⟨42, [(List.map C40 f3.toList)]⟩, some ⟨42, [(List.map C40 (Vector.replicate 64 0).toList)]⟩]⟩) hl1 (ES [some 0, some 1]) fun n1 f3 i h=>?_
  unfold Zco at h
  refine Zg<|Tr<|Rm Y<|R2 ZhU Y<|Za<|K4 1 2 3 5 Y<|If h Y (fun h=>?_) fun h=>?_
  ·
   exact Zf<|Zg<|Ze<|K3 1 2 3 Y<|Zp<|Rm Y<|Rm Y<|bE h fun x h_x h=>Rq Y (JX (ov Y) (ov Y) Jk Y Y h_x)<|Rq Y (Zw (ov Y) Y Y Y Zae<|Qn<|Xe (o := 0) (o' := (i.toNat * 1)) (Zq arL)<|Q9 h_x)<|Rq Y (Z4 (ov Y) Zcx tI3 Y)<|bE h fun q h_q h=>Rq Y (Jr (ov Y) (ov Y) h_q)<|bE h fun y h_y h=>Rq Y (Zn (ZdT h_y)<|.cons (ov Y) (.b Y) .nil)<|Rq Y (Z4 (ov Y) tI3 Zcx Y)<|bE h fun x2 h_x2 h=>Rq Y (JX (ov Y) (ov Y) Jk Y Y h_x2)<|Rx Y (Zl (ov Y) (ov Y) (Zh Zae) Y Y Y (arB h_x2) (Zb Y)<|arS h_x2)<|Za<|K3 1 2 3 Y<|Zp<|Rm Y<|R2 ZF Y<|Ra Y<|Za<|⟨_, h, ES [some 0, some 1]⟩
  ·
   refine Zz<|?_
   replace h := lx h ▸ ho1
   exact ⟨_, h, ES [some 0, some 1]⟩
 ·
  refine Tr<|Rq Y (Qe (ov Y) Y Y Y QR (ZW<|Zq arL) arL (hns := (nsM fun _ => Y)))<|bE h fun y2 h_y2 h=>Rq Y (Zn (ZcP h_y2)<|.cons (ov Y) (.aggB<|arD fun _ => Y) .nil)<|bE h fun y3 h_y3 h=>Rq Y (Zn (Zga h_y3)<|.cons (ov Y) (.b Y) .nil)<|Rq Y (Z4 (ov Y) tI3 Zcx Y)<|bE h fun x3 h_x3 h=>Rq Y (JX (ov Y) (ov Y) Jk Y Y h_x3)<|Rx Y (Zl (ov Y) (ov Y) (Zh Zae) Y Y Y (arB h_x3) (Zb Y)<|arS h_x3)<|Za<|K2 1 2 Y<|Tr<|Rq Y (Qe (ov Y) Y Y Y QR (ZW<|Zq arL) arL (hns := (nsM fun _ => Y)))<|bE h fun y4 h_y4 h=>Rq Y (Zn (ZiL h_y4)<|.cons (ov Y) (.aggB<|arD fun _ => Y) .nil)<|bE h fun y5 h_y5 h=>Rq Y (Zn (ZdT h_y5)<|.cons (ov Y) (.b Y) .nil)<|Rq Y (Z4 (ov Y) tI3 Zcx Y)<|bE h fun x4 h_x4 h=>Rq Y (JX (ov Y) (ov Y) Jk Y Y h_x4)<|Rx Y (Zl (ov Y) (ov Y) (Zh Zae) Y Y Y (arB h_x4) (Zb Y)<|arS h_x4)<|Za<|K2 1 2 Y<|Tr<|Rq Y (Qe (ov Y) Y Y Y QR (ZW<|Zq arL) arL (hns := (nsM fun _ => Y)))<|bE h fun y6 h_y6 h=>Rq Y (Zn (ZiW h_y6)<|.cons (ov Y) (.aggB<|arD fun _ => Y) .nil)<|Rx Y (Zl (ov Y) (ov Y) (Zv QR arL) Y Y Y (Xt (Zq arL) arL) (Zb<|arC fun _ => Y)<|QS<|Eq.trans arL<|Eq.symm arL)<|Za<|?_
  obtain rfl := rt h
  exact Zo (ZG Y (.one<|.agg Y Y Y Y QR (ZW<|Zq arL) arL (pwB<|arD fun _ => Y) (hns := (nsM fun _ => Y))))
theorem Zk7 {number : Int} {data : List Int} {r : (Vector Int 64) × Int} (h : ZfV number data = some r) :
 CSpec Tryz.prog gl0 61 [.int .i64 number, .sl 3 (List.map R3 data)] (.tuple [.agg (List.map C40 r.1.toList), .int .i64 r.2]) := by
 unfold ZfV at h
 replace h := Qk h
 refine So Tryz.func61 Y fun w0 A=>Tr<|Rx Y (Z3 (row := (List.map C40 (Vector.replicate 64 0).toList)) 0 Y Zd8 Y tZ_42)<|Ra Y<|Za<|Zg<|K3 0 1 4 Y<|Tr<|Rm Y<|R2 ZD Y<|Rm Y<|Rq Y (.guarded ((decide (number < 0)) == false) Y Y Y Y fun h => Zc<|ov Y)<|Rq Y (.guarded ((decide (number < 0)) == false) Y Y Y Y fun h => ZhA (ow Y h)<|ov Y)<|Rq Y (Zdw (ov Y) fun hp=>ow Y<|gF hp)<|Za<|K4 0 1 4 14 Y<|If h Y (fun h=>?_) fun h=>?_
 ·
  refine K1 4 Y<|Tr<|R_q (.agg<|List.map C40 (#v[0, 0, 0, 0, 0, 0, 0, 0, 0, 0, 0, 0, 0, 0, 0, 0, 0, 0, 0, 0, 0, 0, 0, 0, 0, 0, 0, 0, 0, 0, 0, 0, 0, 0, 0, 0, 0, 0, 0, 0, 0, 0, 0, 0, 0, 0, 0, 0, 0, 0, 0, 0, 0, 0, 0, 0, 0, 0, 0, 0, 0, 0, 0, 0] : Vector Int 64).toList) Y (ZbA (ys := [_, _, _, _, _, _, _, _, _, _, _, _, _, _, _, _, _, _, _, _, _, _, _, _, _, _, _, _, _, _, _, _, _, _, _, _, _, _, _, _, _, _, _, _, _, _, _, _, _, _, _, _, _, _, _, _, _, _, _, _, _, _, _, _]) Jk Zd8 .nil Y)<|Rx Y (Zl (ov Y) (ov Y) (Zv QR arL) Y Y Y (Xt (Zq arL) arL) (Zb<|arC fun _ => Y)<|QS<|Eq.trans arL<|Eq.symm arL)<|Ra Y<|Za<|?_
  obtain rfl := rt h
  exact Zo (ZG Y (.two (.agg Y Y Y Y QR (ZW<|Zq arL) arL (pwB<|arD fun _ => Y) (hns := (nsM fun _ => Y)))<|rb Y))
 ·
  refine Zf<|Zg<|K3 0 1 4 Y<|Tr<|Rm Y<|Rl tZ_3 QK Y<|R2 Q2 Y<|Za<|K4 0 1 4 18 Y<|If h Y (fun h=>?_) fun h=>?_
  ·
   refine K1 4 Y<|Tr<|R_q (.agg<|List.map C40 (#v[0, 0, 0, 0, 0, 0, 0, 0, 0, 0, 0, 0, 0, 0, 0, 0, 0, 0, 0, 0, 0, 0, 0, 0, 0, 0, 0, 0, 0, 0, 0, 0, 0, 0, 0, 0, 0, 0, 0, 0, 0, 0, 0, 0, 0, 0, 0, 0, 0, 0, 0, 0, 0, 0, 0, 0, 0, 0, 0, 0, 0, 0, 0, 0] : Vector Int 64).toList) Y (ZbA (ys := [_, _, _, _, _, _, _, _, _, _, _, _, _, _, _, _, _, _, _, _, _, _, _, _, _, _, _, _, _, _, _, _, _, _, _, _, _, _, _, _, _, _, _, _, _, _, _, _, _, _, _, _, _, _, _, _, _, _, _, _, _, _, _, _]) Jk Zd8 .nil Y)<|Rx Y (Zl (ov Y) (ov Y) (Zv QR arL) Y Y Y (Xt (Zq arL) arL) (Zb<|arC fun _ => Y)<|QS<|Eq.trans arL<|Eq.symm arL)<|Ra Y<|Za<|?_
   obtain rfl := rt h
   exact Zo (ZG Y (.two (.agg Y Y Y Y QR (ZW<|Zq arL) arL (pwB<|arD fun _ => Y) (hns := (nsM fun _ => Y)))<|rb Y))
  ·
   refine Zf<|K3 0 1 4 Y<|Tr<|R_q (.agg<|List.map C40 (#v[0, 0, 0, 0, 0, 0, 0, 0, 0, 0, 0, 0, 0, 0, 0, 0, 0, 0, 0, 0, 0, 0, 0, 0, 0, 0, 0, 0, 0, 0, 0, 0, 0, 0, 0, 0, 0, 0, 0, 0, 0, 0, 0, 0, 0, 0, 0, 0, 0, 0, 0, 0, 0, 0, 0, 0, 0, 0, 0, 0, 0, 0, 0, 0] : Vector Int 64).toList) Y (ZbA (ys := [_, _, _, _, _, _, _, _, _, _, _, _, _, _, _, _, _, _, _, _, _, _, _, _, _, _, _, _, _, _, _, _, _, _, _, _, _, _, _, _, _, _, _, _, _, _, _, _, _, _, _, _, _, _, _, _, _, _, _, _, _, _, _, _]) Jk Zd8 .nil Y)<|Rx Y (Z3 (row := (List.map C40 (Vector.replicate 64 0).toList)) 1 Y Zd8 Y tZ_42)<|Rx Y (Zl (ov Y) (ov Y) (Zv QR arL) Y Y Y (Xt (Zq arL) arL) (Zb<|arC fun _ => Y)<|QS<|Eq.trans arL<|Eq.symm arL)<|Za<|K4 0 1 4 6 Y<|Tr<|Rm Y<|bE h fun q h_q h=>Rq Y (Jr (ov Y) (ov Y) h_q)<|Rq Y (Z4 (ov Y) tI3 Zcx Y)<|Rm Y<|bE h fun q2 h_q2 h=>Rq Y (Zc2 (ov Y) (ov Y) h_q2)<|Rq Y (Z4 (ov Y) tI3 Zcx Y)<|bE h fun x h_x h=>Rq Y (JX (ov Y) (ov Y) Jk Y Y h_x)<|Rx Y (Zl (ov Y) (ov Y) (Zh Zae) Y Y Y (arB h_x) (Zb Y)<|arS h_x)<|bE h fun x2 h_x2 h=>Rq Y (JX (ov Y) (ov Y) Jk Y Y h_x2)<|Rx Y (Zl (ov Y) (ov Y) (Zh Zae) Y Y Y (arB h_x2) (Zb Y)<|arS h_x2)<|Za<|J1 (fun j => (.inr j)) (fun f=>⟨[(4, .ptr 0 1 0 0), (6, .ptr 1 1 0 0)], [some ⟨42, [(List.map C40 (Vector.replicate 64 0).toList)]⟩, some ⟨42, [(List.map C40 f.toList)]⟩]⟩) h (fun h=>?_) fun f h=>?_
   ·
    refine K3 1 4 6 Y<|Tr<|Rm Y<|Rl tZ_3 QK Y<|Rm Y<|Za<|Ze<|?_
    obtain ⟨r1, hl1, ho1⟩ := QE h
    refine L2 (fun f2 i=>⟨[(4, .ptr 0 1 0 0), (6, .ptr 1 1 0 0), (29, .sl 3 (List.map R3 data)), (30, .int .i64 (data.length : Int)), (31, .int .i64 i)], [some ⟨42, [(List.map C40 (Vector.replicate 64 0).toList)]⟩, some ⟨42, [(List.map C40 f2.toList)]⟩]⟩) hl1 (ES [some 0, some 1]) fun n1 f2 i h=>?_
    unfold Zez at h
    refine Tr<|R2 ZD Y<|Za<|Zg<|If h Y (fun h=>?_) fun h=>?_
    ·
     refine Zf<|Zg<|Ze<|K5 4 6 29 30 31 Y<|Tr<|Rm Y<|bE h fun x3 h_x3 h=>Rq Y (ZS (ov Y) (ov Y) QK h_x3)<|Rq Y (Zd (ov Y) tS3 Y)<|Ra Y<|Ra Y<|Za<|Zg<|K7 4 6 7 8 29 30 31 Y<|Tr<|Rm Y<|R2 ZD Y<|Rm Y<|Rq Y (.guarded ((decide (x3 < 0)) == false) Y Y Y Y fun h => Zc<|ov Y)<|Rq Y (.guarded ((decide (x3 < 0)) == false) Y Y Y Y fun h => Za8 (ow Y h)<|ov Y)<|Rq Y (Zdw (ov Y) fun hp=>ow Y<|gF hp)<|Za<|K8 4 6 7 8 29 30 31 41 Y<|If h Y (fun h=>?_) fun h=>?_
     ·
      refine K1 4 Y<|Tr<|R_q (.agg<|List.map C40 (#v[0, 0, 0, 0, 0, 0, 0, 0, 0, 0, 0, 0, 0, 0, 0, 0, 0, 0, 0, 0, 0, 0, 0, 0, 0, 0, 0, 0, 0, 0, 0, 0, 0, 0, 0, 0, 0, 0, 0, 0, 0, 0, 0, 0, 0, 0, 0, 0, 0, 0, 0, 0, 0, 0, 0, 0, 0, 0, 0, 0, 0, 0, 0, 0] : Vector Int 64).toList) Y (ZbA (ys := [_, _, _, _, _, _, _, _, _, _, _, _, _, _, _, _, _, _, _, _, _, _, _, _, _, _, _, _, _, _, _, _, _, _, _, _, _, _, _, _, _, _, _, _, _, _, _, _, _, _, _, _, _, _, _, _, _, _, _, _, _, _, _, _]) Jk Zd8 .nil Y)<|Rx Y (Zl (ov Y) (ov Y) (Zv QR arL) Y Y Y (Xt (Zq arL) arL) (Zb<|arC fun _ => Y)<|QS<|Eq.trans arL<|Eq.symm arL)<|Ra Y<|Za<|?_
      replace h := lx h ▸ ho1
      obtain rfl := rt h
      exact Zo (ZG Y (.two (.agg Y Y Y Y QR (ZW<|Zq arL) arL (pwB<|arD fun _ => Y) (hns := (nsM fun _ => Y)))<|rb Y))
     ·
      exact Zf<|K7 4 6 7 8 29 30 31 Y<|Zp<|Rm Y<|R2 ZF Y<|Rm Y<|Rq Y (Z4 (ov Y) tI3 Zcx Y)<|bE h fun x4 h_x4 h=>Rq Y (JX (ov Y) (ov Y) Jk Y Y h_x4)<|Rx Y (Zl (ov Y) (ov Y) (Zh Zae) Y Y Y (arB h_x4) (Zb Y)<|arS h_x4)<|Za<|K5 4 6 29 30 31 Y<|Zp<|R2 ZF Y<|Rm Y<|Za<|⟨_, h, ES [some 0, some 1]⟩
    ·
     refine Zz<|?_
     replace h := lx h ▸ ho1
     exact ⟨_, h, ES [some 0, some 1]⟩
   ·
    replace h := elr h
    replace h := t1i h
    refine Tr<|Rq Y (Qe (ov Y) Y Y Y QR (ZW<|Zq arL) arL (hns := (nsM fun _ => Y)))<|bE h fun y h_y h=>Rq Y (Zn (Zju h_y)<|.cons (ov Y) (.aggB<|arD fun _ => Y) .nil)<|Rx Y (Zl (ov Y) (ov Y) (Zv QR arL) Y Y Y (Xt (Zq arL) arL) (Zb<|arC fun _ => Y)<|QS<|Eq.trans arL<|Eq.symm arL)<|Ra Y<|Za<|?_
    obtain rfl := rt h
    exact Zo (ZG Y (.two (.agg Y Y Y Y QR (ZW<|Zq arL) arL (pwB<|arD fun _ => Y) (hns := (nsM fun _ => Y)))<|rb Y))
theorem Zj2 {x : Int} {y : Int} {r : Int × Int} (h : Zd2 x y = some r) :
 CSpec Tryz.prog gl0 130 [.int .u64 x, .int .u64 y] (.tuple [.int .u64 r.1, .int .u64 r.2]) := by
 unfold Zd2 at h
 replace h := Qk h
 refine So Tryz.func130 Y fun w0 A=>Tr<|Ra Y<|Ra Y<|Za<|K2 0 1 Y<|Tr<|Rm Y<|R2 ZbO Y<|Ra Y<|Za<|K3 0 1 6 Y<|Tr<|Rm Y<|bE h fun q h_q h=>Rq Y (ZaU (ov Y) (ov Y) h_q)<|Ra Y<|Za<|K4 0 1 6 7 Y<|Tr<|Rm Y<|R2 ZbO Y<|Ra Y<|Za<|K5 0 1 6 7 8 Y<|Tr<|Rm Y<|bE h fun q2 h_q2 h=>Rq Y (ZaU (ov Y) (ov Y) h_q2)<|Ra Y<|Za<|K6 0 1 6 7 8 9 Y<|Tr<|Rm Y<|Rm Y<|R2 Zds Y<|Ra Y<|Za<|K7 0 1 6 7 8 9 10 Y<|Tr<|Rm Y<|Rm Y<|R2 Zds Y<|Rm Y<|bE h fun q3 h_q3 h=>Rq Y (ZaU (ov Y) (ov Y) h_q3)<|R2 ZF Y<|Ra Y<|Za<|K6 0 1 6 7 9 11 Y<|Tr<|Rm Y<|R2 ZbO Y<|Ra Y<|Za<|K7 0 1 6 7 9 11 12 Y<|Tr<|Rm Y<|bE h fun q4 h_q4 h=>Rq Y (ZaU (ov Y) (ov Y) h_q4)<|Ra Y<|Za<|K7 0 1 6 7 9 12 13 Y<|Tr<|Rm Y<|Rm Y<|Rm Y<|R2 Zds Y<|R2 ZF Y<|Ra Y<|Za<|K6 0 1 7 9 12 13 Y<|Tr<|Rm Y<|Rm Y<|R2 Zds Y<|Rm Y<|R2 ZF Y<|Rm Y<|bE h fun q5 h_q5 h=>Rq Y (ZaU (ov Y) (ov Y) h_q5)<|R2 ZF Y<|Ra Y<|Za<|K3 0 1 4 Y<|Tr<|Rm Y<|Rm Y<|R2 Zds Y<|Ra Y<|Za<|?_
 obtain rfl := rt h
 exact Zo (ZG Y (.two (rb Y)<|rb Y))
theorem Zlg {x : Int} {y : Int} {r : Int × Int} (h : Zgn x y = some r) :
 CSpec Tryz.prog gl0 100 [.int .u64 x, .int .u64 y] (.tuple [.int .u64 r.1, .int .u64 r.2]) := by
 unfold Zgn at h
 replace h := Qk h
 refine So Tryz.func100 Y fun w0 A=>Tr<|Ra Y<|Ra Y<|Za<|Zg<|Zob<|Zf<|K2 0 1 Y<|Tr<|Rm Y<|Rm Y<|bE h fun y2 h_y2 h=>Rq Y (Zn (Zj2 h_y2)<|.cons (ov Y) (.b Y)<|.cons (ov Y) (.b Y) .nil)<|Rm Y<|Rq Y (Zj (ov Y) Y)<|Rq Y (Zj (ov Y) Y)<|Ra Y<|Ra Y<|Za<|K2 8 9 Y<|Tr<|Rm Y<|Rm Y<|Ra Y<|Ra Y<|Za<|?_
 obtain rfl := rt h
 exact Zo (ZG Y (.two (rb Y)<|rb Y))
theorem Zm {x : List Int} {count : Int} {r : (List Int)} (h : Q4 x count = some r) :
 GSpec Tryz.prog gl0 55 [.sl 5 (List.map R5 x), .int .i64 count] [] (.own 0 r.length) [some ⟨5, List.map R5 r⟩] := by
 unfold Q4 at h
 replace h := Qk h
 refine QZ (by kernel_rfl) Tryz.func55 Y Y<|?_
 intro w0 A W φ0
 refine Tr<|Ra Y<|Za<|Zg<|K2 0 1 Y<|Tr<|Rm Y<|R2 ZD Y<|Za<|K3 0 1 10 Y<|If h Y (fun h=>?_) fun h=>?_
 ·
  exact (Znb h).elim
 ·
  refine Zf<|K2 0 1 Y<|Tr<|Rm Y<|Rl tZ_5 QF Y<|Rq Y (Z4 (ov Y) tI3 Zgr Y)<|Rm Y<|Rq Y (Z4 (ov Y) tI3 Zgr Y)<|bE h fun y h_y h=>Rq Y (Zn (Zlg h_y)<|.cons (ov Y) (.b Y)<|.cons (ov Y) (.b Y) .nil)<|Rm Y<|Rq Y (Zj (ov Y) Y)<|Rq Y (Zj (ov Y) Y)<|Ra Y<|Ra Y<|Za<|Zg<|K3 0 5 6 Y<|Tr<|Rm Y<|R2 Za8 Y<|Rm Y<|Rq Y (.guarded ((decide (0 < y.1)) == false) Y Y Y Y fun h => Zc<|ov Y)<|Rq Y (.guarded ((decide (0 < y.1)) == false) Y Y Y Y fun h => Za8 (ow Y h)<|ov Y)<|Rq Y (Zdw (ov Y) fun hp=>ow Y<|gF hp)<|Za<|K3 0 6 26 Y<|If h Y (fun h=>?_) fun h=>?_
  ·
   exact (Znb h).elim
  ·
   refine Zf<|K2 0 6 Y<|Tr<|Rm Y<|Rq Y (Z4 (ov Y) Zgr tI3 Y)<|bE h fun l h_l h=>Rx Y (ZbF [none] (r := 0) (f := R5) (z0 := 0) Y (ov Y) (ov Y) QF Y tZ5 Y Y h_l)<|Ra Y<|Za<|K2 0 7 Y<|Tr<|Rm Y<|Rm Y<|Rx Y (Zoz (f := R5) (g := C5) (xs := l) (ys := x) (ov Y) (QD (ov Y) tZ_5) Y Y (fun _=>Y) (fun _=>Y) (fun _=>Y) QF)<|Ra Y<|Za<|I1 (fun newslice=>⟨[(7, .own 0 newslice.length)], [some ⟨5, List.map R5 newslice⟩]⟩) h (fun h=>?_) fun newslice h=>?_
   ·
    refine Ze<|?_
    obtain ⟨r1, hl1, ho1⟩ := QE h
    refine L2 (fun newslice2 n=>⟨[(7, .own 0 newslice2.length), (8, .int .i64 n)], [some ⟨5, List.map R5 newslice2⟩]⟩) hl1 (ES [some 0]<|sr 7 Y (Zdv (Eq.symm<|(Zhw ..).trans Y) Y)<|sd 8 Y Y sn) fun n1 newslice2 n h=>?_
    unfold Xd at h
    refine Zg<|Tr<|Rm Y<|Rm Y<|Rq Y (Zc0 (ov Y) Y Y QF)<|R2 ZD Y<|Za<|K3 7 8 37 Y<|If h Y (fun h=>?_) fun h=>?_
    ·
     exact Zf<|Ze<|K2 7 8 Y<|Qd (cw := md0) (by kernel_rfl)<|D1 1 Zc Y<|D1 2 Zc Y<|bE h fun u h_u h=>Dq 3 Y (ZlU (ov Y) Y Y QF (oi<|ov Y) on h_u)<|D1 4 Zc Y<|D1 5 Zc Y<|bE h fun u2 h_u2 h=>Dq 6 Y (ZlU (ov Y) Y Y QF on (oi<|ov Y) h_u2)<|Qc 0 _ Y (by kernel_rfl) Y Y (fun hp'=>Zc<|ov Y)<|Do 7 Y (Zl8 (g := C5) (ov Y) (ov Y) Y Y (fun _=>Y) (fun _=>Y) (fun _=>Y) QF (JY h_u)<|JY h_u2)<|D2 8 ZF Y<|D1 9 Qp Y<|Dd<|⟨_, h, ES [some 0]<|sr 7 Y (Zdv (Eq.symm<|(JE (JY h_u) (JY h_u2)).trans Y) Y)<|sd 8 Y Y sn⟩
    ·
     refine Zz<|?_
     replace h := lx h ▸ ho1
     exact ⟨_, h, ES [some 0]⟩
   ·
    refine Tr<|Rm Y<|Ra Y<|Za<|?_
    obtain rfl := rt h
    exact Zo<|ZbQ [some 0] Y (.cons (.tmp Y) .nil) (.cons Y (roM D5) .nil) Y Y<|.own _ Y
theorem ZhC {sectors : Int} {slots : Int} {limit : Int} {r : api_Memory × Int} (h : ZaY sectors slots limit = some r) :
 CSpec Tryz.prog gl0 10 [.int .i64 sectors, .int .i64 slots, .int .i64 limit] (.tuple [.agg [.int .i64 r.1.Slots, .int .i64 r.1.Limit, .sl 49 (List.map R49 r.1.Sectors), .sl 3 (List.map R3 r.1.Wear), .sl 4 (List.map R4 r.1.Bad)], .int .i64 r.2]) := by
 unfold ZaY at h
 replace h := Qk h
 refine So Tryz.func10 Y fun w0 A=>Tr<|Rx Y (Z3 (row := [_, _, _, _, _]) 0 Y Zdx Y tZ_26)<|Ra Y<|Za<|Zg<|K4 0 1 2 6 Y<|Tr<|Rm Y<|bE h fun y h_y h=>Rq Y (Zn (QG h_y)<|.cons (ov Y) (.b Y)<|.cons (ov Y) (.b Y)<|.cons (ov Y) (.b Y) .nil)<|R1 XN Y<|Rm Y<|Rq Y (.guarded ((!y) == false) Y Y Y Y fun h => Zc<|ov Y)<|bE h fun y2 h_y2 h=>Rq Y (.guarded ((!y) == false) Y Y Y Y fun h => Zn (QG<|gdT h_y2 h)<|.cons (ow Y h) (.b Y)<|.cons (ov Y) (.b Y)<|.cons (ov Y) (.b Y) .nil)<|Rq Y (.guarded ((!y) == false) Y Y Y Y fun h => XN<|ow Y h)<|Rq Y (Zdw (ov Y) fun hp=>ow Y<|gF hp)<|Rm Y<|Rq Y (.guarded (((!y) || (!y2)) == false) Y Y Y Y fun h => Zc<|ov Y)<|bE h fun y3 h_y3 h=>Rq Y (.guarded (((!y) || (!y2)) == false) Y Y Y Y fun h => Zn (QG<|gdT h_y3 h)<|.cons (ow Y h) (.b Y)<|.cons (ov Y) (.b Y)<|.cons (ov Y) (.b Y) .nil)<|Rq Y (.guarded (((!y) || (!y2)) == false) Y Y Y Y fun h => XN<|ow Y h)<|Rq Y (Zdw (ov Y) fun hp=>ow Y<|gF hp)<|Za<|K5 0 1 2 6 21 Y<|If h Y (fun h=>?_) fun h=>?_
 ·
  refine K1 6 Y<|Tr<|Rq Y (Xm (ys := [_, _, _, _, _]) ZjM ZjH Zdx .nil Y)<|Rx Y (Zl (ov Y) (ov Y) (Zv X5 Y) Y Y Y (Nat.le_of_ble_eq_true Y) (Zb Y) Y)<|Ra Y<|Za<|?_
  obtain rfl := rt h
  exact Zo (ZG Y (.two (.agg Y Y Y Y X5 Y Y<|.cons (Dat.view<|.b Y)<|.cons (Dat.view<|.b Y)<|.cons (View.nils 49)<|.cons (View.nils 3)<|.cons (View.nils 4) .nil)<|rb Y))
 ·
  refine Zf<|I2 (fun Wear Bad=>⟨[(0, .int .i64 sectors), (1, .int .i64 slots), (6, .ptr 0 1 0 0), (8, .ptr 1 1 0 0)], [some ⟨26, [[.int .i64 0, .int .i64 0, .nils, .nils, .nils]]⟩, some ⟨26, [[.int .i64 slots, .int .i64 limit, .nils, .own 2 Wear.length, .own 3 Bad.length]]⟩, some ⟨3, List.map R3 Wear⟩, some ⟨4, List.map R4 Bad⟩]⟩) h (fun h=>?_) fun Wear Bad h=>?_
  ·
   refine K4 0 1 2 6 Y<|Qd (cw := md0) (by kernel_rfl)<|Qc 0 _ Y (by kernel_rfl) Y Y (fun hp'=>Zc<|ov Y)<|Qc 1 _ Y (by kernel_rfl) Y Y (fun hp'=>Zc<|ov Y)<|Qc 2 _ Y (by kernel_rfl) Y Y (fun hp'=>Zc<|ov Y)<|Qc 4 _ Y (by kernel_rfl) Y Y (fun hp'=>Zc<|ov Y)<|bE h fun l h_l h=>bE h fun l2 h_l2 h=>ZlE [3, 5, 7] (by kernel_rfl)<|.w Y Y Y (fun _=>Ext.app) (fun h=>by cases h) (ZbF [none] (r := 1) (f := R3) (z0 := 0) Y (ov Y) (ov Y) QK Y tZ3 Y Y h_l) ?_<|.w Y Y Y (fun _=>Ext.app) (fun h=>by cases h) (ZbF [none] (r := 1) (f := R4) (z0 := false) Y (ov Y) (ov Y) ZgF Y tZ4 Y Y h_l2) ?_<|.w Y Y Y (fun _=>Ext.app) (fun h=>by cases h) (Z3 (row := [_, _, _, _, _]) 1 Y Zdx Y tZ_26) ?_ .nil
   ·
    refine Zmc 5 7 Y Y (by kernel_rfl) Y Y Y Y (fun _=>Ext.app) (fun _=>Ext.app) (fun h=>by cases h) (fun h=>by cases h) (ZbF [none] (r := 2) (f := R4) (z0 := false) Y (ov Y) (ov Y) ZgF Y tZ4 Y Y h_l2) (Z3 (row := [_, _, _, _, _]) 2 Y Zdx Y tZ_26) ?_ ?_
    ·
     exact Qc 6 _ Y (by kernel_rfl) Y Y (fun hp'=>Xm (ys := [_, _, _, _, _]) ZjM ZjH Zdx (.cons (cvs (ov Y)<|Zk Y)<|.cons (cvs (ov Y)<|Zk Y)<|.cons (cvs (ov Y)<|Zk Y)<|.cons (cvs (ov Y)<|Zk Y) .nil) Y)<|ZaG 7 _ _ Y (by kernel_rfl) Y Y (fun _=>Ext.app) (fun h=>by cases h) (Z3 (row := [_, _, _, _, _]) 3 Y Zdx Y tZ_26)<|Do 8 Y (Zl (ov Y) (ov Y) (Zv X5 Y) Y Y Y (Nat.le_of_ble_eq_true Y) (Zb Y) Y)<|Dd<|⟨_, h, ES [some 0, some 3, some 1, some 2]⟩
    ·
     exact ZaG 5 _ _ Y (by kernel_rfl) Y Y (fun _=>Ext.app) (fun h=>by cases h) (ZbF [none] (r := 3) (f := R4) (z0 := false) Y (ov Y) (ov Y) ZgF Y tZ4 Y Y h_l2)<|Dq 6 Y (Xm (ys := [_, _, _, _, _]) ZjM ZjH Zdx (.cons (cvs (ov Y)<|Zk Y)<|.cons (cvs (ov Y)<|Zk Y)<|.cons (cvs (ov Y)<|Zk Y)<|.cons (cvs (ov Y)<|Zk Y) .nil) Y)<|Do 8 Y (Zl (ov Y) (ov Y) (Zv X5 Y) Y Y Y (Nat.le_of_ble_eq_true Y) (Zb Y) Y)<|Dd<|⟨_, h, ES [some 0, some 2, some 1, some 3]⟩
   ·
    refine Zmc 3 7 Y Y (by kernel_rfl) Y Y Y Y (fun _=>Ext.app) (fun _=>Ext.app) (fun h=>by cases h) (fun h=>by cases h) (ZbF [none] (r := 2) (f := R3) (z0 := 0) Y (ov Y) (ov Y) QK Y tZ3 Y Y h_l) (Z3 (row := [_, _, _, _, _]) 2 Y Zdx Y tZ_26) ?_ ?_
    ·
     exact Qc 6 _ Y (by kernel_rfl) Y Y (fun hp'=>Xm (ys := [_, _, _, _, _]) ZjM ZjH Zdx (.cons (cvs (ov Y)<|Zk Y)<|.cons (cvs (ov Y)<|Zk Y)<|.cons (cvs (ov Y)<|Zk Y)<|.cons (cvs (ov Y)<|Zk Y) .nil) Y)<|ZaG 7 _ _ Y (by kernel_rfl) Y Y (fun _=>Ext.app) (fun h=>by cases h) (Z3 (row := [_, _, _, _, _]) 3 Y Zdx Y tZ_26)<|Do 8 Y (Zl (ov Y) (ov Y) (Zv X5 Y) Y Y Y (Nat.le_of_ble_eq_true Y) (Zb Y) Y)<|Dd<|⟨_, h, ES [some 0, some 3, some 2, some 1]⟩
    ·
     exact ZaG 3 _ _ Y (by kernel_rfl) Y Y (fun _=>Ext.app) (fun h=>by cases h) (ZbF [none] (r := 3) (f := R3) (z0 := 0) Y (ov Y) (ov Y) QK Y tZ3 Y Y h_l)<|Dq 6 Y (Xm (ys := [_, _, _, _, _]) ZjM ZjH Zdx (.cons (cvs (ov Y)<|Zk Y)<|.cons (cvs (ov Y)<|Zk Y)<|.cons (cvs (ov Y)<|Zk Y)<|.cons (cvs (ov Y)<|Zk Y) .nil) Y)<|Do 8 Y (Zl (ov Y) (ov Y) (Zv X5 Y) Y Y Y (Nat.le_of_ble_eq_true Y) (Zb Y) Y)<|Dd<|⟨_, h, ES [some 0, some 2, some 3, some 1]⟩
   ·
    refine Zmc 3 5 Y Y (by kernel_rfl) Y Y Y Y (fun _=>Ext.app) (fun _=>Ext.app) (fun h=>by cases h) (fun h=>by cases h) (ZbF [none] (r := 2) (f := R3) (z0 := 0) Y (ov Y) (ov Y) QK Y tZ3 Y Y h_l) (ZbF [none] (r := 2) (f := R4) (z0 := false) Y (ov Y) (ov Y) ZgF Y tZ4 Y Y h_l2) ?_ ?_
    ·
     exact ZaG 5 _ _ Y (by kernel_rfl) Y Y (fun _=>Ext.app) (fun h=>by cases h) (ZbF [none] (r := 3) (f := R4) (z0 := false) Y (ov Y) (ov Y) ZgF Y tZ4 Y Y h_l2)<|Dq 6 Y (Xm (ys := [_, _, _, _, _]) ZjM ZjH Zdx (.cons (cvs (ov Y)<|Zk Y)<|.cons (cvs (ov Y)<|Zk Y)<|.cons (cvs (ov Y)<|Zk Y)<|.cons (cvs (ov Y)<|Zk Y) .nil) Y)<|Do 8 Y (Zl (ov Y) (ov Y) (Zv X5 Y) Y Y Y (Nat.le_of_ble_eq_true Y) (Zb Y) Y)<|Dd<|⟨_, h, ES [some 0, some 1, some 2, some 3]⟩
    ·
     exact ZaG 3 _ _ Y (by kernel_rfl) Y Y (fun _=>Ext.app) (fun h=>by cases h) (ZbF [none] (r := 3) (f := R3) (z0 := 0) Y (ov Y) (ov Y) QK Y tZ3 Y Y h_l)<|Dq 6 Y (Xm (ys := [_, _, _, _, _]) ZjM ZjH Zdx (.cons (cvs (ov Y)<|Zk Y)<|.cons (cvs (ov Y)<|Zk Y)<|.cons (cvs (ov Y)<|Zk Y)<|.cons (cvs (ov Y)<|Zk Y) .nil) Y)<|Do 8 Y (Zl (ov Y) (ov Y) (Zv X5 Y) Y Y Y (Nat.le_of_ble_eq_true Y) (Zb Y) Y)<|Dd<|⟨_, h, ES [some 0, some 1, some 3, some 2]⟩
  ·
   refine I1 (fun Sectors=>⟨[(6, .ptr 0 1 0 0), (8, .ptr 1 1 0 0)], [some ⟨26, [[.int .i64 0, .int .i64 0, .nils, .nils, .nils]]⟩, some ⟨26, [[.int .i64 slots, .int .i64 limit, .own 2 Sectors.length, .own 3 Wear.length, .own 4 Bad.length]]⟩, some ⟨49, List.map O49 Sectors⟩, some ⟨3, List.map R3 Wear⟩, some ⟨4, List.map R4 Bad⟩]⟩) h (fun h=>?_) fun Sectors h=>?_
   ·
    refine Tr<|Rm Y<|Rm Y<|Za<|Ze<|?_
    obtain ⟨r1, hl1, ho1⟩ := QE h
    refine L2 (fun Sectors2 i=>⟨[(1, .int .i64 slots), (6, .ptr 0 1 0 0), (8, .ptr 1 1 0 0), (30, .int .i64 sectors), (31, .int .i64 i)], [some ⟨26, [[.int .i64 0, .int .i64 0, .nils, .nils, .nils]]⟩, some ⟨26, [[.int .i64 slots, .int .i64 limit, .own 2 Sectors2.length, .own 3 Wear.length, .own 4 Bad.length]]⟩, some ⟨49, List.map O49 Sectors2⟩, some ⟨3, List.map R3 Wear⟩, some ⟨4, List.map R4 Bad⟩]⟩) hl1 (ES [some 0, some 1, none, some 2, some 3]) fun n1 Sectors2 i h=>?_
    unfold ZaF at h
    refine Tr<|R2 ZD Y<|Za<|Zg<|If h Y (fun h=>?_) fun h=>?_
    ·
     refine Zf<|I1 (fun Sectors3=>⟨[(1, .int .i64 slots), (6, .ptr 0 1 0 0), (8, .ptr 1 1 0 0), (30, .int .i64 sectors), (31, .int .i64 i)], [some ⟨26, [[.int .i64 0, .int .i64 0, .nils, .nils, .nils]]⟩, some ⟨26, [[.int .i64 slots, .int .i64 limit, .own 2 Sectors3.length, .own 3 Wear.length, .own 4 Bad.length]]⟩, some ⟨49, List.map O49 Sectors3⟩, some ⟨3, List.map R3 Wear⟩, some ⟨4, List.map R4 Bad⟩]⟩) h (fun h=>?_) fun Sectors3 h=>?_
     ·
      refine Ze<|K5 1 6 8 30 31 Y<|Qd (cw := ⟨true, false, [], [], []⟩) (by kernel_rfl)<|Qc 3 _ Y (by kernel_rfl) Y Y (fun hp'=>Zc<|ov Y)<|bE h fun y4 h_y4 h=>ZlE [0, 2, 4] (by kernel_rfl)<|.q Y Y Y (Zi (ov Y) Y Y ZP) ?_<|.w Y Y Y (fun h=>by cases h) (fun h=>by cases h) (JG<|Xw QF (.cons (cvs (ov Y)<|Zk Y) Y (.cons (.b Y) .nil) .nil) Y Y) ?_<|.w Y Y Y (fun h=>by cases h) (fun h=>by cases h) (JG<|Zn (Qi h_y4)<|.cons (ov Y) (.b Y) .nil) ?_ .nil
      ·
       refine ZlE [1, 2, 4] (by kernel_rfl)<|.q Y Y Y (Zw (ov Y) Y Y Y Qw Y) ?_<|.w Y Y Y (fun h=>by cases h) (fun h=>by cases h) (JG<|Xw QF (.cons (cvs (ov Y)<|Zk Y) Y (.cons (.b Y) .nil) .nil) Y Y) ?_<|.w Y Y Y (fun h=>by cases h) (fun h=>by cases h) (JG<|Zn (Qi h_y4)<|.cons (ov Y) (.b Y) .nil) ?_ .nil
       ·
        refine Zmc 2 4 Y Y (by kernel_rfl) Y Y Y Y (fun h=>by cases h) (fun h=>by cases h) (fun h=>by cases h) (fun h=>by cases h) (JG<|Xw QF (.cons (cvs (ov Y)<|Zk Y) Y (.cons (.b Y) .nil) .nil) Y Y) (JG<|Zn (Qi h_y4)<|.cons (ov Y) (.b Y) .nil) ?_ ?_
        ·
         exact Do 4 Y (JG<|Zn (Qi h_y4)<|.cons (ov Y) (.b Y) .nil)<|bE h fun y5 h_y5 h=>Do 5 Y (ZO [] (Zm h_y5) (.cons (ov Y) (.dat Y)<|.cons (ov Y) (.dat Y) .nil) .nil Y (.keep Y Y<|.keep Y Y<|.keep Y Y<|.keep Y Y<|.keep Y Y<|.lent 0 (.inr ⟨Nat.le_of_ble_eq_true Y, Y⟩) Y (roM D5) .nil) Y Y<|.own _<|.inr ⟨Nat.le_of_ble_eq_true Y, Y⟩)<|Do 6 Y (QW (r := 6) Y Qm (.cons (cvs (ov Y)<|Zk Y) Y .nil) Y Y)<|bE h fun l3 h_l3 h=>Do 7 Y (ZV (f := O49) (ov Y) (Qr (o := ⟨49, [[.own 5 y5.length]]⟩) (ov Y) Y Y tZ_49) Qm Y Y (Zb Y) Y h_l3)<|Dq 8 Y (Zi (ov Y) Y Y ZP)<|Do 9 Y (Zl (ov Y) (ov Y) (Zh Qw) Y Y Y (Nat.le_of_ble_eq_true Y) (Zb Y) Y)<|Qx (by kernel_rfl) (Ent.trans (Ent.absorbH (r := 2) (j := 0) (q := 5) Y (Zr h_l3) Y Y (List.length_map ..) Y)<|Ent.closeS (r := 2) Y (Zr h_l3) Y)<|⟨_, h, ES [some 0, some 1, some 2, some 3, some 4] (hhp := .cons Y (ro1 (by exact tZ_26.symm)<|rld Y)<|.cons Y (ro1 (by exact tZ_26.symm)<|rlc (.dat Y)<|rlc (.dat Y)<|rlc (.own _ Y)<|rlc (.own _ Y)<|rlc (.own _ Y) rln)<|.cons Y (roO Jm)<|.cons Y (roM D3)<|.cons Y (roM D4) .nil)⟩
        ·
         exact ZaG 2 (.sl 5<|List.map R5 ([255] : List Int)) _ Y (by kernel_rfl) Y Y (fun h=>by cases h) (fun h=>by cases h) (JG<|Xw QF (.cons (cvs (ov Y)<|Zk Y) Y (.cons (.b Y) .nil) .nil) Y Y)<|bE h fun y5 h_y5 h=>Do 5 Y (ZO [] (Zm h_y5) (.cons (ov Y) (.dat Y)<|.cons (ov Y) (.dat Y) .nil) .nil Y (.keep Y Y<|.keep Y Y<|.keep Y Y<|.keep Y Y<|.keep Y Y<|.lent 0 (.inr ⟨Nat.le_of_ble_eq_true Y, Y⟩) Y (roM D5) .nil) Y Y<|.own _<|.inr ⟨Nat.le_of_ble_eq_true Y, Y⟩)<|Do 6 Y (QW (r := 6) Y Qm (.cons (cvs (ov Y)<|Zk Y) Y .nil) Y Y)<|bE h fun l3 h_l3 h=>Do 7 Y (ZV (f := O49) (ov Y) (Qr (o := ⟨49, [[.own 5 y5.length]]⟩) (ov Y) Y Y tZ_49) Qm Y Y (Zb Y) Y h_l3)<|Dq 8 Y (Zi (ov Y) Y Y ZP)<|Do 9 Y (Zl (ov Y) (ov Y) (Zh Qw) Y Y Y (Nat.le_of_ble_eq_true Y) (Zb Y) Y)<|Qx (by kernel_rfl) (Ent.trans (Ent.absorbH (r := 2) (j := 0) (q := 5) Y (Zr h_l3) Y Y (List.length_map ..) Y)<|Ent.closeS (r := 2) Y (Zr h_l3) Y)<|⟨_, h, ES [some 0, some 1, some 2, some 3, some 4] (hhp := .cons Y (ro1 (by exact tZ_26.symm)<|rld Y)<|.cons Y (ro1 (by exact tZ_26.symm)<|rlc (.dat Y)<|rlc (.dat Y)<|rlc (.own _ Y)<|rlc (.own _ Y)<|rlc (.own _ Y) rln)<|.cons Y (roO Jm)<|.cons Y (roM D3)<|.cons Y (roM D4) .nil)⟩
       ·
        refine Dw 1 4 Y (Zw (ov Y) Y Y Y Qw Y) (JG<|Zn (Qi h_y4)<|.cons (ov Y) (.b Y) .nil) ?_ ?_
        ·
         exact Do 4 Y (JG<|Zn (Qi h_y4)<|.cons (ov Y) (.b Y) .nil)<|bE h fun y5 h_y5 h=>Do 5 Y (ZO [] (Zm h_y5) (.cons (ov Y) (.dat Y)<|.cons (ov Y) (.dat Y) .nil) .nil Y (.keep Y Y<|.keep Y Y<|.keep Y Y<|.keep Y Y<|.keep Y Y<|.lent 0 (.inr ⟨Nat.le_of_ble_eq_true Y, Y⟩) Y (roM D5) .nil) Y Y<|.own _<|.inr ⟨Nat.le_of_ble_eq_true Y, Y⟩)<|Do 6 Y (QW (r := 6) Y Qm (.cons (cvs (ov Y)<|Zk Y) Y .nil) Y Y)<|bE h fun l3 h_l3 h=>Do 7 Y (ZV (f := O49) (ov Y) (Qr (o := ⟨49, [[.own 5 y5.length]]⟩) (ov Y) Y Y tZ_49) Qm Y Y (Zb Y) Y h_l3)<|Dq 8 Y (Zi (ov Y) Y Y ZP)<|Do 9 Y (Zl (ov Y) (ov Y) (Zh Qw) Y Y Y (Nat.le_of_ble_eq_true Y) (Zb Y) Y)<|Qx (by kernel_rfl) (Ent.trans (Ent.absorbH (r := 2) (j := 0) (q := 5) Y (Zr h_l3) Y Y (List.length_map ..) Y)<|Ent.closeS (r := 2) Y (Zr h_l3) Y)<|⟨_, h, ES [some 0, some 1, some 2, some 3, some 4] (hhp := .cons Y (ro1 (by exact tZ_26.symm)<|rld Y)<|.cons Y (ro1 (by exact tZ_26.symm)<|rlc (.dat Y)<|rlc (.dat Y)<|rlc (.own _ Y)<|rlc (.own _ Y)<|rlc (.own _ Y) rln)<|.cons Y (roO Jm)<|.cons Y (roM D3)<|.cons Y (roM D4) .nil)⟩
        ·
         refine bE h fun y5 h_y5 h=>Dw 1 5 Y (Zw (ov Y) Y Y Y Qw Y) (ZO [] (Zm h_y5) (.cons (ov Y) (.dat Y)<|.cons (ov Y) (.dat Y) .nil) .nil Y (.keep Y Y<|.keep Y Y<|.keep Y Y<|.keep Y Y<|.keep Y Y<|.lent 0 (.inr ⟨Nat.le_of_ble_eq_true Y, Y⟩) Y (roM D5) .nil) Y Y<|.own _<|.inr ⟨Nat.le_of_ble_eq_true Y, Y⟩) ?_ ?_
         ·
          exact Do 5 Y (ZO [] (Zm h_y5) (.cons (ov Y) (.dat Y)<|.cons (ov Y) (.dat Y) .nil) .nil Y (.keep Y Y<|.keep Y Y<|.keep Y Y<|.keep Y Y<|.keep Y Y<|.lent 0 (.inr ⟨Nat.le_of_ble_eq_true Y, Y⟩) Y (roM D5) .nil) Y Y<|.own _<|.inr ⟨Nat.le_of_ble_eq_true Y, Y⟩)<|Do 6 Y (QW (r := 6) Y Qm (.cons (cvs (ov Y)<|Zk Y) Y .nil) Y Y)<|bE h fun l3 h_l3 h=>Do 7 Y (ZV (f := O49) (ov Y) (Qr (o := ⟨49, [[.own 5 y5.length]]⟩) (ov Y) Y Y tZ_49) Qm Y Y (Zb Y) Y h_l3)<|Dq 8 Y (Zi (ov Y) Y Y ZP)<|Do 9 Y (Zl (ov Y) (ov Y) (Zh Qw) Y Y Y (Nat.le_of_ble_eq_true Y) (Zb Y) Y)<|Qx (by kernel_rfl) (Ent.trans (Ent.absorbH (r := 2) (j := 0) (q := 5) Y (Zr h_l3) Y Y (List.length_map ..) Y)<|Ent.closeS (r := 2) Y (Zr h_l3) Y)<|⟨_, h, ES [some 0, some 1, some 2, some 3, some 4] (hhp := .cons Y (ro1 (by exact tZ_26.symm)<|rld Y)<|.cons Y (ro1 (by exact tZ_26.symm)<|rlc (.dat Y)<|rlc (.dat Y)<|rlc (.own _ Y)<|rlc (.own _ Y)<|rlc (.own _ Y) rln)<|.cons Y (roO Jm)<|.cons Y (roM D3)<|.cons Y (roM D4) .nil)⟩
         ·
          refine Dw 1 6 Y (Zw (ov Y) Y Y Y Qw Y) (QW (r := 6) Y Qm (.cons (cvs (ov Y)<|Zk Y) Y .nil) Y Y) ?_ ?_
          ·
           exact Do 6 Y (QW (r := 6) Y Qm (.cons (cvs (ov Y)<|Zk Y) Y .nil) Y Y)<|bE h fun l3 h_l3 h=>Do 7 Y (ZV (f := O49) (ov Y) (Qr (o := ⟨49, [[.own 5 y5.length]]⟩) (ov Y) Y Y tZ_49) Qm Y Y (Zb Y) Y h_l3)<|Dq 8 Y (Zi (ov Y) Y Y ZP)<|Do 9 Y (Zl (ov Y) (ov Y) (Zh Qw) Y Y Y (Nat.le_of_ble_eq_true Y) (Zb Y) Y)<|Qx (by kernel_rfl) (Ent.trans (Ent.absorbH (r := 2) (j := 0) (q := 5) Y (Zr h_l3) Y Y (List.length_map ..) Y)<|Ent.closeS (r := 2) Y (Zr h_l3) Y)<|⟨_, h, ES [some 0, some 1, some 2, some 3, some 4] (hhp := .cons Y (ro1 (by exact tZ_26.symm)<|rld Y)<|.cons Y (ro1 (by exact tZ_26.symm)<|rlc (.dat Y)<|rlc (.dat Y)<|rlc (.own _ Y)<|rlc (.own _ Y)<|rlc (.own _ Y) rln)<|.cons Y (roO Jm)<|.cons Y (roM D3)<|.cons Y (roM D4) .nil)⟩
          ·
           exact Dq 1 Y (Zw (ov Y) Y Y Y Qw Y)<|bE h fun l3 h_l3 h=>Do 7 Y (ZV (f := O49) (ov Y) (Qr (o := ⟨49, [[.own 5 y5.length]]⟩) (ov Y) Y Y tZ_49) Qm Y Y (Zb Y) Y h_l3)<|Dq 8 Y (Zi (ov Y) Y Y ZP)<|Do 9 Y (Zl (ov Y) (ov Y) (Zh Qw) Y Y Y (Nat.le_of_ble_eq_true Y) (Zb Y) Y)<|Qx (by kernel_rfl) (Ent.trans (Ent.absorbH (r := 2) (j := 0) (q := 5) Y (Zr h_l3) Y Y (List.length_map ..) Y)<|Ent.closeS (r := 2) Y (Zr h_l3) Y)<|⟨_, h, ES [some 0, some 1, some 2, some 3, some 4] (hhp := .cons Y (ro1 (by exact tZ_26.symm)<|rld Y)<|.cons Y (ro1 (by exact tZ_26.symm)<|rlc (.dat Y)<|rlc (.dat Y)<|rlc (.own _ Y)<|rlc (.own _ Y)<|rlc (.own _ Y) rln)<|.cons Y (roO Jm)<|.cons Y (roM D3)<|.cons Y (roM D4) .nil)⟩
       ·
        refine Dw 1 2 Y (Zw (ov Y) Y Y Y Qw Y) (JG<|Xw QF (.cons (cvs (ov Y)<|Zk Y) Y (.cons (.b Y) .nil) .nil) Y Y) ?_ ?_
        ·
         exact ZaG 2 (.sl 5<|List.map R5 ([255] : List Int)) _ Y (by kernel_rfl) Y Y (fun h=>by cases h) (fun h=>by cases h) (JG<|Xw QF (.cons (cvs (ov Y)<|Zk Y) Y (.cons (.b Y) .nil) .nil) Y Y)<|bE h fun y5 h_y5 h=>Do 5 Y (ZO [] (Zm h_y5) (.cons (ov Y) (.dat Y)<|.cons (ov Y) (.dat Y) .nil) .nil Y (.keep Y Y<|.keep Y Y<|.keep Y Y<|.keep Y Y<|.keep Y Y<|.lent 0 (.inr ⟨Nat.le_of_ble_eq_true Y, Y⟩) Y (roM D5) .nil) Y Y<|.own _<|.inr ⟨Nat.le_of_ble_eq_true Y, Y⟩)<|Do 6 Y (QW (r := 6) Y Qm (.cons (cvs (ov Y)<|Zk Y) Y .nil) Y Y)<|bE h fun l3 h_l3 h=>Do 7 Y (ZV (f := O49) (ov Y) (Qr (o := ⟨49, [[.own 5 y5.length]]⟩) (ov Y) Y Y tZ_49) Qm Y Y (Zb Y) Y h_l3)<|Dq 8 Y (Zi (ov Y) Y Y ZP)<|Do 9 Y (Zl (ov Y) (ov Y) (Zh Qw) Y Y Y (Nat.le_of_ble_eq_true Y) (Zb Y) Y)<|Qx (by kernel_rfl) (Ent.trans (Ent.absorbH (r := 2) (j := 0) (q := 5) Y (Zr h_l3) Y Y (List.length_map ..) Y)<|Ent.closeS (r := 2) Y (Zr h_l3) Y)<|⟨_, h, ES [some 0, some 1, some 2, some 3, some 4] (hhp := .cons Y (ro1 (by exact tZ_26.symm)<|rld Y)<|.cons Y (ro1 (by exact tZ_26.symm)<|rlc (.dat Y)<|rlc (.dat Y)<|rlc (.own _ Y)<|rlc (.own _ Y)<|rlc (.own _ Y) rln)<|.cons Y (roO Jm)<|.cons Y (roM D3)<|.cons Y (roM D4) .nil)⟩
        ·
         refine bE h fun y5 h_y5 h=>Dw 1 5 Y (Zw (ov Y) Y Y Y Qw Y) (ZO [] (Zm h_y5) (.cons (ov Y) (.dat Y)<|.cons (ov Y) (.dat Y) .nil) .nil Y (.keep Y Y<|.keep Y Y<|.keep Y Y<|.keep Y Y<|.keep Y Y<|.lent 0 (.inr ⟨Nat.le_of_ble_eq_true Y, Y⟩) Y (roM D5) .nil) Y Y<|.own _<|.inr ⟨Nat.le_of_ble_eq_true Y, Y⟩) ?_ ?_
         ·
          exact Do 5 Y (ZO [] (Zm h_y5) (.cons (ov Y) (.dat Y)<|.cons (ov Y) (.dat Y) .nil) .nil Y (.keep Y Y<|.keep Y Y<|.keep Y Y<|.keep Y Y<|.keep Y Y<|.lent 0 (.inr ⟨Nat.le_of_ble_eq_true Y, Y⟩) Y (roM D5) .nil) Y Y<|.own _<|.inr ⟨Nat.le_of_ble_eq_true Y, Y⟩)<|Do 6 Y (QW (r := 6) Y Qm (.cons (cvs (ov Y)<|Zk Y) Y .nil) Y Y)<|bE h fun l3 h_l3 h=>Do 7 Y (ZV (f := O49) (ov Y) (Qr (o := ⟨49, [[.own 5 y5.length]]⟩) (ov Y) Y Y tZ_49) Qm Y Y (Zb Y) Y h_l3)<|Dq 8 Y (Zi (ov Y) Y Y ZP)<|Do 9 Y (Zl (ov Y) (ov Y) (Zh Qw) Y Y Y (Nat.le_of_ble_eq_true Y) (Zb Y) Y)<|Qx (by kernel_rfl) (Ent.trans (Ent.absorbH (r := 2) (j := 0) (q := 5) Y (Zr h_l3) Y Y (List.length_map ..) Y)<|Ent.closeS (r := 2) Y (Zr h_l3) Y)<|⟨_, h, ES [some 0, some 1, some 2, some 3, some 4] (hhp := .cons Y (ro1 (by exact tZ_26.symm)<|rld Y)<|.cons Y (ro1 (by exact tZ_26.symm)<|rlc (.dat Y)<|rlc (.dat Y)<|rlc (.own _ Y)<|rlc (.own _ Y)<|rlc (.own _ Y) rln)<|.cons Y (roO Jm)<|.cons Y (roM D3)<|.cons Y (roM D4) .nil)⟩
         ·
          refine Dw 1 6 Y (Zw (ov Y) Y Y Y Qw Y) (QW (r := 6) Y Qm (.cons (cvs (ov Y)<|Zk Y) Y .nil) Y Y) ?_ ?_
          ·
           exact Do 6 Y (QW (r := 6) Y Qm (.cons (cvs (ov Y)<|Zk Y) Y .nil) Y Y)<|bE h fun l3 h_l3 h=>Do 7 Y (ZV (f := O49) (ov Y) (Qr (o := ⟨49, [[.own 5 y5.length]]⟩) (ov Y) Y Y tZ_49) Qm Y Y (Zb Y) Y h_l3)<|Dq 8 Y (Zi (ov Y) Y Y ZP)<|Do 9 Y (Zl (ov Y) (ov Y) (Zh Qw) Y Y Y (Nat.le_of_ble_eq_true Y) (Zb Y) Y)<|Qx (by kernel_rfl) (Ent.trans (Ent.absorbH (r := 2) (j := 0) (q := 5) Y (Zr h_l3) Y Y (List.length_map ..) Y)<|Ent.closeS (r := 2) Y (Zr h_l3) Y)<|⟨_, h, ES [some 0, some 1, some 2, some 3, some 4] (hhp := .cons Y (ro1 (by exact tZ_26.symm)<|rld Y)<|.cons Y (ro1 (by exact tZ_26.symm)<|rlc (.dat Y)<|rlc (.dat Y)<|rlc (.own _ Y)<|rlc (.own _ Y)<|rlc (.own _ Y) rln)<|.cons Y (roO Jm)<|.cons Y (roM D3)<|.cons Y (roM D4) .nil)⟩
          ·
           exact Dq 1 Y (Zw (ov Y) Y Y Y Qw Y)<|bE h fun l3 h_l3 h=>Do 7 Y (ZV (f := O49) (ov Y) (Qr (o := ⟨49, [[.own 5 y5.length]]⟩) (ov Y) Y Y tZ_49) Qm Y Y (Zb Y) Y h_l3)<|Dq 8 Y (Zi (ov Y) Y Y ZP)<|Do 9 Y (Zl (ov Y) (ov Y) (Zh Qw) Y Y Y (Nat.le_of_ble_eq_true Y) (Zb Y) Y)<|Qx (by kernel_rfl) (Ent.trans (Ent.absorbH (r := 2) (j := 0) (q := 5) Y (Zr h_l3) Y Y (List.length_map ..) Y)<|Ent.closeS (r := 2) Y (Zr h_l3) Y)<|⟨_, h, ES [some 0, some 1, some 2, some 3, some 4] (hhp := .cons Y (ro1 (by exact tZ_26.symm)<|rld Y)<|.cons Y (ro1 (by exact tZ_26.symm)<|rlc (.dat Y)<|rlc (.dat Y)<|rlc (.own _ Y)<|rlc (.own _ Y)<|rlc (.own _ Y) rln)<|.cons Y (roO Jm)<|.cons Y (roM D3)<|.cons Y (roM D4) .nil)⟩
      ·
       refine Dw 0 4 Y (Zi (ov Y) Y Y ZP) (JG<|Zn (Qi h_y4)<|.cons (ov Y) (.b Y) .nil) ?_ ?_
       ·
        refine Dw 1 4 Y (Zw (ov Y) Y Y Y Qw Y) (JG<|Zn (Qi h_y4)<|.cons (ov Y) (.b Y) .nil) ?_ ?_
        ·
         exact Do 4 Y (JG<|Zn (Qi h_y4)<|.cons (ov Y) (.b Y) .nil)<|bE h fun y5 h_y5 h=>Do 5 Y (ZO [] (Zm h_y5) (.cons (ov Y) (.dat Y)<|.cons (ov Y) (.dat Y) .nil) .nil Y (.keep Y Y<|.keep Y Y<|.keep Y Y<|.keep Y Y<|.keep Y Y<|.lent 0 (.inr ⟨Nat.le_of_ble_eq_true Y, Y⟩) Y (roM D5) .nil) Y Y<|.own _<|.inr ⟨Nat.le_of_ble_eq_true Y, Y⟩)<|Do 6 Y (QW (r := 6) Y Qm (.cons (cvs (ov Y)<|Zk Y) Y .nil) Y Y)<|bE h fun l3 h_l3 h=>Do 7 Y (ZV (f := O49) (ov Y) (Qr (o := ⟨49, [[.own 5 y5.length]]⟩) (ov Y) Y Y tZ_49) Qm Y Y (Zb Y) Y h_l3)<|Dq 8 Y (Zi (ov Y) Y Y ZP)<|Do 9 Y (Zl (ov Y) (ov Y) (Zh Qw) Y Y Y (Nat.le_of_ble_eq_true Y) (Zb Y) Y)<|Qx (by kernel_rfl) (Ent.trans (Ent.absorbH (r := 2) (j := 0) (q := 5) Y (Zr h_l3) Y Y (List.length_map ..) Y)<|Ent.closeS (r := 2) Y (Zr h_l3) Y)<|⟨_, h, ES [some 0, some 1, some 2, some 3, some 4] (hhp := .cons Y (ro1 (by exact tZ_26.symm)<|rld Y)<|.cons Y (ro1 (by exact tZ_26.symm)<|rlc (.dat Y)<|rlc (.dat Y)<|rlc (.own _ Y)<|rlc (.own _ Y)<|rlc (.own _ Y) rln)<|.cons Y (roO Jm)<|.cons Y (roM D3)<|.cons Y (roM D4) .nil)⟩
        ·
         refine bE h fun y5 h_y5 h=>Dw 1 5 Y (Zw (ov Y) Y Y Y Qw Y) (ZO [] (Zm h_y5) (.cons (ov Y) (.dat Y)<|.cons (ov Y) (.dat Y) .nil) .nil Y (.keep Y Y<|.keep Y Y<|.keep Y Y<|.keep Y Y<|.keep Y Y<|.lent 0 (.inr ⟨Nat.le_of_ble_eq_true Y, Y⟩) Y (roM D5) .nil) Y Y<|.own _<|.inr ⟨Nat.le_of_ble_eq_true Y, Y⟩) ?_ ?_
         ·
          exact Do 5 Y (ZO [] (Zm h_y5) (.cons (ov Y) (.dat Y)<|.cons (ov Y) (.dat Y) .nil) .nil Y (.keep Y Y<|.keep Y Y<|.keep Y Y<|.keep Y Y<|.keep Y Y<|.lent 0 (.inr ⟨Nat.le_of_ble_eq_true Y, Y⟩) Y (roM D5) .nil) Y Y<|.own _<|.inr ⟨Nat.le_of_ble_eq_true Y, Y⟩)<|Do 6 Y (QW (r := 6) Y Qm (.cons (cvs (ov Y)<|Zk Y) Y .nil) Y Y)<|bE h fun l3 h_l3 h=>Do 7 Y (ZV (f := O49) (ov Y) (Qr (o := ⟨49, [[.own 5 y5.length]]⟩) (ov Y) Y Y tZ_49) Qm Y Y (Zb Y) Y h_l3)<|Dq 8 Y (Zi (ov Y) Y Y ZP)<|Do 9 Y (Zl (ov Y) (ov Y) (Zh Qw) Y Y Y (Nat.le_of_ble_eq_true Y) (Zb Y) Y)<|Qx (by kernel_rfl) (Ent.trans (Ent.absorbH (r := 2) (j := 0) (q := 5) Y (Zr h_l3) Y Y (List.length_map ..) Y)<|Ent.closeS (r := 2) Y (Zr h_l3) Y)<|⟨_, h, ES [some 0, some 1, some 2, some 3, some 4] (hhp := .cons Y (ro1 (by exact tZ_26.symm)<|rld Y)<|.cons Y (ro1 (by exact tZ_26.symm)<|rlc (.dat Y)<|rlc (.dat Y)<|rlc (.own _ Y)<|rlc (.own _ Y)<|rlc (.own _ Y) rln)<|.cons Y (roO Jm)<|.cons Y (roM D3)<|.cons Y (roM D4) .nil)⟩
         ·
          refine Dw 1 6 Y (Zw (ov Y) Y Y Y Qw Y) (QW (r := 6) Y Qm (.cons (cvs (ov Y)<|Zk Y) Y .nil) Y Y) ?_ ?_
          ·
           exact Do 6 Y (QW (r := 6) Y Qm (.cons (cvs (ov Y)<|Zk Y) Y .nil) Y Y)<|bE h fun l3 h_l3 h=>Do 7 Y (ZV (f := O49) (ov Y) (Qr (o := ⟨49, [[.own 5 y5.length]]⟩) (ov Y) Y Y tZ_49) Qm Y Y (Zb Y) Y h_l3)<|Dq 8 Y (Zi (ov Y) Y Y ZP)<|Do 9 Y (Zl (ov Y) (ov Y) (Zh Qw) Y Y Y (Nat.le_of_ble_eq_true Y) (Zb Y) Y)<|Qx (by kernel_rfl) (Ent.trans (Ent.absorbH (r := 2) (j := 0) (q := 5) Y (Zr h_l3) Y Y (List.length_map ..) Y)<|Ent.closeS (r := 2) Y (Zr h_l3) Y)<|⟨_, h, ES [some 0, some 1, some 2, some 3, some 4] (hhp := .cons Y (ro1 (by exact tZ_26.symm)<|rld Y)<|.cons Y (ro1 (by exact tZ_26.symm)<|rlc (.dat Y)<|rlc (.dat Y)<|rlc (.own _ Y)<|rlc (.own _ Y)<|rlc (.own _ Y) rln)<|.cons Y (roO Jm)<|.cons Y (roM D3)<|.cons Y (roM D4) .nil)⟩
          ·
           exact Dq 1 Y (Zw (ov Y) Y Y Y Qw Y)<|bE h fun l3 h_l3 h=>Do 7 Y (ZV (f := O49) (ov Y) (Qr (o := ⟨49, [[.own 5 y5.length]]⟩) (ov Y) Y Y tZ_49) Qm Y Y (Zb Y) Y h_l3)<|Dq 8 Y (Zi (ov Y) Y Y ZP)<|Do 9 Y (Zl (ov Y) (ov Y) (Zh Qw) Y Y Y (Nat.le_of_ble_eq_true Y) (Zb Y) Y)<|Qx (by kernel_rfl) (Ent.trans (Ent.absorbH (r := 2) (j := 0) (q := 5) Y (Zr h_l3) Y Y (List.length_map ..) Y)<|Ent.closeS (r := 2) Y (Zr h_l3) Y)<|⟨_, h, ES [some 0, some 1, some 2, some 3, some 4] (hhp := .cons Y (ro1 (by exact tZ_26.symm)<|rld Y)<|.cons Y (ro1 (by exact tZ_26.symm)<|rlc (.dat Y)<|rlc (.dat Y)<|rlc (.own _ Y)<|rlc (.own _ Y)<|rlc (.own _ Y) rln)<|.cons Y (roO Jm)<|.cons Y (roM D3)<|.cons Y (roM D4) .nil)⟩
       ·
        refine bE h fun y5 h_y5 h=>Dw 0 5 Y (Zi (ov Y) Y Y ZP) (ZO [] (Zm h_y5) (.cons (ov Y) (.dat Y)<|.cons (ov Y) (.dat Y) .nil) .nil Y (.keep Y Y<|.keep Y Y<|.keep Y Y<|.keep Y Y<|.keep Y Y<|.lent 0 (.inr ⟨Nat.le_of_ble_eq_true Y, Y⟩) Y (roM D5) .nil) Y Y<|.own _<|.inr ⟨Nat.le_of_ble_eq_true Y, Y⟩) ?_ ?_
        ·
         refine Dw 1 5 Y (Zw (ov Y) Y Y Y Qw Y) (ZO [] (Zm h_y5) (.cons (ov Y) (.dat Y)<|.cons (ov Y) (.dat Y) .nil) .nil Y (.keep Y Y<|.keep Y Y<|.keep Y Y<|.keep Y Y<|.keep Y Y<|.lent 0 (.inr ⟨Nat.le_of_ble_eq_true Y, Y⟩) Y (roM D5) .nil) Y Y<|.own _<|.inr ⟨Nat.le_of_ble_eq_true Y, Y⟩) ?_ ?_
         ·
          exact Do 5 Y (ZO [] (Zm h_y5) (.cons (ov Y) (.dat Y)<|.cons (ov Y) (.dat Y) .nil) .nil Y (.keep Y Y<|.keep Y Y<|.keep Y Y<|.keep Y Y<|.keep Y Y<|.lent 0 (.inr ⟨Nat.le_of_ble_eq_true Y, Y⟩) Y (roM D5) .nil) Y Y<|.own _<|.inr ⟨Nat.le_of_ble_eq_true Y, Y⟩)<|Do 6 Y (QW (r := 6) Y Qm (.cons (cvs (ov Y)<|Zk Y) Y .nil) Y Y)<|bE h fun l3 h_l3 h=>Do 7 Y (ZV (f := O49) (ov Y) (Qr (o := ⟨49, [[.own 5 y5.length]]⟩) (ov Y) Y Y tZ_49) Qm Y Y (Zb Y) Y h_l3)<|Dq 8 Y (Zi (ov Y) Y Y ZP)<|Do 9 Y (Zl (ov Y) (ov Y) (Zh Qw) Y Y Y (Nat.le_of_ble_eq_true Y) (Zb Y) Y)<|Qx (by kernel_rfl) (Ent.trans (Ent.absorbH (r := 2) (j := 0) (q := 5) Y (Zr h_l3) Y Y (List.length_map ..) Y)<|Ent.closeS (r := 2) Y (Zr h_l3) Y)<|⟨_, h, ES [some 0, some 1, some 2, some 3, some 4] (hhp := .cons Y (ro1 (by exact tZ_26.symm)<|rld Y)<|.cons Y (ro1 (by exact tZ_26.symm)<|rlc (.dat Y)<|rlc (.dat Y)<|rlc (.own _ Y)<|rlc (.own _ Y)<|rlc (.own _ Y) rln)<|.cons Y (roO Jm)<|.cons Y (roM D3)<|.cons Y (roM D4) .nil)⟩
         ·
          refine Dw 1 6 Y (Zw (ov Y) Y Y Y Qw Y) (QW (r := 6) Y Qm (.cons (cvs (ov Y)<|Zk Y) Y .nil) Y Y) ?_ ?_
          ·
           exact Do 6 Y (QW (r := 6) Y Qm (.cons (cvs (ov Y)<|Zk Y) Y .nil) Y Y)<|bE h fun l3 h_l3 h=>Do 7 Y (ZV (f := O49) (ov Y) (Qr (o := ⟨49, [[.own 5 y5.length]]⟩) (ov Y) Y Y tZ_49) Qm Y Y (Zb Y) Y h_l3)<|Dq 8 Y (Zi (ov Y) Y Y ZP)<|Do 9 Y (Zl (ov Y) (ov Y) (Zh Qw) Y Y Y (Nat.le_of_ble_eq_true Y) (Zb Y) Y)<|Qx (by kernel_rfl) (Ent.trans (Ent.absorbH (r := 2) (j := 0) (q := 5) Y (Zr h_l3) Y Y (List.length_map ..) Y)<|Ent.closeS (r := 2) Y (Zr h_l3) Y)<|⟨_, h, ES [some 0, some 1, some 2, some 3, some 4] (hhp := .cons Y (ro1 (by exact tZ_26.symm)<|rld Y)<|.cons Y (ro1 (by exact tZ_26.symm)<|rlc (.dat Y)<|rlc (.dat Y)<|rlc (.own _ Y)<|rlc (.own _ Y)<|rlc (.own _ Y) rln)<|.cons Y (roO Jm)<|.cons Y (roM D3)<|.cons Y (roM D4) .nil)⟩
          ·
           exact Dq 1 Y (Zw (ov Y) Y Y Y Qw Y)<|bE h fun l3 h_l3 h=>Do 7 Y (ZV (f := O49) (ov Y) (Qr (o := ⟨49, [[.own 5 y5.length]]⟩) (ov Y) Y Y tZ_49) Qm Y Y (Zb Y) Y h_l3)<|Dq 8 Y (Zi (ov Y) Y Y ZP)<|Do 9 Y (Zl (ov Y) (ov Y) (Zh Qw) Y Y Y (Nat.le_of_ble_eq_true Y) (Zb Y) Y)<|Qx (by kernel_rfl) (Ent.trans (Ent.absorbH (r := 2) (j := 0) (q := 5) Y (Zr h_l3) Y Y (List.length_map ..) Y)<|Ent.closeS (r := 2) Y (Zr h_l3) Y)<|⟨_, h, ES [some 0, some 1, some 2, some 3, some 4] (hhp := .cons Y (ro1 (by exact tZ_26.symm)<|rld Y)<|.cons Y (ro1 (by exact tZ_26.symm)<|rlc (.dat Y)<|rlc (.dat Y)<|rlc (.own _ Y)<|rlc (.own _ Y)<|rlc (.own _ Y) rln)<|.cons Y (roO Jm)<|.cons Y (roM D3)<|.cons Y (roM D4) .nil)⟩
        ·
         refine Dw 0 6 Y (Zi (ov Y) Y Y ZP) (QW (r := 6) Y Qm (.cons (cvs (ov Y)<|Zk Y) Y .nil) Y Y) ?_ ?_
         ·
          refine Dw 1 6 Y (Zw (ov Y) Y Y Y Qw Y) (QW (r := 6) Y Qm (.cons (cvs (ov Y)<|Zk Y) Y .nil) Y Y) ?_ ?_
          ·
           exact Do 6 Y (QW (r := 6) Y Qm (.cons (cvs (ov Y)<|Zk Y) Y .nil) Y Y)<|bE h fun l3 h_l3 h=>Do 7 Y (ZV (f := O49) (ov Y) (Qr (o := ⟨49, [[.own 5 y5.length]]⟩) (ov Y) Y Y tZ_49) Qm Y Y (Zb Y) Y h_l3)<|Dq 8 Y (Zi (ov Y) Y Y ZP)<|Do 9 Y (Zl (ov Y) (ov Y) (Zh Qw) Y Y Y (Nat.le_of_ble_eq_true Y) (Zb Y) Y)<|Qx (by kernel_rfl) (Ent.trans (Ent.absorbH (r := 2) (j := 0) (q := 5) Y (Zr h_l3) Y Y (List.length_map ..) Y)<|Ent.closeS (r := 2) Y (Zr h_l3) Y)<|⟨_, h, ES [some 0, some 1, some 2, some 3, some 4] (hhp := .cons Y (ro1 (by exact tZ_26.symm)<|rld Y)<|.cons Y (ro1 (by exact tZ_26.symm)<|rlc (.dat Y)<|rlc (.dat Y)<|rlc (.own _ Y)<|rlc (.own _ Y)<|rlc (.own _ Y) rln)<|.cons Y (roO Jm)<|.cons Y (roM D3)<|.cons Y (roM D4) .nil)⟩
          ·
           exact Dq 1 Y (Zw (ov Y) Y Y Y Qw Y)<|bE h fun l3 h_l3 h=>Do 7 Y (ZV (f := O49) (ov Y) (Qr (o := ⟨49, [[.own 5 y5.length]]⟩) (ov Y) Y Y tZ_49) Qm Y Y (Zb Y) Y h_l3)<|Dq 8 Y (Zi (ov Y) Y Y ZP)<|Do 9 Y (Zl (ov Y) (ov Y) (Zh Qw) Y Y Y (Nat.le_of_ble_eq_true Y) (Zb Y) Y)<|Qx (by kernel_rfl) (Ent.trans (Ent.absorbH (r := 2) (j := 0) (q := 5) Y (Zr h_l3) Y Y (List.length_map ..) Y)<|Ent.closeS (r := 2) Y (Zr h_l3) Y)<|⟨_, h, ES [some 0, some 1, some 2, some 3, some 4] (hhp := .cons Y (ro1 (by exact tZ_26.symm)<|rld Y)<|.cons Y (ro1 (by exact tZ_26.symm)<|rlc (.dat Y)<|rlc (.dat Y)<|rlc (.own _ Y)<|rlc (.own _ Y)<|rlc (.own _ Y) rln)<|.cons Y (roO Jm)<|.cons Y (roM D3)<|.cons Y (roM D4) .nil)⟩
         ·
          exact Dq 0 Y (Zi (ov Y) Y Y ZP)<|Dq 1 Y (Zw (ov Y) Y Y Y Qw Y)<|bE h fun l3 h_l3 h=>Do 7 Y (ZV (f := O49) (ov Y) (Qr (o := ⟨49, [[.own 5 y5.length]]⟩) (ov Y) Y Y tZ_49) Qm Y Y (Zb Y) Y h_l3)<|Dq 8 Y (Zi (ov Y) Y Y ZP)<|Do 9 Y (Zl (ov Y) (ov Y) (Zh Qw) Y Y Y (Nat.le_of_ble_eq_true Y) (Zb Y) Y)<|Qx (by kernel_rfl) (Ent.trans (Ent.absorbH (r := 2) (j := 0) (q := 5) Y (Zr h_l3) Y Y (List.length_map ..) Y)<|Ent.closeS (r := 2) Y (Zr h_l3) Y)<|⟨_, h, ES [some 0, some 1, some 2, some 3, some 4] (hhp := .cons Y (ro1 (by exact tZ_26.symm)<|rld Y)<|.cons Y (ro1 (by exact tZ_26.symm)<|rlc (.dat Y)<|rlc (.dat Y)<|rlc (.own _ Y)<|rlc (.own _ Y)<|rlc (.own _ Y) rln)<|.cons Y (roO Jm)<|.cons Y (roM D3)<|.cons Y (roM D4) .nil)⟩
      ·
       refine Dw 0 2 Y (Zi (ov Y) Y Y ZP) (JG<|Xw QF (.cons (cvs (ov Y)<|Zk Y) Y (.cons (.b Y) .nil) .nil) Y Y) ?_ ?_
       ·
        refine Dw 1 2 Y (Zw (ov Y) Y Y Y Qw Y) (JG<|Xw QF (.cons (cvs (ov Y)<|Zk Y) Y (.cons (.b Y) .nil) .nil) Y Y) ?_ ?_
        ·
         exact ZaG 2 (.sl 5<|List.map R5 ([255] : List Int)) _ Y (by kernel_rfl) Y Y (fun h=>by cases h) (fun h=>by cases h) (JG<|Xw QF (.cons (cvs (ov Y)<|Zk Y) Y (.cons (.b Y) .nil) .nil) Y Y)<|bE h fun y5 h_y5 h=>Do 5 Y (ZO [] (Zm h_y5) (.cons (ov Y) (.dat Y)<|.cons (ov Y) (.dat Y) .nil) .nil Y (.keep Y Y<|.keep Y Y<|.keep Y Y<|.keep Y Y<|.keep Y Y<|.lent 0 (.inr ⟨Nat.le_of_ble_eq_true Y, Y⟩) Y (roM D5) .nil) Y Y<|.own _<|.inr ⟨Nat.le_of_ble_eq_true Y, Y⟩)<|Do 6 Y (QW (r := 6) Y Qm (.cons (cvs (ov Y)<|Zk Y) Y .nil) Y Y)<|bE h fun l3 h_l3 h=>Do 7 Y (ZV (f := O49) (ov Y) (Qr (o := ⟨49, [[.own 5 y5.length]]⟩) (ov Y) Y Y tZ_49) Qm Y Y (Zb Y) Y h_l3)<|Dq 8 Y (Zi (ov Y) Y Y ZP)<|Do 9 Y (Zl (ov Y) (ov Y) (Zh Qw) Y Y Y (Nat.le_of_ble_eq_true Y) (Zb Y) Y)<|Qx (by kernel_rfl) (Ent.trans (Ent.absorbH (r := 2) (j := 0) (q := 5) Y (Zr h_l3) Y Y (List.length_map ..) Y)<|Ent.closeS (r := 2) Y (Zr h_l3) Y)<|⟨_, h, ES [some 0, some 1, some 2, some 3, some 4] (hhp := .cons Y (ro1 (by exact tZ_26.symm)<|rld Y)<|.cons Y (ro1 (by exact tZ_26.symm)<|rlc (.dat Y)<|rlc (.dat Y)<|rlc (.own _ Y)<|rlc (.own _ Y)<|rlc (.own _ Y) rln)<|.cons Y (roO Jm)<|.cons Y (roM D3)<|.cons Y (roM D4) .nil)⟩
        ·
         refine bE h fun y5 h_y5 h=>Dw 1 5 Y (Zw (ov Y) Y Y Y Qw Y) (ZO [] (Zm h_y5) (.cons (ov Y) (.dat Y)<|.cons (ov Y) (.dat Y) .nil) .nil Y (.keep Y Y<|.keep Y Y<|.keep Y Y<|.keep Y Y<|.keep Y Y<|.lent 0 (.inr ⟨Nat.le_of_ble_eq_true Y, Y⟩) Y (roM D5) .nil) Y Y<|.own _<|.inr ⟨Nat.le_of_ble_eq_true Y, Y⟩) ?_ ?_
         ·
          exact Do 5 Y (ZO [] (Zm h_y5) (.cons (ov Y) (.dat Y)<|.cons (ov Y) (.dat Y) .nil) .nil Y (.keep Y Y<|.keep Y Y<|.keep Y Y<|.keep Y Y<|.keep Y Y<|.lent 0 (.inr ⟨Nat.le_of_ble_eq_true Y, Y⟩) Y (roM D5) .nil) Y Y<|.own _<|.inr ⟨Nat.le_of_ble_eq_true Y, Y⟩)<|Do 6 Y (QW (r := 6) Y Qm (.cons (cvs (ov Y)<|Zk Y) Y .nil) Y Y)<|bE h fun l3 h_l3 h=>Do 7 Y (ZV (f := O49) (ov Y) (Qr (o := ⟨49, [[.own 5 y5.length]]⟩) (ov Y) Y Y tZ_49) Qm Y Y (Zb Y) Y h_l3)<|Dq 8 Y (Zi (ov Y) Y Y ZP)<|Do 9 Y (Zl (ov Y) (ov Y) (Zh Qw) Y Y Y (Nat.le_of_ble_eq_true Y) (Zb Y) Y)<|Qx (by kernel_rfl) (Ent.trans (Ent.absorbH (r := 2) (j := 0) (q := 5) Y (Zr h_l3) Y Y (List.length_map ..) Y)<|Ent.closeS (r := 2) Y (Zr h_l3) Y)<|⟨_, h, ES [some 0, some 1, some 2, some 3, some 4] (hhp := .cons Y (ro1 (by exact tZ_26.symm)<|rld Y)<|.cons Y (ro1 (by exact tZ_26.symm)<|rlc (.dat Y)<|rlc (.dat Y)<|rlc (.own _ Y)<|rlc (.own _ Y)<|rlc (.own _ Y) rln)<|.cons Y (roO Jm)<|.cons Y (roM D3)<|.cons Y (roM D4) .nil)⟩
         ·
          refine Dw 1 6 Y (Zw (ov Y) Y Y Y Qw Y) (QW (r := 6) Y Qm (.cons (cvs (ov Y)<|Zk Y) Y .nil) Y Y) ?_ ?_
          ·
           exact Do 6 Y (QW (r := 6) Y Qm (.cons (cvs (ov Y)<|Zk Y) Y .nil) Y Y)<|bE h fun l3 h_l3 h=>Do 7 Y (ZV (f := O49) (ov Y) (Qr (o := ⟨49, [[.own 5 y5.length]]⟩) (ov Y) Y Y tZ_49) Qm Y Y (Zb Y) Y h_l3)<|Dq 8 Y (Zi (ov Y) Y Y ZP)<|Do 9 Y (Zl (ov Y) (ov Y) (Zh Qw) Y Y Y (Nat.le_of_ble_eq_true Y) (Zb Y) Y)<|Qx (by kernel_rfl) (Ent.trans (Ent.absorbH (r := 2) (j := 0) (q := 5) Y (Zr h_l3) Y Y (List.length_map ..) Y)<|Ent.closeS (r := 2) Y (Zr h_l3) Y)<|⟨_, h, ES [some 0, some 1, some 2, some 3, some 4] (hhp := .cons Y (ro1 (by exact tZ_26.symm)<|rld Y)<|.cons Y (ro1 (by exact tZ_26.symm)<|rlc (.dat Y)<|rlc (.dat Y)<|rlc (.own _ Y)<|rlc (.own _ Y)<|rlc (.own _ Y) rln)<|.cons Y (roO Jm)<|.cons Y (roM D3)<|.cons Y (roM D4) .nil)⟩
          ·
           exact Dq 1 Y (Zw (ov Y) Y Y Y Qw Y)<|bE h fun l3 h_l3 h=>Do 7 Y (ZV (f := O49) (ov Y) (Qr (o := ⟨49, [[.own 5 y5.length]]⟩) (ov Y) Y Y tZ_49) Qm Y Y (Zb Y) Y h_l3)<|Dq 8 Y (Zi (ov Y) Y Y ZP)<|Do 9 Y (Zl (ov Y) (ov Y) (Zh Qw) Y Y Y (Nat.le_of_ble_eq_true Y) (Zb Y) Y)<|Qx (by kernel_rfl) (Ent.trans (Ent.absorbH (r := 2) (j := 0) (q := 5) Y (Zr h_l3) Y Y (List.length_map ..) Y)<|Ent.closeS (r := 2) Y (Zr h_l3) Y)<|⟨_, h, ES [some 0, some 1, some 2, some 3, some 4] (hhp := .cons Y (ro1 (by exact tZ_26.symm)<|rld Y)<|.cons Y (ro1 (by exact tZ_26.symm)<|rlc (.dat Y)<|rlc (.dat Y)<|rlc (.own _ Y)<|rlc (.own _ Y)<|rlc (.own _ Y) rln)<|.cons Y (roO Jm)<|.cons Y (roM D3)<|.cons Y (roM D4) .nil)⟩
       ·
        refine bE h fun y5 h_y5 h=>Dw 0 5 Y (Zi (ov Y) Y Y ZP) (ZO [] (Zm h_y5) (.cons (ov Y) (.dat Y)<|.cons (ov Y) (.dat Y) .nil) .nil Y (.keep Y Y<|.keep Y Y<|.keep Y Y<|.keep Y Y<|.keep Y Y<|.lent 0 (.inr ⟨Nat.le_of_ble_eq_true Y, Y⟩) Y (roM D5) .nil) Y Y<|.own _<|.inr ⟨Nat.le_of_ble_eq_true Y, Y⟩) ?_ ?_
        ·
         refine Dw 1 5 Y (Zw (ov Y) Y Y Y Qw Y) (ZO [] (Zm h_y5) (.cons (ov Y) (.dat Y)<|.cons (ov Y) (.dat Y) .nil) .nil Y (.keep Y Y<|.keep Y Y<|.keep Y Y<|.keep Y Y<|.keep Y Y<|.lent 0 (.inr ⟨Nat.le_of_ble_eq_true Y, Y⟩) Y (roM D5) .nil) Y Y<|.own _<|.inr ⟨Nat.le_of_ble_eq_true Y, Y⟩) ?_ ?_
         ·
          exact Do 5 Y (ZO [] (Zm h_y5) (.cons (ov Y) (.dat Y)<|.cons (ov Y) (.dat Y) .nil) .nil Y (.keep Y Y<|.keep Y Y<|.keep Y Y<|.keep Y Y<|.keep Y Y<|.lent 0 (.inr ⟨Nat.le_of_ble_eq_true Y, Y⟩) Y (roM D5) .nil) Y Y<|.own _<|.inr ⟨Nat.le_of_ble_eq_true Y, Y⟩)<|Do 6 Y (QW (r := 6) Y Qm (.cons (cvs (ov Y)<|Zk Y) Y .nil) Y Y)<|bE h fun l3 h_l3 h=>Do 7 Y (ZV (f := O49) (ov Y) (Qr (o := ⟨49, [[.own 5 y5.length]]⟩) (ov Y) Y Y tZ_49) Qm Y Y (Zb Y) Y h_l3)<|Dq 8 Y (Zi (ov Y) Y Y ZP)<|Do 9 Y (Zl (ov Y) (ov Y) (Zh Qw) Y Y Y (Nat.le_of_ble_eq_true Y) (Zb Y) Y)<|Qx (by kernel_rfl) (Ent.trans (Ent.absorbH (r := 2) (j := 0) (q := 5) Y (Zr h_l3) Y Y (List.length_map ..) Y)<|Ent.closeS (r := 2) Y (Zr h_l3) Y)<|⟨_, h, ES [some 0, some 1, some 2, some 3, some 4] (hhp := .cons Y (ro1 (by exact tZ_26.symm)<|rld Y)<|.cons Y (ro1 (by exact tZ_26.symm)<|rlc (.dat Y)<|rlc (.dat Y)<|rlc (.own _ Y)<|rlc (.own _ Y)<|rlc (.own _ Y) rln)<|.cons Y (roO Jm)<|.cons Y (roM D3)<|.cons Y (roM D4) .nil)⟩
         ·
          refine Dw 1 6 Y (Zw (ov Y) Y Y Y Qw Y) (QW (r := 6) Y Qm (.cons (cvs (ov Y)<|Zk Y) Y .nil) Y Y) ?_ ?_
          ·
           exact Do 6 Y (QW (r := 6) Y Qm (.cons (cvs (ov Y)<|Zk Y) Y .nil) Y Y)<|bE h fun l3 h_l3 h=>Do 7 Y (ZV (f := O49) (ov Y) (Qr (o := ⟨49, [[.own 5 y5.length]]⟩) (ov Y) Y Y tZ_49) Qm Y Y (Zb Y) Y h_l3)<|Dq 8 Y (Zi (ov Y) Y Y ZP)<|Do 9 Y (Zl (ov Y) (ov Y) (Zh Qw) Y Y Y (Nat.le_of_ble_eq_true Y) (Zb Y) Y)<|Qx (by kernel_rfl) (Ent.trans (Ent.absorbH (r := 2) (j := 0) (q := 5) Y (Zr h_l3) Y Y (List.length_map ..) Y)<|Ent.closeS (r := 2) Y (Zr h_l3) Y)<|⟨_, h, ES [some 0, some 1, some 2, some 3, some 4] (hhp := .cons Y (ro1 (by exact tZ_26.symm)<|rld Y)<|.cons Y (ro1 (by exact tZ_26.symm)<|rlc (.dat Y)<|rlc (.dat Y)<|rlc (.own _ Y)<|rlc (.own _ Y)<|rlc (.own _ Y) rln)<|.cons Y (roO Jm)<|.cons Y (roM D3)<|.cons Y (roM D4) .nil)⟩
          ·
           exact Dq 1 Y (Zw (ov Y) Y Y Y Qw Y)<|bE h fun l3 h_l3 h=>Do 7 Y (ZV (f := O49) (ov Y) (Qr (o := ⟨49, [[.own 5 y5.length]]⟩) (ov Y) Y Y tZ_49) Qm Y Y (Zb Y) Y h_l3)<|Dq 8 Y (Zi (ov Y) Y Y ZP)<|Do 9 Y (Zl (ov Y) (ov Y) (Zh Qw) Y Y Y (Nat.le_of_ble_eq_true Y) (Zb Y) Y)<|Qx (by kernel_rfl) (Ent.trans (Ent.absorbH (r := 2) (j := 0) (q := 5) Y (Zr h_l3) Y Y (List.length_map ..) Y)<|Ent.closeS (r := 2) Y (Zr h_l3) Y)<|⟨_, h, ES [some 0, some 1, some 2, some 3, some 4] (hhp := .cons Y (ro1 (by exact tZ_26.symm)<|rld Y)<|.cons Y (ro1 (by exact tZ_26.symm)<|rlc (.dat Y)<|rlc (.dat Y)<|rlc (.own _ Y)<|rlc (.own _ Y)<|rlc (.own _ Y) rln)<|.cons Y (roO Jm)<|.cons Y (roM D3)<|.cons Y (roM D4) .nil)⟩
        ·
         refine Dw 0 6 Y (Zi (ov Y) Y Y ZP) (QW (r := 6) Y Qm (.cons (cvs (ov Y)<|Zk Y) Y .nil) Y Y) ?_ ?_
         ·
          refine Dw 1 6 Y (Zw (ov Y) Y Y Y Qw Y) (QW (r := 6) Y Qm (.cons (cvs (ov Y)<|Zk Y) Y .nil) Y Y) ?_ ?_
          ·
           exact Do 6 Y (QW (r := 6) Y Qm (.cons (cvs (ov Y)<|Zk Y) Y .nil) Y Y)<|bE h fun l3 h_l3 h=>Do 7 Y (ZV (f := O49) (ov Y) (Qr (o := ⟨49, [[.own 5 y5.length]]⟩) (ov Y) Y Y tZ_49) Qm Y Y (Zb Y) Y h_l3)<|Dq 8 Y (Zi (ov Y) Y Y ZP)<|Do 9 Y (Zl (ov Y) (ov Y) (Zh Qw) Y Y Y (Nat.le_of_ble_eq_true Y) (Zb Y) Y)<|Qx (by kernel_rfl) (Ent.trans (Ent.absorbH (r := 2) (j := 0) (q := 5) Y (Zr h_l3) Y Y (List.length_map ..) Y)<|Ent.closeS (r := 2) Y (Zr h_l3) Y)<|⟨_, h, ES [some 0, some 1, some 2, some 3, some 4] (hhp := .cons Y (ro1 (by exact tZ_26.symm)<|rld Y)<|.cons Y (ro1 (by exact tZ_26.symm)<|rlc (.dat Y)<|rlc (.dat Y)<|rlc (.own _ Y)<|rlc (.own _ Y)<|rlc (.own _ Y) rln)<|.cons Y (roO Jm)<|.cons Y (roM D3)<|.cons Y (roM D4) .nil)⟩
          ·
           exact Dq 1 Y (Zw (ov Y) Y Y Y Qw Y)<|bE h fun l3 h_l3 h=>Do 7 Y (ZV (f := O49) (ov Y) (Qr (o := ⟨49, [[.own 5 y5.length]]⟩) (ov Y) Y Y tZ_49) Qm Y Y (Zb Y) Y h_l3)<|Dq 8 Y (Zi (ov Y) Y Y ZP)<|Do 9 Y (Zl (ov Y) (ov Y) (Zh Qw) Y Y Y (Nat.le_of_ble_eq_true Y) (Zb Y) Y)<|Qx (by kernel_rfl) (Ent.trans (Ent.absorbH (r := 2) (j := 0) (q := 5) Y (Zr h_l3) Y Y (List.length_map ..) Y)<|Ent.closeS (r := 2) Y (Zr h_l3) Y)<|⟨_, h, ES [some 0, some 1, some 2, some 3, some 4] (hhp := .cons Y (ro1 (by exact tZ_26.symm)<|rld Y)<|.cons Y (ro1 (by exact tZ_26.symm)<|rlc (.dat Y)<|rlc (.dat Y)<|rlc (.own _ Y)<|rlc (.own _ Y)<|rlc (.own _ Y) rln)<|.cons Y (roO Jm)<|.cons Y (roM D3)<|.cons Y (roM D4) .nil)⟩
         ·
          exact Dq 0 Y (Zi (ov Y) Y Y ZP)<|Dq 1 Y (Zw (ov Y) Y Y Y Qw Y)<|bE h fun l3 h_l3 h=>Do 7 Y (ZV (f := O49) (ov Y) (Qr (o := ⟨49, [[.own 5 y5.length]]⟩) (ov Y) Y Y tZ_49) Qm Y Y (Zb Y) Y h_l3)<|Dq 8 Y (Zi (ov Y) Y Y ZP)<|Do 9 Y (Zl (ov Y) (ov Y) (Zh Qw) Y Y Y (Nat.le_of_ble_eq_true Y) (Zb Y) Y)<|Qx (by kernel_rfl) (Ent.trans (Ent.absorbH (r := 2) (j := 0) (q := 5) Y (Zr h_l3) Y Y (List.length_map ..) Y)<|Ent.closeS (r := 2) Y (Zr h_l3) Y)<|⟨_, h, ES [some 0, some 1, some 2, some 3, some 4] (hhp := .cons Y (ro1 (by exact tZ_26.symm)<|rld Y)<|.cons Y (ro1 (by exact tZ_26.symm)<|rlc (.dat Y)<|rlc (.dat Y)<|rlc (.own _ Y)<|rlc (.own _ Y)<|rlc (.own _ Y) rln)<|.cons Y (roO Jm)<|.cons Y (roM D3)<|.cons Y (roM D4) .nil)⟩
     ·
      exact Zp<|R2 ZF Y<|Rm Y<|Za<|⟨_, h, ES [some 0, some 1, some 2, some 3, some 4] (hhp := .cons Y (ro1 (by exact tZ_26.symm)<|rld Y)<|.cons Y (ro1 (by exact tZ_26.symm)<|rlc (.dat Y)<|rlc (.dat Y)<|rlc (.own _ Y)<|rlc (.own _ Y)<|rlc (.own _ Y) rln)<|.cons Y (roO Jm)<|.cons Y (roM D3)<|.cons Y (roM D4) .nil)⟩
    ·
     refine Zz<|?_
     replace h := lx h ▸ ho1
     exact ⟨_, h, ES [some 0, some 1, some 2, some 3, some 4] (hhp := .cons Y (ro1 (by exact tZ_26.symm)<|rld Y)<|.cons Y (ro1 (by exact tZ_26.symm)<|rlc (.dat Y)<|rlc (.dat Y)<|rlc (.own _ Y)<|rlc (.own _ Y)<|rlc (.own _ Y) rln)<|.cons Y (roO Jm)<|.cons Y (roM D3)<|.cons Y (roM D4) .nil)⟩
   ·
    refine Tr<|Rq Y (Qe (ov Y) Y Y Y X5 Y Y)<|Rx Y (Zl (ov Y) (ov Y) (Zv X5 Y) Y Y Y (Nat.le_of_ble_eq_true Y) (Zb Y) Y)<|Ra Y<|Za<|?_
    obtain rfl := rt h
    exact Zo (ZG Y (.two (.agg Y Y Y Y X5 Y Y<|.cons (Dat.view<|.b Y)<|.cons (Dat.view<|.b Y)<|.cons (View.ownO Y Y Jm (fun x=>(D49 x).1) Zpb)<|.cons (View.ownM Y Y D3)<|.cons (View.ownM Y Y D4) .nil)<|rb Y))
theorem Zc4 {l : List api_Memory} {r : Int} (h : Q0 l = some r) :
 CSpec Tryz.prog gl0 62 [.sl 26 (List.map R26 l)] (.int .i64 r) := by
 unfold Q0 at h
 replace h := Qk h
 refine So Tryz.func62 Y fun w0 A=>Tr<|Ra Y<|Za<|Zg<|K1 0 Y<|Tr<|Rm Y<|Rl tZ_26 Zaz Y<|bE h fun y h_y h=>Rq Y (Zn (QG h_y)<|.cons (ov Y) (.b Y)<|.cons (ov Y) (.b Y)<|.cons (ov Y) (.b Y) .nil)<|R1 XN Y<|Za<|K2 0 9 Y<|If h Y (fun h=>?_) fun h=>?_
 ·
  refine K0<|Tr<|Ra Y<|Za<|?_
  obtain rfl := rt h
  exact Zo (ZG Y (.one<|rb Y))
 ·
  refine Zf<|J0 (fun j => (.inr j)) ⟨[], []⟩ h (fun h=>?_) fun h=>?_
  ·
   refine K1 0 Y<|Tr<|Rm Y<|Rl tZ_26 Zaz Y<|Rm Y<|Za<|Ze<|?_
   obtain ⟨r1, hl1, ho1⟩ := QE h
   refine L1 (fun i=>⟨[(10, .sl 26 (List.map R26 l)), (11, .int .i64 (l.length : Int)), (12, .int .i64 i)], []⟩) hl1 (ES []) fun n1 i h=>?_
   unfold ring_checkAll_L1 at h
   refine Tr<|R2 ZD Y<|Za<|Zg<|If h Y (fun h=>?_) fun h=>?_
   ·
    refine Zf<|Zg<|Ze<|K3 10 11 12 Y<|Tr<|bE h fun x h_x h=>Rq Y (ZS (ov Y) (ov Y) Zaz h_x)<|Rq Y (Z6 (ov Y) X5 Y Y)<|Rx Y (Z3 (row := [_, _, _, _, _]) 0 Y Zdx Y tZ_26)<|Rx Y (Zl (ov Y) (ov Y) (Zv X5 Y) Y Y Y (Nat.le_of_ble_eq_true Y) (Zb Y) Y)<|Za<|K4 4 10 11 12 Y<|Tr<|Rq Y (Qe (ov Y) Y Y Y X5 Y Y)<|bE h fun y2 h_y2 h=>Rq Y (Zn (ZgM h_y2)<|.cons (ov Y) (.aggB Y) .nil)<|Ra Y<|Za<|K4 5 10 11 12 Y<|Tr<|Rm Y<|R2 Q2 Y<|Za<|K5 5 10 11 12 19 Y<|If h Y (fun h=>?_) fun h=>?_
    ·
     refine K1 5 Y<|Tr<|Rm Y<|Ra Y<|Za<|?_
     replace h := lx h ▸ ho1
     obtain rfl := rt h
     exact Zo (ZG Y (.one<|rb Y))
    ·
     exact Zf<|K3 10 11 12 Y<|Zp<|R2 ZF Y<|Rm Y<|Za<|⟨_, h, ES []⟩
   ·
    refine Zz<|?_
    replace h := lx h ▸ ho1
    exact ⟨(), h, ES []⟩
  ·
   replace h := elr h
   replace h := t0i h
   refine Tr<|Ra Y<|Za<|?_
   obtain rfl := rt h
   exact Zo (ZG Y (.one<|rb Y))
theorem Zhn {l : List api_Memory} {r : (List api_Memory)} (h : JA l = some r) :
 GSpec Tryz.prog gl0 63 [.sl 26 (List.map R26 l)] [] (.own 0 r.length) [some ⟨26, List.map O26 r⟩] := by
 unfold JA at h
 replace h := Qk h
 refine QZ (by kernel_rfl) Tryz.func63 Y Y<|?_
 intro w0 A W φ0
 refine Tr<|Ra Y<|Za<|K1 0 Y<|Tr<|Ra Y<|Za<|I1 (fun out=>⟨[(3, .own 0 out.length)], [some ⟨26, List.map O26 out⟩]⟩) h (fun h=>?_) fun out h=>?_
 ·
  refine Tr<|Rm Y<|Rl tZ_26 Zaz Y<|Rm Y<|Za<|Ze<|?_
  obtain ⟨r1, hl1, ho1⟩ := QE h
  refine L2 (fun out2 i=>⟨[(3, .own 0 out2.length), (6, .sl 26 (List.map R26 l)), (7, .int .i64 (l.length : Int)), (8, .int .i64 i)], [some ⟨26, List.map O26 out2⟩]⟩) hl1 (ES [none]) fun n1 out2 i h=>?_
  unfold Zan at h
  refine Tr<|R2 ZD Y<|Za<|Zg<|If h Y (fun h=>?_) fun h=>?_
  ·
   exact Zf<|Zg<|Ze<|K4 3 6 7 8 Y<|Tr<|bE h fun x h_x h=>Rq Y (ZS (ov Y) (ov Y) Zaz h_x)<|Rq Y (Z6 (ov Y) X5 Y Y)<|Rx Y (Z3 (row := [_, _, _, _, _]) 1 Y Zdx Y tZ_26)<|Rx Y (Zl (ov Y) (ov Y) (Zv X5 Y) Y Y Y (Nat.le_of_ble_eq_true Y) (Zb Y) Y)<|Za<|K5 3 5 6 7 8 Y<|XC [some ⟨26, List.map O26 out2⟩, some ⟨26, [[.int .i64 x.Slots, .int .i64 x.Limit, .sl 49 (List.map R49 x.Sectors), .sl 3 (List.map R3 x.Wear), .sl 4 (List.map R4 x.Bad)]]⟩] Y<|Zp<|Rm Y<|Rq Y (Qe (ov Y) Y Y Y X5 Y Y)<|bE h fun y h_y h=>Rx Y (ZO [] (Zdr h_y) (.cons (ov Y) (ZfQ<|rld Y) .nil) .nil Y (.keep Y Y<|.keep Y Y<|.lent 0 (.inr ⟨Nat.le_of_ble_eq_true Y, Y⟩) Y (roO Jm)<|.lent 1 (.inr ⟨Nat.le_of_ble_eq_true Y, Y⟩) Y (roM D3)<|.lent 2 (.inr ⟨Nat.le_of_ble_eq_true Y, Y⟩) Y (roM D4) .nil) Y Y<|ZfQ<|rlc (.dat Y)<|rlc (.dat Y)<|rlc (.own _<|.inr ⟨Nat.le_of_ble_eq_true Y, Y⟩)<|rlc (.own _<|.inr ⟨Nat.le_of_ble_eq_true Y, Y⟩)<|rlc (.own _<|.inr ⟨Nat.le_of_ble_eq_true Y, Y⟩) rln)<|Rx Y (QW (r := 5) Y Zaz (.cons (cva<|ov Y) Y .nil) Y Y)<|bE h fun l2 h_l2 h=>Rx Y (ZV (f := O26) (ov Y) (Qr (o := ⟨26, [[.int .i64 y.Slots, .int .i64 y.Limit, .own 2 y.Sectors.length, .own 3 y.Wear.length, .own 4 y.Bad.length]]⟩) (ov Y) Y Y tZ_26) Zaz Y Y (Zb Y) Y h_l2)<|Ra Y<|ZfY [some ⟨26, List.set (List.map O26 l2) out2.length [.int .i64 y.Slots, .int .i64 y.Limit, .own 2 y.Sectors.length, .own 3 y.Wear.length, .own 4 y.Bad.length]⟩, some ⟨26, [[.int .i64 x.Slots, .int .i64 x.Limit, .sl 49 (List.map R49 x.Sectors), .sl 3 (List.map R3 x.Wear), .sl 4 (List.map R4 x.Bad)]]⟩, some ⟨49, List.map O49 y.Sectors⟩, some ⟨3, List.map R3 y.Wear⟩, some ⟨4, List.map R4 y.Bad⟩, some ⟨26, [[.int .i64 y.Slots, .int .i64 y.Limit, .own 2 y.Sectors.length, .own 3 y.Wear.length, .own 4 y.Bad.length]]⟩] Y<|Xn (Ent.absorbH (r := 0) (j := 2) (q := 2) Y (Zr h_l2) Y Y (List.length_map ..) Y)<|Xn (Ent.absorbH (r := 0) (j := 3) (q := 3) Y (Zr h_l2) Y Y (List.length_map ..) Y)<|Xn (Ent.absorbH (r := 0) (j := 4) (q := 4) Y (Zr h_l2) Y Y (List.length_map ..) Y)<|Xn (Ent.closeS (r := 0) Y (Zr h_l2) Y)<|Za<|K4 3 6 7 8 Y<|XC [some ⟨26, List.map O26 l2⟩, some ⟨26, [[.int .i64 x.Slots, .int .i64 x.Limit, .sl 49 (List.map R49 x.Sectors), .sl 3 (List.map R3 x.Wear), .sl 4 (List.map R4 x.Bad)]]⟩, none, none, none, some ⟨26, [[.int .i64 y.Slots, .int .i64 y.Limit, .own 2 y.Sectors.length, .own 3 y.Wear.length, .own 4 y.Bad.length]]⟩] Y<|Zp<|R2 ZF Y<|Rm Y<|Za<|⟨_, h, ES [some 0] (hhp := .cons Y (roO Jn) .nil)⟩
  ·
   refine Zz<|?_
   replace h := lx h ▸ ho1
   exact ⟨_, h, ES [some 0] (hhp := .cons Y (roO Jn) .nil)⟩
 ·
  refine Tr<|Rm Y<|Ra Y<|Za<|?_
  obtain rfl := rt h
  exact Zo<|ZbQ [some 0] Y (.cons (.tmp Y) .nil) (.cons Y (roO Jn) .nil) Y Y<|.own _ Y
end Go.Proofs.YtnlmjeleocelgaaGreatDoor
