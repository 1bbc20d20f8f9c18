/- A text of the proof: a verified executor of the program form, or the contracts of the functions that the law reaches. -/
import Derived.Test.YtnlmjeleocelgaaGreatDoorOkRa
set_option linter.all false
namespace Go.Proofs.YtnlmjeleocelgaaGreatDoor
open Go Go.Vx
set_option maxRecDepth 10000
set_option maxHeartbeats 2000000
set_option linter.unusedVariables false
theorem Zcu {data : Int} {r : Int} (h : ZaI data = some r) :
 CSpec Tryz.prog gl0 131 [.int .i64 data] (.int .i64 r) := by
 unfold ZaI at h
 replace h := Z0 h
 refine So Tryz.func131 Y fun w0 A=>Tr<|Ra Y<|Za<|Zg<|K1 0 Y<|Tr<|Rm Y<|bE h fun y h_y h=>Rq Y (Zo (Zjk h_y)<|.cons (ov Y) (.b Y) .nil)<|Za<|K2 0 4 Y<|If h Y (fun h=>?_) fun h=>?_
 ·
  refine K1 0 Y<|Tr<|Rm Y<|Ra Y<|Za<|?_
  obtain rfl := rt h
  exact Zn (ZC Y (.one<|rb Y))
 ·
  refine Zh<|K1 0 Y<|Tr<|Rm Y<|R2 ZM Y<|Ra Y<|Za<|?_
  obtain rfl := rt h
  exact Zn (ZC Y (.one<|rb Y))
theorem Zgl {f : Vector Int 64} {r : Int} (h : Zae f = some r) :
 CSpec Tryz.prog gl0 123 [.agg (List.map C40 f.toList)] (.int .i64 r) := by
 unfold Zae at h
 replace h := Z0 h
 refine So Tryz.func123 Y fun w0 A=>Tr<|Rq Y (Zdb (cva<|ov Y) arL tZ_42<|arD fun _ => Y)<|Ra Y<|Za<|K2 1 2 Y<|Tr<|bE h fun x h_x h=>Rq Y (QD (ov Y) (ov Y) XT h_x)<|Rq Y (Zd (ov Y) Zar<|Qi<|Q9 (o := 0) (o' := ((Int.toNat 1) * 1)) (Zq arL)<|Xa h_x)<|Rq Y (Z7 (ov Y) ZcR tI3 Y)<|bE h fun q h_q h=>Rq Y (XY (ov Y) (ov Y) h_q)<|bE h fun x2 h_x2 h=>Rq Y (QD (ov Y) (ov Y) XT h_x2)<|Rq Y (Zd (ov Y) Zar<|Qi<|Q9 (o := 0) (o' := ((Int.toNat 2) * 1)) (Zq arL)<|Xa h_x2)<|Rq Y (Z7 (ov Y) ZcR tI3 Y)<|bE h fun q2 h_q2 h=>Rq Y (XY (ov Y) (ov Y) h_q2)<|R2 Zea Y<|R2 ZM Y<|Ra Y<|Za<|?_
 obtain rfl := rt h
 exact Zn (ZC Y (.one<|rb Y))
theorem ZhI {number : Int} {r : Int} (h : Zb0 number = some r) :
 CSpec Tryz.prog gl0 132 [.int .i64 number] (.int .i64 r) := by
 unfold Zb0 at h
 replace h := Z0 h
 refine So Tryz.func132 Y fun w0 A=>Tr<|Ra Y<|Za<|Tr<|R_q (.agg<|List.map C3 (#v[583, 1464, 2631, 3512] : Vector Int 4).toList) Y (Jj (ys := [_, _, _, _]) ZlT Zm6 (.cons (cvs (ov Y)<|Zm Y)<|.cons (cvs (ov Y)<|Zm Y)<|.cons (cvs (ov Y)<|Zm Y)<|.cons (cvs (ov Y)<|Zm Y) .nil) Y)<|Rm Y<|bE h fun q h_q h=>Rq Y (XY (ov Y) (ov Y) h_q)<|bE h fun x h_x h=>Rq Y (Zh2 (ov Y) (ov Y) ZlT tS3 h_x)<|Ra Y<|Za<|?_
 obtain rfl := rt h
 exact Zn (ZC Y (.one<|rb Y))
theorem ZiR {f : Vector Int 64} {r : Int} (h : Zej f = some r) :
 CSpec Tryz.prog gl0 133 [.agg (List.map C40 f.toList)] (.int .i64 r) := by
 unfold Zej at h
 replace h := Z0 h
 refine So Tryz.func133 Y fun w0 A=>Tr<|Rq Y (Zdb (cva<|ov Y) arL tZ_42<|arD fun _ => Y)<|Ra Y<|Za<|K1 1 Y<|Tr<|Ra Y<|Za<|I1 (fun x=>⟨[(3, .int .i64 x)], []⟩) h (fun h=>?_) fun x h=>?_
 ·
  refine Tr<|Ra Y<|Za<|Ze<|?_
  obtain ⟨r1, hl1, ho1⟩ := QI h
  refine L2 (fun x2 i=>⟨[(1, .rp (List.map C40 f.toList) 0), (3, .int .i64 x2), (4, .int .i64 i)], []⟩) hl1 (ES []) fun n1 x2 i h=>?_
  unfold ZcZ at h
  refine Zg<|Tr<|Rm Y<|R2 Zhx Y<|Za<|K4 1 3 4 6 Y<|If h Y (fun h=>?_) fun h=>?_
  ·
   exact Zh<|Zg<|Ze<|K3 1 3 4 Y<|Zt<|Rm Y<|Rm Y<|bE h fun x3 h_x3 h=>Rq Y (QD (ov Y) (ov Y) XT h_x3)<|Rq Y (Zd (ov Y) Zar<|Qi<|Q9 (o := 0) (o' := (i.toNat * 1)) (Zq arL)<|Xa h_x3)<|Rq Y (Z7 (ov Y) ZcR tI3 Y)<|bE h fun q h_q h=>Rq Y (XY (ov Y) (ov Y) h_q)<|R2 Zix Y<|Ra Y<|Za<|K3 1 3 4 Y<|Zt<|Rm Y<|R2 ZM Y<|Ra Y<|Za<|⟨_, h, ES []⟩
  ·
   refine ZE<|?_
   replace h := lx h ▸ ho1
   exact ⟨_, h, ES []⟩
 ·
  refine Tr<|Rm Y<|Ra Y<|Za<|?_
  obtain rfl := rt h
  exact Zn (ZC Y (.one<|rb Y))
theorem ZhR {f : Vector Int 64} {r : Int} (h : ZcO f = some r) :
 CSpec Tryz.prog gl0 152 [.agg (List.map C40 f.toList)] (.int .i64 r) := by
 unfold ZcO at h
 replace h := Z0 h
 refine So Tryz.func152 Y fun w0 A=>Tr<|Rq Y (Zdb (cva<|ov Y) arL tZ_42<|arD fun _ => Y)<|Ra Y<|Za<|K1 1 Y<|Tr<|Ra Y<|Za<|I1 (fun rest=>⟨[(3, .int .i64 rest)], []⟩) h (fun h=>?_) fun rest h=>?_
 ·
  refine Tr<|Ra Y<|Za<|Ze<|?_
  obtain ⟨r1, hl1, ho1⟩ := QI h
  refine L2 (fun rest2 i=>⟨[(1, .rp (List.map C40 f.toList) 0), (3, .int .i64 rest2), (4, .int .i64 i)], []⟩) hl1 (ES []) fun n1 rest2 i h=>?_
  unfold ZbI at h
  refine Zg<|Tr<|Rm Y<|R2 ZO Y<|Za<|K4 1 3 4 7 Y<|If h Y (fun h=>?_) fun h=>?_
  ·
   refine Zh<|Zg<|Ze<|K3 1 3 4 Y<|Tr<|Ra Y<|Za<|I1 (fun bit=>⟨[(1, .rp (List.map C40 f.toList) 0), (3, .int .i64 rest2), (4, .int .i64 i), (5, .int .i64 bit)], []⟩) h (fun h=>?_) fun bit h=>?_
   ·
    refine Tr<|Rm Y<|R2 ZO Y<|Za<|K5 1 3 4 5 11 Y<|If h Y (fun h=>?_) fun h=>?_
    ·
     exact K4 1 3 4 5 Y<|Zt<|Rm Y<|bE h fun q h_q h=>Rq Y (Zcc (ov Y) (ov Y) h_q)<|bE h fun x h_x h=>Rq Y (QD (ov Y) (ov Y) XT h_x)<|Rq Y (Zd (ov Y) Zar<|Qi<|Q9 (o := 0) (o' := (q.toNat * 1)) (Zq arL)<|Xa h_x)<|Rq Y (Z7 (ov Y) ZcR tI3 Y)<|Rm Y<|bE h fun q2 h_q2 h=>Rq Y (XY (ov Y) (ov Y) h_q2)<|R2 ZeV Y<|bE h fun q3 h_q3 h=>Rq Y (ZbB (ov Y) (ov Y) h_q3)<|R2 Zau Y<|Ra Y<|Za<|⟨_, h, ES []⟩
    ·
     exact Zh<|⟨_, h, ES []⟩
   ·
    refine Tr<|Rm Y<|R2 Zea Y<|Rm Y<|R2 ZM Y<|Ra Y<|Za<|K3 1 3 4 Y<|Tr<|Rm Y<|R2 ZfW Y<|Za<|K4 1 3 4 27 Y<|If h Y (fun h=>?_) fun h=>?_
    ·
     exact K3 1 3 4 Y<|Zt<|Rm Y<|R2 Zix Y<|Ra Y<|Za<|K3 1 3 4 Y<|Zt<|Rm Y<|R2 ZM Y<|Ra Y<|Za<|⟨_, h, ES []⟩
    ·
     exact Zh<|K3 1 3 4 Y<|Zt<|Rm Y<|R2 ZM Y<|Ra Y<|Za<|⟨_, h, ES []⟩
  ·
   refine ZE<|?_
   replace h := lx h ▸ ho1
   exact ⟨_, h, ES []⟩
 ·
  refine Tr<|Rm Y<|Ra Y<|Za<|?_
  obtain rfl := rt h
  exact Zn (ZC Y (.one<|rb Y))
theorem ZgU {f : Vector Int 64} {r : (Vector Int 64)} (h : Zbg f = some r) :
 CSpec Tryz.prog gl0 134 [.agg (List.map C40 f.toList)] (.agg (List.map C40 r.toList)) := by
 unfold Zbg at h
 replace h := Z0 h
 refine So Tryz.func134 Y fun w0 A=>Tr<|Rx Y (ZjY 0 Y (ov Y) Qq arL)<|Rx Y (ZN (row := (List.map C40 (Vector.replicate 64 0).toList)) 1 Y Zby Y tZ_42)<|Za<|K2 1 2 Y<|Tr<|Rq Y (Qe (ov Y) Y Y Y Qq (ZX<|Zq arL) arL (hns := (nsM fun _ => Y)))<|bE h fun y h_y h=>Rq Y (Zo (ZhR h_y)<|.cons (ov Y) (.aggB<|arD fun _ => Y) .nil)<|Ra Y<|Za<|K3 1 2 3 Y<|Tr<|Rm Y<|bE h fun q h_q h=>Rq Y (Zcc (ov Y) (ov Y) h_q)<|bE h fun y2 h_y2 h=>Rq Y (Zo (Zcu h_y2)<|.cons (ov Y) (.b Y) .nil)<|Rq Y (Z7 (ov Y) tI3 ZcR Y)<|Rm Y<|bE h fun q2 h_q2 h=>Rq Y (XY (ov Y) (ov Y) h_q2)<|bE h fun y3 h_y3 h=>Rq Y (Zo (Zcu h_y3)<|.cons (ov Y) (.b Y) .nil)<|Rq Y (Z7 (ov Y) tI3 ZcR Y)<|bE h fun x h_x h=>Rq Y (XV (ov Y) (ov Y) XT Y Y h_x)<|Rx Y (Zi (ov Y) (ov Y) (Zf Zar) Y Y Y (arB h_x) (Zb Y)<|arS h_x)<|bE h fun x2 h_x2 h=>Rq Y (XV (ov Y) (ov Y) XT Y Y h_x2)<|Rx Y (Zi (ov Y) (ov Y) (Zf Zar) Y Y Y (arB h_x2) (Zb Y)<|arS h_x2)<|Za<|K2 1 2 Y<|Tr<|Rq Y (Qe (ov Y) Y Y Y Qq (ZX<|Zq arL) arL (hns := (nsM fun _ => Y)))<|Rx Y (Zi (ov Y) (ov Y) (Zs Qq arL) Y Y Y (QL (Zq arL) arL) (Zb<|arC fun _ => Y)<|Qj<|Eq.trans arL<|Eq.symm arL)<|Za<|?_
 obtain rfl := rt h
 exact Zn (ZC Y (.one<|.agg Y Y Y Y Qq (ZX<|Zq arL) arL (pwB<|arD fun _ => Y) (hns := (nsM fun _ => Y))))
theorem Zhi {f : Vector Int 64} {r : (Vector Int 64)} (h : ZbX f = some r) :
 CSpec Tryz.prog gl0 101 [.agg (List.map C40 f.toList)] (.agg (List.map C40 r.toList)) := by
 unfold ZbX at h
 replace h := Z0 h
 refine So Tryz.func101 Y fun w0 A=>Tr<|Rx Y (ZjY 0 Y (ov Y) Qq arL)<|Rx Y (ZN (row := (List.map C40 (Vector.replicate 64 0).toList)) 1 Y Zby Y tZ_42)<|Za<|I1 (fun f2=>⟨[(1, .ptr 0 1 0 0), (2, .ptr 1 1 0 0)], [some ⟨42, [(List.map C40 f2.toList)]⟩, some ⟨42, [(List.map C40 (Vector.replicate 64 0).toList)]⟩]⟩) h (fun h=>?_) fun f2 h=>?_
 ·
  refine K2 1 2 Y<|Tr<|Ra Y<|Za<|Ze<|?_
  obtain ⟨r1, hl1, ho1⟩ := QI h
  refine L2 (fun f3 i=>⟨[(1, .ptr 0 1 0 0), (2, .ptr 1 1 0 0), (3, .int .i64 i)], [some ⟨42, [(List.map C40 f3.toList)]⟩, some ⟨42, [(List.map C40 (Vector.replicate 64 0).toList)]⟩]⟩) hl1 (ES [some 0, some 1]) fun n1 f3 i h=>?_
  unfold ZaW at h
  refine Zg<|Tr<|Rm Y<|R2 Zhx Y<|Za<|K4 1 2 3 5 Y<|If h Y (fun h=>?_) fun h=>?_
  ·
   exact Zh<|Zg<|Ze<|K3 1 2 3 Y<|Zt<|Rm Y<|Rm Y<|bE h fun x h_x h=>Rq Y (XV (ov Y) (ov Y) XT Y Y h_x)<|Rq Y (Zu (ov Y) Y Y Y Zar<|Qi<|Q9 (o := 0) (o' := (i.toNat * 1)) (Zq arL)<|Xa h_x)<|Rq Y (Z7 (ov Y) ZcR tI3 Y)<|bE h fun q h_q h=>Rq Y (XY (ov Y) (ov Y) h_q)<|bE h fun y h_y h=>Rq Y (Zo (Zcu h_y)<|.cons (ov Y) (.b Y) .nil)<|Rq Y (Z7 (ov Y) tI3 ZcR Y)<|bE h fun x2 h_x2 h=>Rq Y (XV (ov Y) (ov Y) XT Y Y h_x2)<|Rx Y (Zi (ov Y) (ov Y) (Zf Zar) Y Y Y (arB h_x2) (Zb Y)<|arS h_x2)<|Za<|K3 1 2 3 Y<|Zt<|Rm Y<|R2 ZM Y<|Ra Y<|Za<|⟨_, h, ES [some 0, some 1]⟩
  ·
   refine ZE<|?_
   replace h := lx h ▸ ho1
   exact ⟨_, h, ES [some 0, some 1]⟩
 ·
  refine Tr<|Rq Y (Qe (ov Y) Y Y Y Qq (ZX<|Zq arL) arL (hns := (nsM fun _ => Y)))<|bE h fun y2 h_y2 h=>Rq Y (Zo (Zgl h_y2)<|.cons (ov Y) (.aggB<|arD fun _ => Y) .nil)<|bE h fun y3 h_y3 h=>Rq Y (Zo (ZhI h_y3)<|.cons (ov Y) (.b Y) .nil)<|Rq Y (Z7 (ov Y) tI3 ZcR Y)<|bE h fun x3 h_x3 h=>Rq Y (XV (ov Y) (ov Y) XT Y Y h_x3)<|Rx Y (Zi (ov Y) (ov Y) (Zf Zar) Y Y Y (arB h_x3) (Zb Y)<|arS h_x3)<|Za<|K2 1 2 Y<|Tr<|Rq Y (Qe (ov Y) Y Y Y Qq (ZX<|Zq arL) arL (hns := (nsM fun _ => Y)))<|bE h fun y4 h_y4 h=>Rq Y (Zo (ZiR h_y4)<|.cons (ov Y) (.aggB<|arD fun _ => Y) .nil)<|bE h fun y5 h_y5 h=>Rq Y (Zo (Zcu h_y5)<|.cons (ov Y) (.b Y) .nil)<|Rq Y (Z7 (ov Y) tI3 ZcR Y)<|bE h fun x4 h_x4 h=>Rq Y (XV (ov Y) (ov Y) XT Y Y h_x4)<|Rx Y (Zi (ov Y) (ov Y) (Zf Zar) Y Y Y (arB h_x4) (Zb Y)<|arS h_x4)<|Za<|K2 1 2 Y<|Tr<|Rq Y (Qe (ov Y) Y Y Y Qq (ZX<|Zq arL) arL (hns := (nsM fun _ => Y)))<|bE h fun y6 h_y6 h=>Rq Y (Zo (ZgU h_y6)<|.cons (ov Y) (.aggB<|arD fun _ => Y) .nil)<|Rx Y (Zi (ov Y) (ov Y) (Zs Qq arL) Y Y Y (QL (Zq arL) arL) (Zb<|arC fun _ => Y)<|Qj<|Eq.trans arL<|Eq.symm arL)<|Za<|?_
  obtain rfl := rt h
  exact Zn (ZC Y (.one<|.agg Y Y Y Y Qq (ZX<|Zq arL) arL (pwB<|arD fun _ => Y) (hns := (nsM fun _ => Y))))
theorem Zi3 {number : Int} {data : List Int} {r : (Vector Int 64) × Int} (h : Zex number data = some r) :
 CSpec Tryz.prog gl0 61 [.int .i64 number, .sl 3 (List.map R3 data)] (.tuple [.agg (List.map C40 r.1.toList), .int .i64 r.2]) := by
 unfold Zex at h
 replace h := Z0 h
 refine So Tryz.func61 Y fun w0 A=>Tr<|Rx Y (ZN (row := (List.map C40 (Vector.replicate 64 0).toList)) 0 Y Zby Y tZ_42)<|Ra Y<|Za<|Zg<|K3 0 1 4 Y<|Tr<|Rm Y<|R2 ZO Y<|Rm Y<|Rq Y (.guarded ((decide (number < 0)) == false) Y Y Y Y fun h => Zc<|ov Y)<|Rq Y (.guarded ((decide (number < 0)) == false) Y Y Y Y fun h => ZfW (ow Y h)<|ov Y)<|Rq Y (ZdB (ov Y) fun hp=>ow Y<|gF hp)<|Za<|K4 0 1 4 14 Y<|If h Y (fun h=>?_) fun h=>?_
 ·
  refine K1 4 Y<|Tr<|R_q (.agg<|List.map C40 (#v[0, 0, 0, 0, 0, 0, 0, 0, 0, 0, 0, 0, 0, 0, 0, 0, 0, 0, 0, 0, 0, 0, 0, 0, 0, 0, 0, 0, 0, 0, 0, 0, 0, 0, 0, 0, 0, 0, 0, 0, 0, 0, 0, 0, 0, 0, 0, 0, 0, 0, 0, 0, 0, 0, 0, 0, 0, 0, 0, 0, 0, 0, 0, 0] : Vector Int 64).toList) Y (Jj (ys := [_, _, _, _, _, _, _, _, _, _, _, _, _, _, _, _, _, _, _, _, _, _, _, _, _, _, _, _, _, _, _, _, _, _, _, _, _, _, _, _, _, _, _, _, _, _, _, _, _, _, _, _, _, _, _, _, _, _, _, _, _, _, _, _]) XT Zby .nil Y)<|Rx Y (Zi (ov Y) (ov Y) (Zs Qq arL) Y Y Y (QL (Zq arL) arL) (Zb<|arC fun _ => Y)<|Qj<|Eq.trans arL<|Eq.symm arL)<|Ra Y<|Za<|?_
  obtain rfl := rt h
  exact Zn (ZC Y (.two (.agg Y Y Y Y Qq (ZX<|Zq arL) arL (pwB<|arD fun _ => Y) (hns := (nsM fun _ => Y)))<|rb Y))
 ·
  refine Zh<|Zg<|K3 0 1 4 Y<|Tr<|Rm Y<|Rl tZ_3 Q3 Y<|R2 Xp Y<|Za<|K4 0 1 4 18 Y<|If h Y (fun h=>?_) fun h=>?_
  ·
   refine K1 4 Y<|Tr<|R_q (.agg<|List.map C40 (#v[0, 0, 0, 0, 0, 0, 0, 0, 0, 0, 0, 0, 0, 0, 0, 0, 0, 0, 0, 0, 0, 0, 0, 0, 0, 0, 0, 0, 0, 0, 0, 0, 0, 0, 0, 0, 0, 0, 0, 0, 0, 0, 0, 0, 0, 0, 0, 0, 0, 0, 0, 0, 0, 0, 0, 0, 0, 0, 0, 0, 0, 0, 0, 0] : Vector Int 64).toList) Y (Jj (ys := [_, _, _, _, _, _, _, _, _, _, _, _, _, _, _, _, _, _, _, _, _, _, _, _, _, _, _, _, _, _, _, _, _, _, _, _, _, _, _, _, _, _, _, _, _, _, _, _, _, _, _, _, _, _, _, _, _, _, _, _, _, _, _, _]) XT Zby .nil Y)<|Rx Y (Zi (ov Y) (ov Y) (Zs Qq arL) Y Y Y (QL (Zq arL) arL) (Zb<|arC fun _ => Y)<|Qj<|Eq.trans arL<|Eq.symm arL)<|Ra Y<|Za<|?_
   obtain rfl := rt h
   exact Zn (ZC Y (.two (.agg Y Y Y Y Qq (ZX<|Zq arL) arL (pwB<|arD fun _ => Y) (hns := (nsM fun _ => Y)))<|rb Y))
  ·
   refine Zh<|K3 0 1 4 Y<|Tr<|R_q (.agg<|List.map C40 (#v[0, 0, 0, 0, 0, 0, 0, 0, 0, 0, 0, 0, 0, 0, 0, 0, 0, 0, 0, 0, 0, 0, 0, 0, 0, 0, 0, 0, 0, 0, 0, 0, 0, 0, 0, 0, 0, 0, 0, 0, 0, 0, 0, 0, 0, 0, 0, 0, 0, 0, 0, 0, 0, 0, 0, 0, 0, 0, 0, 0, 0, 0, 0, 0] : Vector Int 64).toList) Y (Jj (ys := [_, _, _, _, _, _, _, _, _, _, _, _, _, _, _, _, _, _, _, _, _, _, _, _, _, _, _, _, _, _, _, _, _, _, _, _, _, _, _, _, _, _, _, _, _, _, _, _, _, _, _, _, _, _, _, _, _, _, _, _, _, _, _, _]) XT Zby .nil Y)<|Rx Y (ZN (row := (List.map C40 (Vector.replicate 64 0).toList)) 1 Y Zby Y tZ_42)<|Rx Y (Zi (ov Y) (ov Y) (Zs Qq arL) Y Y Y (QL (Zq arL) arL) (Zb<|arC fun _ => Y)<|Qj<|Eq.trans arL<|Eq.symm arL)<|Za<|K4 0 1 4 6 Y<|Tr<|Rm Y<|bE h fun q h_q h=>Rq Y (XY (ov Y) (ov Y) h_q)<|Rq Y (Z7 (ov Y) tI3 ZcR Y)<|Rm Y<|bE h fun q2 h_q2 h=>Rq Y (Zcc (ov Y) (ov Y) h_q2)<|Rq Y (Z7 (ov Y) tI3 ZcR Y)<|bE h fun x h_x h=>Rq Y (XV (ov Y) (ov Y) XT Y Y h_x)<|Rx Y (Zi (ov Y) (ov Y) (Zf Zar) Y Y Y (arB h_x) (Zb Y)<|arS h_x)<|bE h fun x2 h_x2 h=>Rq Y (XV (ov Y) (ov Y) XT Y Y h_x2)<|Rx Y (Zi (ov Y) (ov Y) (Zf Zar) Y Y Y (arB h_x2) (Zb Y)<|arS h_x2)<|Za<|J1 (fun j => (.inr j)) (fun f=>⟨[(4, .ptr 0 1 0 0), (6, .ptr 1 1 0 0)], [some ⟨42, [(List.map C40 (Vector.replicate 64 0).toList)]⟩, some ⟨42, [(List.map C40 f.toList)]⟩]⟩) h (fun h=>?_) fun f h=>?_
   ·
    refine K3 1 4 6 Y<|Tr<|Rm Y<|Rl tZ_3 Q3 Y<|Rm Y<|Za<|Ze<|?_
    obtain ⟨r1, hl1, ho1⟩ := QI h
    refine L2 (fun f2 i=>⟨[(4, .ptr 0 1 0 0), (6, .ptr 1 1 0 0), (29, .sl 3 (List.map R3 data)), (30, .int .i64 (data.length : Int)), (31, .int .i64 i)], [some ⟨42, [(List.map C40 (Vector.replicate 64 0).toList)]⟩, some ⟨42, [(List.map C40 f2.toList)]⟩]⟩) hl1 (ES [some 0, some 1]) fun n1 f2 i h=>?_
    unfold Zc1 at h
    refine Tr<|R2 ZO Y<|Za<|Zg<|If h Y (fun h=>?_) fun h=>?_
    ·
     refine Zh<|Zg<|Ze<|K5 4 6 29 30 31 Y<|Tr<|Rm Y<|bE h fun x3 h_x3 h=>Rq Y (ZQ (ov Y) (ov Y) Q3 h_x3)<|Rq Y (Zd (ov Y) tS3 Y)<|Ra Y<|Ra Y<|Za<|Zg<|K7 4 6 7 8 29 30 31 Y<|Tr<|Rm Y<|R2 ZO Y<|Rm Y<|Rq Y (.guarded ((decide (x3 < 0)) == false) Y Y Y Y fun h => Zc<|ov Y)<|Rq Y (.guarded ((decide (x3 < 0)) == false) Y Y Y Y fun h => ZcN (ow Y h)<|ov Y)<|Rq Y (ZdB (ov Y) fun hp=>ow Y<|gF hp)<|Za<|K8 4 6 7 8 29 30 31 41 Y<|If h Y (fun h=>?_) fun h=>?_
     ·
      refine K1 4 Y<|Tr<|R_q (.agg<|List.map C40 (#v[0, 0, 0, 0, 0, 0, 0, 0, 0, 0, 0, 0, 0, 0, 0, 0, 0, 0, 0, 0, 0, 0, 0, 0, 0, 0, 0, 0, 0, 0, 0, 0, 0, 0, 0, 0, 0, 0, 0, 0, 0, 0, 0, 0, 0, 0, 0, 0, 0, 0, 0, 0, 0, 0, 0, 0, 0, 0, 0, 0, 0, 0, 0, 0] : Vector Int 64).toList) Y (Jj (ys := [_, _, _, _, _, _, _, _, _, _, _, _, _, _, _, _, _, _, _, _, _, _, _, _, _, _, _, _, _, _, _, _, _, _, _, _, _, _, _, _, _, _, _, _, _, _, _, _, _, _, _, _, _, _, _, _, _, _, _, _, _, _, _, _]) XT Zby .nil Y)<|Rx Y (Zi (ov Y) (ov Y) (Zs Qq arL) Y Y Y (QL (Zq arL) arL) (Zb<|arC fun _ => Y)<|Qj<|Eq.trans arL<|Eq.symm arL)<|Ra Y<|Za<|?_
      replace h := lx h ▸ ho1
      obtain rfl := rt h
      exact Zn (ZC Y (.two (.agg Y Y Y Y Qq (ZX<|Zq arL) arL (pwB<|arD fun _ => Y) (hns := (nsM fun _ => Y)))<|rb Y))
     ·
      exact Zh<|K7 4 6 7 8 29 30 31 Y<|Zt<|Rm Y<|R2 ZM Y<|Rm Y<|Rq Y (Z7 (ov Y) tI3 ZcR Y)<|bE h fun x4 h_x4 h=>Rq Y (XV (ov Y) (ov Y) XT Y Y h_x4)<|Rx Y (Zi (ov Y) (ov Y) (Zf Zar) Y Y Y (arB h_x4) (Zb Y)<|arS h_x4)<|Za<|K5 4 6 29 30 31 Y<|Zt<|R2 ZM Y<|Rm Y<|Za<|⟨_, h, ES [some 0, some 1]⟩
    ·
     refine ZE<|?_
     replace h := lx h ▸ ho1
     exact ⟨_, h, ES [some 0, some 1]⟩
   ·
    replace h := elr h
    replace h := t1i h
    refine Tr<|Rq Y (Qe (ov Y) Y Y Y Qq (ZX<|Zq arL) arL (hns := (nsM fun _ => Y)))<|bE h fun y h_y h=>Rq Y (Zo (Zhi h_y)<|.cons (ov Y) (.aggB<|arD fun _ => Y) .nil)<|Rx Y (Zi (ov Y) (ov Y) (Zs Qq arL) Y Y Y (QL (Zq arL) arL) (Zb<|arC fun _ => Y)<|Qj<|Eq.trans arL<|Eq.symm arL)<|Ra Y<|Za<|?_
    obtain rfl := rt h
    exact Zn (ZC Y (.two (.agg Y Y Y Y Qq (ZX<|Zq arL) arL (pwB<|arD fun _ => Y) (hns := (nsM fun _ => Y)))<|rb Y))
theorem ZfS {sectors : Int} {slots : Int} {limit : Int} {r : api_Memory × Int} (h : JI sectors slots limit = some r) :
 CSpec Tryz.prog gl0 10 [.int .i64 sectors, .int .i64 slots, .int .i64 limit] (.tuple [.agg [.int .i64 r.1.Slots, .int .i64 r.1.Limit, .sl 49 (List.map R49 r.1.Sectors), .sl 3 (List.map R3 r.1.Wear), .sl 4 (List.map R4 r.1.Bad)], .int .i64 r.2]) := by
 unfold JI at h
 replace h := Z0 h
 refine So Tryz.func10 Y fun w0 A=>Tr<|Rx Y (ZN (row := [_, _, _, _, _]) 0 Y Zdk Y tZ_26)<|Ra Y<|Za<|Zg<|K4 0 1 2 6 Y<|Tr<|Rm Y<|bE h fun y h_y h=>Rq Y (Zo (Z9 h_y)<|.cons (ov Y) (.b Y)<|.cons (ov Y) (.b Y)<|.cons (ov Y) (.b Y) .nil)<|R1 X2 Y<|Rm Y<|Rq Y (.guarded ((!y) == false) Y Y Y Y fun h => Zc<|ov Y)<|bE h fun y2 h_y2 h=>Rq Y (.guarded ((!y) == false) Y Y Y Y fun h => Zo (Z9<|gdT h_y2 h)<|.cons (ow Y h) (.b Y)<|.cons (ov Y) (.b Y)<|.cons (ov Y) (.b Y) .nil)<|Rq Y (.guarded ((!y) == false) Y Y Y Y fun h => X2<|ow Y h)<|Rq Y (ZdB (ov Y) fun hp=>ow Y<|gF hp)<|Rm Y<|Rq Y (.guarded (((!y) || (!y2)) == false) Y Y Y Y fun h => Zc<|ov Y)<|bE h fun y3 h_y3 h=>Rq Y (.guarded (((!y) || (!y2)) == false) Y Y Y Y fun h => Zo (Z9<|gdT h_y3 h)<|.cons (ow Y h) (.b Y)<|.cons (ov Y) (.b Y)<|.cons (ov Y) (.b Y) .nil)<|Rq Y (.guarded (((!y) || (!y2)) == false) Y Y Y Y fun h => X2<|ow Y h)<|Rq Y (ZdB (ov Y) fun hp=>ow Y<|gF hp)<|Za<|K5 0 1 2 6 21 Y<|If h Y (fun h=>?_) fun h=>?_
 ·
  refine K1 6 Y<|Tr<|Rq Y (Xw (ys := [_, _, _, _, _]) Zho Zhl Zdk .nil Y)<|Rx Y (Zi (ov Y) (ov Y) (Zs Jg Y) Y Y Y (Nat.le_of_ble_eq_true Y) (Zb Y) Y)<|Ra Y<|Za<|?_
  obtain rfl := rt h
  exact Zn (ZC Y (.two (.agg Y Y Y Y Jg Y Y<|.cons (Dat.view<|.b Y)<|.cons (Dat.view<|.b Y)<|.cons (View.nils 49)<|.cons (View.nils 3)<|.cons (View.nils 4) .nil)<|rb Y))
 ·
  refine Zh<|I2 (fun Wear Bad=>⟨[(0, .int .i64 sectors), (1, .int .i64 slots), (6, .ptr 0 1 0 0), (8, .ptr 1 1 0 0)], [some ⟨26, [[.int .i64 0, .int .i64 0, .nils, .nils, .nils]]⟩, some ⟨26, [[.int .i64 slots, .int .i64 limit, .nils, .own 2 Wear.length, .own 3 Bad.length]]⟩, some ⟨3, List.map R3 Wear⟩, some ⟨4, List.map R4 Bad⟩]⟩) h (fun h=>?_) fun Wear Bad h=>?_
  ·
   refine K4 0 1 2 6 Y<|Qp (cw := md0) (by kernel_rfl)<|Z6 0 _ Y (by kernel_rfl) Y Y (fun hp'=>Zc<|ov Y)<|Z6 1 _ Y (by kernel_rfl) Y Y (fun hp'=>Zc<|ov Y)<|Z6 2 _ Y (by kernel_rfl) Y Y (fun hp'=>Zc<|ov Y)<|Z6 4 _ Y (by kernel_rfl) Y Y (fun hp'=>Zc<|ov Y)<|bE h fun l h_l h=>bE h fun l2 h_l2 h=>ZjC [3, 5, 7] (by kernel_rfl)<|.w Y Y Y (fun _=>Ext.app) (fun h=>by cases h) (Zaj [none] (r := 1) (f := R3) (z0 := 0) Y (ov Y) (ov Y) Q3 Y tZ3 Y Y h_l) ?_<|.w Y Y Y (fun _=>Ext.app) (fun h=>by cases h) (Zaj [none] (r := 1) (f := R4) (z0 := false) Y (ov Y) (ov Y) ZhP Y tZ4 Y Y h_l2) ?_<|.w Y Y Y (fun _=>Ext.app) (fun h=>by cases h) (ZN (row := [_, _, _, _, _]) 1 Y Zdk Y tZ_26) ?_ .nil
   ·
    refine ZjN 5 7 Y Y (by kernel_rfl) Y Y Y Y (fun _=>Ext.app) (fun _=>Ext.app) (fun h=>by cases h) (fun h=>by cases h) (Zaj [none] (r := 2) (f := R4) (z0 := false) Y (ov Y) (ov Y) ZhP Y tZ4 Y Y h_l2) (ZN (row := [_, _, _, _, _]) 2 Y Zdk Y tZ_26) ?_ ?_
    ·
     exact Z6 6 _ Y (by kernel_rfl) Y Y (fun hp'=>Xw (ys := [_, _, _, _, _]) Zho Zhl Zdk (.cons (cvs (ov Y)<|Zm Y)<|.cons (cvs (ov Y)<|Zm Y)<|.cons (cvs (ov Y)<|Zm Y)<|.cons (cvs (ov Y)<|Zm Y) .nil) Y)<|Jt 7 _ _ Y (by kernel_rfl) Y Y (fun _=>Ext.app) (fun h=>by cases h) (ZN (row := [_, _, _, _, _]) 3 Y Zdk Y tZ_26)<|Do 8 Y (Zi (ov Y) (ov Y) (Zs Jg Y) Y Y Y (Nat.le_of_ble_eq_true Y) (Zb Y) Y)<|Dd<|⟨_, h, ES [some 0, some 3, some 1, some 2]⟩
    ·
     exact Jt 5 _ _ Y (by kernel_rfl) Y Y (fun _=>Ext.app) (fun h=>by cases h) (Zaj [none] (r := 3) (f := R4) (z0 := false) Y (ov Y) (ov Y) ZhP Y tZ4 Y Y h_l2)<|Dq 6 Y (Xw (ys := [_, _, _, _, _]) Zho Zhl Zdk (.cons (cvs (ov Y)<|Zm Y)<|.cons (cvs (ov Y)<|Zm Y)<|.cons (cvs (ov Y)<|Zm Y)<|.cons (cvs (ov Y)<|Zm Y) .nil) Y)<|Do 8 Y (Zi (ov Y) (ov Y) (Zs Jg Y) Y Y Y (Nat.le_of_ble_eq_true Y) (Zb Y) Y)<|Dd<|⟨_, h, ES [some 0, some 2, some 1, some 3]⟩
   ·
    refine ZjN 3 7 Y Y (by kernel_rfl) Y Y Y Y (fun _=>Ext.app) (fun _=>Ext.app) (fun h=>by cases h) (fun h=>by cases h) (Zaj [none] (r := 2) (f := R3) (z0 := 0) Y (ov Y) (ov Y) Q3 Y tZ3 Y Y h_l) (ZN (row := [_, _, _, _, _]) 2 Y Zdk Y tZ_26) ?_ ?_
    ·
     exact Z6 6 _ Y (by kernel_rfl) Y Y (fun hp'=>Xw (ys := [_, _, _, _, _]) Zho Zhl Zdk (.cons (cvs (ov Y)<|Zm Y)<|.cons (cvs (ov Y)<|Zm Y)<|.cons (cvs (ov Y)<|Zm Y)<|.cons (cvs (ov Y)<|Zm Y) .nil) Y)<|Jt 7 _ _ Y (by kernel_rfl) Y Y (fun _=>Ext.app) (fun h=>by cases h) (ZN (row := [_, _, _, _, _]) 3 Y Zdk Y tZ_26)<|Do 8 Y (Zi (ov Y) (ov Y) (Zs Jg Y) Y Y Y (Nat.le_of_ble_eq_true Y) (Zb Y) Y)<|Dd<|⟨_, h, ES [some 0, some 3, some 2, some 1]⟩
    ·
     exact Jt 3 _ _ Y (by kernel_rfl) Y Y (fun _=>Ext.app) (fun h=>by cases h) (Zaj [none] (r := 3) (f := R3) (z0 := 0) Y (ov Y) (ov Y) Q3 Y tZ3 Y Y h_l)<|Dq 6 Y (Xw (ys := [_, _, _, _, _]) Zho Zhl Zdk (.cons (cvs (ov Y)<|Zm Y)<|.cons (cvs (ov Y)<|Zm Y)<|.cons (cvs (ov Y)<|Zm Y)<|.cons (cvs (ov Y)<|Zm Y) .nil) Y)<|Do 8 Y (Zi (ov Y) (ov Y) (Zs Jg Y) Y Y Y (Nat.le_of_ble_eq_true Y) (Zb Y) Y)<|Dd<|⟨_, h, ES [some 0, some 2, some 3, some 1]⟩
   ·
    refine ZjN 3 5 Y Y (by kernel_rfl) Y Y Y Y (fun _=>Ext.app) (fun _=>Ext.app) (fun h=>by cases h) (fun h=>by cases h) (Zaj [none] (r := 2) (f := R3) (z0 := 0) Y (ov Y) (ov Y) Q3 Y tZ3 Y Y h_l) (Zaj [none] (r := 2) (f := R4) (z0 := false) Y (ov Y) (ov Y) ZhP Y tZ4 Y Y h_l2) ?_ ?_
    ·
     exact Jt 5 _ _ Y (by kernel_rfl) Y Y (fun _=>Ext.app) (fun h=>by cases h) (Zaj [none] (r := 3) (f := R4) (z0 := false) Y (ov Y) (ov Y) ZhP Y tZ4 Y Y h_l2)<|Dq 6 Y (Xw (ys := [_, _, _, _, _]) Zho Zhl Zdk (.cons (cvs (ov Y)<|Zm Y)<|.cons (cvs (ov Y)<|Zm Y)<|.cons (cvs (ov Y)<|Zm Y)<|.cons (cvs (ov Y)<|Zm Y) .nil) Y)<|Do 8 Y (Zi (ov Y) (ov Y) (Zs Jg Y) Y Y Y (Nat.le_of_ble_eq_true Y) (Zb Y) Y)<|Dd<|⟨_, h, ES [some 0, some 1, some 2, some 3]⟩
    ·
     exact Jt 3 _ _ Y (by kernel_rfl) Y Y (fun _=>Ext.app) (fun h=>by cases h) (Zaj [none] (r := 3) (f := R3) (z0 := 0) Y (ov Y) (ov Y) Q3 Y tZ3 Y Y h_l)<|Dq 6 Y (Xw (ys := [_, _, _, _, _]) Zho Zhl Zdk (.cons (cvs (ov Y)<|Zm Y)<|.cons (cvs (ov Y)<|Zm Y)<|.cons (cvs (ov Y)<|Zm Y)<|.cons (cvs (ov Y)<|Zm Y) .nil) Y)<|Do 8 Y (Zi (ov Y) (ov Y) (Zs Jg Y) Y Y Y (Nat.le_of_ble_eq_true Y) (Zb Y) Y)<|Dd<|⟨_, h, ES [some 0, some 1, some 3, some 2]⟩
  ·
   refine I1 (fun Sectors=>⟨[(6, .ptr 0 1 0 0), (8, .ptr 1 1 0 0)], [some ⟨26, [[.int .i64 0, .int .i64 0, .nils, .nils, .nils]]⟩, some ⟨26, [[.int .i64 slots, .int .i64 limit, .own 2 Sectors.length, .own 3 Wear.length, .own 4 Bad.length]]⟩, some ⟨49, List.map O49 Sectors⟩, some ⟨3, List.map R3 Wear⟩, some ⟨4, List.map R4 Bad⟩]⟩) h (fun h=>?_) fun Sectors h=>?_
   ·
    refine Tr<|Rm Y<|Rm Y<|Za<|Ze<|?_
    obtain ⟨r1, hl1, ho1⟩ := QI h
    refine L2 (fun Sectors2 i=>⟨[(1, .int .i64 slots), (6, .ptr 0 1 0 0), (8, .ptr 1 1 0 0), (30, .int .i64 sectors), (31, .int .i64 i)], [some ⟨26, [[.int .i64 0, .int .i64 0, .nils, .nils, .nils]]⟩, some ⟨26, [[.int .i64 slots, .int .i64 limit, .own 2 Sectors2.length, .own 3 Wear.length, .own 4 Bad.length]]⟩, some ⟨49, List.map O49 Sectors2⟩, some ⟨3, List.map R3 Wear⟩, some ⟨4, List.map R4 Bad⟩]⟩) hl1 (ES [some 0, some 1, none, some 2, some 3]) fun n1 Sectors2 i h=>?_
    unfold Js at h
    refine Tr<|R2 ZO Y<|Za<|Zg<|If h Y (fun h=>?_) fun h=>?_
    ·
     refine Zh<|I1 (fun Sectors3=>⟨[(1, .int .i64 slots), (6, .ptr 0 1 0 0), (8, .ptr 1 1 0 0), (30, .int .i64 sectors), (31, .int .i64 i)], [some ⟨26, [[.int .i64 0, .int .i64 0, .nils, .nils, .nils]]⟩, some ⟨26, [[.int .i64 slots, .int .i64 limit, .own 2 Sectors3.length, .own 3 Wear.length, .own 4 Bad.length]]⟩, some ⟨49, List.map O49 Sectors3⟩, some ⟨3, List.map R3 Wear⟩, some ⟨4, List.map R4 Bad⟩]⟩) h (fun h=>?_) fun Sectors3 h=>?_
     ·
      refine Ze<|K5 1 6 8 30 31 Y<|Qp (cw := ⟨true, false, [], [], []⟩) (by kernel_rfl)<|Z6 3 _ Y (by kernel_rfl) Y Y (fun hp'=>Zc<|ov Y)<|bE h fun y4 h_y4 h=>ZjC [0, 2, 4] (by kernel_rfl)<|.q Y Y Y (Zk (ov Y) Y Y ZG) ?_<|.w Y Y Y (fun h=>by cases h) (fun h=>by cases h) (XG<|XC Z5 (.cons (cvs (ov Y)<|Zm Y) Y (.cons (.b Y) .nil) .nil) Y Y) ?_<|.w Y Y Y (fun h=>by cases h) (fun h=>by cases h) (XG<|Zo (ZP h_y4)<|.cons (ov Y) (.b Y) .nil) ?_ .nil
      ·
       refine ZjC [1, 2, 4] (by kernel_rfl)<|.q Y Y Y (Zu (ov Y) Y Y Y Qd Y) ?_<|.w Y Y Y (fun h=>by cases h) (fun h=>by cases h) (XG<|XC Z5 (.cons (cvs (ov Y)<|Zm Y) Y (.cons (.b Y) .nil) .nil) Y Y) ?_<|.w Y Y Y (fun h=>by cases h) (fun h=>by cases h) (XG<|Zo (ZP h_y4)<|.cons (ov Y) (.b Y) .nil) ?_ .nil
       ·
        refine ZjN 2 4 Y Y (by kernel_rfl) Y Y Y Y (fun h=>by cases h) (fun h=>by cases h) (fun h=>by cases h) (fun h=>by cases h) (XG<|XC Z5 (.cons (cvs (ov Y)<|Zm Y) Y (.cons (.b Y) .nil) .nil) Y Y) (XG<|Zo (ZP h_y4)<|.cons (ov Y) (.b Y) .nil) ?_ ?_
        ·
         exact Do 4 Y (XG<|Zo (ZP h_y4)<|.cons (ov Y) (.b Y) .nil)<|bE h fun y5 h_y5 h=>Do 5 Y (ZF [] (Zj h_y5) (.cons (ov Y) (.dat Y)<|.cons (ov Y) (.dat Y) .nil) .nil Y (.keep Y Y<|.keep Y Y<|.keep Y Y<|.keep Y Y<|.keep Y Y<|.lent 0 (.inr ⟨Nat.le_of_ble_eq_true Y, Y⟩) Y (roM D5) .nil) Y Y<|.own _<|.inr ⟨Nat.le_of_ble_eq_true Y, Y⟩)<|Do 6 Y (Qo (r := 6) Y Z1 (.cons (cvs (ov Y)<|Zm Y) Y .nil) Y Y)<|bE h fun l3 h_l3 h=>Do 7 Y (ZD (f := O49) (ov Y) (ZU (o := ⟨49, [[.own 5 y5.length]]⟩) (ov Y) Y Y tZ_49) Z1 Y Y (Zb Y) Y h_l3)<|Dq 8 Y (Zk (ov Y) Y Y ZG)<|Do 9 Y (Zi (ov Y) (ov Y) (Zf Qd) Y Y Y (Nat.le_of_ble_eq_true Y) (Zb Y) Y)<|ZZ (by kernel_rfl) (Ent.trans (Ent.absorbH (r := 2) (j := 0) (q := 5) Y (Zp h_l3) Y Y (List.length_map ..) Y)<|Ent.closeS (r := 2) Y (Zp h_l3) Y)<|⟨_, h, ES [some 0, some 1, some 2, some 3, some 4] (hhp := .cons Y (ro1 (by exact tZ_26.symm)<|rld Y)<|.cons Y (ro1 (by exact tZ_26.symm)<|rlc (.dat Y)<|rlc (.dat Y)<|rlc (.own _ Y)<|rlc (.own _ Y)<|rlc (.own _ Y) rln)<|.cons Y (roO Xn)<|.cons Y (roM D3)<|.cons Y (roM D4) .nil)⟩
        ·
         exact Jt 2 (.sl 5<|List.map R5 ([255] : List Int)) _ Y (by kernel_rfl) Y Y (fun h=>by cases h) (fun h=>by cases h) (XG<|XC Z5 (.cons (cvs (ov Y)<|Zm Y) Y (.cons (.b Y) .nil) .nil) Y Y)<|bE h fun y5 h_y5 h=>Do 5 Y (ZF [] (Zj h_y5) (.cons (ov Y) (.dat Y)<|.cons (ov Y) (.dat Y) .nil) .nil Y (.keep Y Y<|.keep Y Y<|.keep Y Y<|.keep Y Y<|.keep Y Y<|.lent 0 (.inr ⟨Nat.le_of_ble_eq_true Y, Y⟩) Y (roM D5) .nil) Y Y<|.own _<|.inr ⟨Nat.le_of_ble_eq_true Y, Y⟩)<|Do 6 Y (Qo (r := 6) Y Z1 (.cons (cvs (ov Y)<|Zm Y) Y .nil) Y Y)<|bE h fun l3 h_l3 h=>Do 7 Y (ZD (f := O49) (ov Y) (ZU (o := ⟨49, [[.own 5 y5.length]]⟩) (ov Y) Y Y tZ_49) Z1 Y Y (Zb Y) Y h_l3)<|Dq 8 Y (Zk (ov Y) Y Y ZG)<|Do 9 Y (Zi (ov Y) (ov Y) (Zf Qd) Y Y Y (Nat.le_of_ble_eq_true Y) (Zb Y) Y)<|ZZ (by kernel_rfl) (Ent.trans (Ent.absorbH (r := 2) (j := 0) (q := 5) Y (Zp h_l3) Y Y (List.length_map ..) Y)<|Ent.closeS (r := 2) Y (Zp h_l3) Y)<|⟨_, h, ES [some 0, some 1, some 2, some 3, some 4] (hhp := .cons Y (ro1 (by exact tZ_26.symm)<|rld Y)<|.cons Y (ro1 (by exact tZ_26.symm)<|rlc (.dat Y)<|rlc (.dat Y)<|rlc (.own _ Y)<|rlc (.own _ Y)<|rlc (.own _ Y) rln)<|.cons Y (roO Xn)<|.cons Y (roM D3)<|.cons Y (roM D4) .nil)⟩
       ·
        refine Dw 1 4 Y (Zu (ov Y) Y Y Y Qd Y) (XG<|Zo (ZP h_y4)<|.cons (ov Y) (.b Y) .nil) ?_ ?_
        ·
         exact Do 4 Y (XG<|Zo (ZP h_y4)<|.cons (ov Y) (.b Y) .nil)<|bE h fun y5 h_y5 h=>Do 5 Y (ZF [] (Zj h_y5) (.cons (ov Y) (.dat Y)<|.cons (ov Y) (.dat Y) .nil) .nil Y (.keep Y Y<|.keep Y Y<|.keep Y Y<|.keep Y Y<|.keep Y Y<|.lent 0 (.inr ⟨Nat.le_of_ble_eq_true Y, Y⟩) Y (roM D5) .nil) Y Y<|.own _<|.inr ⟨Nat.le_of_ble_eq_true Y, Y⟩)<|Do 6 Y (Qo (r := 6) Y Z1 (.cons (cvs (ov Y)<|Zm Y) Y .nil) Y Y)<|bE h fun l3 h_l3 h=>Do 7 Y (ZD (f := O49) (ov Y) (ZU (o := ⟨49, [[.own 5 y5.length]]⟩) (ov Y) Y Y tZ_49) Z1 Y Y (Zb Y) Y h_l3)<|Dq 8 Y (Zk (ov Y) Y Y ZG)<|Do 9 Y (Zi (ov Y) (ov Y) (Zf Qd) Y Y Y (Nat.le_of_ble_eq_true Y) (Zb Y) Y)<|ZZ (by kernel_rfl) (Ent.trans (Ent.absorbH (r := 2) (j := 0) (q := 5) Y (Zp h_l3) Y Y (List.length_map ..) Y)<|Ent.closeS (r := 2) Y (Zp h_l3) Y)<|⟨_, h, ES [some 0, some 1, some 2, some 3, some 4] (hhp := .cons Y (ro1 (by exact tZ_26.symm)<|rld Y)<|.cons Y (ro1 (by exact tZ_26.symm)<|rlc (.dat Y)<|rlc (.dat Y)<|rlc (.own _ Y)<|rlc (.own _ Y)<|rlc (.own _ Y) rln)<|.cons Y (roO Xn)<|.cons Y (roM D3)<|.cons Y (roM D4) .nil)⟩
        ·
         refine bE h fun y5 h_y5 h=>Dw 1 5 Y (Zu (ov Y) Y Y Y Qd Y) (ZF [] (Zj h_y5) (.cons (ov Y) (.dat Y)<|.cons (ov Y) (.dat Y) .nil) .nil Y (.keep Y Y<|.keep Y Y<|.keep Y Y<|.keep Y Y<|.keep Y Y<|.lent 0 (.inr ⟨Nat.le_of_ble_eq_true Y, Y⟩) Y (roM D5) .nil) Y Y<|.own _<|.inr ⟨Nat.le_of_ble_eq_true Y, Y⟩) ?_ ?_
         ·
          exact Do 5 Y (ZF [] (Zj h_y5) (.cons (ov Y) (.dat Y)<|.cons (ov Y) (.dat Y) .nil) .nil Y (.keep Y Y<|.keep Y Y<|.keep Y Y<|.keep Y Y<|.keep Y Y<|.lent 0 (.inr ⟨Nat.le_of_ble_eq_true Y, Y⟩) Y (roM D5) .nil) Y Y<|.own _<|.inr ⟨Nat.le_of_ble_eq_true Y, Y⟩)<|Do 6 Y (Qo (r := 6) Y Z1 (.cons (cvs (ov Y)<|Zm Y) Y .nil) Y Y)<|bE h fun l3 h_l3 h=>Do 7 Y (ZD (f := O49) (ov Y) (ZU (o := ⟨49, [[.own 5 y5.length]]⟩) (ov Y) Y Y tZ_49) Z1 Y Y (Zb Y) Y h_l3)<|Dq 8 Y (Zk (ov Y) Y Y ZG)<|Do 9 Y (Zi (ov Y) (ov Y) (Zf Qd) Y Y Y (Nat.le_of_ble_eq_true Y) (Zb Y) Y)<|ZZ (by kernel_rfl) (Ent.trans (Ent.absorbH (r := 2) (j := 0) (q := 5) Y (Zp h_l3) Y Y (List.length_map ..) Y)<|Ent.closeS (r := 2) Y (Zp h_l3) Y)<|⟨_, h, ES [some 0, some 1, some 2, some 3, some 4] (hhp := .cons Y (ro1 (by exact tZ_26.symm)<|rld Y)<|.cons Y (ro1 (by exact tZ_26.symm)<|rlc (.dat Y)<|rlc (.dat Y)<|rlc (.own _ Y)<|rlc (.own _ Y)<|rlc (.own _ Y) rln)<|.cons Y (roO Xn)<|.cons Y (roM D3)<|.cons Y (roM D4) .nil)⟩
         ·
          refine Dw 1 6 Y (Zu (ov Y) Y Y Y Qd Y) (Qo (r := 6) Y Z1 (.cons (cvs (ov Y)<|Zm Y) Y .nil) Y Y) ?_ ?_
          ·
           exact Do 6 Y (Qo (r := 6) Y Z1 (.cons (cvs (ov Y)<|Zm Y) Y .nil) Y Y)<|bE h fun l3 h_l3 h=>Do 7 Y (ZD (f := O49) (ov Y) (ZU (o := ⟨49, [[.own 5 y5.length]]⟩) (ov Y) Y Y tZ_49) Z1 Y Y (Zb Y) Y h_l3)<|Dq 8 Y (Zk (ov Y) Y Y ZG)<|Do 9 Y (Zi (ov Y) (ov Y) (Zf Qd) Y Y Y (Nat.le_of_ble_eq_true Y) (Zb Y) Y)<|ZZ (by kernel_rfl) (Ent.trans (Ent.absorbH (r := 2) (j := 0) (q := 5) Y (Zp h_l3) Y Y (List.length_map ..) Y)<|Ent.closeS (r := 2) Y (Zp h_l3) Y)<|⟨_, h, ES [some 0, some 1, some 2, some 3, some 4] (hhp := .cons Y (ro1 (by exact tZ_26.symm)<|rld Y)<|.cons Y (ro1 (by exact tZ_26.symm)<|rlc (.dat Y)<|rlc (.dat Y)<|rlc (.own _ Y)<|rlc (.own _ Y)<|rlc (.own _ Y) rln)<|.cons Y (roO Xn)<|.cons Y (roM D3)<|.cons Y (roM D4) .nil)⟩
          ·
           exact Dq 1 Y (Zu (ov Y) Y Y Y Qd Y)<|bE h fun l3 h_l3 h=>Do 7 Y (ZD (f := O49) (ov Y) (ZU (o := ⟨49, [[.own 5 y5.length]]⟩) (ov Y) Y Y tZ_49) Z1 Y Y (Zb Y) Y h_l3)<|Dq 8 Y (Zk (ov Y) Y Y ZG)<|Do 9 Y (Zi (ov Y) (ov Y) (Zf Qd) Y Y Y (Nat.le_of_ble_eq_true Y) (Zb Y) Y)<|ZZ (by kernel_rfl) (Ent.trans (Ent.absorbH (r := 2) (j := 0) (q := 5) Y (Zp h_l3) Y Y (List.length_map ..) Y)<|Ent.closeS (r := 2) Y (Zp h_l3) Y)<|⟨_, h, ES [some 0, some 1, some 2, some 3, some 4] (hhp := .cons Y (ro1 (by exact tZ_26.symm)<|rld Y)<|.cons Y (ro1 (by exact tZ_26.symm)<|rlc (.dat Y)<|rlc (.dat Y)<|rlc (.own _ Y)<|rlc (.own _ Y)<|rlc (.own _ Y) rln)<|.cons Y (roO Xn)<|.cons Y (roM D3)<|.cons Y (roM D4) .nil)⟩
       ·
        refine Dw 1 2 Y (Zu (ov Y) Y Y Y Qd Y) (XG<|XC Z5 (.cons (cvs (ov Y)<|Zm Y) Y (.cons (.b Y) .nil) .nil) Y Y) ?_ ?_
        ·
         exact Jt 2 (.sl 5<|List.map R5 ([255] : List Int)) _ Y (by kernel_rfl) Y Y (fun h=>by cases h) (fun h=>by cases h) (XG<|XC Z5 (.cons (cvs (ov Y)<|Zm Y) Y (.cons (.b Y) .nil) .nil) Y Y)<|bE h fun y5 h_y5 h=>Do 5 Y (ZF [] (Zj h_y5) (.cons (ov Y) (.dat Y)<|.cons (ov Y) (.dat Y) .nil) .nil Y (.keep Y Y<|.keep Y Y<|.keep Y Y<|.keep Y Y<|.keep Y Y<|.lent 0 (.inr ⟨Nat.le_of_ble_eq_true Y, Y⟩) Y (roM D5) .nil) Y Y<|.own _<|.inr ⟨Nat.le_of_ble_eq_true Y, Y⟩)<|Do 6 Y (Qo (r := 6) Y Z1 (.cons (cvs (ov Y)<|Zm Y) Y .nil) Y Y)<|bE h fun l3 h_l3 h=>Do 7 Y (ZD (f := O49) (ov Y) (ZU (o := ⟨49, [[.own 5 y5.length]]⟩) (ov Y) Y Y tZ_49) Z1 Y Y (Zb Y) Y h_l3)<|Dq 8 Y (Zk (ov Y) Y Y ZG)<|Do 9 Y (Zi (ov Y) (ov Y) (Zf Qd) Y Y Y (Nat.le_of_ble_eq_true Y) (Zb Y) Y)<|ZZ (by kernel_rfl) (Ent.trans (Ent.absorbH (r := 2) (j := 0) (q := 5) Y (Zp h_l3) Y Y (List.length_map ..) Y)<|Ent.closeS (r := 2) Y (Zp h_l3) Y)<|⟨_, h, ES [some 0, some 1, some 2, some 3, some 4] (hhp := .cons Y (ro1 (by exact tZ_26.symm)<|rld Y)<|.cons Y (ro1 (by exact tZ_26.symm)<|rlc (.dat Y)<|rlc (.dat Y)<|rlc (.own _ Y)<|rlc (.own _ Y)<|rlc (.own _ Y) rln)<|.cons Y (roO Xn)<|.cons Y (roM D3)<|.cons Y (roM D4) .nil)⟩
        ·
         refine bE h fun y5 h_y5 h=>Dw 1 5 Y (Zu (ov Y) Y Y Y Qd Y) (ZF [] (Zj h_y5) (.cons (ov Y) (.dat Y)<|.cons (ov Y) (.dat Y) .nil) .nil Y (.keep Y Y<|.keep Y Y<|.keep Y Y<|.keep Y Y<|.keep Y Y<|.lent 0 (.inr ⟨Nat.le_of_ble_eq_true Y, Y⟩) Y (roM D5) .nil) Y Y<|.own _<|.inr ⟨Nat.le_of_ble_eq_true Y, Y⟩) ?_ ?_
         ·
          exact Do 5 Y (ZF [] (Zj h_y5) (.cons (ov Y) (.dat Y)<|.cons (ov Y) (.dat Y) .nil) .nil Y (.keep Y Y<|.keep Y Y<|.keep Y Y<|.keep Y Y<|.keep Y Y<|.lent 0 (.inr ⟨Nat.le_of_ble_eq_true Y, Y⟩) Y (roM D5) .nil) Y Y<|.own _<|.inr ⟨Nat.le_of_ble_eq_true Y, Y⟩)<|Do 6 Y (Qo (r := 6) Y Z1 (.cons (cvs (ov Y)<|Zm Y) Y .nil) Y Y)<|bE h fun l3 h_l3 h=>Do 7 Y (ZD (f := O49) (ov Y) (ZU (o := ⟨49, [[.own 5 y5.length]]⟩) (ov Y) Y Y tZ_49) Z1 Y Y (Zb Y) Y h_l3)<|Dq 8 Y (Zk (ov Y) Y Y ZG)<|Do 9 Y (Zi (ov Y) (ov Y) (Zf Qd) Y Y Y (Nat.le_of_ble_eq_true Y) (Zb Y) Y)<|ZZ (by kernel_rfl) (Ent.trans (Ent.absorbH (r := 2) (j := 0) (q := 5) Y (Zp h_l3) Y Y (List.length_map ..) Y)<|Ent.closeS (r := 2) Y (Zp h_l3) Y)<|⟨_, h, ES [some 0, some 1, some 2, some 3, some 4] (hhp := .cons Y (ro1 (by exact tZ_26.symm)<|rld Y)<|.cons Y (ro1 (by exact tZ_26.symm)<|rlc (.dat Y)<|rlc (.dat Y)<|rlc (.own _ Y)<|rlc (.own _ Y)<|rlc (.own _ Y) rln)<|.cons Y (roO Xn)<|.cons Y (roM D3)<|.cons Y (roM D4) .nil)⟩
         ·
          refine Dw 1 6 Y (Zu (ov Y) Y Y Y Qd Y) (Qo (r := 6) Y Z1 (.cons (cvs (ov Y)<|Zm Y) Y .nil) Y Y) ?_ ?_
          ·
           exact Do 6 Y (Qo (r := 6) Y Z1 (.cons (cvs (ov Y)<|Zm Y) Y .nil) Y Y)<|bE h fun l3 h_l3 h=>Do 7 Y (ZD (f := O49) (ov Y) (ZU (o := ⟨49, [[.own 5 y5.length]]⟩) (ov Y) Y Y tZ_49) Z1 Y Y (Zb Y) Y h_l3)<|Dq 8 Y (Zk (ov Y) Y Y ZG)<|Do 9 Y (Zi (ov Y) (ov Y) (Zf Qd) Y Y Y (Nat.le_of_ble_eq_true Y) (Zb Y) Y)<|ZZ (by kernel_rfl) (Ent.trans (Ent.absorbH (r := 2) (j := 0) (q := 5) Y (Zp h_l3) Y Y (List.length_map ..) Y)<|Ent.closeS (r := 2) Y (Zp h_l3) Y)<|⟨_, h, ES [some 0, some 1, some 2, some 3, some 4] (hhp := .cons Y (ro1 (by exact tZ_26.symm)<|rld Y)<|.cons Y (ro1 (by exact tZ_26.symm)<|rlc (.dat Y)<|rlc (.dat Y)<|rlc (.own _ Y)<|rlc (.own _ Y)<|rlc (.own _ Y) rln)<|.cons Y (roO Xn)<|.cons Y (roM D3)<|.cons Y (roM D4) .nil)⟩
          ·
           exact Dq 1 Y (Zu (ov Y) Y Y Y Qd Y)<|bE h fun l3 h_l3 h=>Do 7 Y (ZD (f := O49) (ov Y) (ZU (o := ⟨49, [[.own 5 y5.length]]⟩) (ov Y) Y Y tZ_49) Z1 Y Y (Zb Y) Y h_l3)<|Dq 8 Y (Zk (ov Y) Y Y ZG)<|Do 9 Y (Zi (ov Y) (ov Y) (Zf Qd) Y Y Y (Nat.le_of_ble_eq_true Y) (Zb Y) Y)<|ZZ (by kernel_rfl) (Ent.trans (Ent.absorbH (r := 2) (j := 0) (q := 5) Y (Zp h_l3) Y Y (List.length_map ..) Y)<|Ent.closeS (r := 2) Y (Zp h_l3) Y)<|⟨_, h, ES [some 0, some 1, some 2, some 3, some 4] (hhp := .cons Y (ro1 (by exact tZ_26.symm)<|rld Y)<|.cons Y (ro1 (by exact tZ_26.symm)<|rlc (.dat Y)<|rlc (.dat Y)<|rlc (.own _ Y)<|rlc (.own _ Y)<|rlc (.own _ Y) rln)<|.cons Y (roO Xn)<|.cons Y (roM D3)<|.cons Y (roM D4) .nil)⟩
      ·
       refine Dw 0 4 Y (Zk (ov Y) Y Y ZG) (XG<|Zo (ZP h_y4)<|.cons (ov Y) (.b Y) .nil) ?_ ?_
       ·
        refine Dw 1 4 Y (Zu (ov Y) Y Y Y Qd Y) (XG<|Zo (ZP h_y4)<|.cons (ov Y) (.b Y) .nil) ?_ ?_
        ·
         exact Do 4 Y (XG<|Zo (ZP h_y4)<|.cons (ov Y) (.b Y) .nil)<|bE h fun y5 h_y5 h=>Do 5 Y (ZF [] (Zj h_y5) (.cons (ov Y) (.dat Y)<|.cons (ov Y) (.dat Y) .nil) .nil Y (.keep Y Y<|.keep Y Y<|.keep Y Y<|.keep Y Y<|.keep Y Y<|.lent 0 (.inr ⟨Nat.le_of_ble_eq_true Y, Y⟩) Y (roM D5) .nil) Y Y<|.own _<|.inr ⟨Nat.le_of_ble_eq_true Y, Y⟩)<|Do 6 Y (Qo (r := 6) Y Z1 (.cons (cvs (ov Y)<|Zm Y) Y .nil) Y Y)<|bE h fun l3 h_l3 h=>Do 7 Y (ZD (f := O49) (ov Y) (ZU (o := ⟨49, [[.own 5 y5.length]]⟩) (ov Y) Y Y tZ_49) Z1 Y Y (Zb Y) Y h_l3)<|Dq 8 Y (Zk (ov Y) Y Y ZG)<|Do 9 Y (Zi (ov Y) (ov Y) (Zf Qd) Y Y Y (Nat.le_of_ble_eq_true Y) (Zb Y) Y)<|ZZ (by kernel_rfl) (Ent.trans (Ent.absorbH (r := 2) (j := 0) (q := 5) Y (Zp h_l3) Y Y (List.length_map ..) Y)<|Ent.closeS (r := 2) Y (Zp h_l3) Y)<|⟨_, h, ES [some 0, some 1, some 2, some 3, some 4] (hhp := .cons Y (ro1 (by exact tZ_26.symm)<|rld Y)<|.cons Y (ro1 (by exact tZ_26.symm)<|rlc (.dat Y)<|rlc (.dat Y)<|rlc (.own _ Y)<|rlc (.own _ Y)<|rlc (.own _ Y) rln)<|.cons Y (roO Xn)<|.cons Y (roM D3)<|.cons Y (roM D4) .nil)⟩
        ·
         refine bE h fun y5 h_y5 h=>Dw 1 5 Y (Zu (ov Y) Y Y Y Qd Y) (ZF [] (Zj h_y5) (.cons (ov Y) (.dat Y)<|.cons (ov Y) (.dat Y) .nil) .nil Y (.keep Y Y<|.keep Y Y<|.keep Y Y<|.keep Y Y<|.keep Y Y<|.lent 0 (.inr ⟨Nat.le_of_ble_eq_true Y, Y⟩) Y (roM D5) .nil) Y Y<|.own _<|.inr ⟨Nat.le_of_ble_eq_true Y, Y⟩) ?_ ?_
         ·
          exact Do 5 Y (ZF [] (Zj h_y5) (.cons (ov Y) (.dat Y)<|.cons (ov Y) (.dat Y) .nil) .nil Y (.keep Y Y<|.keep Y Y<|.keep Y Y<|.keep Y Y<|.keep Y Y<|.lent 0 (.inr ⟨Nat.le_of_ble_eq_true Y, Y⟩) Y (roM D5) .nil) Y Y<|.own _<|.inr ⟨Nat.le_of_ble_eq_true Y, Y⟩)<|Do 6 Y (Qo (r := 6) Y Z1 (.cons (cvs (ov Y)<|Zm Y) Y .nil) Y Y)<|bE h fun l3 h_l3 h=>Do 7 Y (ZD (f := O49) (ov Y) (ZU (o := ⟨49, [[.own 5 y5.length]]⟩) (ov Y) Y Y tZ_49) Z1 Y Y (Zb Y) Y h_l3)<|Dq 8 Y (Zk (ov Y) Y Y ZG)<|Do 9 Y (Zi (ov Y) (ov Y) (Zf Qd) Y Y Y (Nat.le_of_ble_eq_true Y) (Zb Y) Y)<|ZZ (by kernel_rfl) (Ent.trans (Ent.absorbH (r := 2) (j := 0) (q := 5) Y (Zp h_l3) Y Y (List.length_map ..) Y)<|Ent.closeS (r := 2) Y (Zp h_l3) Y)<|⟨_, h, ES [some 0, some 1, some 2, some 3, some 4] (hhp := .cons Y (ro1 (by exact tZ_26.symm)<|rld Y)<|.cons Y (ro1 (by exact tZ_26.symm)<|rlc (.dat Y)<|rlc (.dat Y)<|rlc (.own _ Y)<|rlc (.own _ Y)<|rlc (.own _ Y) rln)<|.cons Y (roO Xn)<|.cons Y (roM D3)<|.cons Y (roM D4) .nil)⟩
         ·
          refine Dw 1 6 Y (Zu (ov Y) Y Y Y Qd Y) (Qo (r := 6) Y Z1 (.cons (cvs (ov Y)<|Zm Y) Y .nil) Y Y) ?_ ?_
          ·
           exact Do 6 Y (Qo (r := 6) Y Z1 (.cons (cvs (ov Y)<|Zm Y) Y .nil) Y Y)<|bE h fun l3 h_l3 h=>Do 7 Y (ZD (f := O49) (ov Y) (ZU (o := ⟨49, [[.own 5 y5.length]]⟩) (ov Y) Y Y tZ_49) Z1 Y Y (Zb Y) Y h_l3)<|Dq 8 Y (Zk (ov Y) Y Y ZG)<|Do 9 Y (Zi (ov Y) (ov Y) (Zf Qd) Y Y Y (Nat.le_of_ble_eq_true Y) (Zb Y) Y)<|ZZ (by kernel_rfl) (Ent.trans (Ent.absorbH (r := 2) (j := 0) (q := 5) Y (Zp h_l3) Y Y (List.length_map ..) Y)<|Ent.closeS (r := 2) Y (Zp h_l3) Y)<|⟨_, h, ES [some 0, some 1, some 2, some 3, some 4] (hhp := .cons Y (ro1 (by exact tZ_26.symm)<|rld Y)<|.cons Y (ro1 (by exact tZ_26.symm)<|rlc (.dat Y)<|rlc (.dat Y)<|rlc (.own _ Y)<|rlc (.own _ Y)<|rlc (.own _ Y) rln)<|.cons Y (roO Xn)<|.cons Y (roM D3)<|.cons Y (roM D4) .nil)⟩
          ·
           exact Dq 1 Y (Zu (ov Y) Y Y Y Qd Y)<|bE h fun l3 h_l3 h=>Do 7 Y (ZD (f := O49) (ov Y) (ZU (o := ⟨49, [[.own 5 y5.length]]⟩) (ov Y) Y Y tZ_49) Z1 Y Y (Zb Y) Y h_l3)<|Dq 8 Y (Zk (ov Y) Y Y ZG)<|Do 9 Y (Zi (ov Y) (ov Y) (Zf Qd) Y Y Y (Nat.le_of_ble_eq_true Y) (Zb Y) Y)<|ZZ (by kernel_rfl) (Ent.trans (Ent.absorbH (r := 2) (j := 0) (q := 5) Y (Zp h_l3) Y Y (List.length_map ..) Y)<|Ent.closeS (r := 2) Y (Zp h_l3) Y)<|⟨_, h, ES [some 0, some 1, some 2, some 3, some 4] (hhp := .cons Y (ro1 (by exact tZ_26.symm)<|rld Y)<|.cons Y (ro1 (by exact tZ_26.symm)<|rlc (.dat Y)<|rlc (.dat Y)<|rlc (.own _ Y)<|rlc (.own _ Y)<|rlc (.own _ Y) rln)<|.cons Y (roO Xn)<|.cons Y (roM D3)<|.cons Y (roM D4) .nil)⟩
       ·
        refine bE h fun y5 h_y5 h=>Dw 0 5 Y (Zk (ov Y) Y Y ZG) (ZF [] (Zj h_y5) (.cons (ov Y) (.dat Y)<|.cons (ov Y) (.dat Y) .nil) .nil Y (.keep Y Y<|.keep Y Y<|.keep Y Y<|.keep Y Y<|.keep Y Y<|.lent 0 (.inr ⟨Nat.le_of_ble_eq_true Y, Y⟩) Y (roM D5) .nil) Y Y<|.own _<|.inr ⟨Nat.le_of_ble_eq_true Y, Y⟩) ?_ ?_
        ·
         refine Dw 1 5 Y (Zu (ov Y) Y Y Y Qd Y) (ZF [] (Zj h_y5) (.cons (ov Y) (.dat Y)<|.cons (ov Y) (.dat Y) .nil) .nil Y (.keep Y Y<|.keep Y Y<|.keep Y Y<|.keep Y Y<|.keep Y Y<|.lent 0 (.inr ⟨Nat.le_of_ble_eq_true Y, Y⟩) Y (roM D5) .nil) Y Y<|.own _<|.inr ⟨Nat.le_of_ble_eq_true Y, Y⟩) ?_ ?_
         ·
          exact Do 5 Y (ZF [] (Zj h_y5) (.cons (ov Y) (.dat Y)<|.cons (ov Y) (.dat Y) .nil) .nil Y (.keep Y Y<|.keep Y Y<|.keep Y Y<|.keep Y Y<|.keep Y Y<|.lent 0 (.inr ⟨Nat.le_of_ble_eq_true Y, Y⟩) Y (roM D5) .nil) Y Y<|.own _<|.inr ⟨Nat.le_of_ble_eq_true Y, Y⟩)<|Do 6 Y (Qo (r := 6) Y Z1 (.cons (cvs (ov Y)<|Zm Y) Y .nil) Y Y)<|bE h fun l3 h_l3 h=>Do 7 Y (ZD (f := O49) (ov Y) (ZU (o := ⟨49, [[.own 5 y5.length]]⟩) (ov Y) Y Y tZ_49) Z1 Y Y (Zb Y) Y h_l3)<|Dq 8 Y (Zk (ov Y) Y Y ZG)<|Do 9 Y (Zi (ov Y) (ov Y) (Zf Qd) Y Y Y (Nat.le_of_ble_eq_true Y) (Zb Y) Y)<|ZZ (by kernel_rfl) (Ent.trans (Ent.absorbH (r := 2) (j := 0) (q := 5) Y (Zp h_l3) Y Y (List.length_map ..) Y)<|Ent.closeS (r := 2) Y (Zp h_l3) Y)<|⟨_, h, ES [some 0, some 1, some 2, some 3, some 4] (hhp := .cons Y (ro1 (by exact tZ_26.symm)<|rld Y)<|.cons Y (ro1 (by exact tZ_26.symm)<|rlc (.dat Y)<|rlc (.dat Y)<|rlc (.own _ Y)<|rlc (.own _ Y)<|rlc (.own _ Y) rln)<|.cons Y (roO Xn)<|.cons Y (roM D3)<|.cons Y (roM D4) .nil)⟩
         ·
          refine Dw 1 6 Y (Zu (ov Y) Y Y Y Qd Y) (Qo (r := 6) Y Z1 (.cons (cvs (ov Y)<|Zm Y) Y .nil) Y Y) ?_ ?_
          ·
           exact Do 6 Y (Qo (r := 6) Y Z1 (.cons (cvs (ov Y)<|Zm Y) Y .nil) Y Y)<|bE h fun l3 h_l3 h=>Do 7 Y (ZD (f := O49) (ov Y) (ZU (o := ⟨49, [[.own 5 y5.length]]⟩) (ov Y) Y Y tZ_49) Z1 Y Y (Zb Y) Y h_l3)<|Dq 8 Y (Zk (ov Y) Y Y ZG)<|Do 9 Y (Zi (ov Y) (ov Y) (Zf Qd) Y Y Y (Nat.le_of_ble_eq_true Y) (Zb Y) Y)<|ZZ (by kernel_rfl) (Ent.trans (Ent.absorbH (r := 2) (j := 0) (q := 5) Y (Zp h_l3) Y Y (List.length_map ..) Y)<|Ent.closeS (r := 2) Y (Zp h_l3) Y)<|⟨_, h, ES [some 0, some 1, some 2, some 3, some 4] (hhp := .cons Y (ro1 (by exact tZ_26.symm)<|rld Y)<|.cons Y (ro1 (by exact tZ_26.symm)<|rlc (.dat Y)<|rlc (.dat Y)<|rlc (.own _ Y)<|rlc (.own _ Y)<|rlc (.own _ Y) rln)<|.cons Y (roO Xn)<|.cons Y (roM D3)<|.cons Y (roM D4) .nil)⟩
          ·
           exact Dq 1 Y (Zu (ov Y) Y Y Y Qd Y)<|bE h fun l3 h_l3 h=>Do 7 Y (ZD (f := O49) (ov Y) (ZU (o := ⟨49, [[.own 5 y5.length]]⟩) (ov Y) Y Y tZ_49) Z1 Y Y (Zb Y) Y h_l3)<|Dq 8 Y (Zk (ov Y) Y Y ZG)<|Do 9 Y (Zi (ov Y) (ov Y) (Zf Qd) Y Y Y (Nat.le_of_ble_eq_true Y) (Zb Y) Y)<|ZZ (by kernel_rfl) (Ent.trans (Ent.absorbH (r := 2) (j := 0) (q := 5) Y (Zp h_l3) Y Y (List.length_map ..) Y)<|Ent.closeS (r := 2) Y (Zp h_l3) Y)<|⟨_, h, ES [some 0, some 1, some 2, some 3, some 4] (hhp := .cons Y (ro1 (by exact tZ_26.symm)<|rld Y)<|.cons Y (ro1 (by exact tZ_26.symm)<|rlc (.dat Y)<|rlc (.dat Y)<|rlc (.own _ Y)<|rlc (.own _ Y)<|rlc (.own _ Y) rln)<|.cons Y (roO Xn)<|.cons Y (roM D3)<|.cons Y (roM D4) .nil)⟩
        ·
         refine Dw 0 6 Y (Zk (ov Y) Y Y ZG) (Qo (r := 6) Y Z1 (.cons (cvs (ov Y)<|Zm Y) Y .nil) Y Y) ?_ ?_
         ·
          refine Dw 1 6 Y (Zu (ov Y) Y Y Y Qd Y) (Qo (r := 6) Y Z1 (.cons (cvs (ov Y)<|Zm Y) Y .nil) Y Y) ?_ ?_
          ·
           exact Do 6 Y (Qo (r := 6) Y Z1 (.cons (cvs (ov Y)<|Zm Y) Y .nil) Y Y)<|bE h fun l3 h_l3 h=>Do 7 Y (ZD (f := O49) (ov Y) (ZU (o := ⟨49, [[.own 5 y5.length]]⟩) (ov Y) Y Y tZ_49) Z1 Y Y (Zb Y) Y h_l3)<|Dq 8 Y (Zk (ov Y) Y Y ZG)<|Do 9 Y (Zi (ov Y) (ov Y) (Zf Qd) Y Y Y (Nat.le_of_ble_eq_true Y) (Zb Y) Y)<|ZZ (by kernel_rfl) (Ent.trans (Ent.absorbH (r := 2) (j := 0) (q := 5) Y (Zp h_l3) Y Y (List.length_map ..) Y)<|Ent.closeS (r := 2) Y (Zp h_l3) Y)<|⟨_, h, ES [some 0, some 1, some 2, some 3, some 4] (hhp := .cons Y (ro1 (by exact tZ_26.symm)<|rld Y)<|.cons Y (ro1 (by exact tZ_26.symm)<|rlc (.dat Y)<|rlc (.dat Y)<|rlc (.own _ Y)<|rlc (.own _ Y)<|rlc (.own _ Y) rln)<|.cons Y (roO Xn)<|.cons Y (roM D3)<|.cons Y (roM D4) .nil)⟩
          ·
           exact Dq 1 Y (Zu (ov Y) Y Y Y Qd Y)<|bE h fun l3 h_l3 h=>Do 7 Y (ZD (f := O49) (ov Y) (ZU (o := ⟨49, [[.own 5 y5.length]]⟩) (ov Y) Y Y tZ_49) Z1 Y Y (Zb Y) Y h_l3)<|Dq 8 Y (Zk (ov Y) Y Y ZG)<|Do 9 Y (Zi (ov Y) (ov Y) (Zf Qd) Y Y Y (Nat.le_of_ble_eq_true Y) (Zb Y) Y)<|ZZ (by kernel_rfl) (Ent.trans (Ent.absorbH (r := 2) (j := 0) (q := 5) Y (Zp h_l3) Y Y (List.length_map ..) Y)<|Ent.closeS (r := 2) Y (Zp h_l3) Y)<|⟨_, h, ES [some 0, some 1, some 2, some 3, some 4] (hhp := .cons Y (ro1 (by exact tZ_26.symm)<|rld Y)<|.cons Y (ro1 (by exact tZ_26.symm)<|rlc (.dat Y)<|rlc (.dat Y)<|rlc (.own _ Y)<|rlc (.own _ Y)<|rlc (.own _ Y) rln)<|.cons Y (roO Xn)<|.cons Y (roM D3)<|.cons Y (roM D4) .nil)⟩
         ·
          exact Dq 0 Y (Zk (ov Y) Y Y ZG)<|Dq 1 Y (Zu (ov Y) Y Y Y Qd Y)<|bE h fun l3 h_l3 h=>Do 7 Y (ZD (f := O49) (ov Y) (ZU (o := ⟨49, [[.own 5 y5.length]]⟩) (ov Y) Y Y tZ_49) Z1 Y Y (Zb Y) Y h_l3)<|Dq 8 Y (Zk (ov Y) Y Y ZG)<|Do 9 Y (Zi (ov Y) (ov Y) (Zf Qd) Y Y Y (Nat.le_of_ble_eq_true Y) (Zb Y) Y)<|ZZ (by kernel_rfl) (Ent.trans (Ent.absorbH (r := 2) (j := 0) (q := 5) Y (Zp h_l3) Y Y (List.length_map ..) Y)<|Ent.closeS (r := 2) Y (Zp h_l3) Y)<|⟨_, h, ES [some 0, some 1, some 2, some 3, some 4] (hhp := .cons Y (ro1 (by exact tZ_26.symm)<|rld Y)<|.cons Y (ro1 (by exact tZ_26.symm)<|rlc (.dat Y)<|rlc (.dat Y)<|rlc (.own _ Y)<|rlc (.own _ Y)<|rlc (.own _ Y) rln)<|.cons Y (roO Xn)<|.cons Y (roM D3)<|.cons Y (roM D4) .nil)⟩
      ·
       refine Dw 0 2 Y (Zk (ov Y) Y Y ZG) (XG<|XC Z5 (.cons (cvs (ov Y)<|Zm Y) Y (.cons (.b Y) .nil) .nil) Y Y) ?_ ?_
       ·
        refine Dw 1 2 Y (Zu (ov Y) Y Y Y Qd Y) (XG<|XC Z5 (.cons (cvs (ov Y)<|Zm Y) Y (.cons (.b Y) .nil) .nil) Y Y) ?_ ?_
        ·
         exact Jt 2 (.sl 5<|List.map R5 ([255] : List Int)) _ Y (by kernel_rfl) Y Y (fun h=>by cases h) (fun h=>by cases h) (XG<|XC Z5 (.cons (cvs (ov Y)<|Zm Y) Y (.cons (.b Y) .nil) .nil) Y Y)<|bE h fun y5 h_y5 h=>Do 5 Y (ZF [] (Zj h_y5) (.cons (ov Y) (.dat Y)<|.cons (ov Y) (.dat Y) .nil) .nil Y (.keep Y Y<|.keep Y Y<|.keep Y Y<|.keep Y Y<|.keep Y Y<|.lent 0 (.inr ⟨Nat.le_of_ble_eq_true Y, Y⟩) Y (roM D5) .nil) Y Y<|.own _<|.inr ⟨Nat.le_of_ble_eq_true Y, Y⟩)<|Do 6 Y (Qo (r := 6) Y Z1 (.cons (cvs (ov Y)<|Zm Y) Y .nil) Y Y)<|bE h fun l3 h_l3 h=>Do 7 Y (ZD (f := O49) (ov Y) (ZU (o := ⟨49, [[.own 5 y5.length]]⟩) (ov Y) Y Y tZ_49) Z1 Y Y (Zb Y) Y h_l3)<|Dq 8 Y (Zk (ov Y) Y Y ZG)<|Do 9 Y (Zi (ov Y) (ov Y) (Zf Qd) Y Y Y (Nat.le_of_ble_eq_true Y) (Zb Y) Y)<|ZZ (by kernel_rfl) (Ent.trans (Ent.absorbH (r := 2) (j := 0) (q := 5) Y (Zp h_l3) Y Y (List.length_map ..) Y)<|Ent.closeS (r := 2) Y (Zp h_l3) Y)<|⟨_, h, ES [some 0, some 1, some 2, some 3, some 4] (hhp := .cons Y (ro1 (by exact tZ_26.symm)<|rld Y)<|.cons Y (ro1 (by exact tZ_26.symm)<|rlc (.dat Y)<|rlc (.dat Y)<|rlc (.own _ Y)<|rlc (.own _ Y)<|rlc (.own _ Y) rln)<|.cons Y (roO Xn)<|.cons Y (roM D3)<|.cons Y (roM D4) .nil)⟩
        ·
         refine bE h fun y5 h_y5 h=>Dw 1 5 Y (Zu (ov Y) Y Y Y Qd Y) (ZF [] (Zj h_y5) (.cons (ov Y) (.dat Y)<|.cons (ov Y) (.dat Y) .nil) .nil Y (.keep Y Y<|.keep Y Y<|.keep Y Y<|.keep Y Y<|.keep Y Y<|.lent 0 (.inr ⟨Nat.le_of_ble_eq_true Y, Y⟩) Y (roM D5) .nil) Y Y<|.own _<|.inr ⟨Nat.le_of_ble_eq_true Y, Y⟩) ?_ ?_
         ·
          exact Do 5 Y (ZF [] (Zj h_y5) (.cons (ov Y) (.dat Y)<|.cons (ov Y) (.dat Y) .nil) .nil Y (.keep Y Y<|.keep Y Y<|.keep Y Y<|.keep Y Y<|.keep Y Y<|.lent 0 (.inr ⟨Nat.le_of_ble_eq_true Y, Y⟩) Y (roM D5) .nil) Y Y<|.own _<|.inr ⟨Nat.le_of_ble_eq_true Y, Y⟩)<|Do 6 Y (Qo (r := 6) Y Z1 (.cons (cvs (ov Y)<|Zm Y) Y .nil) Y Y)<|bE h fun l3 h_l3 h=>Do 7 Y (ZD (f := O49) (ov Y) (ZU (o := ⟨49, [[.own 5 y5.length]]⟩) (ov Y) Y Y tZ_49) Z1 Y Y (Zb Y) Y h_l3)<|Dq 8 Y (Zk (ov Y) Y Y ZG)<|Do 9 Y (Zi (ov Y) (ov Y) (Zf Qd) Y Y Y (Nat.le_of_ble_eq_true Y) (Zb Y) Y)<|ZZ (by kernel_rfl) (Ent.trans (Ent.absorbH (r := 2) (j := 0) (q := 5) Y (Zp h_l3) Y Y (List.length_map ..) Y)<|Ent.closeS (r := 2) Y (Zp h_l3) Y)<|⟨_, h, ES [some 0, some 1, some 2, some 3, some 4] (hhp := .cons Y (ro1 (by exact tZ_26.symm)<|rld Y)<|.cons Y (ro1 (by exact tZ_26.symm)<|rlc (.dat Y)<|rlc (.dat Y)<|rlc (.own _ Y)<|rlc (.own _ Y)<|rlc (.own _ Y) rln)<|.cons Y (roO Xn)<|.cons Y (roM D3)<|.cons Y (roM D4) .nil)⟩
         ·
          refine Dw 1 6 Y (Zu (ov Y) Y Y Y Qd Y) (Qo (r := 6) Y Z1 (.cons (cvs (ov Y)<|Zm Y) Y .nil) Y Y) ?_ ?_
          ·
           exact Do 6 Y (Qo (r := 6) Y Z1 (.cons (cvs (ov Y)<|Zm Y) Y .nil) Y Y)<|bE h fun l3 h_l3 h=>Do 7 Y (ZD (f := O49) (ov Y) (ZU (o := ⟨49, [[.own 5 y5.length]]⟩) (ov Y) Y Y tZ_49) Z1 Y Y (Zb Y) Y h_l3)<|Dq 8 Y (Zk (ov Y) Y Y ZG)<|Do 9 Y (Zi (ov Y) (ov Y) (Zf Qd) Y Y Y (Nat.le_of_ble_eq_true Y) (Zb Y) Y)<|ZZ (by kernel_rfl) (Ent.trans (Ent.absorbH (r := 2) (j := 0) (q := 5) Y (Zp h_l3) Y Y (List.length_map ..) Y)<|Ent.closeS (r := 2) Y (Zp h_l3) Y)<|⟨_, h, ES [some 0, some 1, some 2, some 3, some 4] (hhp := .cons Y (ro1 (by exact tZ_26.symm)<|rld Y)<|.cons Y (ro1 (by exact tZ_26.symm)<|rlc (.dat Y)<|rlc (.dat Y)<|rlc (.own _ Y)<|rlc (.own _ Y)<|rlc (.own _ Y) rln)<|.cons Y (roO Xn)<|.cons Y (roM D3)<|.cons Y (roM D4) .nil)⟩
          ·
           exact Dq 1 Y (Zu (ov Y) Y Y Y Qd Y)<|bE h fun l3 h_l3 h=>Do 7 Y (ZD (f := O49) (ov Y) (ZU (o := ⟨49, [[.own 5 y5.length]]⟩) (ov Y) Y Y tZ_49) Z1 Y Y (Zb Y) Y h_l3)<|Dq 8 Y (Zk (ov Y) Y Y ZG)<|Do 9 Y (Zi (ov Y) (ov Y) (Zf Qd) Y Y Y (Nat.le_of_ble_eq_true Y) (Zb Y) Y)<|ZZ (by kernel_rfl) (Ent.trans (Ent.absorbH (r := 2) (j := 0) (q := 5) Y (Zp h_l3) Y Y (List.length_map ..) Y)<|Ent.closeS (r := 2) Y (Zp h_l3) Y)<|⟨_, h, ES [some 0, some 1, some 2, some 3, some 4] (hhp := .cons Y (ro1 (by exact tZ_26.symm)<|rld Y)<|.cons Y (ro1 (by exact tZ_26.symm)<|rlc (.dat Y)<|rlc (.dat Y)<|rlc (.own _ Y)<|rlc (.own _ Y)<|rlc (.own _ Y) rln)<|.cons Y (roO Xn)<|.cons Y (roM D3)<|.cons Y (roM D4) .nil)⟩
       ·
        refine bE h fun y5 h_y5 h=>Dw 0 5 Y (Zk (ov Y) Y Y ZG) (ZF [] (Zj h_y5) (.cons (ov Y) (.dat Y)<|.cons (ov Y) (.dat Y) .nil) .nil Y (.keep Y Y<|.keep Y Y<|.keep Y Y<|.keep Y Y<|.keep Y Y<|.lent 0 (.inr ⟨Nat.le_of_ble_eq_true Y, Y⟩) Y (roM D5) .nil) Y Y<|.own _<|.inr ⟨Nat.le_of_ble_eq_true Y, Y⟩) ?_ ?_
        ·
         refine Dw 1 5 Y (Zu (ov Y) Y Y Y Qd Y) (ZF [] (Zj h_y5) (.cons (ov Y) (.dat Y)<|.cons (ov Y) (.dat Y) .nil) .nil Y (.keep Y Y<|.keep Y Y<|.keep Y Y<|.keep Y Y<|.keep Y Y<|.lent 0 (.inr ⟨Nat.le_of_ble_eq_true Y, Y⟩) Y (roM D5) .nil) Y Y<|.own _<|.inr ⟨Nat.le_of_ble_eq_true Y, Y⟩) ?_ ?_
         ·
          exact Do 5 Y (ZF [] (Zj h_y5) (.cons (ov Y) (.dat Y)<|.cons (ov Y) (.dat Y) .nil) .nil Y (.keep Y Y<|.keep Y Y<|.keep Y Y<|.keep Y Y<|.keep Y Y<|.lent 0 (.inr ⟨Nat.le_of_ble_eq_true Y, Y⟩) Y (roM D5) .nil) Y Y<|.own _<|.inr ⟨Nat.le_of_ble_eq_true Y, Y⟩)<|Do 6 Y (Qo (r := 6) Y Z1 (.cons (cvs (ov Y)<|Zm Y) Y .nil) Y Y)<|bE h fun l3 h_l3 h=>Do 7 Y (ZD (f := O49) (ov Y) (ZU (o := ⟨49, [[.own 5 y5.length]]⟩) (ov Y) Y Y tZ_49) Z1 Y Y (Zb Y) Y h_l3)<|Dq 8 Y (Zk (ov Y) Y Y ZG)<|Do 9 Y (Zi (ov Y) (ov Y) (Zf Qd) Y Y Y (Nat.le_of_ble_eq_true Y) (Zb Y) Y)<|ZZ (by kernel_rfl) (Ent.trans (Ent.absorbH (r := 2) (j := 0) (q := 5) Y (Zp h_l3) Y Y (List.length_map ..) Y)<|Ent.closeS (r := 2) Y (Zp h_l3) Y)<|⟨_, h, ES [some 0, some 1, some 2, some 3, some 4] (hhp := .cons Y (ro1 (by exact tZ_26.symm)<|rld Y)<|.cons Y (ro1 (by exact tZ_26.symm)<|rlc (.dat Y)<|rlc (.dat Y)<|rlc (.own _ Y)<|rlc (.own _ Y)<|rlc (.own _ Y) rln)<|.cons Y (roO Xn)<|.cons Y (roM D3)<|.cons Y (roM D4) .nil)⟩
         ·
          refine Dw 1 6 Y (Zu (ov Y) Y Y Y Qd Y) (Qo (r := 6) Y Z1 (.cons (cvs (ov Y)<|Zm Y) Y .nil) Y Y) ?_ ?_
          ·
           exact Do 6 Y (Qo (r := 6) Y Z1 (.cons (cvs (ov Y)<|Zm Y) Y .nil) Y Y)<|bE h fun l3 h_l3 h=>Do 7 Y (ZD (f := O49) (ov Y) (ZU (o := ⟨49, [[.own 5 y5.length]]⟩) (ov Y) Y Y tZ_49) Z1 Y Y (Zb Y) Y h_l3)<|Dq 8 Y (Zk (ov Y) Y Y ZG)<|Do 9 Y (Zi (ov Y) (ov Y) (Zf Qd) Y Y Y (Nat.le_of_ble_eq_true Y) (Zb Y) Y)<|ZZ (by kernel_rfl) (Ent.trans (Ent.absorbH (r := 2) (j := 0) (q := 5) Y (Zp h_l3) Y Y (List.length_map ..) Y)<|Ent.closeS (r := 2) Y (Zp h_l3) Y)<|⟨_, h, ES [some 0, some 1, some 2, some 3, some 4] (hhp := .cons Y (ro1 (by exact tZ_26.symm)<|rld Y)<|.cons Y (ro1 (by exact tZ_26.symm)<|rlc (.dat Y)<|rlc (.dat Y)<|rlc (.own _ Y)<|rlc (.own _ Y)<|rlc (.own _ Y) rln)<|.cons Y (roO Xn)<|.cons Y (roM D3)<|.cons Y (roM D4) .nil)⟩
          ·
           exact Dq 1 Y (Zu (ov Y) Y Y Y Qd Y)<|bE h fun l3 h_l3 h=>Do 7 Y (ZD (f := O49) (ov Y) (ZU (o := ⟨49, [[.own 5 y5.length]]⟩) (ov Y) Y Y tZ_49) Z1 Y Y (Zb Y) Y h_l3)<|Dq 8 Y (Zk (ov Y) Y Y ZG)<|Do 9 Y (Zi (ov Y) (ov Y) (Zf Qd) Y Y Y (Nat.le_of_ble_eq_true Y) (Zb Y) Y)<|ZZ (by kernel_rfl) (Ent.trans (Ent.absorbH (r := 2) (j := 0) (q := 5) Y (Zp h_l3) Y Y (List.length_map ..) Y)<|Ent.closeS (r := 2) Y (Zp h_l3) Y)<|⟨_, h, ES [some 0, some 1, some 2, some 3, some 4] (hhp := .cons Y (ro1 (by exact tZ_26.symm)<|rld Y)<|.cons Y (ro1 (by exact tZ_26.symm)<|rlc (.dat Y)<|rlc (.dat Y)<|rlc (.own _ Y)<|rlc (.own _ Y)<|rlc (.own _ Y) rln)<|.cons Y (roO Xn)<|.cons Y (roM D3)<|.cons Y (roM D4) .nil)⟩
        ·
         refine Dw 0 6 Y (Zk (ov Y) Y Y ZG) (Qo (r := 6) Y Z1 (.cons (cvs (ov Y)<|Zm Y) Y .nil) Y Y) ?_ ?_
         ·
          refine Dw 1 6 Y (Zu (ov Y) Y Y Y Qd Y) (Qo (r := 6) Y Z1 (.cons (cvs (ov Y)<|Zm Y) Y .nil) Y Y) ?_ ?_
          ·
           exact Do 6 Y (Qo (r := 6) Y Z1 (.cons (cvs (ov Y)<|Zm Y) Y .nil) Y Y)<|bE h fun l3 h_l3 h=>Do 7 Y (ZD (f := O49) (ov Y) (ZU (o := ⟨49, [[.own 5 y5.length]]⟩) (ov Y) Y Y tZ_49) Z1 Y Y (Zb Y) Y h_l3)<|Dq 8 Y (Zk (ov Y) Y Y ZG)<|Do 9 Y (Zi (ov Y) (ov Y) (Zf Qd) Y Y Y (Nat.le_of_ble_eq_true Y) (Zb Y) Y)<|ZZ (by kernel_rfl) (Ent.trans (Ent.absorbH (r := 2) (j := 0) (q := 5) Y (Zp h_l3) Y Y (List.length_map ..) Y)<|Ent.closeS (r := 2) Y (Zp h_l3) Y)<|⟨_, h, ES [some 0, some 1, some 2, some 3, some 4] (hhp := .cons Y (ro1 (by exact tZ_26.symm)<|rld Y)<|.cons Y (ro1 (by exact tZ_26.symm)<|rlc (.dat Y)<|rlc (.dat Y)<|rlc (.own _ Y)<|rlc (.own _ Y)<|rlc (.own _ Y) rln)<|.cons Y (roO Xn)<|.cons Y (roM D3)<|.cons Y (roM D4) .nil)⟩
          ·
           exact Dq 1 Y (Zu (ov Y) Y Y Y Qd Y)<|bE h fun l3 h_l3 h=>Do 7 Y (ZD (f := O49) (ov Y) (ZU (o := ⟨49, [[.own 5 y5.length]]⟩) (ov Y) Y Y tZ_49) Z1 Y Y (Zb Y) Y h_l3)<|Dq 8 Y (Zk (ov Y) Y Y ZG)<|Do 9 Y (Zi (ov Y) (ov Y) (Zf Qd) Y Y Y (Nat.le_of_ble_eq_true Y) (Zb Y) Y)<|ZZ (by kernel_rfl) (Ent.trans (Ent.absorbH (r := 2) (j := 0) (q := 5) Y (Zp h_l3) Y Y (List.length_map ..) Y)<|Ent.closeS (r := 2) Y (Zp h_l3) Y)<|⟨_, h, ES [some 0, some 1, some 2, some 3, some 4] (hhp := .cons Y (ro1 (by exact tZ_26.symm)<|rld Y)<|.cons Y (ro1 (by exact tZ_26.symm)<|rlc (.dat Y)<|rlc (.dat Y)<|rlc (.own _ Y)<|rlc (.own _ Y)<|rlc (.own _ Y) rln)<|.cons Y (roO Xn)<|.cons Y (roM D3)<|.cons Y (roM D4) .nil)⟩
         ·
          exact Dq 0 Y (Zk (ov Y) Y Y ZG)<|Dq 1 Y (Zu (ov Y) Y Y Y Qd Y)<|bE h fun l3 h_l3 h=>Do 7 Y (ZD (f := O49) (ov Y) (ZU (o := ⟨49, [[.own 5 y5.length]]⟩) (ov Y) Y Y tZ_49) Z1 Y Y (Zb Y) Y h_l3)<|Dq 8 Y (Zk (ov Y) Y Y ZG)<|Do 9 Y (Zi (ov Y) (ov Y) (Zf Qd) Y Y Y (Nat.le_of_ble_eq_true Y) (Zb Y) Y)<|ZZ (by kernel_rfl) (Ent.trans (Ent.absorbH (r := 2) (j := 0) (q := 5) Y (Zp h_l3) Y Y (List.length_map ..) Y)<|Ent.closeS (r := 2) Y (Zp h_l3) Y)<|⟨_, h, ES [some 0, some 1, some 2, some 3, some 4] (hhp := .cons Y (ro1 (by exact tZ_26.symm)<|rld Y)<|.cons Y (ro1 (by exact tZ_26.symm)<|rlc (.dat Y)<|rlc (.dat Y)<|rlc (.own _ Y)<|rlc (.own _ Y)<|rlc (.own _ Y) rln)<|.cons Y (roO Xn)<|.cons Y (roM D3)<|.cons Y (roM D4) .nil)⟩
     ·
      exact Zt<|R2 ZM Y<|Rm Y<|Za<|⟨_, h, ES [some 0, some 1, some 2, some 3, some 4] (hhp := .cons Y (ro1 (by exact tZ_26.symm)<|rld Y)<|.cons Y (ro1 (by exact tZ_26.symm)<|rlc (.dat Y)<|rlc (.dat Y)<|rlc (.own _ Y)<|rlc (.own _ Y)<|rlc (.own _ Y) rln)<|.cons Y (roO Xn)<|.cons Y (roM D3)<|.cons Y (roM D4) .nil)⟩
    ·
     refine ZE<|?_
     replace h := lx h ▸ ho1
     exact ⟨_, h, ES [some 0, some 1, some 2, some 3, some 4] (hhp := .cons Y (ro1 (by exact tZ_26.symm)<|rld Y)<|.cons Y (ro1 (by exact tZ_26.symm)<|rlc (.dat Y)<|rlc (.dat Y)<|rlc (.own _ Y)<|rlc (.own _ Y)<|rlc (.own _ Y) rln)<|.cons Y (roO Xn)<|.cons Y (roM D3)<|.cons Y (roM D4) .nil)⟩
   ·
    refine Tr<|Rq Y (Qe (ov Y) Y Y Y Jg Y Y)<|Rx Y (Zi (ov Y) (ov Y) (Zs Jg Y) Y Y Y (Nat.le_of_ble_eq_true Y) (Zb Y) Y)<|Ra Y<|Za<|?_
    obtain rfl := rt h
    exact Zn (ZC Y (.two (.agg Y Y Y Y Jg Y Y<|.cons (Dat.view<|.b Y)<|.cons (Dat.view<|.b Y)<|.cons (View.ownO Y Y Xn (fun x=>(D49 x).1) Zmt)<|.cons (View.ownM Y Y D3)<|.cons (View.ownM Y Y D4) .nil)<|rb Y))
theorem ZeR {m : api_Memory} {r : Int} (h : XZ m = some r) :
 CSpec Tryz.prog gl0 43 [.agg [.int .i64 m.Slots, .int .i64 m.Limit, .sl 49 (List.map R49 m.Sectors), .sl 3 (List.map R3 m.Wear), .sl 4 (List.map R4 m.Bad)]] (.int .i64 r) := by
 unfold XZ at h
 replace h := Z0 h
 refine So Tryz.func43 Y fun w0 A=>Tr<|Rq Y (Zdb (cva<|ov Y) Y tZ_26 Y)<|Ra Y<|Za<|K1 1 Y<|Tr<|Rq Y (ZW (ov Y) ZG)<|Rq Y (Zd (ov Y) Qd Y)<|Rl tZ_49 Z1 Y<|Ra Y<|Za<|Zg<|Ze<|K2 1 3 Y<|Tr<|Rq Y (ZW (ov Y) Zhj)<|Rq Y (Zd (ov Y) tS3 Y)<|bE h fun y h_y h=>Rq Y (Zo (Z9 h_y)<|.cons (ov Y) (.b Y)<|.cons (ov Y) (.b Y)<|.cons (ov Y) (.b Y) .nil)<|R1 X2 Y<|Rm Y<|Rq Y (.guarded ((!y) == false) Y Y Y Y fun h => ZW (ov Y) ZjG)<|Rq Y (.guarded ((!y) == false) Y Y Y Y fun h => Zd (ow Y h) tS3 Y)<|bE h fun y2 h_y2 h=>Rq Y (.guarded ((!y) == false) Y Y Y Y fun h => Zo (Z9<|gdT h_y2 h)<|.cons (ow Y h) (.b Y)<|.cons (ov Y) (.b Y)<|.cons (ov Y) (.b Y) .nil)<|Rq Y (.guarded ((!y) == false) Y Y Y Y fun h => X2<|ow Y h)<|Rq Y (ZdB (ov Y) fun hp=>ow Y<|gF hp)<|Rm Y<|Rq Y (.guarded (((!y) || (!y2)) == false) Y Y Y Y fun h => Zc<|ov Y)<|bE h fun y3 h_y3 h=>Rq Y (.guarded (((!y) || (!y2)) == false) Y Y Y Y fun h => Zo (Z9<|gdT h_y3 h)<|.cons (ow Y h) (.b Y)<|.cons (ov Y) (.b Y)<|.cons (ov Y) (.b Y) .nil)<|Rq Y (.guarded (((!y) || (!y2)) == false) Y Y Y Y fun h => X2<|ow Y h)<|Rq Y (ZdB (ov Y) fun hp=>ow Y<|gF hp)<|Ra Y<|Za<|K3 1 3 9 Y<|If h Y (fun h=>?_) fun h=>?_
 ·
  refine K0<|Tr<|Ra Y<|Za<|?_
  obtain rfl := rt h
  exact Zn (ZC Y (.one<|rb Y))
 ·
  refine K2 1 3 Y<|Tr<|Rq Y (ZW (ov Y) Ze7)<|Rq Y (Zd (ov Y) Zjm Y)<|Rl tZ_3 Q3 Y<|Rm Y<|R2 Xp Y<|Rm Y<|Rq Y (.guarded ((!decide ((m.Wear.length : Int) = (m.Sectors.length : Int))) == false) Y Y Y Y fun h => ZW (ov Y) Zf9)<|Rq Y (.guarded ((!decide ((m.Wear.length : Int) = (m.Sectors.length : Int))) == false) Y Y Y Y fun h => Zd (ow Y h) Zjx Y)<|Rq Y (.guarded ((!decide ((m.Wear.length : Int) = (m.Sectors.length : Int))) == false) Y Y Y Y fun h => Zjh (Qv (ow Y h) tZ_4) ZhP<|ZfK _ _)<|Rq Y (.guarded ((!decide ((m.Wear.length : Int) = (m.Sectors.length : Int))) == false) Y Y Y Y fun h => Zc<|ov Y)<|Rq Y (.guarded ((!decide ((m.Wear.length : Int) = (m.Sectors.length : Int))) == false) Y Y Y Y fun h => Xp (ow Y h)<|ow Y h)<|Rq Y (ZdB (ov Y) fun hp=>ow Y<|gF hp)<|Ra Y<|Za<|K2 1 25 Y<|If h Y (fun h=>?_) fun h=>?_
  ·
   refine K0<|Tr<|Ra Y<|Za<|?_
   obtain rfl := rt h
   exact Zn (ZC Y (.one<|rb Y))
  ·
   refine Zh<|J0 (fun j => (.inr j)) ⟨[], []⟩ h (fun h=>?_) fun h=>?_
   ·
    refine K1 1 Y<|Tr<|Rq Y (ZW (ov Y) ZG)<|Rq Y (Zd (ov Y) Qd Y)<|Rl tZ_49 Z1 Y<|Rm Y<|Za<|Ze<|?_
    obtain ⟨r1, hl1, ho1⟩ := QI h
    refine L1 (fun i=>⟨[(1, .rp [.int .i64 m.Slots, .int .i64 m.Limit, .sl 49 (List.map R49 m.Sectors), .sl 3 (List.map R3 m.Wear), .sl 4 (List.map R4 m.Bad)] 0), (39, .sl 49 (List.map R49 m.Sectors)), (40, .int .i64 (m.Sectors.length : Int)), (41, .int .i64 i)], []⟩) hl1 (ES []) fun n1 i h=>?_
    unfold XN at h
    refine Tr<|R2 ZO Y<|Za<|Zg<|If h Y (fun h=>?_) fun h=>?_
    ·
     refine Zh<|Zg<|Ze<|K4 1 39 40 41 Y<|Tr<|Rm Y<|bE h fun x h_x h=>Rq Y (ZQ (ov Y) (ov Y) Z1 h_x)<|Rq Y (Zd (ov Y) ZgW Y)<|Ra Y<|Ra Y<|Za<|Zg<|K6 1 4 5 39 40 41 Y<|Tr<|Rm Y<|Rl tZ_5 Z5 Y<|Rq Y (ZW (ov Y) Zhj)<|Rq Y (Zd (ov Y) tS3 Y)<|bE h fun y4 h_y4 h=>Rq Y (Zo (ZP h_y4)<|.cons (ov Y) (.b Y) .nil)<|R2 Xp Y<|Za<|K6 1 4 39 40 41 51 Y<|If h Y (fun h=>?_) fun h=>?_
     ·
      refine K0<|Tr<|Ra Y<|Za<|?_
      replace h := lx h ▸ ho1
      obtain rfl := rt h
      exact Zn (ZC Y (.one<|rb Y))
     ·
      refine Zh<|Zg<|K5 1 4 39 40 41 Y<|Qp (cw := md0) (by kernel_rfl)<|Dq 0 Y (ZW (ov Y) Ze7)<|Dq 1 Y (Zd (ov Y) Zjm Y)<|D1 2 Zc Y<|bE h fun x2 h_x2 h=>Dq 3 Y (ZQ (ov Y) (ov Y) Q3 h_x2)<|Dq 4 Y (Zd (ov Y) tS3 Y)<|Dq 5 Y (ZW (ov Y) ZjG)<|Dq 6 Y (Zd (ov Y) tS3 Y)<|bE h fun y5 h_y5 h=>Dq 7 Y (Zo (Z9 h_y5)<|.cons (ov Y) (.b Y)<|.cons (ov Y) (.b Y)<|.cons (ov Y) (.b Y) .nil)<|D1 8 X2 Y<|Dd<|K5 1 39 40 41 60 Y<|If h Y (fun h=>?_) fun h=>?_
      ·
       refine K0<|Tr<|Ra Y<|Za<|?_
       replace h := lx h ▸ ho1
       obtain rfl := rt h
       exact Zn (ZC Y (.one<|rb Y))
      ·
       exact Zh<|K4 1 39 40 41 Y<|Zt<|R2 ZM Y<|Rm Y<|Za<|⟨_, h, ES []⟩
    ·
     refine ZE<|?_
     replace h := lx h ▸ ho1
     exact ⟨(), h, ES []⟩
   ·
    replace h := elr h
    replace h := t0i h
    refine Tr<|Ra Y<|Za<|?_
    obtain rfl := rt h
    exact Zn (ZC Y (.one<|rb Y))
theorem Zdr {l : List api_Memory} {r : Int} (h : Jl l = some r) :
 CSpec Tryz.prog gl0 62 [.sl 26 (List.map R26 l)] (.int .i64 r) := by
 unfold Jl at h
 replace h := Z0 h
 refine So Tryz.func62 Y fun w0 A=>Tr<|Ra Y<|Za<|Zg<|K1 0 Y<|Tr<|Rm Y<|Rl tZ_26 ZcF Y<|bE h fun y h_y h=>Rq Y (Zo (Z9 h_y)<|.cons (ov Y) (.b Y)<|.cons (ov Y) (.b Y)<|.cons (ov Y) (.b Y) .nil)<|R1 X2 Y<|Za<|K2 0 9 Y<|If h Y (fun h=>?_) fun h=>?_
 ·
  refine K0<|Tr<|Ra Y<|Za<|?_
  obtain rfl := rt h
  exact Zn (ZC Y (.one<|rb Y))
 ·
  refine Zh<|J0 (fun j => (.inr j)) ⟨[], []⟩ h (fun h=>?_) fun h=>?_
  ·
   refine K1 0 Y<|Tr<|Rm Y<|Rl tZ_26 ZcF Y<|Rm Y<|Za<|Ze<|?_
   obtain ⟨r1, hl1, ho1⟩ := QI h
   refine L1 (fun i=>⟨[(10, .sl 26 (List.map R26 l)), (11, .int .i64 (l.length : Int)), (12, .int .i64 i)], []⟩) hl1 (ES []) fun n1 i h=>?_
   unfold JO at h
   refine Tr<|R2 ZO Y<|Za<|Zg<|If h Y (fun h=>?_) fun h=>?_
   ·
    refine Zh<|Zg<|Ze<|K3 10 11 12 Y<|Tr<|bE h fun x h_x h=>Rq Y (ZQ (ov Y) (ov Y) ZcF h_x)<|Rq Y (Xc (ov Y) Jg Y Y)<|Rx Y (ZN (row := [_, _, _, _, _]) 0 Y Zdk Y tZ_26)<|Rx Y (Zi (ov Y) (ov Y) (Zs Jg Y) Y Y Y (Nat.le_of_ble_eq_true Y) (Zb Y) Y)<|Za<|K4 4 10 11 12 Y<|Tr<|Rq Y (Qe (ov Y) Y Y Y Jg Y Y)<|bE h fun y2 h_y2 h=>Rq Y (Zo (ZeR h_y2)<|.cons (ov Y) (.aggB Y) .nil)<|Ra Y<|Za<|K4 5 10 11 12 Y<|Tr<|Rm Y<|R2 Xp Y<|Za<|K5 5 10 11 12 19 Y<|If h Y (fun h=>?_) fun h=>?_
    ·
     refine K1 5 Y<|Tr<|Rm Y<|Ra Y<|Za<|?_
     replace h := lx h ▸ ho1
     obtain rfl := rt h
     exact Zn (ZC Y (.one<|rb Y))
    ·
     exact Zh<|K3 10 11 12 Y<|Zt<|R2 ZM Y<|Rm Y<|Za<|⟨_, h, ES []⟩
   ·
    refine ZE<|?_
    replace h := lx h ▸ ho1
    exact ⟨(), h, ES []⟩
  ·
   replace h := elr h
   replace h := t0i h
   refine Tr<|Ra Y<|Za<|?_
   obtain rfl := rt h
   exact Zn (ZC Y (.one<|rb Y))
theorem Zjj {xs r : List Int} (h : ZdT 1 xs = some r) :
 GSpec Tryz.prog gl0 125 [.sl 5 (List.map R5 xs)] [] (.own 0 r.length) [some ⟨5, List.map R5 r⟩] := by
 have h2 : apz 1 [] xs = some r := h
 refine QF (by kernel_rfl) Tryz.func125 Y Y<|?_
 intro w0 A W φ0
 refine Tr<|Ra Y<|Za<|Zg<|Zg<|Zt<|Rm Y<|Ziv (ov Y) Zmz Y fun b hb=>?_
 refine Za<|ZiC Y (fun hb2=>?_) fun hb2=>?_
 ·
  obtain rfl : xs = [] := by simpa using hb hb2
  obtain rfl : r = [] := by simpa [app, apz] using h2.symm
  exact Tr<|Ra Y<|Za<|Zn<|Zbd [none] Y (.cons (.tmp Y) .nil) (.row 5 .nil) Y Y<|.row Y
 ·
  exact Zh<|Tr<|Rx Y (ZhL (r := 0) (xs := []) (f := R5) Y Z5 .nil Y Y Y)<|Rm Y<|Rx Y (Zgg (ov Y) (Qv (ov Y) tZ_5) Z5 Y Y (fun _=>Zb Y) Y h2)<|Ra Y<|Za<|Zn<|Zbd [some 0] Y (.cons (.tmp Y) .nil) (.cons Y (roM D5) .nil) Y Y<|.own _ Y
theorem ZgI {xs r : List Int} (h : ZdT 8 xs = some r) :
 GSpec Tryz.prog gl0 126 [.sl 3 (List.map R3 xs)] [] (.own 0 r.length) [some ⟨3, List.map R3 r⟩] := by
 have h2 : apz 8 [] xs = some r := h
 refine QF (by kernel_rfl) Tryz.func126 Y Y<|?_
 intro w0 A W φ0
 refine Tr<|Ra Y<|Za<|Zg<|Zg<|Zt<|Rm Y<|Ziv (ov Y) Zmk Y fun b hb=>?_
 refine Za<|ZiC Y (fun hb2=>?_) fun hb2=>?_
 ·
  obtain rfl : xs = [] := by simpa using hb hb2
  obtain rfl : r = [] := by simpa [app, apz] using h2.symm
  exact Tr<|Ra Y<|Za<|Zn<|Zbd [none] Y (.cons (.tmp Y) .nil) (.row 3 .nil) Y Y<|.row Y
 ·
  exact Zh<|Tr<|Rx Y (ZhL (r := 0) (xs := []) (f := R3) Y Q3 .nil Y Y Y)<|Rm Y<|Rx Y (Zgg (ov Y) (Qv (ov Y) tZ_3) Q3 Y Y (fun _=>Zb Y) Y h2)<|Ra Y<|Za<|Zn<|Zbd [some 0] Y (.cons (.tmp Y) .nil) (.cons Y (roM D3) .nil) Y Y<|.own _ Y
theorem Zgz {xs r : List Bool} (h : ZdT 1 xs = some r) :
 GSpec Tryz.prog gl0 127 [.sl 4 (List.map R4 xs)] [] (.own 0 r.length) [some ⟨4, List.map R4 r⟩] := by
 have h2 : apz 1 [] xs = some r := h
 refine QF (by kernel_rfl) Tryz.func127 Y Y<|?_
 intro w0 A W φ0
 refine Tr<|Ra Y<|Za<|Zg<|Zg<|Zt<|Rm Y<|Ziv (ov Y) Zmv Y fun b hb=>?_
 refine Za<|ZiC Y (fun hb2=>?_) fun hb2=>?_
 ·
  obtain rfl : xs = [] := by simpa using hb hb2
  obtain rfl : r = [] := by simpa [app, apz] using h2.symm
  exact Tr<|Ra Y<|Za<|Zn<|Zbd [none] Y (.cons (.tmp Y) .nil) (.row 4 .nil) Y Y<|.row Y
 ·
  exact Zh<|Tr<|Rx Y (ZhL (r := 0) (xs := []) (f := R4) Y ZhP .nil Y Y Y)<|Rm Y<|Rx Y (Zgg (ov Y) (Qv (ov Y) tZ_4) ZhP Y Y (fun _=>Zb Y) Y h2)<|Ra Y<|Za<|Zn<|Zbd [some 0] Y (.cons (.tmp Y) .nil) (.cons Y (roM D4) .nil) Y Y<|.own _ Y
theorem Zb4 {m : api_Memory} {r : api_Memory} (h : Je m = some r) :
 GSpec Tryz.prog gl0 93 [.agg [.int .i64 m.Slots, .int .i64 m.Limit, .sl 49 (List.map R49 m.Sectors), .sl 3 (List.map R3 m.Wear), .sl 4 (List.map R4 m.Bad)]] [] (.agg [.int .i64 r.Slots, .int .i64 r.Limit, .own 0 r.Sectors.length, .own 1 r.Wear.length, .own 2 r.Bad.length]) [some ⟨49, List.map O49 r.Sectors⟩, some ⟨3, List.map R3 r.Wear⟩, some ⟨4, List.map R4 r.Bad⟩] := by
 unfold Je at h
 replace h := Z0 h
 refine QF (by kernel_rfl) Tryz.func93 Y Y<|?_
 intro w0 A W φ0
 refine Tr<|Rx Y (ZjY 0 Y (ov Y) Jg Y)<|Rx Y (ZN (row := [_, _, _, _, _]) 1 Y Zdk Y tZ_26)<|Za<|K2 1 2 Y<|Tr<|Ra Y<|Za<|I1 (fun sectors=>⟨[(1, .ptr 0 1 0 0), (2, .ptr 1 1 0 0), (3, .own 2 sectors.length)], [some ⟨26, [[.int .i64 m.Slots, .int .i64 m.Limit, .sl 49 (List.map R49 m.Sectors), .sl 3 (List.map R3 m.Wear), .sl 4 (List.map R4 m.Bad)]]⟩, some ⟨26, [[.int .i64 0, .int .i64 0, .nils, .nils, .nils]]⟩, some ⟨49, List.map O49 sectors⟩]⟩) h (fun h=>?_) fun sectors h=>?_
 ·
  refine Tr<|Rq Y (Zk (ov Y) Y Y ZG)<|Rq Y (Zu (ov Y) Y Y Y Qd Y)<|Rl tZ_49 Z1 Y<|Rm Y<|Za<|Ze<|?_
  obtain ⟨r1, hl1, ho1⟩ := QI h
  refine L2 (fun sectors2 i=>⟨[(1, .ptr 0 1 0 0), (2, .ptr 1 1 0 0), (3, .own 2 sectors2.length), (7, .sl 49 (List.map R49 m.Sectors)), (8, .int .i64 (m.Sectors.length : Int)), (9, .int .i64 i)], [some ⟨26, [[.int .i64 m.Slots, .int .i64 m.Limit, .sl 49 (List.map R49 m.Sectors), .sl 3 (List.map R3 m.Wear), .sl 4 (List.map R4 m.Bad)]]⟩, some ⟨26, [[.int .i64 0, .int .i64 0, .nils, .nils, .nils]]⟩, some ⟨49, List.map O49 sectors2⟩]⟩) hl1 (ES [some 0, some 1, none]) fun n1 sectors2 i h=>?_
  unfold X8 at h
  refine Tr<|R2 ZO Y<|Za<|Zg<|If h Y (fun h=>?_) fun h=>?_
  ·
   exact Zh<|Zg<|Ze<|K6 1 2 3 7 8 9 Y<|Tr<|bE h fun x h_x h=>Rq Y (ZQ (ov Y) (ov Y) Z1 h_x)<|Rq Y (Zd (ov Y) ZgW Y)<|Ra Y<|Za<|K7 1 2 3 5 7 8 9 Y<|Zt<|Rm Y<|Rm Y<|bE h fun y h_y h=>Rx Y (ZF [] (Zjj h_y) (.cons (ov Y) (.dat Y) .nil) .nil Y (.keep Y Y<|.keep Y Y<|.keep Y Y<|.lent 0 (.inr ⟨Nat.le_of_ble_eq_true Y, Y⟩) Y (roM D5) .nil) Y Y<|.own _<|.inr ⟨Nat.le_of_ble_eq_true Y, Y⟩)<|Rx Y (Qo (r := 4) Y Z1 (.cons (cvs (ov Y)<|Zm Y) Y .nil) Y Y)<|bE h fun l h_l h=>Rx Y (ZD (f := O49) (ov Y) (ZU (o := ⟨49, [[.own 3 y.length]]⟩) (ov Y) Y Y tZ_49) Z1 Y Y (Zb Y) Y h_l)<|Ra Y<|ZeC [some ⟨26, [[.int .i64 m.Slots, .int .i64 m.Limit, .sl 49 (List.map R49 m.Sectors), .sl 3 (List.map R3 m.Wear), .sl 4 (List.map R4 m.Bad)]]⟩, some ⟨26, [[.int .i64 0, .int .i64 0, .nils, .nils, .nils]]⟩, some ⟨49, List.set (List.map O49 l) sectors2.length [.own 3 y.length]⟩, some ⟨5, List.map R5 y⟩, some ⟨49, [[.own 3 y.length]]⟩] Y<|QG (Ent.absorbH (r := 2) (j := 0) (q := 3) Y (Zp h_l) Y Y (List.length_map ..) Y)<|QG (Ent.closeS (r := 2) Y (Zp h_l) Y)<|Za<|K6 1 2 3 7 8 9 Y<|QQ [some ⟨26, [[.int .i64 m.Slots, .int .i64 m.Limit, .sl 49 (List.map R49 m.Sectors), .sl 3 (List.map R3 m.Wear), .sl 4 (List.map R4 m.Bad)]]⟩, some ⟨26, [[.int .i64 0, .int .i64 0, .nils, .nils, .nils]]⟩, some ⟨49, List.map O49 l⟩, none, some ⟨49, [[.own 3 y.length]]⟩] Y<|Zt<|R2 ZM Y<|Rm Y<|Za<|⟨_, h, ES [some 0, some 1, some 2] (hhp := .cons Y (ro1 (by exact tZ_26.symm)<|rld Y)<|.cons Y (ro1 (by exact tZ_26.symm)<|rld Y)<|.cons Y (roO Xn) .nil)⟩
  ·
   refine ZE<|?_
   replace h := lx h ▸ ho1
   exact ⟨_, h, ES [some 0, some 1, some 2] (hhp := .cons Y (ro1 (by exact tZ_26.symm)<|rld Y)<|.cons Y (ro1 (by exact tZ_26.symm)<|rld Y)<|.cons Y (roO Xn) .nil)⟩
 ·
  refine Zg<|Qp (cw := ⟨true, true, [some ⟨26, [[.int .i64 m.Slots, .int .i64 m.Limit, .sl 49 (List.map R49 m.Sectors), .sl 3 (List.map R3 m.Wear), .sl 4 (List.map R4 m.Bad)]]⟩, some ⟨26, [[.int .i64 0, .int .i64 0, .nils, .nils, .nils]]⟩, some ⟨49, List.map O49 sectors⟩], [], [0]⟩) (by kernel_rfl)<|Dq 1 Y (Zk (ov Y) Y Y Ze7)<|Dq 2 Y (Zu (ov Y) Y Y Y Zjm Y)<|Z6 0 _ Y (by kernel_rfl) Y Y (fun hp'=>Zc<|ov Y)<|Xq 4 _ Y (by kernel_rfl) Y Y Y (EL.ext<|.wr Y Y Y<|.keep<|.keep .nil) (fun hp' hx=>exW (r := 0) hx Y fun _ ho hn => Zk (ov Y) ho hn Zf9)<|bE h fun y2 h_y2 h=>ZkK 5 3 Y Y (by kernel_rfl) Y Y Y Y (fun h=>by cases h) (fun _=>by exact EL.ext (.wr rfl rfl rfl <| .keep <| .keep <| .nil)) (Zu (ov Y) Y Y Y Zjx Y) (ZF [] (ZgI h_y2) (.cons (ov Y) (.dat Y) .nil) .nil Y (.keep Y Y<|.keep Y Y<|.keep Y Y<|.lent 0 (.inr ⟨Nat.le_of_ble_eq_true Y, Y⟩) Y (roM D3) .nil) Y Y<|.own _<|.inr ⟨Nat.le_of_ble_eq_true Y, Y⟩) ?_ ?_
  ·
   refine Xq 7 _ Y (by kernel_rfl) Y Y Y (EL.ext<|.wr Y Y Y<|.keep<|.keep .nil) (fun hp' hx=>exW (r := 0) hx Y fun _ ho hn => Zk (ov Y) ho hn ZG)<|Jt 3 _ _ Y (by kernel_rfl) Y Y (fun h=>by cases h) (fun _=>by exact EL.ext (.wr rfl rfl rfl <| .keep <| .keep <| .nil)) (ZF [] (ZgI h_y2) (.cons (ov Y) (.dat Y) .nil) .nil Y (.keep Y Y<|.keep Y Y<|.keep Y Y<|.lent 0 (.inr ⟨Nat.le_of_ble_eq_true Y, Y⟩) Y (roM D3) .nil) Y Y<|.own _<|.inr ⟨Nat.le_of_ble_eq_true Y, Y⟩)<|bE h fun y3 h_y3 h=>Jt 6 _ _ Y (by kernel_rfl) Y Y (fun h=>by cases h) (fun _=>by exact EL.ext (.wr rfl rfl rfl <| .keep <| .keep <| .nil)) (ZF [] (Zgz h_y3) (.cons (ov Y) (.dat Y) .nil) .nil Y (.keep Y Y<|.keep Y Y<|.keep Y Y<|.keep Y Y<|.lent 0 (.inr ⟨Nat.le_of_ble_eq_true Y, Y⟩) Y (roM D4) .nil) Y Y<|.own _<|.inr ⟨Nat.le_of_ble_eq_true Y, Y⟩)<|Jt 8 _ _ Y (by kernel_rfl) Y Y (fun h=>by cases h) (fun _=>by exact EL.ext (.wr rfl rfl rfl <| .keep <| .keep <| .nil)) (Zi (ov Y) (ov Y) (Zf Qd) Y Y Y (Nat.le_of_ble_eq_true Y) (Zb Y) Y)<|Dq 9 Y (Zk (ov Y) Y Y Ze7)<|Jt 10 _ _ Y (by kernel_rfl) Y Y (fun h=>by cases h) (fun _=>by exact EL.ext (.wr rfl rfl rfl <| .keep <| .keep <| .nil)) (Zi (ov Y) (ov Y) (Zf Zjm) Y Y Y (Nat.le_of_ble_eq_true Y) (Zb Y) Y)<|Dq 11 Y (Zk (ov Y) Y Y Zf9)<|Jt 12 _ _ Y (by kernel_rfl) Y Y (fun h=>by cases h) (fun _=>by exact EL.ext (.wr rfl rfl rfl <| .keep <| .keep <| .nil)) (Zi (ov Y) (ov Y) (Zf Zjx) Y Y Y (Nat.le_of_ble_eq_true Y) (Zb Y) Y)<|Dd<|K2 1 2 Y<|QQ [some ⟨26, [[.int .i64 m.Slots, .int .i64 m.Limit, .own 2 sectors.length, .own 3 y2.length, .own 4 y3.length]]⟩, some ⟨26, [[.int .i64 0, .int .i64 0, .nils, .nils, .nils]]⟩, some ⟨49, List.map O49 sectors⟩, some ⟨3, List.map R3 y2⟩, some ⟨4, List.map R4 y3⟩] Y<|Tr<|Rq Y (Qe (ov Y) Y Y Y Jg Y Y)<|Rx Y (Zi (ov Y) (ov Y) (Zs Jg Y) Y Y Y (Nat.le_of_ble_eq_true Y) (Zb Y) Y)<|Za<|?_
   obtain rfl := rt h
   exact Zn<|Zbd [some 2, some 3, some 4] Y (.cons (.agg Y Y Y Y Jg Y Y) .nil) (.cons Y (roO Xn)<|.cons Y (roM D3)<|.cons Y (roM D4) .nil) Y Y<|Zed<|rlc (.dat Y)<|rlc (.dat Y)<|rlc (.own _ Y)<|rlc (.own _ Y)<|rlc (.own _ Y) rln
  ·
   refine Dq 5 Y (Zu (ov Y) Y Y Y Zjx Y)<|Xq 7 _ Y (by kernel_rfl) Y Y Y (EL.ext<|.wr Y Y Y<|.keep<|.keep .nil) (fun hp' hx=>exW (r := 0) hx Y fun _ ho hn => Zk (ov Y) ho hn ZG)<|bE h fun y3 h_y3 h=>Jt 6 _ _ Y (by kernel_rfl) Y Y (fun h=>by cases h) (fun _=>by exact EL.ext (.wr rfl rfl rfl <| .keep <| .keep <| .nil)) (ZF [] (Zgz h_y3) (.cons (ov Y) (.dat Y) .nil) .nil Y (.keep Y Y<|.keep Y Y<|.keep Y Y<|.keep Y Y<|.lent 0 (.inr ⟨Nat.le_of_ble_eq_true Y, Y⟩) Y (roM D4) .nil) Y Y<|.own _<|.inr ⟨Nat.le_of_ble_eq_true Y, Y⟩)<|Jt 8 _ _ Y (by kernel_rfl) Y Y (fun h=>by cases h) (fun _=>by exact EL.ext (.wr rfl rfl rfl <| .keep <| .keep <| .nil)) (Zi (ov Y) (ov Y) (Zf Qd) Y Y Y (Nat.le_of_ble_eq_true Y) (Zb Y) Y)<|Dq 9 Y (Zk (ov Y) Y Y Ze7)<|Jt 10 _ _ Y (by kernel_rfl) Y Y (fun h=>by cases h) (fun _=>by exact EL.ext (.wr rfl rfl rfl <| .keep <| .keep <| .nil)) (Zi (ov Y) (ov Y) (Zf Zjm) Y Y Y (Nat.le_of_ble_eq_true Y) (Zb Y) Y)<|Dq 11 Y (Zk (ov Y) Y Y Zf9)<|Jt 12 _ _ Y (by kernel_rfl) Y Y (fun h=>by cases h) (fun _=>by exact EL.ext (.wr rfl rfl rfl <| .keep <| .keep <| .nil)) (Zi (ov Y) (ov Y) (Zf Zjx) Y Y Y (Nat.le_of_ble_eq_true Y) (Zb Y) Y)<|Dd<|K2 1 2 Y<|QQ [some ⟨26, [[.int .i64 m.Slots, .int .i64 m.Limit, .own 2 sectors.length, .own 3 y2.length, .own 4 y3.length]]⟩, some ⟨26, [[.int .i64 0, .int .i64 0, .nils, .nils, .nils]]⟩, some ⟨49, List.map O49 sectors⟩, some ⟨3, List.map R3 y2⟩, some ⟨4, List.map R4 y3⟩] Y<|Tr<|Rq Y (Qe (ov Y) Y Y Y Jg Y Y)<|Rx Y (Zi (ov Y) (ov Y) (Zs Jg Y) Y Y Y (Nat.le_of_ble_eq_true Y) (Zb Y) Y)<|Za<|?_
   obtain rfl := rt h
   exact Zn<|Zbd [some 2, some 3, some 4] Y (.cons (.agg Y Y Y Y Jg Y Y) .nil) (.cons Y (roO Xn)<|.cons Y (roM D3)<|.cons Y (roM D4) .nil) Y Y<|Zed<|rlc (.dat Y)<|rlc (.dat Y)<|rlc (.own _ Y)<|rlc (.own _ Y)<|rlc (.own _ Y) rln
theorem ZfF {l : List api_Memory} {r : (List api_Memory)} (h : XD l = some r) :
 GSpec Tryz.prog gl0 63 [.sl 26 (List.map R26 l)] [] (.own 0 r.length) [some ⟨26, List.map O26 r⟩] := by
 unfold XD at h
 replace h := Z0 h
 refine QF (by kernel_rfl) Tryz.func63 Y Y<|?_
 intro w0 A W φ0
 refine Tr<|Ra Y<|Za<|K1 0 Y<|Tr<|Ra Y<|Za<|I1 (fun out=>⟨[(3, .own 0 out.length)], [some ⟨26, List.map O26 out⟩]⟩) h (fun h=>?_) fun out h=>?_
 ·
  refine Tr<|Rm Y<|Rl tZ_26 ZcF Y<|Rm Y<|Za<|Ze<|?_
  obtain ⟨r1, hl1, ho1⟩ := QI h
  refine L2 (fun out2 i=>⟨[(3, .own 0 out2.length), (6, .sl 26 (List.map R26 l)), (7, .int .i64 (l.length : Int)), (8, .int .i64 i)], [some ⟨26, List.map O26 out2⟩]⟩) hl1 (ES [none]) fun n1 out2 i h=>?_
  unfold Jf at h
  refine Tr<|R2 ZO Y<|Za<|Zg<|If h Y (fun h=>?_) fun h=>?_
  ·
   exact Zh<|Zg<|Ze<|K4 3 6 7 8 Y<|Tr<|bE h fun x h_x h=>Rq Y (ZQ (ov Y) (ov Y) ZcF h_x)<|Rq Y (Xc (ov Y) Jg Y Y)<|Rx Y (ZN (row := [_, _, _, _, _]) 1 Y Zdk Y tZ_26)<|Rx Y (Zi (ov Y) (ov Y) (Zs Jg Y) Y Y Y (Nat.le_of_ble_eq_true Y) (Zb Y) Y)<|Za<|K5 3 5 6 7 8 Y<|QQ [some ⟨26, List.map O26 out2⟩, some ⟨26, [[.int .i64 x.Slots, .int .i64 x.Limit, .sl 49 (List.map R49 x.Sectors), .sl 3 (List.map R3 x.Wear), .sl 4 (List.map R4 x.Bad)]]⟩] Y<|Zt<|Rm Y<|Rq Y (Qe (ov Y) Y Y Y Jg Y Y)<|bE h fun y h_y h=>Rx Y (ZF [] (Zb4 h_y) (.cons (ov Y) (Zed<|rld Y) .nil) .nil Y (.keep Y Y<|.keep Y Y<|.lent 0 (.inr ⟨Nat.le_of_ble_eq_true Y, Y⟩) Y (roO Xn)<|.lent 1 (.inr ⟨Nat.le_of_ble_eq_true Y, Y⟩) Y (roM D3)<|.lent 2 (.inr ⟨Nat.le_of_ble_eq_true Y, Y⟩) Y (roM D4) .nil) Y Y<|Zed<|rlc (.dat Y)<|rlc (.dat Y)<|rlc (.own _<|.inr ⟨Nat.le_of_ble_eq_true Y, Y⟩)<|rlc (.own _<|.inr ⟨Nat.le_of_ble_eq_true Y, Y⟩)<|rlc (.own _<|.inr ⟨Nat.le_of_ble_eq_true Y, Y⟩) rln)<|Rx Y (Qo (r := 5) Y ZcF (.cons (cva<|ov Y) Y .nil) Y Y)<|bE h fun l2 h_l2 h=>Rx Y (ZD (f := O26) (ov Y) (ZU (o := ⟨26, [[.int .i64 y.Slots, .int .i64 y.Limit, .own 2 y.Sectors.length, .own 3 y.Wear.length, .own 4 y.Bad.length]]⟩) (ov Y) Y Y tZ_26) ZcF Y Y (Zb Y) Y h_l2)<|Ra Y<|ZeC [some ⟨26, List.set (List.map O26 l2) out2.length [.int .i64 y.Slots, .int .i64 y.Limit, .own 2 y.Sectors.length, .own 3 y.Wear.length, .own 4 y.Bad.length]⟩, some ⟨26, [[.int .i64 x.Slots, .int .i64 x.Limit, .sl 49 (List.map R49 x.Sectors), .sl 3 (List.map R3 x.Wear), .sl 4 (List.map R4 x.Bad)]]⟩, some ⟨49, List.map O49 y.Sectors⟩, some ⟨3, List.map R3 y.Wear⟩, some ⟨4, List.map R4 y.Bad⟩, some ⟨26, [[.int .i64 y.Slots, .int .i64 y.Limit, .own 2 y.Sectors.length, .own 3 y.Wear.length, .own 4 y.Bad.length]]⟩] Y<|QG (Ent.absorbH (r := 0) (j := 2) (q := 2) Y (Zp h_l2) Y Y (List.length_map ..) Y)<|QG (Ent.absorbH (r := 0) (j := 3) (q := 3) Y (Zp h_l2) Y Y (List.length_map ..) Y)<|QG (Ent.absorbH (r := 0) (j := 4) (q := 4) Y (Zp h_l2) Y Y (List.length_map ..) Y)<|QG (Ent.closeS (r := 0) Y (Zp h_l2) Y)<|Za<|K4 3 6 7 8 Y<|QQ [some ⟨26, List.map O26 l2⟩, some ⟨26, [[.int .i64 x.Slots, .int .i64 x.Limit, .sl 49 (List.map R49 x.Sectors), .sl 3 (List.map R3 x.Wear), .sl 4 (List.map R4 x.Bad)]]⟩, none, none, none, some ⟨26, [[.int .i64 y.Slots, .int .i64 y.Limit, .own 2 y.Sectors.length, .own 3 y.Wear.length, .own 4 y.Bad.length]]⟩] Y<|Zt<|R2 ZM Y<|Rm Y<|Za<|⟨_, h, ES [some 0] (hhp := .cons Y (roO Xo) .nil)⟩
  ·
   refine ZE<|?_
   replace h := lx h ▸ ho1
   exact ⟨_, h, ES [some 0] (hhp := .cons Y (roO Xo) .nil)⟩
 ·
  refine Tr<|Rm Y<|Ra Y<|Za<|?_
  obtain rfl := rt h
  exact Zn<|Zbd [some 0] Y (.cons (.tmp Y) .nil) (.cons Y (roO Xo) .nil) Y Y<|.own _ Y
theorem Zey {sequence : Int} {r : (List Int)} (h : X1 sequence = some r) :
 CSpec Tryz.prog gl0 87 [.int .i64 sequence] (.sl 5 (List.map R5 r)) := by
 unfold X1 at h
 replace h := Z0 h
 refine So Tryz.func87 Y fun w0 A=>Tr<|Ra Y<|Za<|K1 0 Y<|Tr<|Rx Y (ZhL (r := 0) (xs := ([79, 66] : List Int)) (f := R5) Y Z5 (.cons (cvs (ov Y)<|Zm Y) Y (.cons (.b Y) .nil)<|.cons (cvs (ov Y)<|Zm Y) Y (.cons (.b Y) .nil) .nil) Y Y Y)<|Ra Y<|Za<|I1 (fun out=>⟨[(3, .own 0 out.length)], [some ⟨5, List.map R5 out⟩]⟩) h (fun h=>?_) fun out h=>?_
 ·
  refine K2 0 3 Y<|Tr<|Ra Y<|Za<|Ze<|?_
  obtain ⟨r1, hl1, ho1⟩ := QI h
  refine L2 (fun out2 shift=>⟨[(0, .int .i64 sequence), (3, .own 0 out2.length), (4, .int .i64 shift)], [some ⟨5, List.map R5 out2⟩]⟩) hl1 (ES [some 0]) fun n1 out2 shift h=>?_
  unfold Qu at h
  refine Zg<|Tr<|Rm Y<|R2 ZfW Y<|Za<|K4 0 3 4 9 Y<|If h Y (fun h=>?_) fun h=>?_
  ·
   exact Zh<|Zg<|Ze<|K3 0 3 4 Y<|Zt<|Rm Y<|Rm Y<|Rm Y<|bE h fun q h_q h=>Rq Y (ZbB (ov Y) (ov Y) h_q)<|Rq Y (Z7 (ov Y) tI3 tI5 Y)<|R_q (.sl 5<|List.map R5 ([(u8 q)] : List Int)) Y (XC Z5 (.cons (cvs (ov Y)<|Zm Y) Y (.cons (.b Y) .nil) .nil) Y Y)<|bE h fun l h_l h=>Rx Y (Qr (ov Y) (Qv (ov Y) tZ_5) Z5 Y Y Y (fun _=>Zb Y) Y h_l)<|Ra Y<|Za<|K3 0 3 4 Y<|Zt<|Rm Y<|R2 ZeV Y<|Ra Y<|Za<|⟨_, h, ES [some 0]⟩
  ·
   refine ZE<|?_
   replace h := lx h ▸ ho1
   exact ⟨_, h, ES [some 0]⟩
 ·
  refine I1 (fun out3=>⟨[(3, .own 0 out3.length)], [some ⟨5, List.map R5 out3⟩]⟩) h (fun h=>?_) fun out3 h=>?_
  ·
   refine Tr<|Rm Y<|bE h fun u h_u h=>Rq Y (Zl0 (ov Y) Y Y Z5 (oi<|ov Y) (oi<|ov Y) h_u)<|Rq Y (ZkZ (ov Y) Y (List.length_map ..) Z5)<|Rm Y<|Za<|Ze<|?_
   obtain ⟨r2, hl2, ho2⟩ := QI h
   refine ZlA (τ := Option (List Int)) _ (fun b s=>Option.elim b (t2 (fun out4 i=>(⟨[(3, .own 0 out4.length), (20, .osl 0 out4.length (Int.toNat 2) (Int.toNat (6 - 2))), (21, .int .i64 ((Int.toNat (6 - 2) : Nat) : Int)), (22, .int .i64 i)], [some ⟨5, List.map R5 out4⟩]⟩ : St)) s) fun old2=>t2 (fun out4 i=>(⟨[(3, .own 1 out4.length), (20, .osl 0 old2.length (Int.toNat 2) (Int.toNat (6 - 2))), (21, .int .i64 ((Int.toNat (6 - 2) : Nat) : Int)), (22, .int .i64 i)], [some ⟨5, List.map R5 old2⟩, some ⟨5, List.map R5 out4⟩]⟩ : St)) s) (fun b s => ∃ tl, Option.getD b s.1 = out ++ tl) none _ hl2 Zlg (Ent.sel [some 0] (sr 3 Y (.own _ Y)<|sr 20 Y (.osl _ _ _ Y)<|sd 21 Y Y<|sd 22 Y Y sn) (.cons Y (roM D5) .nil) Y Y) fun b2 n2 s2 hC h=>?_
   obtain ⟨out4, i⟩ := s2
   replace h := t2i h
   unfold Qz at h
   rcases b2 with _ | old2
   ·
    replace hC : ∃ tl, out4 = out ++ tl := hC
    show T _ _ ⟨[(3, .own 0 out4.length), (20, .osl 0 out4.length (Int.toNat 2) (Int.toNat (6 - 2))), (21, .int .i64 ((Int.toNat (6 - 2) : Nat) : Int)), (22, .int .i64 i)], [some ⟨5, List.map R5 out4⟩]⟩ _
    refine Tr<|R2 ZO Y<|Za<|Zg<|If h Y (fun h=>?_) fun h=>?_
    ·
     refine Zh<|Zg<|Ze<|K4 3 20 21 22 Y<|Tr<|bE h fun u2 h_u2 h=>bE h fun x2 h_x2 h=>?_
     have h_x2P := ZjR hC h_x2
     refine Rq Y (ZkW (ov Y) (ov Y) Z5 Y Y (Zfv h_u).1 h_u2 h_x2P)<|Rq Y (XQ (ov Y) Y Y h_x2P tS5 Y)<|Ra Y<|Za<|K5 3 6 20 21 22 Y<|Zt<|Rm Y<|Rm Y<|R1 Ziz Y<|R_q (.sl 5<|List.map R5 ([(Zat .u8 255 x2)] : List Int)) Y (XC Z5 (.cons (cvs (ov Y)<|Zm Y) Y (.cons (.b Y) .nil) .nil) Y Y)<|bE h fun l2 h_l2 h=>Zlq (f := R5) (tp := 20) (ys := ([(Zat .u8 255 x2)] : List Int)) Y (ov Y) (Qv (ov Y) tZ_5) Z5 Y Y Y (fun _=>Zb Y) Y (fun _=>nsR Y) h_l2 Y ?_ ?_
     ·
      exact Ra Y<|Za<|K4 3 20 21 22 Y<|Zt<|R2 ZM Y<|Rm Y<|Za<|⟨none, (l2, (i64 (i + 1))), ZlE hC h_l2, h, Ent.sel [some 0] (sr 3 Y (.own _ Y) <| sr 20 Y (.osl _ _ _ Y) <| sd 21 Y Y <| sd 22 Y Y <| sn) (.cons Y (roM D5) <| .nil) Y Y⟩
     ·
      exact Ra Y<|Za<|K4 3 20 21 22 Y<|Zt<|R2 ZM Y<|Rm Y<|Za<|⟨some out4, (l2, (i64 (i + 1))), hC, h, Ent.sel [some 0, some 1] (sr 3 Y (.own _ Y) <| sr 20 Y (.osl _ _ _ Y) <| sd 21 Y Y <| sd 22 Y Y <| sn) (.cons Y (roM D5) <| .cons Y (roM D5) <| .nil) Y Y⟩
    ·
     refine ZE<|?_
     replace h := lx h ▸ ho2
     exact ⟨_, h, ES [some 0]⟩
   ·
    replace hC : ∃ tl, old2 = out ++ tl := hC
    show T _ _ ⟨[(3, .own 1 out4.length), (20, .osl 0 old2.length (Int.toNat 2) (Int.toNat (6 - 2))), (21, .int .i64 ((Int.toNat (6 - 2) : Nat) : Int)), (22, .int .i64 i)], [some ⟨5, List.map R5 old2⟩, some ⟨5, List.map R5 out4⟩]⟩ _
    refine Tr<|R2 ZO Y<|Za<|Zg<|If h Y (fun h=>?_) fun h=>?_
    ·
     refine Zh<|Zg<|Ze<|K4 3 20 21 22 Y<|Tr<|bE h fun u2 h_u2 h=>bE h fun x2 h_x2 h=>?_
     have h_x2P := ZjR hC h_x2
     exact Rq Y (ZkW (ov Y) (ov Y) Z5 Y Y (Zfv h_u).1 h_u2 h_x2P)<|Rq Y (XQ (ov Y) Y Y h_x2P tS5 Y)<|Ra Y<|Za<|K5 3 6 20 21 22 Y<|Zt<|Rm Y<|Rm Y<|R1 Ziz Y<|R_q (.sl 5<|List.map R5 ([(Zat .u8 255 x2)] : List Int)) Y (XC Z5 (.cons (cvs (ov Y)<|Zm Y) Y (.cons (.b Y) .nil) .nil) Y Y)<|bE h fun l2 h_l2 h=>Rx Y (Qr (ov Y) (Qv (ov Y) tZ_5) Z5 Y Y Y (fun _=>Zb Y) Y h_l2)<|Ra Y<|Za<|K4 3 20 21 22 Y<|Zt<|R2 ZM Y<|Rm Y<|Za<|⟨some old2, (l2, (i64 (i + 1))), hC, h, Ent.sel [some 0, some 1] (sr 3 Y (.own _ Y) <| sr 20 Y (.osl _ _ _ Y) <| sd 21 Y Y <| sd 22 Y Y <| sn) (.cons Y (roM D5) <| .cons Y (roM D5) <| .nil) Y Y⟩
    ·
     refine ZE<|?_
     replace h := lx h ▸ ho2
     exact ⟨_, h, ES [some 1]⟩
  ·
   refine Tr<|Rm Y<|Ra Y<|Za<|?_
   obtain rfl := rt h
   exact Zn (ZC Y (.one<|.tmp Y<|View.ownM Y Y D5))
theorem ZcV {s1 : List Int} {s2 : List Int} {r : Bool} (h : Z3 s1 s2 = some r) :
 CSpec Tryz.prog gl0 86 [.sl 5 (List.map R5 s1), .sl 5 (List.map R5 s2)] (.bool r) := by
 unfold Z3 at h
 replace h := Z0 h
 refine So Tryz.func86 Y fun w0 A=>Tr<|Ra Y<|Za<|Zg<|K2 0 1 Y<|Tr<|Rm Y<|Rl tZ_5 Z5 Y<|Rm Y<|Rl tZ_5 Z5 Y<|R2 Xp Y<|Za<|K3 0 1 10 Y<|If h Y (fun h=>?_) fun h=>?_
 ·
  refine K0<|Tr<|Ra Y<|Za<|?_
  obtain rfl := rt h
  exact Zn (ZC Y (.one<|rb Y))
 ·
  refine Zh<|J0 (fun j => (.inr j)) ⟨[], []⟩ h (fun h=>?_) fun h=>?_
  ·
   refine K2 0 1 Y<|Tr<|Rm Y<|Rl tZ_5 Z5 Y<|Rm Y<|Za<|Ze<|?_
   obtain ⟨r1, hl1, ho1⟩ := QI h
   refine L1 (fun i=>⟨[(0, .sl 5 (List.map R5 s1)), (1, .sl 5 (List.map R5 s2)), (12, .int .i64 (s1.length : Int)), (13, .int .i64 i)], []⟩) hl1 (ES []) fun n1 i h=>?_
   unfold Z2 at h
   refine Tr<|R2 ZO Y<|Za<|Zg<|If h Y (fun h=>?_) fun h=>?_
   ·
    refine Zh<|Zg<|Ze<|K4 0 1 12 13 Y<|Tr<|Rm Y<|Ra Y<|Za<|Zg<|K5 0 1 5 12 13 Y<|Qp (cw := md0) (by kernel_rfl)<|D1 0 Zc Y<|D1 1 Zc Y<|bE h fun x h_x h=>Dq 2 Y (ZQ (ov Y) (ov Y) Z5 h_x)<|Dq 3 Y (Zd (ov Y) tS5 Y)<|D1 4 Zc Y<|D1 5 Zc Y<|bE h fun x2 h_x2 h=>Dq 6 Y (ZQ (ov Y) (ov Y) Z5 h_x2)<|Dq 7 Y (Zd (ov Y) tS5 Y)<|D2 8 Xp Y<|Dd<|K5 0 1 12 13 24 Y<|If h Y (fun h=>?_) fun h=>?_
    ·
     refine K0<|Tr<|Ra Y<|Za<|?_
     replace h := lx h ▸ ho1
     obtain rfl := rt h
     exact Zn (ZC Y (.one<|rb Y))
    ·
     exact Zh<|K4 0 1 12 13 Y<|Zt<|R2 ZM Y<|Rm Y<|Za<|⟨_, h, ES []⟩
   ·
    refine ZE<|?_
    replace h := lx h ▸ ho1
    exact ⟨(), h, ES []⟩
  ·
   replace h := elr h
   replace h := t0i h
   refine Tr<|Ra Y<|Za<|?_
   obtain rfl := rt h
   exact Zn (ZC Y (.one<|rb Y))
theorem JM {s : List Int} {r : Int × Bool × Bool} (h : Xt s = some r) :
 CSpec Tryz.prog gl0 34 [.sl 5 (List.map R5 s)] (.tuple [.int .i64 r.1, .bool r.2.1, .bool r.2.2]) := by
 unfold Xt at h
 replace h := Z0 h
 refine So Tryz.func34 Y fun w0 A=>Tr<|Ra Y<|Ra Y<|Ra Y<|Za<|Zg<|K1 0 Y<|Tr<|Rm Y<|Rl tZ_5 Z5 Y<|R2 ZO Y<|Za<|K2 0 9 Y<|If h Y (fun h=>?_) fun h=>?_
 ·
  refine K0<|Tr<|Ra Y<|Ra Y<|Ra Y<|Za<|?_
  obtain rfl := rt h
  exact Zn (ZC Y (.three (rb Y) (rb Y)<|rb Y))
 ·
  refine Zh<|K1 0 Y<|Tr<|Rm Y<|bE h fun l h_l h=>Rq Y (Zeg (ov Y) Z5 on (oi<|ov Y) h_l)<|bE h fun v h_v h=>Rq Y (Zjn (f := C5) (ov Y) Zhh tZ_5 Y h_v)<|Ra Y<|Za<|Zg<|K1 5 Y<|Qp (cw := md0) (by kernel_rfl)<|D1 0 Zc Y<|D1 1 Zy Y<|bE h fun x h_x h=>Dq 2 Y (QD (ov Y) (ov Y) Zhh h_x)<|Dq 3 Y (Zd (ov Y) tS5<|Qi<|Q9 (o := 0) (o' := ((Int.toNat 2) * 1)) (Zq arL)<|Xa h_x)<|Dq 4 Y (Z7 (ov Y) tI5 tI3 Y)<|bE h fun q h_q h=>Dq 5 Y (ZdI (ov Y) (ov Y) h_q)<|D1 6 Zc Y<|D1 7 Zy Y<|bE h fun x2 h_x2 h=>Dq 8 Y (QD (ov Y) (ov Y) Zhh h_x2)<|Dq 9 Y (Zd (ov Y) tS5<|Qi<|Q9 (o := 0) (o' := ((Int.toNat 3) * 1)) (Zq arL)<|Xa h_x2)<|Dq 10 Y (Z7 (ov Y) tI5 tI3 Y)<|bE h fun q2 h_q2 h=>Dq 11 Y (ZdI (ov Y) (ov Y) h_q2)<|D2 12 Ze5 Y<|D1 13 Zc Y<|D1 14 Zy Y<|bE h fun x3 h_x3 h=>Dq 15 Y (QD (ov Y) (ov Y) Zhh h_x3)<|Dq 16 Y (Zd (ov Y) tS5<|Qi<|Q9 (o := 0) (o' := ((Int.toNat 4) * 1)) (Zq arL)<|Xa h_x3)<|Dq 17 Y (Z7 (ov Y) tI5 tI3 Y)<|bE h fun q3 h_q3 h=>Dq 18 Y (ZdI (ov Y) (ov Y) h_q3)<|D2 19 Ze5 Y<|D1 20 Zc Y<|D1 21 Zy Y<|bE h fun x4 h_x4 h=>Dq 22 Y (QD (ov Y) (ov Y) Zhh h_x4)<|Dq 23 Y (Zd (ov Y) tS5<|Qi<|Q9 (o := 0) (o' := ((Int.toNat 5) * 1)) (Zq arL)<|Xa h_x4)<|Dq 24 Y (Z7 (ov Y) tI5 tI3 Y)<|D2 25 Ze5 Y<|D1 26 Z8 Y<|Dd<|Zg<|Zg<|K2 5 6 Y<|Qp (cw := md0) (by kernel_rfl)<|D1 0 Zc Y<|bE h fun y h_y h=>Dq 1 Y (Zo (Z9 h_y)<|.cons (ov Y) (.b Y)<|.cons (ov Y) (.b Y)<|.cons (ov Y) (.b Y) .nil)<|D1 2 X2 Y<|D1 3 Zc Y<|Dq 4 Y (.guarded ((!y) == false) Y Y Y Y fun h => Zc<|ov Y)<|Dq 5 Y (.guarded ((!y) == false) Y Y Y Y fun h => Zy<|ow Y h)<|bE h fun l2 h_l2 h=>Dq 6 Y (.guarded ((!y) == false) Y Y Y Y fun h => Zjc (f := C5) (ow Y h) Zhh tZ_5 (Zq arL) Y on (oi<|ov Y)<|gdT h_l2 h)<|Dq 7 Y (.guarded ((!y) == false) Y Y Y Y fun h => Zc<|ov Y)<|bE h fun y2 h_y2 h=>Dq 8 Y (.guarded ((!y) == false) Y Y Y Y fun h => Zo (Zey<|gdT h_y2 h)<|.cons (ow Y h) (.b Y) .nil)<|bE h fun y3 h_y3 h=>Dq 9 Y (.guarded ((!y) == false) Y Y Y Y fun h => Zo (ZcV<|gdT h_y3 h)<|.cons (ow Y h) (.b Y)<|.cons (ow Y h) (.b Y) .nil)<|Dq 10 Y (.guarded ((!y) == false) Y Y Y Y fun h => X2<|ow Y h)<|Dq 11 Y (ZdB (ov Y) fun hp=>ow Y<|gF hp)<|Dd<|K3 5 6 50 Y<|If h Y (fun h=>?_) fun h=>?_
  ·
   refine K0<|Tr<|Ra Y<|Ra Y<|Ra Y<|Za<|?_
   obtain rfl := rt h
   exact Zn (ZC Y (.three (rb Y) (rb Y)<|rb Y))
  ·
   refine Zh<|Zg<|K2 5 6 Y<|Qp (cw := md0) (by kernel_rfl)<|D1 0 Zc Y<|D1 1 Zc Y<|D1 2 Zy Y<|bE h fun x5 h_x5 h=>Dq 3 Y (QD (ov Y) (ov Y) Zhh h_x5)<|Dq 4 Y (Zd (ov Y) tS5<|Qi<|Q9 (o := 0) (o' := ((Int.toNat 10) * 1)) (Zq arL)<|Xa h_x5)<|D2 5 Xp Y<|D1 6 Z8 Y<|D1 7 Z8 Y<|D1 8 Z8 Y<|Dd<|?_
   obtain rfl := rt h
   exact Zn (ZC Y (.three (rb Y) (rb Y)<|rb Y))
theorem Xj {data : List Int} {a : Int} {b : Int} {cmp : Int → Int → Option Int} {r : (List Int)} {cmp_f : FuncId} {cmp_c : List AV} (cmp_d : cmp_c.all datB = true) (cmp_h : ∀ (z0 : Int) (z1 : Int) z, cmp z0 z1 = some z → CSpec Tryz.prog gl0 cmp_f ([.int .i64 z0, .int .i64 z1] ++ cmp_c) (.int .i64 z)) (h : Zx data a b cmp = some r) :
 GSpec Tryz.prog gl0 155 [.own 0 data.length, .int .i64 a, .int .i64 b, .fn cmp_f cmp_c] [some ⟨3, List.map R3 data⟩] (.tuple []) [some ⟨3, List.map R3 r⟩] := by
 unfold Zx at h
 replace h := Z0 h
 refine QF (by kernel_rfl) Tryz.func155 Y Y<|?_
 intro w0 A W φ0
 refine Tr<|Rm Y<|R2 ZM Y<|Ra Y<|Za<|Ze<|?_
 obtain ⟨r1, hl1, ho1⟩ := QI h
 refine L2 (fun o i=>⟨[(0, .own 0 o.length), (1, .int .i64 a), (2, .int .i64 b), (3, .fn cmp_f cmp_c), (8, .int .i64 i)], [some ⟨3, List.map R3 o⟩]⟩) hl1 (ES [some 0]<|sr 0 Y (.own _ Y)<|sd 1 Y Y<|sd 2 Y Y<|sr 3 Y (rFn<|rld cmp_d)<|sd 8 Y Y sn) fun n1 o i h=>?_
 unfold ZA at h
 refine Zg<|Tr<|Rm Y<|Rm Y<|R2 ZO Y<|Za<|K6 0 1 2 3 8 14 Y<|If h Y (fun h=>?_) fun h=>?_
 ·
  refine Zh<|I1 (fun o2=>⟨[(0, .own 0 o2.length), (1, .int .i64 a), (2, .int .i64 b), (3, .fn cmp_f cmp_c), (8, .int .i64 i)], [some ⟨3, List.map R3 o2⟩]⟩) h (fun h=>?_) fun o2 h=>?_
  ·
   refine Ze<|K5 0 1 2 3 8 Y<|Tr<|Rm Y<|Ra Y<|Za<|Ze<|?_
   obtain ⟨r2, hl2, ho2⟩ := QI h
   refine L2 (fun o3 j=>⟨[(0, .own 0 o3.length), (1, .int .i64 a), (2, .int .i64 b), (3, .fn cmp_f cmp_c), (8, .int .i64 i), (9, .int .i64 j)], [some ⟨3, List.map R3 o3⟩]⟩) hl2 (ES [some 0]<|sr 0 Y (.own _ Y)<|sd 1 Y Y<|sd 2 Y Y<|sr 3 Y (rFn<|rld cmp_d)<|sd 8 Y Y<|sd 9 Y Y sn) fun n2 o3 j h=>?_
   unfold Zz at h
   refine Zg<|Zg<|Qp (cw := md0) (by kernel_rfl)<|D1 0 Zc Y<|D1 1 Zc Y<|D2 2 ZcN Y<|D1 3 Zc Y<|Dq 4 Y (.guarded ((decide (a < j)) == true) Y Y Y Y fun h => Zc<|ov Y)<|Dq 5 Y (.guarded ((decide (a < j)) == true) Y Y Y Y fun h => Zc<|ov Y)<|Dq 6 Y (.guarded ((decide (a < j)) == true) Y Y Y Y fun h => Zc<|ov Y)<|bE h fun x h_x h=>Dq 7 Y (.guarded ((decide (a < j)) == true) Y Y Y Y fun h => XP (ow Y h) (ow Y h) Q3 Y Y<|gdT h_x h)<|Dq 8 Y (.guarded ((decide (a < j)) == true) Y Y Y Y fun h => XQ (ow Y h) Y Y (gdT h_x h) tS3 Y)<|Dq 9 Y (.guarded ((decide (a < j)) == true) Y Y Y Y fun h => Zc<|ov Y)<|Dq 10 Y (.guarded ((decide (a < j)) == true) Y Y Y Y fun h => Zc<|ov Y)<|Dq 11 Y (.guarded ((decide (a < j)) == true) Y Y Y Y fun h => ZkT (ow Y h) (ov Y) Y)<|bE h fun x2 h_x2 h=>Dq 12 Y (.guarded ((decide (a < j)) == true) Y Y Y Y fun h => XP (ow Y h) (ow Y h) Q3 Y Y<|gdT h_x2 h)<|Dq 13 Y (.guarded ((decide (a < j)) == true) Y Y Y Y fun h => XQ (ow Y h) Y Y (gdT h_x2 h) tS3 Y)<|bE h fun y h_y h=>Dq 14 Y (.guarded ((decide (a < j)) == true) Y Y Y Y fun h => Zg2 (ow Y h) cmp_d (cmp_h _ _ _<|gdT h_y h)<|.cons (ow Y h) (.b Y)<|.cons (ow Y h) (.b Y) .nil)<|Dq 15 Y (.guarded ((decide (a < j)) == true) Y Y Y Y fun h => ZO (ow Y h)<|ov Y)<|Dq 16 Y (Zck (ov Y) fun hp=>ow Y<|gT hp)<|Dd<|K7 0 1 2 3 8 9 34 Y<|If h Y (fun h=>?_) fun h=>?_
   ·
    exact Zh<|Zg<|Ze<|K6 0 1 2 3 8 9 Y<|Qp (cw := md0) (by kernel_rfl)<|D1 0 Zc Y<|D1 1 Zc Y<|D1 5 Zc Y<|D1 6 Zc Y<|D2 7 ZeV Y<|bE h fun x3 h_x3 h=>Dq 8 Y (XP (ov Y) (ov Y) Q3 Y Y h_x3)<|Dq 9 Y (XQ (ov Y) Y Y h_x3 tS3 Y)<|D1 10 Zc Y<|D1 11 Zc Y<|bE h fun x4 h_x4 h=>Dq 12 Y (XP (ov Y) (ov Y) Q3 Y Y h_x4)<|Dq 13 Y (XQ (ov Y) Y Y h_x4 tS3 Y)<|bE h fun x5 h_x5 h=>Dq 14 Y (XP (ov Y) (ov Y) Q3 Y Y h_x5)<|Z6 2 _ Y (by kernel_rfl) Y Y (fun hp'=>Zc<|ov Y)<|Z6 3 _ Y (by kernel_rfl) Y Y (fun hp'=>Zc<|ov Y)<|Z6 4 _ Y (by kernel_rfl) Y Y (fun hp'=>ZkT (ov Y) (ov Y) Y)<|Do 15 Y (ZaM (u' := x3) (ov Y) (ov Y) (Zf tS3) Y Y h_x5 Y (Zb Y) Y)<|bE h fun x6 h_x6 h=>Dq 16 Y (XP (ov Y) (ov Y) Q3 Y ((List.length_set ..).trans Y) h_x6)<|Do 17 Y (ZaM (u' := x4) (ov Y) (ov Y) (Zf tS3) Y ((List.length_set ..).trans Y) h_x6 Y (Zb Y) Y)<|Dd<|K6 0 1 2 3 8 9 Y<|Zt<|Rm Y<|R2 ZeV Y<|Ra Y<|Za<|⟨_, h, ES [some 0]<|sr 0 Y (ZfY (Eq.symm<|(List.length_set ..).trans<|(List.length_set ..).trans Y) Y)<|sd 1 Y Y<|sd 2 Y Y<|sr 3 Y (rFn<|rld cmp_d)<|sd 8 Y Y<|sd 9 Y Y sn⟩
   ·
    refine ZE<|?_
    replace h := lx h ▸ ho2
    exact ⟨_, h, ES [some 0]<|sr 0 Y (.own _ Y)<|sd 1 Y Y<|sd 2 Y Y<|sr 3 Y (rFn<|rld cmp_d)<|sd 8 Y Y sn⟩
  ·
   exact Zt<|Rm Y<|R2 ZM Y<|Ra Y<|Za<|⟨_, h, ES [some 0]<|sr 0 Y (.own _ Y)<|sd 1 Y Y<|sd 2 Y Y<|sr 3 Y (rFn<|rld cmp_d)<|sd 8 Y Y sn⟩
 ·
  refine ZE<|?_
  replace h := lx h ▸ ho1
  obtain rfl := rt h
  exact Zic [some 0] Y .nil (.cons Y (roM D3) .nil) Y Y<|X0 rln
end Go.Proofs.YtnlmjeleocelgaaGreatDoor
