/- A text of the proof: a verified executor of the program form, or the contracts of the functions that the law reaches. -/
import Derived.Test.YthdiljjohpamnaaGreatDoorRROkZd
set_option linter.all false
namespace Go.Proofs.YthdiljjohpamnaaGreatDoorRR
open Go Go.Vx
set_option maxRecDepth 10000
set_option maxHeartbeats 1000000
set_option linter.unusedVariables false
theorem ZjD {f : Vector Int 64} {i : Int} {r : (Vector Int 64)} (h : Jh f i = some r) :
 CSpec Tryz.prog gl0 130 [.agg (List.map C47 f.toList), .int .i64 i] (.agg (List.map C47 r.toList)) := by
 unfold Jh at h
 replace h := Qj h
 refine So Tryz.func130 Y fun w0 A=>Tr<|Rx Y (Zkd 0 Y (ov Y) Z3 arL)<|Rx Y (ZO (row := (List.map C47 (Vector.replicate 64 0).toList)) 1 Y ZcW Y tZ_49)<|Za<|I1 (fun f2=>⟨[(2, .ptr 0 1 0 0), (4, .ptr 1 1 0 0)], [some ⟨49, [(List.map C47 f2.toList)]⟩, some ⟨49, [(List.map C47 (Vector.replicate 64 0).toList)]⟩]⟩) h (fun h=>?_) fun f2 h=>?_
 ·
  refine Zk<|K3 1 2 4 Y<|Tr<|Rm Y<|R2 QD Y<|Ra Y<|Za<|K4 1 2 4 11 Y<|If h Y (fun h=>?_) fun h=>?_
  ·
   exact K2 2 4 Y<|Zu<|Rq Y (Zy (ov Y) Y Y Y Z3 (Zm<|Ze arL) arL (hns := (nsM fun _ => Y)))<|bE h fun y h_y h=>Rq Y (Zq (ZbE h_y)<|.cons (ov Y) (.aggB<|arD fun _ => Y) .nil)<|bE h fun y2 h_y2 h=>Rq Y (Zq (ZcB h_y2)<|.cons (ov Y) (.b Y) .nil)<|Rq Y (Qi (ov Y) tI3 JV Y)<|bE h fun x h_x h=>Rq Y (ZY (ov Y) (ov Y) QL Y Y h_x)<|Rx Y (Zf (ov Y) (ov Y) (Zg QR) Y Y Y (arB h_x) (Zb Y)<|arS h_x)<|Za<|⟨_, h, ES [some 0, some 1]⟩
  ·
   refine K3 1 2 4 Y<|Tr<|Rm Y<|R2 ZgE Y<|Ra Y<|Za<|K4 1 2 4 19 Y<|If h Y (fun h=>?_) fun h=>?_
   ·
    exact K3 1 2 4 Y<|J6 (cw := md0) (by kernel_rfl)<|D1 0 Zc Y<|D1 1 Zc Y<|bE h fun x2 h_x2 h=>Dq 2 Y (ZY (ov Y) (ov Y) QL Y Y h_x2)<|Dq 3 Y (Zi (ov Y) Y Y Y QR<|Zj<|Z1 (o := 0) (o' := (i.toNat * 1)) (Ze arL)<|ZN h_x2)<|Dq 4 Y (Qi (ov Y) JV tI3 Y)<|bE h fun q h_q h=>Dq 5 Y (XA (ov Y) (ov Y) h_q)<|Dq 6 Y (Zy (ov Y) Y Y Y Z3 (Zm<|Ze arL) arL (hns := (nsM fun _ => Y)))<|bE h fun y3 h_y3 h=>Dq 7 Y (Zq (ZeE h_y3)<|.cons (ov Y) (.aggB<|arD fun _ => Y) .nil)<|D2 8 Zgn Y<|bE h fun x3 h_x3 h=>Dq 9 Y (ZY (ov Y) (ov Y) QL Y Y h_x3)<|Dq 10 Y (Zi (ov Y) Y Y Y QR<|Zj<|Z1 (o := 0) (o' := ((Int.toNat 61) * 1)) (Ze arL)<|ZN h_x3)<|Dq 11 Y (Qi (ov Y) JV tI3 Y)<|bE h fun q2 h_q2 h=>Dq 12 Y (XA (ov Y) (ov Y) h_q2)<|D2 13 Zgn Y<|bE h fun y4 h_y4 h=>Dq 14 Y (Zq (J3 h_y4)<|.cons (ov Y) (.b Y) .nil)<|Dq 15 Y (Qi (ov Y) tI3 JV Y)<|bE h fun x4 h_x4 h=>Dq 16 Y (ZY (ov Y) (ov Y) QL Y Y h_x4)<|Do 17 Y (Zf (ov Y) (ov Y) (Zg QR) Y Y Y (arB h_x4) (Zb Y)<|arS h_x4)<|Dd<|⟨_, h, ES [some 0, some 1]⟩
   ·
    refine K3 1 2 4 Y<|Tr<|Rm Y<|R2 QD Y<|Ra Y<|Za<|K4 1 2 4 39 Y<|If h Y (fun h=>?_) fun h=>?_
    ·
     exact K2 2 4 Y<|Zu<|Rq Y (Zy (ov Y) Y Y Y Z3 (Zm<|Ze arL) arL (hns := (nsM fun _ => Y)))<|bE h fun y5 h_y5 h=>Rq Y (Zq (ZeE h_y5)<|.cons (ov Y) (.aggB<|arD fun _ => Y) .nil)<|bE h fun y6 h_y6 h=>Rq Y (Zq (J3 h_y6)<|.cons (ov Y) (.b Y) .nil)<|Rq Y (Qi (ov Y) tI3 JV Y)<|bE h fun x5 h_x5 h=>Rq Y (ZY (ov Y) (ov Y) QL Y Y h_x5)<|Rx Y (Zf (ov Y) (ov Y) (Zg QR) Y Y Y (arB h_x5) (Zb Y)<|arS h_x5)<|Za<|⟨_, h, ES [some 0, some 1]⟩
    ·
     refine K3 1 2 4 Y<|Tr<|Rm Y<|R2 QD Y<|Ra Y<|Za<|K3 2 4 47 Y<|If h Y (fun h=>?_) fun h=>?_
     ·
      exact K2 2 4 Y<|Zu<|Rq Y (Zy (ov Y) Y Y Y Z3 (Zm<|Ze arL) arL (hns := (nsM fun _ => Y)))<|bE h fun y7 h_y7 h=>Rq Y (Zq (Zdq h_y7)<|.cons (ov Y) (.aggB<|arD fun _ => Y) .nil)<|bE h fun q3 h_q3 h=>Rq Y (Zbe (ov Y) (ov Y) h_q3)<|bE h fun y8 h_y8 h=>Rq Y (Zq (J3 h_y8)<|.cons (ov Y) (.b Y) .nil)<|Rq Y (Qi (ov Y) tI3 JV Y)<|bE h fun x6 h_x6 h=>Rq Y (ZY (ov Y) (ov Y) QL Y Y h_x6)<|Rx Y (Zf (ov Y) (ov Y) (Zg QR) Y Y Y (arB h_x6) (Zb Y)<|arS h_x6)<|Za<|⟨_, h, ES [some 0, some 1]⟩
     ·
      exact K2 2 4 Y<|Zu<|Rq Y (Zy (ov Y) Y Y Y Z3 (Zm<|Ze arL) arL (hns := (nsM fun _ => Y)))<|bE h fun y9 h_y9 h=>Rq Y (Zq (Zdq h_y9)<|.cons (ov Y) (.aggB<|arD fun _ => Y) .nil)<|bE h fun q4 h_q4 h=>Rq Y (XA (ov Y) (ov Y) h_q4)<|bE h fun y10 h_y10 h=>Rq Y (Zq (J3 h_y10)<|.cons (ov Y) (.b Y) .nil)<|Rq Y (Qi (ov Y) tI3 JV Y)<|bE h fun x7 h_x7 h=>Rq Y (ZY (ov Y) (ov Y) QL Y Y h_x7)<|Rx Y (Zf (ov Y) (ov Y) (Zg QR) Y Y Y (arB h_x7) (Zb Y)<|arS h_x7)<|Za<|⟨_, h, ES [some 0, some 1]⟩
 ·
  refine Tr<|Rq Y (Zy (ov Y) Y Y Y Z3 (Zm<|Ze arL) arL (hns := (nsM fun _ => Y)))<|Rx Y (Zf (ov Y) (ov Y) (Zp Z3 arL) Y Y Y (Zt (Ze arL) arL) (Zb<|arC fun _ => Y)<|ZC<|Eq.trans arL<|Eq.symm arL)<|Za<|?_
  obtain rfl := rt h
  exact Zz (ZP Y (.one<|.agg Y Y Y Y Z3 (Zm<|Ze arL) arL (pwB<|arD fun _ => Y) (hns := (nsM fun _ => Y))))
theorem ZjZ {r_ : api_Rest} {r : api_Rest} (h : Zcq r_ = some r) :
 CSpec Tryz.prog gl0 68 [.agg ((.int .i64 r_.Number) :: ((List.map C47 r_.Frame.toList) ++ (((List.map C3 r_.States.toList) ++ ((.bool r_.Sound) :: (.int .i64 r_.Copies) :: (.bool r_.Conflict) :: [])))))] (.agg ((.int .i64 r.Number) :: ((List.map C47 r.Frame.toList) ++ (((List.map C3 r.States.toList) ++ ((.bool r.Sound) :: (.int .i64 r.Copies) :: (.bool r.Conflict) :: [])))))) := by
 unfold Zcq at h
 replace h := Qj h
 refine So Tryz.func68 Y fun w0 A=>Tr<|Rq Y (QK (cva<|ov Y) Zl tZ_74 Qz)<|Rx Y (ZO (row := (.int .i64 0) :: ((List.map C47 (Vector.replicate 64 0).toList) ++ (((List.map C3 (Vector.replicate 64 0).toList) ++ ((.bool false) :: (.int .i64 0) :: (.bool false) :: []))))) 0 Y ZbS (by kernel_rfl)<|by exact Eq.symm (Eq.trans (b := 132) Zl tZ_74.symm))<|Za<|K2 1 2 Y<|Tr<|Ra Y<|Za<|J1 (fun j => (.inr j)) (fun at_=>⟨[(1, .rp ((.int .i64 r_.Number) :: ((List.map C47 r_.Frame.toList) ++ (((List.map C3 r_.States.toList) ++ ((.bool r_.Sound) :: (.int .i64 r_.Copies) :: (.bool r_.Conflict) :: []))))) 0), (2, .ptr 0 1 0 0), (3, .int .i64 at_)], [some ⟨74, [(.int .i64 0) :: ((List.map C47 (Vector.replicate 64 0).toList) ++ (((List.map C3 (Vector.replicate 64 0).toList) ++ ((.bool false) :: (.int .i64 0) :: (.bool false) :: []))))]⟩]⟩) h (fun h=>?_) fun at_ h=>?_
 ·
  refine Tr<|Rq Y (ZB (ov Y) QJ)<|Rq Y (ZF (ov Y) Zhv (Zm Xz) arL)<|Rm Y<|Za<|Zk<|?_
  obtain ⟨r1, hl1, ho1⟩ := QP h
  refine L2 (fun at_2 i=>⟨[(1, .rp ((.int .i64 r_.Number) :: ((List.map C47 r_.Frame.toList) ++ (((List.map C3 r_.States.toList) ++ ((.bool r_.Sound) :: (.int .i64 r_.Copies) :: (.bool r_.Conflict) :: []))))) 0), (2, .ptr 0 1 0 0), (3, .int .i64 at_2), (10, .agg (List.map C3 r_.States.toList)), (11, .int .i64 i)], [some ⟨74, [(.int .i64 0) :: ((List.map C47 (Vector.replicate 64 0).toList) ++ (((List.map C3 (Vector.replicate 64 0).toList) ++ ((.bool false) :: (.int .i64 0) :: (.bool false) :: []))))]⟩]⟩) hl1 (ES [some 0]) fun n1 at_2 i h=>?_
  unfold Zao at h
  refine Tr<|R2 ZX Y<|Za<|Zr<|If h Y (fun h=>?_) fun h=>?_
  ·
   refine Zn<|Zr<|Zk<|K5 1 2 3 10 11 Y<|Tr<|Rm Y<|bE h fun x h_x h=>Rq Y (Jr (ov Y) (ov Y) ZaO tS3 h_x)<|Ra Y<|Ra Y<|Za<|Zr<|K7 1 2 3 4 5 10 11 Y<|Tr<|Rm Y<|R2 Jl Y<|Za<|K7 1 2 3 4 10 11 16 Y<|If h Y (fun h=>?_) fun h=>?_
   ·
    exact ZL<|K5 1 2 3 10 11 Y<|Zu<|R2 ZZ Y<|Rm Y<|Za<|⟨_, h, ES [some 0]⟩
   ·
    refine Zn<|Zr<|K6 1 2 3 4 10 11 Y<|Tr<|Rm Y<|R2 ZdJ Y<|Za<|K6 1 2 4 10 11 18 Y<|If h Y (fun h=>?_) fun h=>?_
    ·
     refine K2 1 2 Y<|Tr<|Rq Y (ZF (ov Y) Qh (Zm<|Ze Zl) Zl)<|Rx Y (Zf (ov Y) (ov Y) (Zp Qh Zl) Y Y Y (Zt (Ze Zl) Zl) (Zb ZaL)<|ZC<|Eq.trans Zl<|Eq.symm Zl)<|Za<|?_
     replace h := lx h ▸ ho1
     obtain rfl := rt h
     exact Zz (ZP Y (.one<|.agg Y Y Y Y Qh (Zm<|Ze Zl) Zl (pwB Qz) (hns := Jd)))
    ·
     exact Zn<|K5 1 2 4 10 11 Y<|Zu<|Rm Y<|Ra Y<|Za<|K5 1 2 3 10 11 Y<|Zu<|R2 ZZ Y<|Rm Y<|Za<|⟨_, h, ES [some 0]⟩
  ·
   refine ZL<|?_
   replace h := lx h ▸ ho1
   exact ⟨_, h, ES [some 0]⟩
 ·
  replace h := elr h
  replace h := t1i h
  refine Zr<|Tr<|Rq Y (ZB (ov Y) Zcm)<|Rq Y (Zh (ov Y) tS4<|Zj ZeC)<|Rm Y<|Rq Y (.guarded (r_.Sound == false) Y Y Y Y fun h => ZB (ov Y) Zgp)<|Rq Y (.guarded (r_.Sound == false) Y Y Y Y fun h => Zh (ow Y h) tS4<|Zj ZkS)<|Rq Y (Zaj (ov Y) fun hp=>ow Y<|gF hp)<|Rm Y<|Rq Y (.guarded ((r_.Sound || r_.Conflict) == false) Y Y Y Y fun h => Zc<|ov Y)<|Rq Y (.guarded ((r_.Sound || r_.Conflict) == false) Y Y Y Y fun h => ZX (ow Y h)<|ov Y)<|Rq Y (Zaj (ov Y) fun hp=>ow Y<|gF hp)<|Za<|K4 1 2 3 31 Y<|If h Y (fun h=>?_) fun h=>?_
  ·
   refine K2 1 2 Y<|Tr<|Rq Y (ZF (ov Y) Qh (Zm<|Ze Zl) Zl)<|Rx Y (Zf (ov Y) (ov Y) (Zp Qh Zl) Y Y Y (Zt (Ze Zl) Zl) (Zb ZaL)<|ZC<|Eq.trans Zl<|Eq.symm Zl)<|Za<|?_
   obtain rfl := rt h
   exact Zz (ZP Y (.one<|.agg Y Y Y Y Qh (Zm<|Ze Zl) Zl (pwB Qz) (hns := Jd)))
  ·
   refine Zn<|K3 1 2 3 Y<|Tr<|Rq Y (ZB (ov Y) Xb)<|Rq Y (ZF (ov Y) Z3 (Zm JL) arL)<|Rm Y<|bE h fun y h_y h=>Rq Y (Zq (ZjD h_y)<|.cons (ov Y) (.aggB<|arD fun _ => Y)<|.cons (ov Y) (.b Y) .nil)<|Rx Y (ZO (row := (List.map C47 (Vector.replicate 64 0).toList)) 1 Y ZcW Y tZ_49)<|Rx Y (Zf (ov Y) (ov Y) (Zp Z3 arL) Y Y Y (Zt (Ze arL) arL) (Zb<|arC fun _ => Y)<|ZC<|Eq.trans arL<|Eq.symm arL)<|Za<|Zr<|K4 1 2 3 6 Y<|Td md0<|Dq 0 Y (Zy (ov Y) Y Y Y Z3 (Zm<|Ze arL) arL (hns := (nsM fun _ => Y)))<|bE h fun y2 h_y2 h=>Dq 1 Y (Zq (ZeQ h_y2)<|.cons (ov Y) (.aggB<|arD fun _ => Y) .nil)<|D1 2 Jn Y<|D1 3 Zc Y<|Dq 4 Y (.guarded ((!y2) == false) Y Y Y Y fun h => Zy (ov Y) Y Y Y Z3 (Zm<|Ze arL) arL (hns := (nsM fun _ => Y)))<|bE h fun y3 h_y3 h=>Dq 5 Y (.guarded ((!y2) == false) Y Y Y Y fun h => Zq (Zaq<|gdT h_y3 h)<|.cons (ow Y h) (.aggB<|arD fun _ => Y) .nil)<|Dq 6 Y (.guarded ((!y2) == false) Y Y Y Y fun h => ZB (ov Y) Qg)<|Dq 7 Y (.guarded ((!y2) == false) Y Y Y Y fun h => Zh (ow Y h) tS3<|Zj at8)<|Dq 8 Y (.guarded ((!y2) == false) Y Y Y Y fun h => Jl (ow Y h)<|ow Y h)<|Dq 9 Y (Zaj (ov Y) fun hp=>ow Y<|gF hp)<|Dd<|K5 1 2 3 6 46 Y<|If h Y (fun h=>?_) fun h=>?_
   ·
    refine K2 1 2 Y<|Tr<|Rq Y (ZF (ov Y) Qh (Zm<|Ze Zl) Zl)<|Rx Y (Zf (ov Y) (ov Y) (Zp Qh Zl) Y Y Y (Zt (Ze Zl) Zl) (Zb ZaL)<|ZC<|Eq.trans Zl<|Eq.symm Zl)<|Za<|?_
    obtain rfl := rt h
    exact Zz (ZP Y (.one<|.agg Y Y Y Y Qh (Zm<|Ze Zl) Zl (pwB Qz) (hns := Jd)))
   ·
    refine Zn<|K4 1 2 3 6 Y<|Tr<|Rq Y (ZB (ov Y) Qg)<|Rq Y (Zh (ov Y) tS3<|Zj at8)<|Rq Y (Zy (ov Y) Y Y Y Z3 (Zm<|Ze arL) arL (hns := (nsM fun _ => Y)))<|Rq Y (ZaR (zr := (.int .i64 0) :: ((List.map C47 (Vector.replicate 64 0).toList) ++ (((List.map C3 (Vector.replicate 64 0).toList) ++ ((.bool false) :: (.int .i64 0) :: (.bool false) :: []))))) Zhi Zhg ZbS (by kernel_rfl) (.cons (cvs (ov Y)<|ZU Y)<|.cons (cva<|ov Y)<|.cons (cvs (ov Y)<|ZU Y) .nil)<|Xf Y Y at8 pt9<|Xf Y arL JL Zgc<|Xf Y Y ZeC Zjq ZdO)<|Rx Y (ZO (row := (.int .i64 0) :: ((List.map C47 (Vector.replicate 64 0).toList) ++ (((List.map C3 (Vector.replicate 64 0).toList) ++ ((.bool false) :: (.int .i64 0) :: (.bool false) :: []))))) 2 Y ZbS (by kernel_rfl)<|by exact Eq.symm (Eq.trans (b := 132) Zl tZ_74.symm))<|Rx Y (Zf (ov Y) (ov Y) (Zp Qh Zl) Y Y Y (Zt (Ze Zl) Zl) (Zb ZaL)<|ZC<|Eq.trans Zl<|Eq.symm Zl)<|Za<|I1 (fun States=>⟨[(2, .ptr 0 1 0 0), (3, .int .i64 at_), (7, .ptr 1 1 0 0)], [some ⟨74, [(.int .i64 0) :: ((List.map C47 (Vector.replicate 64 0).toList) ++ (((List.map C3 (Vector.replicate 64 0).toList) ++ ((.bool false) :: (.int .i64 0) :: (.bool false) :: []))))]⟩, some ⟨74, [(.int .i64 r_.Number) :: ((List.map C47 y.toList) ++ (((List.map C3 States.toList) ++ ((.bool true) :: (.int .i64 0) :: (.bool false) :: []))))]⟩]⟩) h (fun h=>?_) fun States h=>?_
    ·
     refine K3 2 3 7 Y<|Tr<|Rm Y<|Za<|Zk<|?_
     obtain ⟨r2, hl2, ho2⟩ := QP h
     refine L2 (fun States2 i2=>⟨[(2, .ptr 0 1 0 0), (3, .int .i64 at_), (7, .ptr 1 1 0 0), (52, .int .i64 i2)], [some ⟨74, [(.int .i64 0) :: ((List.map C47 (Vector.replicate 64 0).toList) ++ (((List.map C3 (Vector.replicate 64 0).toList) ++ ((.bool false) :: (.int .i64 0) :: (.bool false) :: []))))]⟩, some ⟨74, [(.int .i64 r_.Number) :: ((List.map C47 y.toList) ++ (((List.map C3 States2.toList) ++ ((.bool true) :: (.int .i64 0) :: (.bool false) :: []))))]⟩]⟩) hl2 (ES [some 0, some 2]) fun n2 States2 i2 h=>?_
     unfold Zam at h
     refine Tr<|R2 ZX Y<|Za<|Zr<|If h Y (fun h=>?_) fun h=>?_
     ·
      exact Zn<|Zr<|Zk<|K4 2 3 7 52 Y<|Tr<|Rm Y<|Ra Y<|Za<|K5 2 3 7 8 52 Y<|Zu<|Rm Y<|Rq Y (Zd (ov Y) Y Y QJ)<|bE h fun x2 h_x2 h=>Rq Y (ZY (ov Y) (ov Y) ZaO Y Y h_x2)<|Rx Y (Zf (ov Y) (ov Y) (Zg tS3) Y Y Y (Zt (Z1 (o := 65) (o' := (i2.toNat * 1)) Xz<|ZN h_x2) Y) (Zb Y)<|Xk (o := 65) (o' := (i2.toNat * 1)) Xz (ZN h_x2) Y (Jc h_x2 (x := 3)) ZeY)<|Za<|K4 2 3 7 52 Y<|Zu<|R2 ZZ Y<|Rm Y<|Za<|⟨_, h, ES [some 0, some 1]⟩
     ·
      refine ZL<|?_
      replace h := lx h ▸ ho2
      exact ⟨_, h, ES [some 0, some 1]⟩
    ·
     refine Tr<|Rm Y<|Rq Y (Zd (ov Y) Y Y QJ)<|bE h fun x3 h_x3 h=>Rq Y (ZY (ov Y) (ov Y) ZaO Y Y h_x3)<|Rx Y (Zf (ov Y) (ov Y) (Zg tS3) Y Y Y (Zt (Z1 (o := 65) (o' := (at_.toNat * 1)) Xz<|ZN h_x3) Y) (Zb Y)<|Xk (o := 65) (o' := (at_.toNat * 1)) Xz (ZN h_x3) Y (Jc h_x3 (x := 2)) ZeY)<|Za<|K2 2 7 Y<|Tr<|Rq Y (Zy (ov Y) Y Y Y Qh (Zm<|Ze Zl) Zl (hns := Jd))<|Rx Y (Zf (ov Y) (ov Y) (Zp Qh Zl) Y Y Y (Zt (Ze Zl) Zl) (Zb ZaL)<|ZC<|Eq.trans Zl<|Eq.symm Zl)<|Za<|?_
     obtain rfl := rt h
     exact Zz (ZP Y (.one<|.agg Y Y Y Y Qh (Zm<|Ze Zl) Zl (pwB Qz) (hns := Jd)))
theorem ZjG {l : List api_Piece} {r : (List api_Rest) × Int} (h : JY l = some r) :
 CSpec Tryz.prog gl0 24 [.sl 68 (List.map R68 l)] (.tuple [.sl 74 (List.map R74 r.1), .int .i64 r.2]) := by
 unfold JY at h
 replace h := Qj h
 refine So Tryz.func24 Y fun w0 A=>Tr<|Ra Y<|Ra Y<|Za<|Zr<|K1 0 Y<|Tr<|Rm Y<|bE h fun y h_y h=>Rq Y (Zq (Zg9 h_y)<|.cons (ov Y) (.b Y) .nil)<|Ra Y<|Za<|K2 0 4 Y<|Tr<|Rm Y<|R2 Jl Y<|Za<|K3 0 4 13 Y<|If h Y (fun h=>?_) fun h=>?_
 ·
  refine K1 4 Y<|Tr<|Rm Y<|Ra Y<|Ra Y<|Za<|?_
  obtain rfl := rt h
  exact Zz (ZP Y (.two (.tmp Y<|View.nils 74)<|rb Y))
 ·
  refine Zn<|K1 0 Y<|Tr<|Ra Y<|Za<|I1 (fun all=>⟨[(5, .own 0 all.length)], [some ⟨74, List.map R74 all⟩]⟩) h (fun h=>?_) fun all h=>?_
  ·
   refine Tr<|Rm Y<|Rl tZ_68 Zf9 Y<|Rm Y<|Za<|Zk<|?_
   obtain ⟨r1, hl1, ho1⟩ := QP h
   refine L2 (fun all2 i=>⟨[(5, .own 0 all2.length), (15, .sl 68 (List.map R68 l)), (16, .int .i64 (l.length : Int)), (17, .int .i64 i)], [some ⟨74, List.map R74 all2⟩]⟩) hl1 (ES [none]) fun n1 all2 i h=>?_
   unfold JR at h
   refine Tr<|R2 ZX Y<|Za<|Zr<|If h Y (fun h=>?_) fun h=>?_
   ·
    exact Zn<|Zr<|Zk<|K4 5 15 16 17 Y<|Tr<|bE h fun x h_x h=>Rq Y (ZS (ov Y) (ov Y) Zf9 h_x)<|Rq Y (ZF (ov Y) ZfG Y Y)<|Rx Y (ZO (row := [_, _]) 1 Y ZpF Y tZ_68)<|Rx Y (Zf (ov Y) (ov Y) (Zp ZfG Y) Y Y Y (Nat.le_of_ble_eq_true Y) (Zb Y) Y)<|Za<|K5 5 7 15 16 17 Y<|Zu<|Rm Y<|Rq Y (Zy (ov Y) Y Y Y ZfG Y Y)<|bE h fun y2 h_y2 h=>Rq Y (Zq (ZkB h_y2)<|.cons (ov Y) (.aggB Y) .nil)<|bE h fun y3 h_y3 h=>Rq Y (Zq (ZkJ h_y3)<|.cons (ov Y) (.b Y) .nil)<|bE h fun y4 h_y4 h=>Rq Y (Zq (ZjE h_y4)<|.cons (ov Y) (.b Y) .nil)<|bE h fun l2 h_l2 h=>Rx Y (Zg4 (ov Y) (ZG (ov Y) tZ_74) Qd Y Y (fun x=>Zb<|E74 x) Y h_l2)<|Ra Y<|Za<|K4 5 15 16 17 Y<|Zu<|R2 ZZ Y<|Rm Y<|Za<|⟨_, h, ES [some 0]⟩
   ·
    refine ZL<|?_
    replace h := lx h ▸ ho1
    exact ⟨_, h, ES [some 0]⟩
  ·
   refine Tr<|Rm Y<|bE h fun y5 h_y5 h=>Zb5 (Ent.sel [none] (sr 5 Y (Zjy Y Y Y D74)<|sr 28 Y (Zjy Y Y Y D74) sn) (.row 74 .nil) Y Y)<|Rx Y (Zd8 [] (Zie h_y5) (.cons (ov Y) (.dat Y) .nil) .nil Y (.keep Y Y<|.lent 0 (.inr ⟨Nat.le_of_ble_eq_true Y, Y⟩) Y (roM D74) .nil) Y Y<|.own _<|.inr ⟨Nat.le_of_ble_eq_true Y, Y⟩)<|Ra Y<|Za<|Zr<|K1 8 Y<|Td md0<|D1 0 Zc Y<|Dq 1 Y (Zaf (ov Y) Y Y Qd)<|D2 2 JW Y<|D1 3 Zc Y<|Dq 4 Y (.guarded ((decide (0 < (y5.length : Int))) == true) Y Y Y Y fun h => Zc<|ov Y)<|Dq 5 Y (.guarded ((decide (0 < (y5.length : Int))) == true) Y Y Y Y fun h => Zc<|ov Y)<|Dq 6 Y (.guarded ((decide (0 < (y5.length : Int))) == true) Y Y Y Y fun h => Zaf (ow Y h) Y Y Qd)<|Dq 7 Y (.guarded ((decide (0 < (y5.length : Int))) == true) Y Y Y Y fun h => ZcY (ow Y h) (ov Y) Y)<|bE h fun x2 h_x2 h=>Dq 8 Y (.guarded ((decide (0 < (y5.length : Int))) == true) Y Y Y Y fun h => XQ (ow Y h) (ow Y h) Qd Y Y<|gdT h_x2 h)<|Dq 9 Y (.guarded ((decide (0 < (y5.length : Int))) == true) Y Y Y Y fun h => ZgT (ow Y h) Y Y Qg)<|Dq 10 Y (.guarded ((decide (0 < (y5.length : Int))) == true) Y Y Y Y fun h => ZaU (ow Y h) Y Y (gdT h_x2 h) tS3<|Zj at8)<|Dq 11 Y (.guarded ((decide (0 < (y5.length : Int))) == true) Y Y Y Y fun h => Zc<|ov Y)<|bE h fun x3 h_x3 h=>Dq 12 Y (.guarded ((decide (0 < (y5.length : Int))) == true) Y Y Y Y fun h => XQ (ow Y h) (ov Y) Qd Y Y<|gdT h_x3 h)<|Dq 13 Y (.guarded ((decide (0 < (y5.length : Int))) == true) Y Y Y Y fun h => ZgT (ow Y h) Y Y Qg)<|Dq 14 Y (.guarded ((decide (0 < (y5.length : Int))) == true) Y Y Y Y fun h => ZaU (ow Y h) Y Y (gdT h_x3 h) tS3<|Zj at8)<|Dq 15 Y (.guarded ((decide (0 < (y5.length : Int))) == true) Y Y Y Y fun h => ZcY (ow Y h) (ow Y h) Y)<|Dq 16 Y (.guarded ((decide (0 < (y5.length : Int))) == true) Y Y Y Y fun h => JW (ow Y h)<|ov Y)<|Dq 17 Y (QU (ov Y) fun hp=>ow Y<|gT hp)<|Dd<|K2 8 47 Y<|If h Y (fun h=>?_) fun h=>?_
   ·
    refine K0<|Tr<|Ra Y<|Ra Y<|Za<|?_
    obtain rfl := rt h
    exact Zz (ZP Y (.two (.tmp Y<|View.nils 74)<|rb Y))
   ·
    refine Zn<|I1 (fun out=>⟨[(8, .own 0 out.length)], [some ⟨74, List.map R74 out⟩]⟩) h (fun h=>?_) fun out h=>?_
    ·
     refine K1 8 Y<|Tr<|Rm Y<|Rq Y (Zaf (ov Y) Y Y Qd)<|Rm Y<|Za<|Zk<|?_
     obtain ⟨r2, hl2, ho2⟩ := QP h
     refine L2 (fun out2 i2=>⟨[(8, .own 0 out2.length), (49, .int .i64 (y5.length : Int)), (50, .int .i64 i2)], [some ⟨74, List.map R74 out2⟩]⟩) hl2 (ES [some 1]) fun n2 out2 i2 h=>?_
     unfold JT at h
     refine Tr<|R2 ZX Y<|Za<|Zr<|If h Y (fun h=>?_) fun h=>?_
     ·
      exact Zn<|Zr<|Zk<|K3 8 49 50 Y<|Tr<|Rm Y<|Ra Y<|Za<|K4 8 9 49 50 Y<|Zu<|Rm Y<|Rm Y<|Rm Y<|Rm Y<|bE h fun x4 h_x4 h=>Rq Y (XQ (ov Y) (ov Y) Qd Y Y h_x4)<|Rq Y (Zgo (ov Y) Y Y h_x4 Qh (Zm<|Ze Zl) Zl (hns := Jd))<|bE h fun y6 h_y6 h=>Rq Y (Zq (ZjZ h_y6)<|.cons (ov Y) (.aggB Qz) .nil)<|bE h fun x5 h_x5 h=>Rq Y (XQ (ov Y) (ov Y) Qd Y Y h_x5)<|Rx Y (Zb3 (u' := y6) (ov Y) (ov Y) (Zp Qh Zl) Y Y h_x5 (Nat.ble_eq_true_of_le<|Zt (Ze Zl) Zl) (Zb ZaL)<|ZC<|Eq.trans Zl<|Eq.symm Zl)<|Za<|K3 8 49 50 Y<|Zu<|R2 ZZ Y<|Rm Y<|Za<|⟨_, h, ES [some 0]<|sr 8 Y (Zj1 (Eq.symm<|(List.length_set ..).trans Y) Y)<|sd 49 Y Y<|sd 50 Y Y sn⟩
     ·
      refine ZL<|?_
      replace h := lx h ▸ ho2
      exact ⟨_, h, ES [some 0]⟩
    ·
     refine Tr<|Rm Y<|Ra Y<|Ra Y<|Za<|?_
     obtain rfl := rt h
     exact Zz (ZP Y (.two (.tmp Y<|View.ownM Y Y D74)<|rb Y))
theorem ZlE {xs r : List api_Piece} (h : Znp xs = some r) :
 GSpec Tryz.prog gl0 25 [.sl 68 (List.map R68 xs)] [] (.own 0 r.length) [some ⟨68, List.map R68 r⟩] := by
 have h2 : app [] xs = some r := h
 refine Zes (by kernel_rfl) Tryz.func25 Y Y<|?_
 intro w0 A W φ0
 refine Tr<|Ra Y<|Za<|Zr<|Zr<|Zu<|Rm Y<|Zqp (ov Y) ZqH Y fun b hb=>?_
 refine Za<|Zo2 Y (fun hb2=>?_) fun hb2=>?_
 ·
  obtain rfl : xs = [] := by simpa using hb hb2
  obtain rfl : r = [] := by simpa [app] using h2.symm
  exact Tr<|Ra Y<|Za<|Zz<|Zmb [none] Y (.cons (.tmp Y) .nil) (.row 68 .nil) Y Y<|.row Y
 ·
  exact Zn<|Tr<|Rx Y (Zpt (r := 0) (xs := []) (f := R68) Y Zf9 .nil Y Y Y)<|Rm Y<|Rx Y (Zg4 (ov Y) (ZG (ov Y) tZ_68) Zf9 Y Y (fun _=>Zb Y) Y h2)<|Ra Y<|Za<|Zz<|Zmb [some 0] Y (.cons (.tmp Y) .nil) (.cons Y (roM D68) .nil) Y Y<|.own _ Y
theorem ZbD {s : List api_Piece} {r : (List api_Piece)} (h : Z5 s = some r) :
 GSpec Tryz.prog gl0 26 [.own 0 s.length] [some ⟨68, List.map R68 s⟩] (.tuple []) [some ⟨68, List.map R68 r⟩] := by
 unfold Z5 at h
 replace h := Qj h
 refine Zes (by kernel_rfl) Tryz.func26 Y Y<|?_
 intro w0 A W φ0
 refine Tr<|Rm Y<|Rq Y (Zaf (ov Y) Y Y Zf9)<|R2 ZdH Y<|Ra Y<|Ra Y<|Za<|Zk<|?_
 obtain ⟨r1, hl1, ho1⟩ := QP h
 refine L3 (fun o i j=>⟨[(0, .own 0 o.length), (2, .int .i64 i), (3, .int .i64 j)], [some ⟨68, List.map R68 o⟩]⟩) hl1 (ES [some 0]) fun n1 o i j h=>?_
 unfold ZV at h
 refine Zr<|Tr<|Rm Y<|Rm Y<|R2 ZX Y<|Za<|K4 0 2 3 9 Y<|If h Y (fun h=>?_) fun h=>?_
 ·
  exact Zn<|Zr<|Zk<|K3 0 2 3 Y<|J6 (cw := md0) (by kernel_rfl)<|D1 0 Zc Y<|D1 1 Zc Y<|D1 4 Zc Y<|D1 5 Zc Y<|bE h fun x h_x h=>Dq 6 Y (XQ (ov Y) (ov Y) Zf9 Y Y h_x)<|Dq 7 Y (Zgo (ov Y) Y Y h_x ZfG Y Y)<|D1 8 Zc Y<|D1 9 Zc Y<|bE h fun x2 h_x2 h=>Dq 10 Y (XQ (ov Y) (ov Y) Zf9 Y Y h_x2)<|Dq 11 Y (Zgo (ov Y) Y Y h_x2 ZfG Y Y)<|bE h fun x3 h_x3 h=>Dq 12 Y (XQ (ov Y) (ov Y) Zf9 Y Y h_x3)<|Zai 2 _ Y (by kernel_rfl) Y Y (fun hp'=>Zc<|ov Y)<|Zai 3 _ Y (by kernel_rfl) Y Y (fun hp'=>Zc<|ov Y)<|Do 13 Y (Zb3 (u' := x) (ov Y) (ov Y) (Zp ZfG Y) Y Y h_x3 Y (Zb Y) Y)<|bE h fun x4 h_x4 h=>Dq 14 Y (XQ (ov Y) (ov Y) Zf9 Y ((List.length_set ..).trans Y) h_x4)<|Do 15 Y (Zb3 (u' := x2) (ov Y) (ov Y) (Zp ZfG Y) Y ((List.length_set ..).trans Y) h_x4 Y (Zb Y) Y)<|Dd<|K3 0 2 3 Y<|Zu<|Rm Y<|R2 ZZ Y<|Rm Y<|R2 ZdH Y<|Ra Y<|Ra Y<|Za<|⟨_, h, ES [some 0]<|sr 0 Y (Zj1 (Eq.symm<|(List.length_set ..).trans<|(List.length_set ..).trans Y) Y)<|sd 2 Y Y<|sd 3 Y Y sn⟩
 ·
  refine ZL<|?_
  replace h := lx h ▸ ho1
  obtain rfl := rt h
  exact Zo7 [some 0] Y .nil (.cons Y (roM D68) .nil) Y Y<|ZkV rln
theorem Zcz {l : List api_Piece} {r : Bool} (h : Q9 l = some r) :
 CSpec Tryz.prog gl0 5 [.sl 68 (List.map R68 l)] (.bool r) := by
 unfold Q9 at h
 replace h := Qj h
 refine So Tryz.func5 Y fun w0 A=>Tr<|Ra Y<|Za<|K1 0 Y<|Tr<|Rm Y<|bE h fun y h_y h=>Rq Y (Zq (Zck h_y)<|.cons (ov Y) (.b Y) .nil)<|Rm Y<|Rq Y (Zo (ov Y) Y)<|Rq Y (Zo (ov Y) Y)<|Ra Y<|Ra Y<|Za<|K3 0 3 4 Y<|Tr<|Rm Y<|bE h fun y2 h_y2 h=>Rq Y (Zq (ZjG h_y2)<|.cons (ov Y) (.b Y) .nil)<|Rm Y<|Rq Y (Zo (ov Y) Y)<|Rq Y (Zo (ov Y) Y)<|Ra Y<|Ra Y<|Za<|Zr<|K5 0 3 4 5 6 Y<|Tr<|Rm Y<|Rm Y<|R2 Jl Y<|Rm Y<|Rq Y (.guarded ((!decide (y.2 = y2.2)) == false) Y Y Y Y fun h => Zc<|ov Y)<|Rq Y (.guarded ((!decide (y.2 = y2.2)) == false) Y Y Y Y fun h => Zc<|ov Y)<|bE h fun y3 h_y3 h=>Rq Y (.guarded ((!decide (y.2 = y2.2)) == false) Y Y Y Y fun h => Zq (JJ<|gdT h_y3 h)<|.cons (ow Y h) (.b Y)<|.cons (ow Y h) (.b Y) .nil)<|Rq Y (.guarded ((!decide (y.2 = y2.2)) == false) Y Y Y Y fun h => Jn<|ow Y h)<|Rq Y (Zaj (ov Y) fun hp=>ow Y<|gF hp)<|Za<|K4 0 3 4 27 Y<|If h Y (fun h=>?_) fun h=>?_
 ·
  refine K0<|Tr<|Ra Y<|Za<|?_
  obtain rfl := rt h
  exact Zz (ZP Y (.one<|rb Y))
 ·
  refine Zn<|Zr<|K3 0 3 4 Y<|Tr<|Rm Y<|R2 Jl Y<|Za<|K3 0 3 29 Y<|If h Y (fun h=>?_) fun h=>?_
  ·
   refine K0<|Tr<|bE h fun y4 h_y4 h=>Rq Y (Zq (Zhj h_y4) .nil)<|Ra Y<|Za<|?_
   obtain rfl := rt h
   exact Zz (ZP Y (.one<|rb Y))
  ·
   refine Zn<|K2 0 3 Y<|Tr<|Rm Y<|bE h fun y5 h_y5 h=>Rx Y (Zd8 [] (ZlE h_y5) (.cons (ov Y) (.dat Y) .nil) .nil Y (.lent 0 (.inr ⟨Nat.le_of_ble_eq_true Y, Y⟩) Y (roM D68) .nil) Y Y<|.own _<|.inr ⟨Nat.le_of_ble_eq_true Y, Y⟩)<|Ra Y<|Za<|K2 3 7 Y<|Tr<|Rm Y<|bE h fun y6 h_y6 h=>Rx Y (Zd8 [0] (ZbD h_y6) (.cons (ov Y) (.own _ Y) .nil) (.cons Y (roM D68) .nil) Y (.lent 0 (.inl Y) Y (roM D68) .nil) Y Y<|ZkV<|rld Y)<|Za<|K2 3 7 Y<|Tr<|Rm Y<|bE h fun y7 h_y7 h=>Zb5 (Ent.sel [none] (sd 3 Y Y<|sr 7 Y (Zjy Y Y (X5 h_y6) D68)<|sr 36 Y (Zjy Y Y (X5 h_y6) D68) sn) (.row 68 .nil) Y Y)<|Rq Y (Zq (Zck h_y7)<|.cons (ov Y) (.b Y) .nil)<|Rm Y<|Rq Y (Zo (ov Y) Y)<|Rq Y (Zo (ov Y) Y)<|Ra Y<|Ra Y<|Za<|K3 3 4 8 Y<|Tr<|Rm Y<|R2 QD Y<|Rm Y<|Rq Y (.guarded ((decide (y7.2 = 0)) == true) Y Y Y Y fun h => Zc<|ov Y)<|Rq Y (.guarded ((decide (y7.2 = 0)) == true) Y Y Y Y fun h => Zc<|ov Y)<|bE h fun y8 h_y8 h=>Rq Y (.guarded ((decide (y7.2 = 0)) == true) Y Y Y Y fun h => Zq (JJ<|gdT h_y8 h)<|.cons (ow Y h) (.b Y)<|.cons (ow Y h) (.b Y) .nil)<|Rq Y (QU (ov Y) fun hp=>ow Y<|gT hp)<|Rm Y<|bE h fun y9 h_y9 h=>Rq Y (.guarded (((decide (y7.2 = 0)) && y8) == true) Y Y Y Y fun h => Zq (Zhj<|gdT h_y9 h) .nil)<|Rq Y (QU (ov Y) fun hp=>ow Y<|gT hp)<|Ra Y<|Za<|?_
   obtain rfl := rt h
   exact Zz (ZP Y (.one<|rb Y))
end Go.Proofs.YthdiljjohpamnaaGreatDoorRR
