/- A text of the proof: a verified executor of the program form, or the contracts of the functions that the law reaches. -/
import Derived.Test.YthdiljjohpamnaaGreatDoorRROkZb
set_option linter.all false
namespace Go.Proofs.YthdiljjohpamnaaGreatDoorRR
open Go Go.Vx
set_option maxRecDepth 10000
set_option maxHeartbeats 1000000
set_option linter.unusedVariables false
theorem Zjc {h_ : List Int} {r : (List api_Rest)} (h : XY h_ = some r) :
 CSpec Tryz.prog gl0 57 [.sl 5 (List.map R5 h_)] (.sl 74 (List.map R74 r)) := by
 unfold XY at h
 replace h := Qj h
 refine So Tryz.func57 Y fun w0 A=>Tr<|Ra Y<|Za<|K1 0 Y<|Tr<|Rm Y<|bE h fun y h_y h=>Rq Y (Zq (Zgx h_y)<|.cons (ov Y) (.b Y) .nil)<|Ra Y<|Za<|K1 3 Y<|Tr<|Ra Y<|Za<|I1 (fun l=>⟨[(4, .own 0 l.length)], [some ⟨74, List.map R74 l⟩]⟩) h (fun h=>?_) fun l h=>?_
 ·
  refine Tr<|Rm Y<|R1 Z4 Y<|Rq Y (ZB (ov Y) ZbF)<|Rq Y (Zh (ov Y) Zd0 Y)<|Rl tZ_158 QI Y<|Rm Y<|Za<|Zk<|?_
  obtain ⟨r1, hl1, ho1⟩ := QP h
  refine L2 (fun l2 i=>⟨[(3, .rp [.sl 5 (List.map R5 y.h_), .sl 158 (List.map R158 y.certain), .sl 3 (List.map R3 y.numbers), .any] 0), (4, .own 0 l2.length), (16, .sl 158 (List.map R158 y.certain)), (17, .int .i64 (y.certain.length : Int)), (18, .int .i64 i)], [some ⟨74, List.map R74 l2⟩]⟩) hl1 (ES [none]) fun n1 l2 i h=>?_
  unfold Xs at h
  refine Tr<|R2 ZX Y<|Za<|Zr<|If h Y (fun h=>?_) fun h=>?_
  ·
   refine Zn<|I1 (fun l3=>⟨[(3, .rp [.sl 5 (List.map R5 y.h_), .sl 158 (List.map R158 y.certain), .sl 3 (List.map R3 y.numbers), .any] 0), (4, .own 0 l3.length), (16, .sl 158 (List.map R158 y.certain)), (17, .int .i64 (y.certain.length : Int)), (18, .int .i64 i)], [some ⟨74, List.map R74 l3⟩]⟩) h (fun h=>?_) fun l3 h=>?_
   ·
    refine Zk<|K5 3 4 16 17 18 Y<|Tr<|Rm Y<|bE h fun x h_x h=>Rq Y (ZS (ov Y) (ov Y) QI h_x)<|Rq Y (ZF (ov Y) ZbL (Zm<|Ze ln0) ln0)<|Rx Y (ZO (row := (.int .i64 0) :: ((List.map C47 (Vector.replicate 64 0).toList) ++ ([]))) 1 Y Zgg (by kernel_rfl)<|by exact Eq.symm (Eq.trans (b := 65) ln0 tZ_158.symm))<|Ra Y<|Rx Y (Zf (ov Y) (ov Y) (Zp ZbL ln0) Y Y Y (Zt (Ze ln0) ln0) (Zb al6)<|ZC<|Eq.trans ln0<|Eq.symm ln0)<|Za<|K7 3 4 5 6 16 17 18 Y<|Td md0<|D1 0 Zc Y<|D1 1 Zc Y<|D1 2 Z4 Y<|Dq 3 Y (ZB (ov Y) Ql)<|Dq 4 Y (Zh (ov Y) XN Y)<|D1 5 Zc Y<|bE h fun x2 h_x2 h=>Dq 6 Y (ZS (ov Y) (ov Y) Qq h_x2)<|Dq 7 Y (Zh (ov Y) tS3 Y)<|Dq 8 Y (Zd (ov Y) Y Y Zfx)<|Dq 9 Y (Zy (ov Y) Y Y Y Z3 (Zm at4) arL (hns := (nsM fun _ => Y)))<|bE h fun y2 h_y2 h=>Dq 10 Y (Zq (Zc6 h_y2)<|.cons (ov Y) (.b Y) .nil)<|Dq 11 Y (ZaR (zr := (.int .i64 0) :: ((List.map C47 (Vector.replicate 64 0).toList) ++ (((List.map C3 (Vector.replicate 64 0).toList) ++ ((.bool false) :: (.int .i64 0) :: (.bool false) :: []))))) Zhi Zhg ZbS (by kernel_rfl) (.cons (cvs (ov Y)<|ZU Y)<|.cons (cva<|ov Y)<|.cons (cva<|ov Y)<|.cons (cvs (ov Y)<|ZU Y)<|.cons (cvs (ov Y)<|ZU Y) .nil)<|Xf Y Y at8 pt9<|Xf Y arL JL Zgc<|Xf Y arL Xz ZeY<|Xf Y Y ZeC Zjq<|Xf Y Y Zfj Zkv ZdO)<|Zjb 12 (.sl 74<|List.map R74 ([(api_Rest.mk x2 x.Frame y2 true 1 false)] : List api_Rest)) Y (by kernel_rfl) Y Y (Xv Qd (.cons (cva<|ov Y) Zl (pwD Qz) .nil) Y Y)<|bE h fun l4 h_l4 h=>Do 13 Y (Zv (ov Y) (ZG (ov Y) tZ_74) Qd Y Y Y (fun x=>Zb<|E74 x) Y h_l4)<|D1 14 QG Y<|Dd<|K6 3 4 5 16 17 18 Y<|Tr<|Rm Y<|Rm Y<|bE h fun y3 h_y3 h=>Rq Y (Zq (ZeZ h_y3)<|.cons (ov Y) (.b Y)<|.cons (ov Y) (.b Y) .nil)<|Rl tZ_3 Qq Y<|Rm Y<|Za<|Zk<|?_
    obtain ⟨r2, hl2, ho2⟩ := QP h
    refine L2 (fun l5 i2=>⟨[(3, .rp [.sl 5 (List.map R5 y.h_), .sl 158 (List.map R158 y.certain), .sl 3 (List.map R3 y.numbers), .any] 0), (4, .own 0 l5.length), (5, .int .i64 i), (16, .sl 158 (List.map R158 y.certain)), (17, .int .i64 (y.certain.length : Int)), (18, .int .i64 i), (39, .sl 3 (List.map R3 y3)), (40, .int .i64 (y3.length : Int)), (41, .int .i64 i2)], [some ⟨74, List.map R74 l5⟩]⟩) hl2 (ES [some 0]) fun n2 l5 i2 h=>?_
    unfold Xx at h
    refine Tr<|R2 ZX Y<|Za<|Zr<|If h Y (fun h=>?_) fun h=>?_
    ·
     refine Zn<|Zr<|Zk<|K9 3 4 5 16 17 18 39 40 41 Y<|Tr<|bE h fun x3 h_x3 h=>Rq Y (ZS (ov Y) (ov Y) Qq h_x3)<|Rq Y (Zh (ov Y) tS3 Y)<|Ra Y<|Za<|K10 3 4 5 8 16 17 18 39 40 41 Y<|Tr<|Rm Y<|Rm Y<|Rm Y<|bE h fun y4 h_y4 h=>Rq Y (Zq (Ze3 h_y4)<|.cons (ov Y) (.b Y)<|.cons (ov Y) (.b Y)<|.cons (ov Y) (.b Y) .nil)<|Rm Y<|Rq Y (Zo (ov Y) Y)<|Rq Y (Zo (ov Y) Y)<|Rx Y (ZO (row := (.int .i64 0) :: ((List.map C47 (Vector.replicate 64 0).toList) ++ (((List.map C3 (Vector.replicate 64 0).toList) ++ ((.bool false) :: (.int .i64 0) :: (.bool false) :: []))))) 1 Y ZbS (by kernel_rfl)<|by exact Eq.symm (Eq.trans (b := 132) Zl tZ_74.symm))<|Rx Y (Zf (ov Y) (ov Y) (Zp Qh Zl) Y Y Y (Zt (Ze Zl) Zl) (Zb ZaL)<|ZC<|Eq.trans Zl<|Eq.symm Zl)<|Ra Y<|Za<|K11 3 4 5 9 10 16 17 18 39 40 41 Y<|Tr<|Rm Y<|Za<|K11 3 4 5 9 16 17 18 39 40 41 52 Y<|If h Y (fun h=>?_) fun h=>?_
     ·
      exact K10 3 4 5 9 16 17 18 39 40 41 Y<|Zu<|Rm Y<|Rq Y (Zy (ov Y) Y Y Y Qh (Zm<|Ze Zl) Zl (hns := Jd))<|R_q (.sl 74<|List.map R74 ([y4.1] : List api_Rest)) Y (Xv Qd (.cons (cva<|ov Y) Zl (pwD Qz) .nil) Y Y)<|bE h fun l6 h_l6 h=>Rx Y (Zv (ov Y) (ZG (ov Y) tZ_74) Qd Y Y Y (fun x=>Zb<|E74 x) Y h_l6)<|Ra Y<|Za<|K9 3 4 5 16 17 18 39 40 41 Y<|Zu<|R2 ZZ Y<|Rm Y<|Za<|⟨_, h, ES [some 0]⟩
     ·
      exact Zn<|K9 3 4 5 16 17 18 39 40 41 Y<|Zu<|R2 ZZ Y<|Rm Y<|Za<|⟨_, h, ES [some 0]⟩
    ·
     refine ZL<|?_
     replace h := lx h ▸ ho2
     exact ⟨_, h, ES [some 0]⟩
   ·
    exact Zu<|R2 ZZ Y<|Rm Y<|Za<|⟨_, h, ES [some 0]⟩
  ·
   refine ZL<|?_
   replace h := lx h ▸ ho1
   exact ⟨_, h, ES [some 0]⟩
 ·
  refine Tr<|Rm Y<|bE h fun y5 h_y5 h=>Zb5 (Ent.sel [none] (sr 4 Y (Zjy Y Y Y D74)<|sr 59 Y (Zjy Y Y Y D74) sn) (.row 74 .nil) Y Y)<|Rq Y (Zq (ZhG h_y5)<|.cons (ov Y) (.b Y) .nil)<|Ra Y<|Za<|?_
  obtain rfl := rt h
  exact Zz (ZP Y (.one<|rb Y))
theorem Zhx {p : api_Piece} {r : Int} (h : ZaT p = some r) :
 CSpec Tryz.prog gl0 59 [.agg [.sl 5 (List.map R5 p.Bytes), .bool p.Half]] (.int .i64 r) := by
 unfold ZaT at h
 replace h := Qj h
 refine So Tryz.func59 Y fun w0 A=>Tr<|Rq Y (QK (cva<|ov Y) Y tZ_68 Y)<|Ra Y<|Za<|Zr<|K1 1 Y<|Tr<|Rq Y (ZB (ov Y) Zfu)<|Rq Y (Zh (ov Y) Zh3 Y)<|Rl tZ_5 ZaC Y<|R2 JW Y<|Za<|K2 1 6 Y<|If h Y (fun h=>?_) fun h=>?_
 ·
  refine K0<|Tr<|Ra Y<|Za<|?_
  obtain rfl := rt h
  exact Zz (ZP Y (.one<|rb Y))
 ·
  refine Zn<|Zr<|K1 1 Y<|Tr<|Rq Y (ZB (ov Y) Zlo)<|Rq Y (Zh (ov Y) tS4 Y)<|Rm Y<|Rq Y (.guarded (p.Half == true) Y Y Y Y fun h => ZB (ov Y) Zfu)<|Rq Y (.guarded (p.Half == true) Y Y Y Y fun h => Zh (ow Y h) Zh3 Y)<|Rq Y (.guarded (p.Half == true) Y Y Y Y fun h => Zfo (ZG (ow Y h) tZ_5) ZaC<|Zc7 _ _)<|Rq Y (.guarded (p.Half == true) Y Y Y Y fun h => QD (ow Y h)<|ov Y)<|Rq Y (.guarded (p.Half == true) Y Y Y Y fun h => Zc<|ow Y h)<|Rq Y (.guarded2 ((p.Half == true) && ((decide ((p.Bytes.length : Int) = 0)) == false)) Y Y Y Y fun h => ZB (ov Y) Zfu)<|Rq Y (.guarded2 ((p.Half == true) && ((decide ((p.Bytes.length : Int) = 0)) == false)) Y Y Y Y fun h => Zh (ow Y h) Zh3 Y)<|bE h fun x h_x h=>Rq Y (.guarded2 ((p.Half == true) && ((decide ((p.Bytes.length : Int) = 0)) == false)) Y Y Y Y fun h => ZS (ow Y h) (ov Y) ZaC<|gdT h_x h)<|Rq Y (.guarded2 ((p.Half == true) && ((decide ((p.Bytes.length : Int) = 0)) == false)) Y Y Y Y fun h => Zh (ow Y h) tS5 Y)<|Rq Y (.guarded2 ((p.Half == true) && ((decide ((p.Bytes.length : Int) = 0)) == false)) Y Y Y Y fun h => JW (ow Y h)<|ov Y)<|Rq Y (.guarded (p.Half == true) Y Y Y Y fun h => Zaj (ow Y h) fun hp=>ow Y<|gA h<|gF hp)<|Rq Y (QU (ov Y) fun hp=>ow Y<|gT hp)<|Za<|K1 21 Y<|If h Y (fun h=>?_) fun h=>?_
  ·
   refine K0<|Tr<|Ra Y<|Za<|?_
   obtain rfl := rt h
   exact Zz (ZP Y (.one<|rb Y))
  ·
   refine Zn<|K0<|Tr<|Ra Y<|Za<|?_
   obtain rfl := rt h
   exact Zz (ZP Y (.one<|rb Y))
theorem ZkB {p : api_Piece} {r : (List Int)} (h : Zbm p = some r) :
 CSpec Tryz.prog gl0 62 [.agg [.sl 5 (List.map R5 p.Bytes), .bool p.Half]] (.sl 5 (List.map R5 r)) := by
 unfold Zbm at h
 replace h := Qj h
 refine So Tryz.func62 Y fun w0 A=>Tr<|Rq Y (QK (cva<|ov Y) Y tZ_68 Y)<|Ra Y<|Za<|K1 1 Y<|Tr<|Ra Y<|Za<|I1 (fun out=>⟨[(3, .own 0 out.length)], [some ⟨5, List.map R5 out⟩]⟩) h (fun h=>?_) fun out h=>?_
 ·
  refine Tr<|Rq Y (ZB (ov Y) Zfu)<|Rq Y (Zh (ov Y) Zh3 Y)<|Rl tZ_5 ZaC Y<|Rm Y<|Za<|Zk<|?_
  obtain ⟨r1, hl1, ho1⟩ := QP h
  refine L2 (fun out2 i=>⟨[(1, .rp [.sl 5 (List.map R5 p.Bytes), .bool p.Half] 0), (3, .own 0 out2.length), (7, .sl 5 (List.map R5 p.Bytes)), (8, .int .i64 (p.Bytes.length : Int)), (9, .int .i64 i)], [some ⟨5, List.map R5 out2⟩]⟩) hl1 (ES [none]) fun n1 out2 i h=>?_
  unfold Zba at h
  refine Tr<|R2 ZX Y<|Za<|Zr<|If h Y (fun h=>?_) fun h=>?_
  ·
   refine Zn<|Zr<|Zk<|K5 1 3 7 8 9 Y<|Tr<|Rm Y<|bE h fun x h_x h=>Rq Y (ZS (ov Y) (ov Y) ZaC h_x)<|Rq Y (Zh (ov Y) tS5 Y)<|Ra Y<|Ra Y<|Za<|I1 (fun out3=>⟨[(1, .rp [.sl 5 (List.map R5 p.Bytes), .bool p.Half] 0), (3, .own 0 out3.length), (5, .int .u8 x), (7, .sl 5 (List.map R5 p.Bytes)), (8, .int .i64 (p.Bytes.length : Int)), (9, .int .i64 i)], [some ⟨5, List.map R5 out3⟩]⟩) h (fun h=>?_) fun out3 h=>?_
   ·
    refine K7 1 3 4 5 7 8 9 Y<|Tr<|Rm Y<|R2 JW Y<|Rm Y<|Rq Y (.guarded ((decide (0 < i)) == false) Y Y Y Y fun h => ZB (ov Y) Zlo)<|Rq Y (.guarded ((decide (0 < i)) == false) Y Y Y Y fun h => Zh (ow Y h) tS4 Y)<|Rq Y (.guarded ((decide (0 < i)) == false) Y Y Y Y fun h => Jn<|ow Y h)<|Rq Y (Zaj (ov Y) fun hp=>ow Y<|gF hp)<|Za<|K7 1 3 5 7 8 9 20 Y<|If h Y (fun h=>?_) fun h=>?_
    ·
     exact K6 1 3 5 7 8 9 Y<|Zu<|Rm Y<|Rm Y<|bE h fun q h_q h=>Rq Y (Zbe (ov Y) (ov Y) h_q)<|R_q (.sl 5<|List.map R5 ([q] : List Int)) Y (Xv ZaC (.cons (cvs (ov Y)<|ZU Y) Y (.cons (.b Y) .nil) .nil) Y Y)<|bE h fun l h_l h=>Rx Y (Zv (ov Y) (ZG (ov Y) tZ_5) ZaC Y Y Y (fun _=>Zb Y) Y h_l)<|Ra Y<|Za<|⟨_, h, ES [some 0]⟩
    ·
     exact Zn<|⟨_, h, ES [some 0]⟩
   ·
    exact Zu<|Rm Y<|Rm Y<|bE h fun q2 h_q2 h=>Rq Y (XA (ov Y) (ov Y) h_q2)<|R_q (.sl 5<|List.map R5 ([q2] : List Int)) Y (Xv ZaC (.cons (cvs (ov Y)<|ZU Y) Y (.cons (.b Y) .nil) .nil) Y Y)<|bE h fun l2 h_l2 h=>Rx Y (Zv (ov Y) (ZG (ov Y) tZ_5) ZaC Y Y Y (fun _=>Zb Y) Y h_l2)<|Ra Y<|Za<|K5 1 3 7 8 9 Y<|Zu<|R2 ZZ Y<|Rm Y<|Za<|⟨_, h, ES [some 0]⟩
  ·
   refine ZL<|?_
   replace h := lx h ▸ ho1
   exact ⟨_, h, ES [some 0]⟩
 ·
  refine Tr<|Rm Y<|Ra Y<|Za<|?_
  obtain rfl := rt h
  exact Zz (ZP Y (.one<|.tmp Y<|View.ownM Y Y D5))
theorem ZfL {h_ : List Int} {at_ : Int} {r : (Vector Int 64) × (Vector Bool 64)} (h : ZaM h_ at_ = some r) :
 CSpec Tryz.prog gl0 118 [.sl 5 (List.map R5 h_), .int .i64 at_] (.tuple [.agg (List.map C47 r.1.toList), .agg (List.map C4 r.2.toList)]) := by
 unfold ZaM at h
 replace h := Qj h
 refine So Tryz.func118 Y fun w0 A=>Tr<|Rx Y (ZO (row := (List.map C47 (Vector.replicate 64 0).toList)) 0 Y ZcW Y tZ_49)<|Rx Y (ZO (row := (List.map C4 (Vector.replicate 64 false).toList)) 1 Y Zkj Y tZ_171)<|Za<|Tr<|R_q (.agg<|List.map C47 (#v[0, 0, 0, 0, 0, 0, 0, 0, 0, 0, 0, 0, 0, 0, 0, 0, 0, 0, 0, 0, 0, 0, 0, 0, 0, 0, 0, 0, 0, 0, 0, 0, 0, 0, 0, 0, 0, 0, 0, 0, 0, 0, 0, 0, 0, 0, 0, 0, 0, 0, 0, 0, 0, 0, 0, 0, 0, 0, 0, 0, 0, 0, 0, 0] : Vector Int 64).toList) Y (Zbp (ys := [_, _, _, _, _, _, _, _, _, _, _, _, _, _, _, _, _, _, _, _, _, _, _, _, _, _, _, _, _, _, _, _, _, _, _, _, _, _, _, _, _, _, _, _, _, _, _, _, _, _, _, _, _, _, _, _, _, _, _, _, _, _, _, _]) QL ZcW .nil Y)<|R_q (.agg<|List.map C4 (#v[false, false, false, false, false, false, false, false, false, false, false, false, false, false, false, false, false, false, false, false, false, false, false, false, false, false, false, false, false, false, false, false, false, false, false, false, false, false, false, false, false, false, false, false, false, false, false, false, false, false, false, false, false, false, false, false, false, false, false, false, false, false, false, false] : Vector Bool 64).toList) Y (Zbp (ys := [_, _, _, _, _, _, _, _, _, _, _, _, _, _, _, _, _, _, _, _, _, _, _, _, _, _, _, _, _, _, _, _, _, _, _, _, _, _, _, _, _, _, _, _, _, _, _, _, _, _, _, _, _, _, _, _, _, _, _, _, _, _, _, _]) ZfI Zkj .nil Y)<|Rx Y (ZO (row := (List.map C47 (Vector.replicate 64 0).toList)) 2 Y ZcW Y tZ_49)<|Rx Y (ZO (row := (List.map C4 (Vector.replicate 64 false).toList)) 3 Y Zkj Y tZ_171)<|Rx Y (Zf (ov Y) (ov Y) (Zp Z3 arL) Y Y Y (Zt (Ze arL) arL) (Zb<|arC fun _ => Y)<|ZC<|Eq.trans arL<|Eq.symm arL)<|Rx Y (Zf (ov Y) (ov Y) (Zp Zcs arL) Y Y Y (Zt (Ze arL) arL) (Zb<|arC fun _ => Y)<|ZC<|Eq.trans arL<|Eq.symm arL)<|Za<|I2 (fun f whole=>⟨[(4, .ptr 0 1 0 0), (5, .ptr 1 1 0 0), (6, .ptr 2 1 0 0), (7, .ptr 3 1 0 0)], [some ⟨49, [(List.map C47 (Vector.replicate 64 0).toList)]⟩, some ⟨171, [(List.map C4 (Vector.replicate 64 false).toList)]⟩, some ⟨49, [(List.map C47 f.toList)]⟩, some ⟨171, [(List.map C4 whole.toList)]⟩]⟩) h (fun h=>?_) fun f whole h=>?_
 ·
  refine K6 0 1 4 5 6 7 Y<|Tr<|Rm Y<|Za<|Zk<|?_
  obtain ⟨r1, hl1, ho1⟩ := QP h
  refine L3 (fun f2 whole2 i=>⟨[(0, .sl 5 (List.map R5 h_)), (1, .int .i64 at_), (4, .ptr 0 1 0 0), (5, .ptr 1 1 0 0), (6, .ptr 2 1 0 0), (7, .ptr 3 1 0 0), (12, .int .i64 i)], [some ⟨49, [(List.map C47 (Vector.replicate 64 0).toList)]⟩, some ⟨171, [(List.map C4 (Vector.replicate 64 false).toList)]⟩, some ⟨49, [(List.map C47 f2.toList)]⟩, some ⟨171, [(List.map C4 whole2.toList)]⟩]⟩) hl1 (ES [some 0, some 1, some 2, some 3]) fun n1 f2 whole2 i h=>?_
  unfold XM at h
  refine Tr<|R2 ZX Y<|Za<|Zr<|If h Y (fun h=>?_) fun h=>?_
  ·
   refine Zn<|Zr<|Zk<|K7 0 1 4 5 6 7 12 Y<|Tr<|Rm Y<|Ra Y<|Za<|K8 0 1 4 5 6 7 8 12 Y<|Tr<|Rm Y<|Rm Y<|R2 Zfn Y<|R2 ZZ Y<|Ra Y<|Za<|Zr<|K9 0 1 4 5 6 7 8 9 12 Y<|Tr<|Rm Y<|R2 ZX Y<|Rm Y<|Rq Y (.guarded ((decide ((i64 (at_ + (i64 (3 * i)))) < 0)) == false) Y Y Y Y fun h => Zc<|ov Y)<|Rq Y (.guarded ((decide ((i64 (at_ + (i64 (3 * i)))) < 0)) == false) Y Y Y Y fun h => Zli (ow Y h) (ov Y) Y)<|Rq Y (.guarded ((decide ((i64 (at_ + (i64 (3 * i)))) < 0)) == false) Y Y Y Y fun h => Zc<|ov Y)<|Rq Y (.guarded ((decide ((i64 (at_ + (i64 (3 * i)))) < 0)) == false) Y Y Y Y fun h => Zfo (ZG (ow Y h) tZ_5) ZaC<|Zc7 _ _)<|Rq Y (.guarded ((decide ((i64 (at_ + (i64 (3 * i)))) < 0)) == false) Y Y Y Y fun h => JW (ow Y h)<|ow Y h)<|Rq Y (Zaj (ov Y) fun hp=>ow Y<|gF hp)<|Za<|K10 0 1 4 5 6 7 8 9 12 27 Y<|If h Y (fun h=>?_) fun h=>?_
   ·
    exact ZL<|K7 0 1 4 5 6 7 12 Y<|Zu<|R2 ZZ Y<|Rm Y<|Za<|⟨_, h, ES [some 0, some 1, some 2, some 3]⟩
   ·
    exact Zn<|K9 0 1 4 5 6 7 8 9 12 Y<|Tr<|Rm Y<|bE h fun x h_x h=>Rq Y (ZY (ov Y) (ov Y) ZfI Y Y h_x)<|Rx Y (Zf (ov Y) (ov Y) (Zg tS4) Y Y Y (arB h_x) (Zb Y)<|arS h_x)<|Za<|K9 0 1 4 5 6 7 8 9 12 Y<|J6 (cw := md0) (by kernel_rfl)<|D1 0 Zc Y<|D1 1 Zc Y<|D1 2 Zc Y<|bE h fun x2 h_x2 h=>Dq 3 Y (ZS (ov Y) (ov Y) ZaC h_x2)<|Dq 4 Y (Zh (ov Y) tS5 Y)<|Dq 5 Y (Qi (ov Y) tI5 JV Y)<|D2 6 Zfn Y<|D1 7 Zc Y<|D1 8 Zc Y<|D2 9 ZZ Y<|bE h fun x3 h_x3 h=>Dq 10 Y (ZS (ov Y) (ov Y) ZaC h_x3)<|Dq 11 Y (Zh (ov Y) tS5 Y)<|Dq 12 Y (Qi (ov Y) tI5 JV Y)<|D2 13 Zfn Y<|D2 14 ZZ Y<|D1 15 Zc Y<|D1 16 Zc Y<|D2 17 ZZ Y<|bE h fun x4 h_x4 h=>Dq 18 Y (ZS (ov Y) (ov Y) ZaC h_x4)<|Dq 19 Y (Zh (ov Y) tS5 Y)<|Dq 20 Y (Qi (ov Y) tI5 JV Y)<|D2 21 ZZ Y<|bE h fun x5 h_x5 h=>Dq 22 Y (ZY (ov Y) (ov Y) QL Y Y h_x5)<|Do 23 Y (Zf (ov Y) (ov Y) (Zg QR) Y Y Y (arB h_x5) (Zb Y)<|arS h_x5)<|Dd<|K7 0 1 4 5 6 7 12 Y<|Zu<|R2 ZZ Y<|Rm Y<|Za<|⟨_, h, ES [some 0, some 1, some 2, some 3]⟩
  ·
   refine ZL<|?_
   replace h := lx h ▸ ho1
   exact ⟨_, h, ES [some 0, some 1, some 2, some 3]⟩
 ·
  refine Td md0<|Dq 0 Y (Zy (ov Y) Y Y Y Z3 (Zm<|Ze arL) arL (hns := (nsM fun _ => Y)))<|Dw 1 2 Y (Zy (ov Y) Y Y Y Zcs (Zm<|Ze arL) arL (hns := (nsM fun _ => Y))) (Zf (ov Y) (ov Y) (Zp Z3 arL) Y Y Y (Zt (Ze arL) arL) (Zb<|arC fun _ => Y)<|ZC<|Eq.trans arL<|Eq.symm arL) ?_ ?_
  ·
   refine Do 2 Y (Zf (ov Y) (ov Y) (Zp Z3 arL) Y Y Y (Zt (Ze arL) arL) (Zb<|arC fun _ => Y)<|ZC<|Eq.trans arL<|Eq.symm arL)<|Do 3 Y (Zf (ov Y) (ov Y) (Zp Zcs arL) Y Y Y (Zt (Ze arL) arL) (Zb<|arC fun _ => Y)<|ZC<|Eq.trans arL<|Eq.symm arL)<|Dd<|?_
   obtain rfl := rt h
   exact Zz (ZP Y (.two (.agg Y Y Y Y Z3 (Zm<|Ze arL) arL (pwB<|arD fun _ => Y) (hns := (nsM fun _ => Y)))<|.agg Y Y Y Y Zcs (Zm<|Ze arL) arL (pwB<|arD fun _ => Y) (hns := (nsM fun _ => Y))))
  ·
   refine Dq 1 Y (Zy (ov Y) Y Y Y Zcs (Zm<|Ze arL) arL (hns := (nsM fun _ => Y)))<|Do 3 Y (Zf (ov Y) (ov Y) (Zp Zcs arL) Y Y Y (Zt (Ze arL) arL) (Zb<|arC fun _ => Y)<|ZC<|Eq.trans arL<|Eq.symm arL)<|Dd<|?_
   obtain rfl := rt h
   exact Zz (ZP Y (.two (.agg Y Y Y Y Z3 (Zm<|Ze arL) arL (pwB<|arD fun _ => Y) (hns := (nsM fun _ => Y)))<|.agg Y Y Y Y Zcs (Zm<|Ze arL) arL (pwB<|arD fun _ => Y) (hns := (nsM fun _ => Y))))
theorem ZbE {f : Vector Int 64} {r : Int} (h : XB f = some r) :
 CSpec Tryz.prog gl0 167 [.agg (List.map C47 f.toList)] (.int .i64 r) := by
 unfold XB at h
 replace h := Qj h
 refine So Tryz.func167 Y fun w0 A=>Tr<|Rq Y (QK (cva<|ov Y) arL tZ_49<|arD fun _ => Y)<|Ra Y<|Za<|K2 1 2 Y<|Tr<|bE h fun x h_x h=>Rq Y (QA (ov Y) (ov Y) QL h_x)<|Rq Y (Zh (ov Y) QR<|Zj<|Z1 (o := 0) (o' := ((Int.toNat 1) * 1)) (Ze arL)<|ZN h_x)<|Rq Y (Qi (ov Y) JV tI3 Y)<|bE h fun q h_q h=>Rq Y (XA (ov Y) (ov Y) h_q)<|bE h fun x2 h_x2 h=>Rq Y (QA (ov Y) (ov Y) QL h_x2)<|Rq Y (Zh (ov Y) QR<|Zj<|Z1 (o := 0) (o' := ((Int.toNat 2) * 1)) (Ze arL)<|ZN h_x2)<|Rq Y (Qi (ov Y) JV tI3 Y)<|bE h fun q2 h_q2 h=>Rq Y (XA (ov Y) (ov Y) h_q2)<|R2 Zfn Y<|R2 ZZ Y<|Ra Y<|Za<|?_
 obtain rfl := rt h
 exact Zz (ZP Y (.one<|rb Y))
theorem ZcB {number : Int} {r : Int} (h : Jk number = some r) :
 CSpec Tryz.prog gl0 166 [.int .i64 number] (.int .i64 r) := by
 unfold Jk at h
 replace h := Qj h
 refine So Tryz.func166 Y fun w0 A=>Tr<|Ra Y<|Za<|Tr<|R_q (.agg<|List.map C3 (#v[583, 1464, 2631, 3512] : Vector Int 4).toList) Y (Zbp (ys := [_, _, _, _]) Zqr ZrZ (.cons (cvs (ov Y)<|ZU Y)<|.cons (cvs (ov Y)<|ZU Y)<|.cons (cvs (ov Y)<|ZU Y)<|.cons (cvs (ov Y)<|ZU Y) .nil) Y)<|Rm Y<|bE h fun q h_q h=>Rq Y (XA (ov Y) (ov Y) h_q)<|bE h fun x h_x h=>Rq Y (Jr (ov Y) (ov Y) Zqr tS3 h_x)<|Ra Y<|Za<|?_
 obtain rfl := rt h
 exact Zz (ZP Y (.one<|rb Y))
theorem Zgv {n : Int} {r : Bool} (h : ZcG n = some r) :
 CSpec Tryz.prog gl0 202 [.int .i64 n] (.bool r) := by
 unfold ZcG at h
 replace h := Qj h
 refine So Tryz.func202 Y fun w0 A=>Tr<|Ra Y<|Za<|K1 0 Y<|Tr<|Ra Y<|Za<|I1 (fun ones=>⟨[(3, .int .i64 ones)], []⟩) h (fun h=>?_) fun ones h=>?_
 ·
  refine Zk<|?_
  obtain ⟨r1, hl1, ho1⟩ := QP h
  refine L2 (fun n2 ones2=>⟨[(0, .int .i64 n2), (3, .int .i64 ones2)], []⟩) hl1 (ES []) fun n1 n2 ones2 h=>?_
  unfold ZeH at h
  refine Zr<|Tr<|Rm Y<|R2 JW Y<|Za<|K3 0 3 5 Y<|If h Y (fun h=>?_) fun h=>?_
  ·
   exact Zn<|Zr<|Zk<|K2 0 3 Y<|Zu<|Rm Y<|Rm Y<|bE h fun q h_q h=>Rq Y (XA (ov Y) (ov Y) h_q)<|R2 ZZ Y<|Ra Y<|Za<|K2 0 3 Y<|Zu<|Rm Y<|bE h fun q2 h_q2 h=>Rq Y (Zbe (ov Y) (ov Y) h_q2)<|Ra Y<|Za<|⟨_, h, ES []⟩
  ·
   refine ZL<|?_
   replace h := lx h ▸ ho1
   exact ⟨_, h, ES []⟩
 ·
  refine Tr<|Rm Y<|bE h fun q3 h_q3 h=>Rq Y (XA (ov Y) (ov Y) h_q3)<|R2 QD Y<|Ra Y<|Za<|?_
  obtain rfl := rt h
  exact Zz (ZP Y (.one<|rb Y))
theorem ZeE {f : Vector Int 64} {r : Int} (h : Zb1 f = some r) :
 CSpec Tryz.prog gl0 168 [.agg (List.map C47 f.toList)] (.int .i64 r) := by
 unfold Zb1 at h
 replace h := Qj h
 refine So Tryz.func168 Y fun w0 A=>Tr<|Rq Y (QK (cva<|ov Y) arL tZ_49<|arD fun _ => Y)<|Ra Y<|Za<|K1 1 Y<|Tr<|Ra Y<|Za<|I1 (fun x=>⟨[(3, .int .i64 x)], []⟩) h (fun h=>?_) fun x h=>?_
 ·
  refine Tr<|Ra Y<|Za<|Zk<|?_
  obtain ⟨r1, hl1, ho1⟩ := QP h
  refine L2 (fun x2 i=>⟨[(1, .rp (List.map C47 f.toList) 0), (3, .int .i64 x2), (4, .int .i64 i)], []⟩) hl1 (ES []) fun n1 x2 i h=>?_
  unfold Zbg at h
  refine Zr<|Tr<|Rm Y<|R2 ZgE Y<|Za<|K4 1 3 4 6 Y<|If h Y (fun h=>?_) fun h=>?_
  ·
   exact Zn<|Zr<|Zk<|K3 1 3 4 Y<|Zu<|Rm Y<|Rm Y<|bE h fun x3 h_x3 h=>Rq Y (QA (ov Y) (ov Y) QL h_x3)<|Rq Y (Zh (ov Y) QR<|Zj<|Z1 (o := 0) (o' := (i.toNat * 1)) (Ze arL)<|ZN h_x3)<|Rq Y (Qi (ov Y) JV tI3 Y)<|bE h fun q h_q h=>Rq Y (XA (ov Y) (ov Y) h_q)<|R2 Zgn Y<|Ra Y<|Za<|K3 1 3 4 Y<|Zu<|Rm Y<|R2 ZZ Y<|Ra Y<|Za<|⟨_, h, ES []⟩
  ·
   refine ZL<|?_
   replace h := lx h ▸ ho1
   exact ⟨_, h, ES []⟩
 ·
  refine Tr<|Rm Y<|Ra Y<|Za<|?_
  obtain rfl := rt h
  exact Zz (ZP Y (.one<|rb Y))
theorem Zdq {f : Vector Int 64} {r : Int} (h : J8 f = some r) :
 CSpec Tryz.prog gl0 181 [.agg (List.map C47 f.toList)] (.int .i64 r) := by
 unfold J8 at h
 replace h := Qj h
 refine So Tryz.func181 Y fun w0 A=>Tr<|Rq Y (QK (cva<|ov Y) arL tZ_49<|arD fun _ => Y)<|Ra Y<|Za<|K1 1 Y<|Tr<|Ra Y<|Za<|I1 (fun rest=>⟨[(3, .int .i64 rest)], []⟩) h (fun h=>?_) fun rest h=>?_
 ·
  refine Tr<|Ra Y<|Za<|Zk<|?_
  obtain ⟨r1, hl1, ho1⟩ := QP h
  refine L2 (fun rest2 i=>⟨[(1, .rp (List.map C47 f.toList) 0), (3, .int .i64 rest2), (4, .int .i64 i)], []⟩) hl1 (ES []) fun n1 rest2 i h=>?_
  unfold Zad at h
  refine Zr<|Tr<|Rm Y<|R2 ZX Y<|Za<|K4 1 3 4 7 Y<|If h Y (fun h=>?_) fun h=>?_
  ·
   refine Zn<|Zr<|Zk<|K3 1 3 4 Y<|Tr<|Ra Y<|Za<|I1 (fun bit=>⟨[(1, .rp (List.map C47 f.toList) 0), (3, .int .i64 rest2), (4, .int .i64 i), (5, .int .i64 bit)], []⟩) h (fun h=>?_) fun bit h=>?_
   ·
    refine Tr<|Rm Y<|R2 ZX Y<|Za<|K5 1 3 4 5 11 Y<|If h Y (fun h=>?_) fun h=>?_
    ·
     exact K4 1 3 4 5 Y<|Zu<|Rm Y<|bE h fun q h_q h=>Rq Y (Zbe (ov Y) (ov Y) h_q)<|bE h fun x h_x h=>Rq Y (QA (ov Y) (ov Y) QL h_x)<|Rq Y (Zh (ov Y) QR<|Zj<|Z1 (o := 0) (o' := (q.toNat * 1)) (Ze arL)<|ZN h_x)<|Rq Y (Qi (ov Y) JV tI3 Y)<|Rm Y<|bE h fun q2 h_q2 h=>Rq Y (XA (ov Y) (ov Y) h_q2)<|R2 ZdH Y<|bE h fun q3 h_q3 h=>Rq Y (ZfF (ov Y) (ov Y) h_q3)<|R2 Zer Y<|Ra Y<|Za<|⟨_, h, ES []⟩
    ·
     exact Zn<|⟨_, h, ES []⟩
   ·
    refine Tr<|Rm Y<|R2 Zfn Y<|Rm Y<|R2 ZZ Y<|Ra Y<|Za<|K3 1 3 4 Y<|Tr<|Rm Y<|R2 ZdJ Y<|Za<|K4 1 3 4 27 Y<|If h Y (fun h=>?_) fun h=>?_
    ·
     exact K3 1 3 4 Y<|Zu<|Rm Y<|R2 Zgn Y<|Ra Y<|Za<|K3 1 3 4 Y<|Zu<|Rm Y<|R2 ZZ Y<|Ra Y<|Za<|⟨_, h, ES []⟩
    ·
     exact Zn<|K3 1 3 4 Y<|Zu<|Rm Y<|R2 ZZ Y<|Ra Y<|Za<|⟨_, h, ES []⟩
  ·
   refine ZL<|?_
   replace h := lx h ▸ ho1
   exact ⟨_, h, ES []⟩
 ·
  refine Tr<|Rm Y<|Ra Y<|Za<|?_
  obtain rfl := rt h
  exact Zz (ZP Y (.one<|rb Y))
theorem ZkX {f : Vector Int 64} {r : (List api_Flaw)} (h : Zev f = some r) :
 CSpec Tryz.prog gl0 182 [.agg (List.map C47 f.toList)] (.sl 247 (List.map R247 r)) := by
 unfold Zev at h
 replace h := Qj h
 refine So Tryz.func182 Y fun w0 A=>Tr<|Rq Y (QK (cva<|ov Y) arL tZ_49<|arD fun _ => Y)<|Ra Y<|Za<|K1 1 Y<|Tr<|Ra Y<|Za<|I1 (fun out=>⟨[(1, .rp (List.map C47 f.toList) 0), (3, .own 0 out.length)], [some ⟨247, List.map R247 out⟩]⟩) h (fun h=>?_) fun out h=>?_
 ·
  refine Tr<|Rq Y (ZF (ov Y) Z3 (Zm<|Ze arL) arL)<|Rm Y<|Za<|Zk<|?_
  obtain ⟨r1, hl1, ho1⟩ := QP h
  refine L2 (fun out2 i=>⟨[(1, .rp (List.map C47 f.toList) 0), (3, .own 0 out2.length), (7, .agg (List.map C47 f.toList)), (8, .int .i64 i)], [some ⟨247, List.map R247 out2⟩]⟩) hl1 (ES [none]) fun n1 out2 i h=>?_
  unfold ZbX at h
  refine Tr<|R2 ZX Y<|Za<|Zr<|If h Y (fun h=>?_) fun h=>?_
  ·
   refine Zn<|Zr<|Zk<|K4 1 3 7 8 Y<|Tr<|Rm Y<|bE h fun x h_x h=>Rq Y (Jr (ov Y) (ov Y) QL QR h_x)<|Ra Y<|Ra Y<|Za<|K6 1 3 4 5 7 8 Y<|Tr<|Rm Y<|R2 JW Y<|Za<|K6 1 3 4 7 8 13 Y<|If h Y (fun h=>?_) fun h=>?_
   ·
    exact K5 1 3 4 7 8 Y<|Zu<|Rm Y<|Rm Y<|Rq Y (ZeG (ys := [_, _]) Zkb Zkl Zmt (.cons (cvs (ov Y)<|ZU Y)<|.cons (cvs (ov Y)<|ZU Y) .nil) Y)<|R_q (.sl 247<|List.map R247 ([(api_Flaw.mk i 5)] : List api_Flaw)) Y (Xv ZfQ (.cons (cva<|ov Y) Y (pwD Y) .nil) Y Y)<|bE h fun l h_l h=>Rx Y (Zv (ov Y) (ZG (ov Y) tZ_247) ZfQ Y Y Y (fun _=>Zb Y) Y h_l)<|Ra Y<|Za<|K4 1 3 7 8 Y<|Zu<|R2 ZZ Y<|Rm Y<|Za<|⟨_, h, ES [some 0]⟩
   ·
    exact Zn<|K4 1 3 7 8 Y<|Zu<|R2 ZZ Y<|Rm Y<|Za<|⟨_, h, ES [some 0]⟩
  ·
   refine ZL<|?_
   replace h := lx h ▸ ho1
   exact ⟨_, h, ES [some 0]⟩
 ·
  refine Zr<|Tr<|Rm Y<|Rq Y (Zaf (ov Y) Y Y ZfQ)<|R2 JW Y<|Za<|K3 1 3 22 Y<|If h Y (fun h=>?_) fun h=>?_
  ·
   refine K1 3 Y<|Tr<|Rm Y<|Ra Y<|Za<|?_
   obtain rfl := rt h
   exact Zz (ZP Y (.one<|.tmp Y<|View.ownM Y Y D247))
  ·
   refine Zn<|I1 (fun out3=>⟨[(1, .rp (List.map C47 f.toList) 0), (3, .own 0 out3.length)], [some ⟨247, List.map R247 out3⟩]⟩) h (fun h=>?_) fun out3 h=>?_
   ·
    refine K2 1 3 Y<|Td md0<|bE h fun x2 h_x2 h=>Dq 0 Y (QA (ov Y) (ov Y) QL h_x2)<|Dq 1 Y (Zh (ov Y) QR<|Zj<|Z1 (o := 0) (o' := ((Int.toNat 0) * 1)) (Ze arL)<|ZN h_x2)<|Dq 2 Y (Qi (ov Y) JV tI3 Y)<|Dq 3 Y (ZF (ov Y) Z3 (Zm<|Ze arL) arL)<|bE h fun y h_y h=>Dq 4 Y (Zq (ZbE h_y)<|.cons (ov Y) (.aggB<|arD fun _ => Y) .nil)<|bE h fun y2 h_y2 h=>Dq 5 Y (Zq (ZcB h_y2)<|.cons (ov Y) (.b Y) .nil)<|D2 6 Jl Y<|Dd<|K3 1 3 30 Y<|If h Y (fun h=>?_) fun h=>?_
    ·
     exact K2 1 3 Y<|Zu<|Rm Y<|Rq Y (ZeG (ys := [_, _]) Zkb Zkl Zmt (.cons (cvs (ov Y)<|ZU Y)<|.cons (cvs (ov Y)<|ZU Y) .nil) Y)<|R_q (.sl 247<|List.map R247 ([(api_Flaw.mk 0 1)] : List api_Flaw)) Y (Xv ZfQ (.cons (cva<|ov Y) Y (pwD Y) .nil) Y Y)<|bE h fun l2 h_l2 h=>Rx Y (Zv (ov Y) (ZG (ov Y) tZ_247) ZfQ Y Y Y (fun _=>Zb Y) Y h_l2)<|Ra Y<|Za<|⟨_, h, ES [some 0]⟩
    ·
     exact Zn<|⟨_, h, ES [some 0]⟩
   ·
    refine I1 (fun out4=>⟨[(1, .rp (List.map C47 f.toList) 0), (3, .own 0 out4.length)], [some ⟨247, List.map R247 out4⟩]⟩) h (fun h=>?_) fun out4 h=>?_
    ·
     refine Tr<|Ra Y<|Za<|Zk<|?_
     obtain ⟨r2, hl2, ho2⟩ := QP h
     refine L2 (fun out5 i2=>⟨[(1, .rp (List.map C47 f.toList) 0), (3, .own 0 out5.length), (6, .int .i64 i2)], [some ⟨247, List.map R247 out5⟩]⟩) hl2 (ES [some 0]) fun n2 out5 i2 h=>?_
     unfold ZbW at h
     refine Zr<|Tr<|Rm Y<|R2 ZX Y<|Za<|K4 1 3 6 36 Y<|If h Y (fun h=>?_) fun h=>?_
     ·
      refine Zn<|Zr<|Zk<|K3 1 3 6 Y<|Tr<|Rm Y<|bE h fun x3 h_x3 h=>Rq Y (QA (ov Y) (ov Y) QL h_x3)<|Rq Y (Zh (ov Y) QR<|Zj<|Z1 (o := 0) (o' := (i2.toNat * 1)) (Ze arL)<|ZN h_x3)<|Rq Y (Qi (ov Y) JV tI3 Y)<|bE h fun y3 h_y3 h=>Rq Y (Zq (Zgv h_y3)<|.cons (ov Y) (.b Y) .nil)<|R1 Jn Y<|Za<|K4 1 3 6 44 Y<|If h Y (fun h=>?_) fun h=>?_
      ·
       exact K3 1 3 6 Y<|Zu<|Rm Y<|Rm Y<|Rq Y (ZeG (ys := [_, _]) Zkb Zkl Zmt (.cons (cvs (ov Y)<|ZU Y)<|.cons (cvs (ov Y)<|ZU Y) .nil) Y)<|R_q (.sl 247<|List.map R247 ([(api_Flaw.mk i2 2)] : List api_Flaw)) Y (Xv ZfQ (.cons (cva<|ov Y) Y (pwD Y) .nil) Y Y)<|bE h fun l3 h_l3 h=>Rx Y (Zv (ov Y) (ZG (ov Y) tZ_247) ZfQ Y Y Y (fun _=>Zb Y) Y h_l3)<|Ra Y<|Za<|K3 1 3 6 Y<|Zu<|Rm Y<|R2 ZZ Y<|Ra Y<|Za<|⟨_, h, ES [some 0]⟩
      ·
       exact Zn<|K3 1 3 6 Y<|Zu<|Rm Y<|R2 ZZ Y<|Ra Y<|Za<|⟨_, h, ES [some 0]⟩
     ·
      refine ZL<|?_
      replace h := lx h ▸ ho2
      exact ⟨_, h, ES [some 0]⟩
    ·
     refine I1 (fun out6=>⟨[(1, .rp (List.map C47 f.toList) 0), (3, .own 0 out6.length)], [some ⟨247, List.map R247 out6⟩]⟩) h (fun h=>?_) fun out6 h=>?_
     ·
      refine Td md0<|bE h fun x4 h_x4 h=>Dq 0 Y (QA (ov Y) (ov Y) QL h_x4)<|Dq 1 Y (Zh (ov Y) QR<|Zj<|Z1 (o := 0) (o' := ((Int.toNat 61) * 1)) (Ze arL)<|ZN h_x4)<|Dq 2 Y (Qi (ov Y) JV tI3 Y)<|bE h fun q h_q h=>Dq 3 Y (XA (ov Y) (ov Y) h_q)<|Dq 4 Y (ZF (ov Y) Z3 (Zm<|Ze arL) arL)<|bE h fun y4 h_y4 h=>Dq 5 Y (Zq (ZeE h_y4)<|.cons (ov Y) (.aggB<|arD fun _ => Y) .nil)<|D2 6 Jl Y<|Dd<|K3 1 3 56 Y<|If h Y (fun h=>?_) fun h=>?_
      ·
       exact K2 1 3 Y<|Zu<|Rm Y<|Rq Y (ZeG (ys := [_, _]) Zkb Zkl Zmt (.cons (cvs (ov Y)<|ZU Y)<|.cons (cvs (ov Y)<|ZU Y) .nil) Y)<|R_q (.sl 247<|List.map R247 ([(api_Flaw.mk 61 3)] : List api_Flaw)) Y (Xv ZfQ (.cons (cva<|ov Y) Y (pwD Y) .nil) Y Y)<|bE h fun l4 h_l4 h=>Rx Y (Zv (ov Y) (ZG (ov Y) tZ_247) ZfQ Y Y Y (fun _=>Zb Y) Y h_l4)<|Ra Y<|Za<|⟨_, h, ES [some 0]⟩
      ·
       exact Zn<|⟨_, h, ES [some 0]⟩
     ·
      refine Zr<|Td md0<|bE h fun x5 h_x5 h=>Dq 0 Y (QA (ov Y) (ov Y) QL h_x5)<|Dq 1 Y (Zh (ov Y) QR<|Zj<|Z1 (o := 0) (o' := ((Int.toNat 62) * 1)) (Ze arL)<|ZN h_x5)<|Dq 2 Y (Qi (ov Y) JV tI3 Y)<|bE h fun q2 h_q2 h=>Dq 3 Y (XA (ov Y) (ov Y) h_q2)<|D2 4 Zfn Y<|bE h fun x6 h_x6 h=>Dq 5 Y (QA (ov Y) (ov Y) QL h_x6)<|Dq 6 Y (Zh (ov Y) QR<|Zj<|Z1 (o := 0) (o' := ((Int.toNat 63) * 1)) (Ze arL)<|ZN h_x6)<|Dq 7 Y (Qi (ov Y) JV tI3 Y)<|bE h fun q3 h_q3 h=>Dq 8 Y (XA (ov Y) (ov Y) h_q3)<|D2 9 ZZ Y<|Dq 10 Y (ZF (ov Y) Z3 (Zm<|Ze arL) arL)<|bE h fun y5 h_y5 h=>Dq 11 Y (Zq (Zdq h_y5)<|.cons (ov Y) (.aggB<|arD fun _ => Y) .nil)<|D2 12 Jl Y<|Dd<|K2 3 73 Y<|If h Y (fun h=>?_) fun h=>?_
      ·
       refine K1 3 Y<|Zu<|Rm Y<|Rq Y (ZeG (ys := [_, _]) Zkb Zkl Zmt (.cons (cvs (ov Y)<|ZU Y)<|.cons (cvs (ov Y)<|ZU Y) .nil) Y)<|R_q (.sl 247<|List.map R247 ([(api_Flaw.mk 62 4)] : List api_Flaw)) Y (Xv ZfQ (.cons (cva<|ov Y) Y (pwD Y) .nil) Y Y)<|bE h fun l5 h_l5 h=>Rx Y (Zv (ov Y) (ZG (ov Y) tZ_247) ZfQ Y Y Y (fun _=>Zb Y) Y h_l5)<|Ra Y<|Za<|K1 3 Y<|Tr<|Rm Y<|Ra Y<|Za<|?_
       obtain rfl := rt h
       exact Zz (ZP Y (.one<|.tmp Y<|View.ownM Y Y D247))
      ·
       refine Zn<|K1 3 Y<|Tr<|Rm Y<|Ra Y<|Za<|?_
       obtain rfl := rt h
       exact Zz (ZP Y (.one<|.tmp Y<|View.ownM Y Y D247))
theorem ZeQ {f : Vector Int 64} {r : Bool} (h : Zcd f = some r) :
 CSpec Tryz.prog gl0 131 [.agg (List.map C47 f.toList)] (.bool r) := by
 unfold Zcd at h
 replace h := Qj h
 refine So Tryz.func131 Y fun w0 A=>Tr<|Rq Y (QK (cva<|ov Y) arL tZ_49<|arD fun _ => Y)<|Ra Y<|Za<|K2 1 2 Y<|Tr<|Rq Y (ZF (ov Y) Z3 (Zm<|Ze arL) arL)<|bE h fun y h_y h=>Rq Y (Zq (ZkX h_y)<|.cons (ov Y) (.aggB<|arD fun _ => Y) .nil)<|Rl tZ_247 ZfQ Y<|R2 QD Y<|Ra Y<|Za<|?_
 obtain rfl := rt h
 exact Zz (ZP Y (.one<|rb Y))
theorem ZlT {h_ : List Int} {r : (List api_Found)} (h : Zfi h_ = some r) :
 CSpec Tryz.prog gl0 114 [.sl 5 (List.map R5 h_)] (.sl 158 (List.map R158 r)) := by
 unfold Zfi at h
 replace h := Qj h
 refine So Tryz.func114 Y fun w0 A=>Tr<|Ra Y<|Za<|K1 0 Y<|Tr<|Ra Y<|Za<|I1 (fun out=>⟨[(3, .own 0 out.length)], [some ⟨158, List.map R158 out⟩]⟩) h (fun h=>?_) fun out h=>?_
 ·
  refine Tr<|Ra Y<|Za<|Zk<|?_
  obtain ⟨r1, hl1, ho1⟩ := QP h
  refine L2 (fun out2 at_=>⟨[(0, .sl 5 (List.map R5 h_)), (3, .own 0 out2.length), (4, .int .i64 at_)], [some ⟨158, List.map R158 out2⟩]⟩) hl1 (ES [none]) fun n1 out2 at_ h=>?_
  unfold ZcH at h
  refine Zr<|Tr<|Rm Y<|R2 ZZ Y<|Rm Y<|Rl tZ_5 ZaC Y<|R2 ZgE Y<|Za<|K4 0 3 4 12 Y<|If h Y (fun h=>?_) fun h=>?_
  ·
   refine Zn<|I1 (fun out3=>⟨[(0, .sl 5 (List.map R5 h_)), (3, .own 0 out3.length), (4, .int .i64 at_)], [some ⟨158, List.map R158 out3⟩]⟩) h (fun h=>?_) fun out3 h=>?_
   ·
    refine Zk<|K3 0 3 4 Y<|Td md0<|D1 0 Zc Y<|D1 1 Zc Y<|bE h fun x h_x h=>Dq 2 Y (ZS (ov Y) (ov Y) ZaC h_x)<|Dq 3 Y (Zh (ov Y) tS5 Y)<|Dq 4 Y (Qi (ov Y) tI5 tI3 Y)<|D2 5 Zfn Y<|D1 6 Zc Y<|D1 7 Zc Y<|D2 8 ZZ Y<|bE h fun x2 h_x2 h=>Dq 9 Y (ZS (ov Y) (ov Y) ZaC h_x2)<|Dq 10 Y (Zh (ov Y) tS5 Y)<|Dq 11 Y (Qi (ov Y) tI5 tI3 Y)<|D2 12 Zfn Y<|D2 13 ZZ Y<|D1 14 Zc Y<|D1 15 Zc Y<|D2 16 ZZ Y<|bE h fun x3 h_x3 h=>Dq 17 Y (ZS (ov Y) (ov Y) ZaC h_x3)<|Dq 18 Y (Zh (ov Y) tS5 Y)<|Dq 19 Y (Qi (ov Y) tI5 tI3 Y)<|D2 20 ZZ Y<|D1 21 QG Y<|Dd<|Zr<|K4 0 3 4 5 Y<|Tr<|Rm Y<|R2 Jl Y<|Rm Y<|Rq Y (.guarded ((!decide ((i64 ((i64 ((i64 ((i64 x) * 256)) + (i64 ((i64 x2) * 16)))) + (i64 x3))) = 583)) == true) Y Y Y Y fun h => Zc<|ov Y)<|Rq Y (.guarded ((!decide ((i64 ((i64 ((i64 ((i64 x) * 256)) + (i64 ((i64 x2) * 16)))) + (i64 x3))) = 583)) == true) Y Y Y Y fun h => Jl (ow Y h)<|ov Y)<|Rq Y (QU (ov Y) fun hp=>ow Y<|gT hp)<|Rm Y<|Rq Y (.guarded (((!decide ((i64 ((i64 ((i64 ((i64 x) * 256)) + (i64 ((i64 x2) * 16)))) + (i64 x3))) = 583)) && (!decide ((i64 ((i64 ((i64 ((i64 x) * 256)) + (i64 ((i64 x2) * 16)))) + (i64 x3))) = 1464))) == true) Y Y Y Y fun h => Zc<|ov Y)<|Rq Y (.guarded (((!decide ((i64 ((i64 ((i64 ((i64 x) * 256)) + (i64 ((i64 x2) * 16)))) + (i64 x3))) = 583)) && (!decide ((i64 ((i64 ((i64 ((i64 x) * 256)) + (i64 ((i64 x2) * 16)))) + (i64 x3))) = 1464))) == true) Y Y Y Y fun h => Jl (ow Y h)<|ov Y)<|Rq Y (QU (ov Y) fun hp=>ow Y<|gT hp)<|Rm Y<|Rq Y (.guarded ((((!decide ((i64 ((i64 ((i64 ((i64 x) * 256)) + (i64 ((i64 x2) * 16)))) + (i64 x3))) = 583)) && (!decide ((i64 ((i64 ((i64 ((i64 x) * 256)) + (i64 ((i64 x2) * 16)))) + (i64 x3))) = 1464))) && (!decide ((i64 ((i64 ((i64 ((i64 x) * 256)) + (i64 ((i64 x2) * 16)))) + (i64 x3))) = 2631))) == true) Y Y Y Y fun h => Zc<|ov Y)<|Rq Y (.guarded ((((!decide ((i64 ((i64 ((i64 ((i64 x) * 256)) + (i64 ((i64 x2) * 16)))) + (i64 x3))) = 583)) && (!decide ((i64 ((i64 ((i64 ((i64 x) * 256)) + (i64 ((i64 x2) * 16)))) + (i64 x3))) = 1464))) && (!decide ((i64 ((i64 ((i64 ((i64 x) * 256)) + (i64 ((i64 x2) * 16)))) + (i64 x3))) = 2631))) == true) Y Y Y Y fun h => Jl (ow Y h)<|ov Y)<|Rq Y (QU (ov Y) fun hp=>ow Y<|gT hp)<|Za<|K4 0 3 4 49 Y<|If h Y (fun h=>?_) fun h=>?_
    ·
     exact ZL<|⟨_, h, ES [some 0]⟩
    ·
     refine Zn<|K3 0 3 4 Y<|Tr<|Rm Y<|Rm Y<|bE h fun y h_y h=>Rq Y (Zq (ZfL h_y)<|.cons (ov Y) (.b Y)<|.cons (ov Y) (.b Y) .nil)<|Rm Y<|Rq Y (Zo (ov Y) Y)<|Rq Y (Zo (ov Y) Y)<|Rx Y (ZO (row := (List.map C47 (Vector.replicate 64 0).toList)) 1 Y ZcW Y tZ_49)<|Rx Y (ZO (row := (List.map C4 (Vector.replicate 64 false).toList)) 2 Y Zkj Y tZ_171)<|Rx Y (Zf (ov Y) (ov Y) (Zp Z3 arL) Y Y Y (Zt (Ze arL) arL) (Zb<|arC fun _ => Y)<|ZC<|Eq.trans arL<|Eq.symm arL)<|Rx Y (Zf (ov Y) (ov Y) (Zp Zcs arL) Y Y Y (Zt (Ze arL) arL) (Zb<|arC fun _ => Y)<|ZC<|Eq.trans arL<|Eq.symm arL)<|Za<|K4 0 3 4 6 Y<|Tr<|Rq Y (Zy (ov Y) Y Y Y Z3 (Zm<|Ze arL) arL (hns := (nsM fun _ => Y)))<|bE h fun y2 h_y2 h=>Rq Y (Zq (ZeQ h_y2)<|.cons (ov Y) (.aggB<|arD fun _ => Y) .nil)<|Za<|K5 0 3 4 6 57 Y<|If h Y (fun h=>?_) fun h=>?_
     ·
      exact K4 0 3 4 6 Y<|Zu<|Rm Y<|Rm Y<|Rq Y (Zy (ov Y) Y Y Y Z3 (Zm<|Ze arL) arL (hns := (nsM fun _ => Y)))<|Rq Y (ZaR (zr := (.int .i64 0) :: ((List.map C47 (Vector.replicate 64 0).toList) ++ ([]))) Zpa Zpm Zgg (by kernel_rfl) (.cons (cvs (ov Y)<|ZU Y)<|.cons (cva<|ov Y) .nil)<|Xf Y Y at2 pt3<|Xf Y arL at4 pt5 ZdO)<|R_q (.sl 158<|List.map R158 ([(api_Found.mk at_ y.1)] : List api_Found)) Y (Xv QI (.cons (cva<|ov Y) ln0 (pwD al1) .nil) Y Y)<|bE h fun l h_l h=>Rx Y (Zv (ov Y) (ZG (ov Y) tZ_158) QI Y Y Y (fun x=>Zb<|Zqe x) Y h_l)<|Ra Y<|Za<|⟨_, h, ES [some 0]⟩
     ·
      exact Zn<|⟨_, h, ES [some 0]⟩
   ·
    exact Zu<|Rm Y<|R2 ZZ Y<|Ra Y<|Za<|⟨_, h, ES [some 0]⟩
  ·
   refine ZL<|?_
   replace h := lx h ▸ ho1
   exact ⟨_, h, ES [some 0]⟩
 ·
  refine Tr<|Rm Y<|Ra Y<|Za<|?_
  obtain rfl := rt h
  exact Zz (ZP Y (.one<|.tmp Y<|View.ownM Y Y D158))
theorem Zab {a : Int} {b : Int} {r : Int} (h : Q2 a b = some r) :
 CSpec Tryz.prog gl0 117 [.int .i64 a, .int .i64 b] (.int .i64 r) := by
 unfold Q2 at h
 replace h := Qj h
 refine So Tryz.func117 Y fun w0 A=>Tr<|Ra Y<|Za<|Zr<|K2 0 1 Y<|Tr<|Rm Y<|Rm Y<|R2 ZX Y<|Za<|K3 0 1 7 Y<|If h Y (fun h=>?_) fun h=>?_
 ·
  refine K2 0 1 Y<|Tr<|Rm Y<|Rm Y<|R2 ZdH Y<|Ra Y<|Za<|?_
  obtain rfl := rt h
  exact Zz (ZP Y (.one<|rb Y))
 ·
  refine Zn<|K2 0 1 Y<|Tr<|Rm Y<|Rm Y<|R2 ZdH Y<|Ra Y<|Za<|?_
  obtain rfl := rt h
  exact Zz (ZP Y (.one<|rb Y))
theorem ZjB {l : List api_Found} {r : (List api_Found)} (h : Zc5 l = some r) :
 CSpec Tryz.prog gl0 113 [.sl 158 (List.map R158 l)] (.sl 158 (List.map R158 r)) := by
 unfold Zc5 at h
 replace h := Qj h
 refine So Tryz.func113 Y fun w0 A=>Tr<|Ra Y<|Za<|K1 0 Y<|Tr<|Ra Y<|Za<|I1 (fun out=>⟨[(3, .own 0 out.length)], [some ⟨158, List.map R158 out⟩]⟩) h (fun h=>?_) fun out h=>?_
 ·
  refine Tr<|Rm Y<|Rl tZ_158 QI Y<|Rm Y<|Za<|Zk<|?_
  obtain ⟨r1, hl1, ho1⟩ := QP h
  refine L2 (fun out2 i=>⟨[(0, .sl 158 (List.map R158 l)), (3, .own 0 out2.length), (7, .sl 158 (List.map R158 l)), (8, .int .i64 (l.length : Int)), (9, .int .i64 i)], [some ⟨158, List.map R158 out2⟩]⟩) hl1 (ES [none]) fun n1 out2 i h=>?_
  unfold JQ at h
  refine Tr<|R2 ZX Y<|Za<|Zr<|If h Y (fun h=>?_) fun h=>?_
  ·
   refine Zn<|Zr<|Zk<|K5 0 3 7 8 9 Y<|Tr<|Rm Y<|bE h fun x h_x h=>Rq Y (ZS (ov Y) (ov Y) QI h_x)<|Rq Y (ZF (ov Y) ZbL (Zm<|Ze ln0) ln0)<|Rx Y (ZO (row := (.int .i64 0) :: ((List.map C47 (Vector.replicate 64 0).toList) ++ ([]))) 1 Y Zgg (by kernel_rfl)<|by exact Eq.symm (Eq.trans (b := 65) ln0 tZ_158.symm))<|Ra Y<|Rx Y (Zf (ov Y) (ov Y) (Zp ZbL ln0) Y Y Y (Zt (Ze ln0) ln0) (Zb al6)<|ZC<|Eq.trans ln0<|Eq.symm ln0)<|Za<|K7 0 3 4 5 7 8 9 Y<|Td md0<|D1 0 Zc Y<|D2 1 QD Y<|D1 2 Zc Y<|Dq 3 Y (.guarded ((decide (i = 0)) == false) Y Y Y Y fun h => Zc<|ov Y)<|Dq 4 Y (.guarded ((decide (i = 0)) == false) Y Y Y Y fun h => Zc<|ov Y)<|Dq 5 Y (.guarded ((decide (i = 0)) == false) Y Y Y Y fun h => ZcY (ow Y h) (ov Y) Y)<|bE h fun x2 h_x2 h=>Dq 6 Y (.guarded ((decide (i = 0)) == false) Y Y Y Y fun h => ZS (ow Y h) (ow Y h) QI<|gdT h_x2 h)<|Dq 7 Y (.guarded ((decide (i = 0)) == false) Y Y Y Y fun h => ZB (ow Y h) Qc)<|Dq 8 Y (.guarded ((decide (i = 0)) == false) Y Y Y Y fun h => Zh (ow Y h) tS3<|Zj at2)<|Dq 9 Y (.guarded ((decide (i = 0)) == false) Y Y Y Y fun h => Zd (ov Y) Y Y Qc)<|Dq 10 Y (.guarded ((decide (i = 0)) == false) Y Y Y Y fun h => Zi (ow Y h) Y Y Y tS3<|Zj at2)<|bE h fun y h_y h=>Dq 11 Y (.guarded ((decide (i = 0)) == false) Y Y Y Y fun h => Zq (Zab<|gdT h_y h)<|.cons (ow Y h) (.b Y)<|.cons (ow Y h) (.b Y) .nil)<|Dq 12 Y (.guarded ((decide (i = 0)) == false) Y Y Y Y fun h => ZdJ (ow Y h)<|ov Y)<|Dq 13 Y (Zaj (ov Y) fun hp=>ow Y<|gF hp)<|D1 14 Zc Y<|Dq 15 Y (.guarded (((decide (i = 0)) || (decide (192 ≤ y))) == true) Y Y Y Y fun h => Zc<|ov Y)<|Dq 16 Y (.guarded (((decide (i = 0)) || (decide (192 ≤ y))) == true) Y Y Y Y fun h => Zli (ow Y h) (ov Y) Y)<|Dq 17 Y (.guarded (((decide (i = 0)) || (decide (192 ≤ y))) == true) Y Y Y Y fun h => Zc<|ov Y)<|Dq 18 Y (.guarded (((decide (i = 0)) || (decide (192 ≤ y))) == true) Y Y Y Y fun h => Zfo (ZG (ow Y h) tZ_158) QI<|Zc7 _ _)<|Dq 19 Y (.guarded (((decide (i = 0)) || (decide (192 ≤ y))) == true) Y Y Y Y fun h => QD (ow Y h)<|ow Y h)<|Dq 20 Y (.guarded (((decide (i = 0)) || (decide (192 ≤ y))) == true) Y Y Y Y fun h => Zc<|ow Y h)<|Dq 21 Y (.guarded2 ((((decide (i = 0)) || (decide (192 ≤ y))) == true) && ((decide ((i64 (i + 1)) = (l.length : Int))) == false)) Y Y Y Y fun h => Zc<|ov Y)<|Dq 22 Y (.guarded2 ((((decide (i = 0)) || (decide (192 ≤ y))) == true) && ((decide ((i64 (i + 1)) = (l.length : Int))) == false)) Y Y Y Y fun h => Zc<|ov Y)<|Dq 23 Y (.guarded2 ((((decide (i = 0)) || (decide (192 ≤ y))) == true) && ((decide ((i64 (i + 1)) = (l.length : Int))) == false)) Y Y Y Y fun h => Zli (ow Y h) (ov Y) Y)<|bE h fun x3 h_x3 h=>Dq 24 Y (.guarded2 ((((decide (i = 0)) || (decide (192 ≤ y))) == true) && ((decide ((i64 (i + 1)) = (l.length : Int))) == false)) Y Y Y Y fun h => ZS (ow Y h) (ow Y h) QI<|gdT h_x3 h)<|Dq 25 Y (.guarded2 ((((decide (i = 0)) || (decide (192 ≤ y))) == true) && ((decide ((i64 (i + 1)) = (l.length : Int))) == false)) Y Y Y Y fun h => ZB (ow Y h) Qc)<|Dq 26 Y (.guarded2 ((((decide (i = 0)) || (decide (192 ≤ y))) == true) && ((decide ((i64 (i + 1)) = (l.length : Int))) == false)) Y Y Y Y fun h => Zh (ow Y h) tS3<|Zj at2)<|Dq 27 Y (.guarded2 ((((decide (i = 0)) || (decide (192 ≤ y))) == true) && ((decide ((i64 (i + 1)) = (l.length : Int))) == false)) Y Y Y Y fun h => Zd (ov Y) Y Y Qc)<|Dq 28 Y (.guarded2 ((((decide (i = 0)) || (decide (192 ≤ y))) == true) && ((decide ((i64 (i + 1)) = (l.length : Int))) == false)) Y Y Y Y fun h => Zi (ow Y h) Y Y Y tS3<|Zj at2)<|bE h fun y2 h_y2 h=>Dq 29 Y (.guarded2 ((((decide (i = 0)) || (decide (192 ≤ y))) == true) && ((decide ((i64 (i + 1)) = (l.length : Int))) == false)) Y Y Y Y fun h => Zq (Zab<|gdT h_y2 h)<|.cons (ow Y h) (.b Y)<|.cons (ow Y h) (.b Y) .nil)<|Dq 30 Y (.guarded2 ((((decide (i = 0)) || (decide (192 ≤ y))) == true) && ((decide ((i64 (i + 1)) = (l.length : Int))) == false)) Y Y Y Y fun h => ZdJ (ow Y h)<|ov Y)<|Dq 31 Y (.guarded (((decide (i = 0)) || (decide (192 ≤ y))) == true) Y Y Y Y fun h => Zaj (ow Y h) fun hp=>ow Y<|gA h<|gF hp)<|Dq 32 Y (QU (ov Y) fun hp=>ow Y<|gT hp)<|D1 33 QG Y<|Dd<|K7 0 3 5 6 7 8 9 Y<|Tr<|Rm Y<|Za<|K7 0 3 5 7 8 9 47 Y<|If h Y (fun h=>?_) fun h=>?_
   ·
    exact K6 0 3 5 7 8 9 Y<|Zu<|Rm Y<|Rq Y (Zy (ov Y) Y Y Y ZbL (Zm<|Ze ln0) ln0 (hns := ns7))<|R_q (.sl 158<|List.map R158 ([x] : List api_Found)) Y (Xv QI (.cons (cva<|ov Y) ln0 (pwD al1) .nil) Y Y)<|bE h fun l2 h_l2 h=>Rx Y (Zv (ov Y) (ZG (ov Y) tZ_158) QI Y Y Y (fun x=>Zb<|Zqe x) Y h_l2)<|Ra Y<|Za<|K5 0 3 7 8 9 Y<|Zu<|R2 ZZ Y<|Rm Y<|Za<|⟨_, h, ES [some 0]⟩
   ·
    exact Zn<|K5 0 3 7 8 9 Y<|Zu<|R2 ZZ Y<|Rm Y<|Za<|⟨_, h, ES [some 0]⟩
  ·
   refine ZL<|?_
   replace h := lx h ▸ ho1
   exact ⟨_, h, ES [some 0]⟩
 ·
  refine Tr<|Rm Y<|Ra Y<|Za<|?_
  obtain rfl := rt h
  exact Zz (ZP Y (.one<|.tmp Y<|View.ownM Y Y D158))
theorem Ze0 {w : Int} {r : Bool} (h : Zac w = some r) :
 CSpec Tryz.prog gl0 164 [.int .u16 w] (.bool r) := by
 unfold Zac at h
 replace h := Qj h
 refine So Tryz.func164 Y fun w0 A=>Tr<|Ra Y<|Za<|Tr<|Rm Y<|R2 ZgE Y<|Rm Y<|Rq Y (.guarded ((decide (w ≤ 4095)) == true) Y Y Y Y fun h => Zc<|ov Y)<|Rq Y (.guarded ((decide (w ≤ 4095)) == true) Y Y Y Y fun h => Qi (ow Y h) JV tI3 Y)<|bE h fun y h_y h=>Rq Y (.guarded ((decide (w ≤ 4095)) == true) Y Y Y Y fun h => Zq (Zgv<|gdT h_y h)<|.cons (ow Y h) (.b Y) .nil)<|Rq Y (QU (ov Y) fun hp=>ow Y<|gT hp)<|Ra Y<|Za<|?_
 obtain rfl := rt h
 exact Zz (ZP Y (.one<|rb Y))
theorem Zgh {f : Vector Int 64} {r : Int × Bool} (h : Zcw f = some r) :
 CSpec Tryz.prog gl0 162 [.agg (List.map C47 f.toList)] (.tuple [.int .i64 r.1, .bool r.2]) := by
 unfold Zcw at h
 replace h := Qj h
 refine So Tryz.func162 Y fun w0 A=>Tr<|Rq Y (QK (cva<|ov Y) arL tZ_49<|arD fun _ => Y)<|Ra Y<|Ra Y<|Za<|Zr<|K1 1 Y<|Tr<|bE h fun x h_x h=>Rq Y (QA (ov Y) (ov Y) QL h_x)<|Rq Y (Zh (ov Y) QR<|Zj<|Z1 (o := 0) (o' := ((Int.toNat 1) * 1)) (Ze arL)<|ZN h_x)<|bE h fun y h_y h=>Rq Y (Zq (Ze0 h_y)<|.cons (ov Y) (.b Y) .nil)<|R1 Jn Y<|Rm Y<|bE h fun x2 h_x2 h=>Rq Y (.guarded ((!y) == false) Y Y Y Y fun h => QA (ov Y) (ov Y) QL<|gdT h_x2 h)<|Rq Y (.guarded ((!y) == false) Y Y Y Y fun h => Zh (ow Y h) QR<|Zj<|Z1 (o := 0) (o' := ((Int.toNat 2) * 1)) (Ze arL)<|ZN<|gdT h_x2 h)<|bE h fun y2 h_y2 h=>Rq Y (.guarded ((!y) == false) Y Y Y Y fun h => Zq (Ze0<|gdT h_y2 h)<|.cons (ow Y h) (.b Y) .nil)<|Rq Y (.guarded ((!y) == false) Y Y Y Y fun h => Jn<|ow Y h)<|Rq Y (Zaj (ov Y) fun hp=>ow Y<|gF hp)<|Za<|K2 1 13 Y<|If h Y (fun h=>?_) fun h=>?_
 ·
  refine K0<|Tr<|Ra Y<|Ra Y<|Za<|?_
  obtain rfl := rt h
  exact Zz (ZP Y (.two (rb Y)<|rb Y))
 ·
  refine Zn<|K1 1 Y<|Tr<|Rq Y (ZF (ov Y) Z3 (Zm<|Ze arL) arL)<|bE h fun y3 h_y3 h=>Rq Y (Zq (ZbE h_y3)<|.cons (ov Y) (.aggB<|arD fun _ => Y) .nil)<|Ra Y<|Ra Y<|Za<|?_
  obtain rfl := rt h
  exact Zz (ZP Y (.two (rb Y)<|rb Y))
theorem Zaq {f : Vector Int 64} {r : Int} (h : X2 f = some r) :
 CSpec Tryz.prog gl0 115 [.agg (List.map C47 f.toList)] (.int .i64 r) := by
 unfold X2 at h
 replace h := Qj h
 refine So Tryz.func115 Y fun w0 A=>Tr<|Rq Y (QK (cva<|ov Y) arL tZ_49<|arD fun _ => Y)<|Ra Y<|Za<|K1 1 Y<|Tr<|Rq Y (ZF (ov Y) Z3 (Zm<|Ze arL) arL)<|bE h fun y h_y h=>Rq Y (Zq (Zgh h_y)<|.cons (ov Y) (.aggB<|arD fun _ => Y) .nil)<|Rm Y<|Rq Y (Zo (ov Y) Y)<|Rq Y (Zo (ov Y) Y)<|Ra Y<|Ra Y<|Za<|K1 3 Y<|Tr<|Rm Y<|Ra Y<|Za<|?_
 obtain rfl := rt h
 exact Zz (ZP Y (.one<|rb Y))
theorem ZfS {l : List api_Found} {at_ : Int} {r : Int} (h : ZbG l at_ = some r) :
 CSpec Tryz.prog gl0 116 [.sl 158 (List.map R158 l), .int .i64 at_] (.int .i64 r) := by
 unfold ZbG at h
 replace h := Qj h
 refine So Tryz.func116 Y fun w0 A=>Tr<|Ra Y<|Za<|K2 0 1 Y<|Tr<|Ra Y<|Za<|I1 (fun best=>⟨[(5, .int .i64 best)], []⟩) h (fun h=>?_) fun best h=>?_
 ·
  refine Tr<|Rm Y<|Rl tZ_158 QI Y<|Rm Y<|Za<|Zk<|?_
  obtain ⟨r1, hl1, ho1⟩ := QP h
  refine L2 (fun best2 i=>⟨[(0, .sl 158 (List.map R158 l)), (1, .int .i64 at_), (5, .int .i64 best2), (8, .sl 158 (List.map R158 l)), (9, .int .i64 (l.length : Int)), (10, .int .i64 i)], []⟩) hl1 (ES []) fun n1 best2 i h=>?_
  unfold ZaS at h
  refine Tr<|R2 ZX Y<|Za<|Zr<|If h Y (fun h=>?_) fun h=>?_
  ·
   refine Zn<|Zr<|Zk<|K6 0 1 5 8 9 10 Y<|Tr<|Rm Y<|bE h fun x h_x h=>Rq Y (ZS (ov Y) (ov Y) QI h_x)<|Rq Y (ZF (ov Y) ZbL (Zm<|Ze ln0) ln0)<|Rx Y (ZO (row := (.int .i64 0) :: ((List.map C47 (Vector.replicate 64 0).toList) ++ ([]))) 0 Y Zgg (by kernel_rfl)<|by exact Eq.symm (Eq.trans (b := 65) ln0 tZ_158.symm))<|Ra Y<|Rx Y (Zf (ov Y) (ov Y) (Zp ZbL ln0) Y Y Y (Zt (Ze ln0) ln0) (Zb al6)<|ZC<|Eq.trans ln0<|Eq.symm ln0)<|Za<|K8 0 1 5 6 7 8 9 10 Y<|Td md0<|D1 0 Zc Y<|D2 1 ZX Y<|D1 2 Zc Y<|Dq 3 Y (.guarded ((decide (best2 < 0)) == false) Y Y Y Y fun h => Zd (ov Y) Y Y Qc)<|Dq 4 Y (.guarded ((decide (best2 < 0)) == false) Y Y Y Y fun h => Zi (ow Y h) Y Y Y tS3<|Zj at2)<|Dq 5 Y (.guarded ((decide (best2 < 0)) == false) Y Y Y Y fun h => Zc<|ov Y)<|bE h fun y h_y h=>Dq 6 Y (.guarded ((decide (best2 < 0)) == false) Y Y Y Y fun h => Zq (Zab<|gdT h_y h)<|.cons (ow Y h) (.b Y)<|.cons (ow Y h) (.b Y) .nil)<|Dq 7 Y (.guarded ((decide (best2 < 0)) == false) Y Y Y Y fun h => Zc<|ov Y)<|Dq 8 Y (.guarded ((decide (best2 < 0)) == false) Y Y Y Y fun h => Zc<|ov Y)<|bE h fun x2 h_x2 h=>Dq 9 Y (.guarded ((decide (best2 < 0)) == false) Y Y Y Y fun h => ZS (ow Y h) (ow Y h) QI<|gdT h_x2 h)<|Dq 10 Y (.guarded ((decide (best2 < 0)) == false) Y Y Y Y fun h => ZB (ow Y h) Qc)<|Dq 11 Y (.guarded ((decide (best2 < 0)) == false) Y Y Y Y fun h => Zh (ow Y h) tS3<|Zj at2)<|Dq 12 Y (.guarded ((decide (best2 < 0)) == false) Y Y Y Y fun h => Zc<|ov Y)<|bE h fun y2 h_y2 h=>Dq 13 Y (.guarded ((decide (best2 < 0)) == false) Y Y Y Y fun h => Zq (Zab<|gdT h_y2 h)<|.cons (ow Y h) (.b Y)<|.cons (ow Y h) (.b Y) .nil)<|Dq 14 Y (.guarded ((decide (best2 < 0)) == false) Y Y Y Y fun h => ZX (ow Y h)<|ow Y h)<|Dq 15 Y (Zaj (ov Y) fun hp=>ow Y<|gF hp)<|Dd<|K8 0 1 5 6 8 9 10 30 Y<|If h Y (fun h=>?_) fun h=>?_
   ·
    exact K7 0 1 5 6 8 9 10 Y<|Zu<|Rm Y<|Ra Y<|Za<|K6 0 1 5 8 9 10 Y<|Zu<|R2 ZZ Y<|Rm Y<|Za<|⟨_, h, ES []⟩
   ·
    exact Zn<|K6 0 1 5 8 9 10 Y<|Zu<|R2 ZZ Y<|Rm Y<|Za<|⟨_, h, ES []⟩
  ·
   refine ZL<|?_
   replace h := lx h ▸ ho1
   exact ⟨_, h, ES []⟩
 ·
  refine Tr<|Rm Y<|Ra Y<|Za<|?_
  obtain rfl := rt h
  exact Zz (ZP Y (.one<|rb Y))
theorem Zh6 {number : Int} {r : Int × Int} (h : Zcv number = some r) :
 CSpec Tryz.prog gl0 163 [.int .i64 number] (.tuple [.int .i64 r.1, .int .i64 r.2]) := by
 unfold Zcv at h
 replace h := Qj h
 refine So Tryz.func163 Y fun w0 A=>Tr<|Ra Y<|Ra Y<|Za<|Zr<|K1 0 Y<|Tr<|Rm Y<|R2 ZX Y<|Rm Y<|Rq Y (.guarded ((decide (number < 0)) == false) Y Y Y Y fun h => Zc<|ov Y)<|Rq Y (.guarded ((decide (number < 0)) == false) Y Y Y Y fun h => ZdJ (ow Y h)<|ov Y)<|Rq Y (Zaj (ov Y) fun hp=>ow Y<|gF hp)<|Za<|K2 0 9 Y<|If h Y (fun h=>?_) fun h=>?_
 ·
  refine K0<|Tr<|Ra Y<|Ra Y<|Za<|?_
  obtain rfl := rt h
  exact Zz (ZP Y (.two (rb Y)<|rb Y))
 ·
  refine Zn<|K1 0 Y<|Tr<|Rm Y<|bE h fun y h_y h=>Rq Y (Zq (ZcB h_y)<|.cons (ov Y) (.b Y) .nil)<|Ra Y<|Ra Y<|Za<|?_
  obtain rfl := rt h
  exact Zz (ZP Y (.two (rb Y)<|rb Y))
theorem ZiH {f : Vector Int 64} {whole : Vector Bool 64} {r : Int × Bool} (h : Zan f whole = some r) :
 CSpec Tryz.prog gl0 119 [.agg (List.map C47 f.toList), .agg (List.map C4 whole.toList)] (.tuple [.int .i64 r.1, .bool r.2]) := by
 unfold Zan at h
 replace h := Qj h
 refine So Tryz.func119 Y fun w0 A=>Tr<|Rq Y (QK (cva<|ov Y) arL tZ_49<|arD fun _ => Y)<|Rq Y (QK (cva<|ov Y) arL tZ_171<|arD fun _ => Y)<|Ra Y<|Ra Y<|Za<|Zr<|K2 2 3 Y<|Tr<|bE h fun x h_x h=>Rq Y (QA (ov Y) (ov Y) ZfI h_x)<|Rq Y (Zh (ov Y) tS4<|Zj<|Z1 (o := 0) (o' := ((Int.toNat 0) * 1)) (Ze arL)<|ZN h_x)<|R1 Jn Y<|Rm Y<|bE h fun x2 h_x2 h=>Rq Y (.guarded ((!x) == false) Y Y Y Y fun h => QA (ov Y) (ov Y) ZfI<|gdT h_x2 h)<|Rq Y (.guarded ((!x) == false) Y Y Y Y fun h => Zh (ow Y h) tS4<|Zj<|Z1 (o := 0) (o' := ((Int.toNat 1) * 1)) (Ze arL)<|ZN<|gdT h_x2 h)<|Rq Y (.guarded ((!x) == false) Y Y Y Y fun h => Jn<|ow Y h)<|Rq Y (Zaj (ov Y) fun hp=>ow Y<|gF hp)<|Rm Y<|bE h fun x3 h_x3 h=>Rq Y (.guarded (((!x) || (!x2)) == false) Y Y Y Y fun h => QA (ov Y) (ov Y) ZfI<|gdT h_x3 h)<|Rq Y (.guarded (((!x) || (!x2)) == false) Y Y Y Y fun h => Zh (ow Y h) tS4<|Zj<|Z1 (o := 0) (o' := ((Int.toNat 2) * 1)) (Ze arL)<|ZN<|gdT h_x3 h)<|Rq Y (.guarded (((!x) || (!x2)) == false) Y Y Y Y fun h => Jn<|ow Y h)<|Rq Y (Zaj (ov Y) fun hp=>ow Y<|gF hp)<|Za<|K2 2 22 Y<|If h Y (fun h=>?_) fun h=>?_
 ·
  refine K0<|Tr<|Ra Y<|Ra Y<|Za<|?_
  obtain rfl := rt h
  exact Zz (ZP Y (.two (rb Y)<|rb Y))
 ·
  refine Zn<|K1 2 Y<|Tr<|Rq Y (ZF (ov Y) Z3 (Zm<|Ze arL) arL)<|bE h fun y h_y h=>Rq Y (Zq (Zgh h_y)<|.cons (ov Y) (.aggB<|arD fun _ => Y) .nil)<|Rm Y<|Rq Y (Zo (ov Y) Y)<|Rq Y (Zo (ov Y) Y)<|Ra Y<|Ra Y<|Za<|Zr<|K3 2 6 7 Y<|Tr<|Rm Y<|R1 Jn Y<|Za<|K3 2 6 29 Y<|If h Y (fun h=>?_) fun h=>?_
  ·
   refine K0<|Tr<|Ra Y<|Ra Y<|Za<|?_
   obtain rfl := rt h
   exact Zz (ZP Y (.two (rb Y)<|rb Y))
  ·
   refine Zn<|K2 2 6 Y<|Tr<|Rm Y<|bE h fun y2 h_y2 h=>Rq Y (Zq (Zh6 h_y2)<|.cons (ov Y) (.b Y) .nil)<|Rm Y<|Rq Y (Zo (ov Y) Y)<|Rq Y (Zo (ov Y) Y)<|Ra Y<|Ra Y<|Za<|K3 2 6 8 Y<|Td md0<|D1 0 Zc Y<|bE h fun x4 h_x4 h=>Dq 1 Y (QA (ov Y) (ov Y) QL h_x4)<|Dq 2 Y (Zh (ov Y) QR<|Zj<|Z1 (o := 0) (o' := ((Int.toNat 0) * 1)) (Ze arL)<|ZN h_x4)<|Dq 3 Y (Qi (ov Y) JV tI3 Y)<|D1 4 Zc Y<|D2 5 QD Y<|D1 6 QG Y<|D1 7 QG Y<|Dd<|?_
   obtain rfl := rt h
   exact Zz (ZP Y (.two (rb Y)<|rb Y))
theorem Zhb {l : List api_Found} {c_ : Int} {at_ : Int} {r : Int × Bool} (h : Jp l c_ at_ = some r) :
 CSpec Tryz.prog gl0 120 [.sl 158 (List.map R158 l), .int .i64 c_, .int .i64 at_] (.tuple [.int .i64 r.1, .bool r.2]) := by
 unfold Jp at h
 replace h := Qj h
 refine So Tryz.func120 Y fun w0 A=>Tr<|Ra Y<|Ra Y<|Za<|K3 0 1 2 Y<|Tr<|Ra Y<|Za<|I1 (fun best=>⟨[(0, .sl 158 (List.map R158 l)), (1, .int .i64 c_), (2, .int .i64 at_), (8, .int .i64 best)], []⟩) h (fun h=>?_) fun best h=>?_
 ·
  refine Tr<|Rm Y<|Rl tZ_158 QI Y<|Rm Y<|Za<|Zk<|?_
  obtain ⟨r1, hl1, ho1⟩ := QP h
  refine L2 (fun best2 i=>⟨[(0, .sl 158 (List.map R158 l)), (1, .int .i64 c_), (2, .int .i64 at_), (8, .int .i64 best2), (15, .sl 158 (List.map R158 l)), (16, .int .i64 (l.length : Int)), (17, .int .i64 i)], []⟩) hl1 (ES []) fun n1 best2 i h=>?_
  unfold XL at h
  refine Tr<|R2 ZX Y<|Za<|Zr<|If h Y (fun h=>?_) fun h=>?_
  ·
   refine Zn<|Zr<|Zk<|K7 0 1 2 8 15 16 17 Y<|Tr<|Rm Y<|bE h fun x h_x h=>Rq Y (ZS (ov Y) (ov Y) QI h_x)<|Rq Y (ZF (ov Y) ZbL (Zm<|Ze ln0) ln0)<|Rx Y (ZO (row := (.int .i64 0) :: ((List.map C47 (Vector.replicate 64 0).toList) ++ ([]))) 0 Y Zgg (by kernel_rfl)<|by exact Eq.symm (Eq.trans (b := 65) ln0 tZ_158.symm))<|Ra Y<|Rx Y (Zf (ov Y) (ov Y) (Zp ZbL ln0) Y Y Y (Zt (Ze ln0) ln0) (Zb al6)<|ZC<|Eq.trans ln0<|Eq.symm ln0)<|Za<|Zr<|K9 0 1 2 8 9 10 15 16 17 Y<|Td md0<|D1 0 Zc Y<|D1 1 Zc Y<|D2 2 QD Y<|D1 3 Zc Y<|Dq 4 Y (.guarded ((decide (i = c_)) == false) Y Y Y Y fun h => Zd (ov Y) Y Y Qc)<|Dq 5 Y (.guarded ((decide (i = c_)) == false) Y Y Y Y fun h => Zi (ow Y h) Y Y Y tS3<|Zj at2)<|Dq 6 Y (.guarded ((decide (i = c_)) == false) Y Y Y Y fun h => Zc<|ov Y)<|Dq 7 Y (.guarded ((decide (i = c_)) == false) Y Y Y Y fun h => Zc<|ov Y)<|bE h fun x2 h_x2 h=>Dq 8 Y (.guarded ((decide (i = c_)) == false) Y Y Y Y fun h => ZS (ow Y h) (ow Y h) QI<|gdT h_x2 h)<|Dq 9 Y (.guarded ((decide (i = c_)) == false) Y Y Y Y fun h => ZB (ow Y h) Qc)<|Dq 10 Y (.guarded ((decide (i = c_)) == false) Y Y Y Y fun h => Zh (ow Y h) tS3<|Zj at2)<|Dq 11 Y (.guarded ((decide (i = c_)) == false) Y Y Y Y fun h => ZcY (ow Y h) (ow Y h) Y)<|bE h fun q h_q h=>Dq 12 Y (.guarded ((decide (i = c_)) == false) Y Y Y Y fun h => XA (ow Y h) (ov Y)<|gdT h_q h)<|Dq 13 Y (.guarded ((decide (i = c_)) == false) Y Y Y Y fun h => Jl (ow Y h)<|ov Y)<|Dq 14 Y (Zaj (ov Y) fun hp=>ow Y<|gF hp)<|Dd<|K10 0 1 2 8 9 10 15 16 17 36 Y<|If h Y (fun h=>?_) fun h=>?_
   ·
    exact ZL<|K7 0 1 2 8 15 16 17 Y<|Zu<|R2 ZZ Y<|Rm Y<|Za<|⟨_, h, ES []⟩
   ·
    refine Zn<|K9 0 1 2 8 9 10 15 16 17 Y<|Td md0<|D1 0 Zc Y<|D2 1 ZX Y<|D1 2 Zc Y<|Dq 3 Y (.guarded ((decide (best2 < 0)) == false) Y Y Y Y fun h => Zd (ov Y) Y Y Qc)<|Dq 4 Y (.guarded ((decide (best2 < 0)) == false) Y Y Y Y fun h => Zi (ow Y h) Y Y Y tS3<|Zj at2)<|Dq 5 Y (.guarded ((decide (best2 < 0)) == false) Y Y Y Y fun h => Zc<|ov Y)<|bE h fun y h_y h=>Dq 6 Y (.guarded ((decide (best2 < 0)) == false) Y Y Y Y fun h => Zq (Zab<|gdT h_y h)<|.cons (ow Y h) (.b Y)<|.cons (ow Y h) (.b Y) .nil)<|Dq 7 Y (.guarded ((decide (best2 < 0)) == false) Y Y Y Y fun h => Zc<|ov Y)<|Dq 8 Y (.guarded ((decide (best2 < 0)) == false) Y Y Y Y fun h => Zc<|ov Y)<|bE h fun x3 h_x3 h=>Dq 9 Y (.guarded ((decide (best2 < 0)) == false) Y Y Y Y fun h => ZS (ow Y h) (ow Y h) QI<|gdT h_x3 h)<|Dq 10 Y (.guarded ((decide (best2 < 0)) == false) Y Y Y Y fun h => ZB (ow Y h) Qc)<|Dq 11 Y (.guarded ((decide (best2 < 0)) == false) Y Y Y Y fun h => Zh (ow Y h) tS3<|Zj at2)<|Dq 12 Y (.guarded ((decide (best2 < 0)) == false) Y Y Y Y fun h => Zc<|ov Y)<|bE h fun y2 h_y2 h=>Dq 13 Y (.guarded ((decide (best2 < 0)) == false) Y Y Y Y fun h => Zq (Zab<|gdT h_y2 h)<|.cons (ow Y h) (.b Y)<|.cons (ow Y h) (.b Y) .nil)<|Dq 14 Y (.guarded ((decide (best2 < 0)) == false) Y Y Y Y fun h => ZX (ow Y h)<|ow Y h)<|Dq 15 Y (Zaj (ov Y) fun hp=>ow Y<|gF hp)<|Dd<|K9 0 1 2 8 9 15 16 17 52 Y<|If h Y (fun h=>?_) fun h=>?_
    ·
     exact K8 0 1 2 8 9 15 16 17 Y<|Zu<|Rm Y<|Ra Y<|Za<|K7 0 1 2 8 15 16 17 Y<|Zu<|R2 ZZ Y<|Rm Y<|Za<|⟨_, h, ES []⟩
    ·
     exact Zn<|K7 0 1 2 8 15 16 17 Y<|Zu<|R2 ZZ Y<|Rm Y<|Za<|⟨_, h, ES []⟩
  ·
   refine ZL<|?_
   replace h := lx h ▸ ho1
   exact ⟨_, h, ES []⟩
 ·
  refine Zr<|Tr<|Rm Y<|R2 ZX Y<|Za<|K5 0 1 2 8 56 Y<|If h Y (fun h=>?_) fun h=>?_
  ·
   refine K0<|Tr<|Ra Y<|Ra Y<|Za<|?_
   obtain rfl := rt h
   exact Zz (ZP Y (.two (rb Y)<|rb Y))
  ·
   refine Zn<|K4 0 1 2 8 Y<|Td md0<|D1 0 Zc Y<|D1 1 Zc Y<|D1 2 Zc Y<|bE h fun x4 h_x4 h=>Dq 3 Y (ZS (ov Y) (ov Y) QI h_x4)<|Dq 4 Y (ZB (ov Y) Qc)<|Dq 5 Y (Zh (ov Y) tS3<|Zj at2)<|D2 6 ZdH Y<|bE h fun q2 h_q2 h=>Dq 7 Y (Zbe (ov Y) (ov Y) h_q2)<|D1 8 Zc Y<|D1 9 Zc Y<|bE h fun x5 h_x5 h=>Dq 10 Y (ZS (ov Y) (ov Y) QI h_x5)<|Dq 11 Y (ZB (ov Y) Qc)<|Dq 12 Y (Zh (ov Y) tS3<|Zj at2)<|D1 13 Zc Y<|D1 14 Zc Y<|bE h fun x6 h_x6 h=>Dq 15 Y (ZS (ov Y) (ov Y) QI h_x6)<|Dq 16 Y (ZB (ov Y) Qc)<|Dq 17 Y (Zh (ov Y) tS3<|Zj at2)<|D2 18 ZdH Y<|bE h fun q3 h_q3 h=>Dq 19 Y (Zbe (ov Y) (ov Y) h_q3)<|D1 20 QG Y<|D1 21 QG Y<|Dd<|K5 0 1 8 11 12 Y<|Td md0<|D1 0 Zc Y<|D1 1 Zc Y<|bE h fun x7 h_x7 h=>Dq 2 Y (ZS (ov Y) (ov Y) QI h_x7)<|Dq 3 Y (ZB (ov Y) Zfx)<|Dq 4 Y (ZF (ov Y) Z3 (Zm at4) arL)<|bE h fun y3 h_y3 h=>Dq 5 Y (Zq (Zaq h_y3)<|.cons (ov Y) (.aggB<|arD fun _ => Y) .nil)<|D1 6 Zc Y<|D1 7 Zc Y<|bE h fun x8 h_x8 h=>Dq 8 Y (ZS (ov Y) (ov Y) QI h_x8)<|Dq 9 Y (ZB (ov Y) Zfx)<|Dq 10 Y (ZF (ov Y) Z3 (Zm at4) arL)<|bE h fun y4 h_y4 h=>Dq 11 Y (Zq (Zaq h_y4)<|.cons (ov Y) (.aggB<|arD fun _ => Y) .nil)<|D1 12 Zc Y<|D1 13 Zc Y<|bE h fun x9 h_x9 h=>Dq 14 Y (ZS (ov Y) (ov Y) QI h_x9)<|Dq 15 Y (ZB (ov Y) Zfx)<|Dq 16 Y (ZF (ov Y) Z3 (Zm at4) arL)<|bE h fun y5 h_y5 h=>Dq 17 Y (Zq (Zaq h_y5)<|.cons (ov Y) (.aggB<|arD fun _ => Y) .nil)<|D2 18 ZdH Y<|D1 19 QG Y<|D1 20 QG Y<|Dd<|Zr<|K4 11 12 13 14 Y<|Tr<|Rm Y<|R2 QD Y<|Rm Y<|Rq Y (.guarded ((decide ((i64 (y4 - y5)) = 0)) == false) Y Y Y Y fun h => Zc<|ov Y)<|Rq Y (.guarded ((decide ((i64 (y4 - y5)) = 0)) == false) Y Y Y Y fun h => JW (ow Y h)<|ov Y)<|Rq Y (.guarded ((decide ((i64 (y4 - y5)) = 0)) == false) Y Y Y Y fun h => Zc<|ov Y)<|Rq Y (.guarded ((decide ((i64 (y4 - y5)) = 0)) == false) Y Y Y Y fun h => JW (ow Y h)<|ov Y)<|Rq Y (.guarded ((decide ((i64 (y4 - y5)) = 0)) == false) Y Y Y Y fun h => Zms .neq (by simp) (ow Y h) (ow Y h) tB4)<|Rq Y (Zaj (ov Y) fun hp=>ow Y<|gF hp)<|Rm Y<|Rq Y (.guarded (((decide ((i64 (y4 - y5)) = 0)) || (!((decide (0 < (i64 (y4 - y5)))) == (decide (0 < q3))))) == false) Y Y Y Y fun h => Zc<|ov Y)<|Rq Y (.guarded (((decide ((i64 (y4 - y5)) = 0)) || (!((decide (0 < (i64 (y4 - y5)))) == (decide (0 < q3))))) == false) Y Y Y Y fun h => Zc<|ov Y)<|bE h fun q4 h_q4 h=>Rq Y (.guarded (((decide ((i64 (y4 - y5)) = 0)) || (!((decide (0 < (i64 (y4 - y5)))) == (decide (0 < q3))))) == false) Y Y Y Y fun h => XA (ow Y h) (ow Y h)<|gdT h_q4 h)<|Rq Y (.guarded (((decide ((i64 (y4 - y5)) = 0)) || (!((decide (0 < (i64 (y4 - y5)))) == (decide (0 < q3))))) == false) Y Y Y Y fun h => Jl (ow Y h)<|ov Y)<|Rq Y (Zaj (ov Y) fun hp=>ow Y<|gF hp)<|Za<|K5 11 12 13 14 110 Y<|If h Y (fun h=>?_) fun h=>?_
   ·
    refine K0<|Tr<|Ra Y<|Ra Y<|Za<|?_
    obtain rfl := rt h
    exact Zz (ZP Y (.two (rb Y)<|rb Y))
   ·
    refine Zn<|K4 11 12 13 14 Y<|Tr<|Rm Y<|Rm Y<|Rm Y<|Rm Y<|bE h fun q5 h_q5 h=>Rq Y (Zbe (ov Y) (ov Y) h_q5)<|R2 Zfn Y<|R2 ZZ Y<|Ra Y<|Za<|K1 13 Y<|Tr<|Rm Y<|Rm Y<|R2 ZdJ Y<|Rm Y<|Rq Y (.guarded ((decide (0 ≤ (i64 (y3 + (i64 (q2 * q5)))))) == true) Y Y Y Y fun h => Zc<|ov Y)<|Rq Y (.guarded ((decide (0 ≤ (i64 (y3 + (i64 (q2 * q5)))))) == true) Y Y Y Y fun h => ZX (ow Y h)<|ov Y)<|Rq Y (QU (ov Y) fun hp=>ow Y<|gT hp)<|Ra Y<|Ra Y<|Za<|?_
    obtain rfl := rt h
    exact Zz (ZP Y (.two (rb Y)<|rb Y))
theorem Zkt {f : Vector Int 64} {whole : Vector Bool 64} {n : Int} {r : api_Rest} (h : ZaG f whole n = some r) :
 CSpec Tryz.prog gl0 121 [.agg (List.map C47 f.toList), .agg (List.map C4 whole.toList), .int .i64 n] (.agg ((.int .i64 r.Number) :: ((List.map C47 r.Frame.toList) ++ (((List.map C3 r.States.toList) ++ ((.bool r.Sound) :: (.int .i64 r.Copies) :: (.bool r.Conflict) :: [])))))) := by
 unfold ZaG at h
 replace h := Qj h
 refine So Tryz.func121 Y fun w0 A=>Tr<|Rq Y (QK (cva<|ov Y) arL tZ_49<|arD fun _ => Y)<|Rq Y (QK (cva<|ov Y) arL tZ_171<|arD fun _ => Y)<|Rx Y (ZO (row := (.int .i64 0) :: ((List.map C47 (Vector.replicate 64 0).toList) ++ (((List.map C3 (Vector.replicate 64 0).toList) ++ ((.bool false) :: (.int .i64 0) :: (.bool false) :: []))))) 0 Y ZbS (by kernel_rfl)<|by exact Eq.symm (Eq.trans (b := 132) Zl tZ_74.symm))<|Za<|K4 2 3 4 6 Y<|Tr<|Rm Y<|Rq Y (ZaR (zr := (.int .i64 0) :: ((List.map C47 (Vector.replicate 64 0).toList) ++ (((List.map C3 (Vector.replicate 64 0).toList) ++ ((.bool false) :: (.int .i64 0) :: (.bool false) :: []))))) Zhi Zhg ZbS (by kernel_rfl) (.cons (cvs (ov Y)<|ZU Y) .nil)<|Xf Y Y at8 pt9 ZdO)<|Rx Y (ZO (row := (.int .i64 0) :: ((List.map C47 (Vector.replicate 64 0).toList) ++ (((List.map C3 (Vector.replicate 64 0).toList) ++ ((.bool false) :: (.int .i64 0) :: (.bool false) :: []))))) 1 Y ZbS (by kernel_rfl)<|by exact Eq.symm (Eq.trans (b := 132) Zl tZ_74.symm))<|Rx Y (Zf (ov Y) (ov Y) (Zp Qh Zl) Y Y Y (Zt (Ze Zl) Zl) (Zb ZaL)<|ZC<|Eq.trans Zl<|Eq.symm Zl)<|Za<|K5 2 3 4 6 7 Y<|Tr<|Rm Y<|bE h fun y h_y h=>Rq Y (Zq (Zh6 h_y)<|.cons (ov Y) (.b Y) .nil)<|Rm Y<|Rq Y (Zo (ov Y) Y)<|Rq Y (Zo (ov Y) Y)<|Ra Y<|Ra Y<|Za<|I1 (fun r_=>⟨[(6, .ptr 0 1 0 0), (7, .ptr 1 1 0 0)], [some ⟨74, [(.int .i64 0) :: ((List.map C47 (Vector.replicate 64 0).toList) ++ (((List.map C3 (Vector.replicate 64 0).toList) ++ ((.bool false) :: (.int .i64 0) :: (.bool false) :: []))))]⟩, some ⟨74, [(.int .i64 r_.Number) :: ((List.map C47 r_.Frame.toList) ++ (((List.map C3 r_.States.toList) ++ ((.bool r_.Sound) :: (.int .i64 r_.Copies) :: (.bool r_.Conflict) :: []))))]⟩]⟩) h (fun h=>?_) fun r_ h=>?_
 ·
  refine K6 2 3 4 6 7 8 Y<|Tr<|Rm Y<|Za<|Zk<|?_
  obtain ⟨r1, hl1, ho1⟩ := QP h
  refine L2 (fun r_2 i=>⟨[(2, .int .i64 n), (3, .rp (List.map C47 f.toList) 0), (4, .rp (List.map C4 whole.toList) 0), (6, .ptr 0 1 0 0), (7, .ptr 1 1 0 0), (8, .int .i64 y.1), (19, .int .i64 i)], [some ⟨74, [(.int .i64 0) :: ((List.map C47 (Vector.replicate 64 0).toList) ++ (((List.map C3 (Vector.replicate 64 0).toList) ++ ((.bool false) :: (.int .i64 0) :: (.bool false) :: []))))]⟩, some ⟨74, [(.int .i64 r_2.Number) :: ((List.map C47 r_2.Frame.toList) ++ (((List.map C3 r_2.States.toList) ++ ((.bool r_2.Sound) :: (.int .i64 r_2.Copies) :: (.bool r_2.Conflict) :: []))))]⟩]⟩) hl1 (ES [some 0, some 1]) fun n1 r_2 i h=>?_
  unfold Zbh at h
  refine Tr<|R2 ZX Y<|Za<|Zr<|If h Y (fun h=>?_) fun h=>?_
  ·
   refine Zn<|Zr<|Zk<|K7 2 3 4 6 7 8 19 Y<|Tr<|Rm Y<|Ra Y<|Za<|K8 2 3 4 6 7 8 10 19 Y<|Tr<|Rm Y<|bE h fun x h_x h=>Rq Y (QA (ov Y) (ov Y) ZfI h_x)<|Rq Y (Zh (ov Y) tS4<|Zj<|Z1 (o := 0) (o' := (i.toNat * 1)) (Ze arL)<|ZN h_x)<|Rm Y<|Rq Y (.guarded (x == true) Y Y Y Y fun h => Zc<|ov Y)<|bE h fun x2 h_x2 h=>Rq Y (.guarded (x == true) Y Y Y Y fun h => QA (ov Y) (ow Y h) QL<|gdT h_x2 h)<|Rq Y (.guarded (x == true) Y Y Y Y fun h => Zh (ow Y h) QR<|Zj<|Z1 (o := 0) (o' := (i.toNat * 1)) (Ze arL)<|ZN<|gdT h_x2 h)<|bE h fun y2 h_y2 h=>Rq Y (.guarded (x == true) Y Y Y Y fun h => Zq (Ze0<|gdT h_y2 h)<|.cons (ow Y h) (.b Y) .nil)<|Rq Y (QU (ov Y) fun hp=>ow Y<|gT hp)<|Ra Y<|Za<|I1 (fun right=>⟨[(2, .int .i64 n), (3, .rp (List.map C47 f.toList) 0), (4, .rp (List.map C4 whole.toList) 0), (6, .ptr 0 1 0 0), (7, .ptr 1 1 0 0), (8, .int .i64 y.1), (10, .int .i64 i), (11, .bool right), (19, .int .i64 i)], [some ⟨74, [(.int .i64 0) :: ((List.map C47 (Vector.replicate 64 0).toList) ++ (((List.map C3 (Vector.replicate 64 0).toList) ++ ((.bool false) :: (.int .i64 0) :: (.bool false) :: []))))]⟩, some ⟨74, [(.int .i64 r_2.Number) :: ((List.map C47 r_2.Frame.toList) ++ (((List.map C3 r_2.States.toList) ++ ((.bool r_2.Sound) :: (.int .i64 r_2.Copies) :: (.bool r_2.Conflict) :: []))))]⟩]⟩) h (fun h=>?_) fun right h=>?_
   ·
    refine K9 2 3 4 6 7 8 10 11 19 Y<|Tr<|Rm Y<|Za<|Zk<|Tr<|R2 QD Y<|Ra Y<|Za<|K11 2 3 4 6 7 8 10 11 19 31 32 Y<|If h Y (fun h=>?_) fun h=>?_
    ·
     exact K9 2 3 4 6 7 8 10 11 19 Y<|Zu<|Rm Y<|bE h fun x3 h_x3 h=>Rq Y (QA (ov Y) (ov Y) ZfI h_x3)<|Rq Y (Zh (ov Y) tS4<|Zj<|Z1 (o := 0) (o' := (i.toNat * 1)) (Ze arL)<|ZN h_x3)<|Rm Y<|Rq Y (.guarded (x3 == true) Y Y Y Y fun h => Zc<|ov Y)<|bE h fun x4 h_x4 h=>Rq Y (.guarded (x3 == true) Y Y Y Y fun h => QA (ov Y) (ow Y h) QL<|gdT h_x4 h)<|Rq Y (.guarded (x3 == true) Y Y Y Y fun h => Zh (ow Y h) QR<|Zj<|Z1 (o := 0) (o' := (i.toNat * 1)) (Ze arL)<|ZN<|gdT h_x4 h)<|Rq Y (.guarded (x3 == true) Y Y Y Y fun h => Qi (ow Y h) JV tI3 Y)<|Rq Y (.guarded (x3 == true) Y Y Y Y fun h => Zc<|ov Y)<|Rq Y (.guarded (x3 == true) Y Y Y Y fun h => QD (ow Y h)<|ow Y h)<|Rq Y (QU (ov Y) fun hp=>ow Y<|gT hp)<|Ra Y<|Za<|⟨_, h, ES [some 0, some 1]⟩
    ·
     refine K10 2 3 4 6 7 8 10 11 19 31 Y<|Tr<|R2 QD Y<|Ra Y<|Za<|K11 2 3 4 6 7 8 10 11 19 31 45 Y<|If h Y (fun h=>?_) fun h=>?_
     ·
      exact K9 2 3 4 6 7 8 10 11 19 Y<|Zu<|Rm Y<|Rm Y<|Rq Y (.guarded ((x && y2) == true) Y Y Y Y fun h => Zc<|ov Y)<|bE h fun x5 h_x5 h=>Rq Y (.guarded ((x && y2) == true) Y Y Y Y fun h => QA (ov Y) (ow Y h) QL<|gdT h_x5 h)<|Rq Y (.guarded ((x && y2) == true) Y Y Y Y fun h => Zh (ow Y h) QR<|Zj<|Z1 (o := 0) (o' := (i.toNat * 1)) (Ze arL)<|ZN<|gdT h_x5 h)<|Rq Y (.guarded ((x && y2) == true) Y Y Y Y fun h => Qi (ow Y h) JV tI3 Y)<|bE h fun q h_q h=>Rq Y (.guarded ((x && y2) == true) Y Y Y Y fun h => XA (ow Y h) (ov Y)<|gdT h_q h)<|Rq Y (.guarded ((x && y2) == true) Y Y Y Y fun h => Zc<|ov Y)<|bE h fun q2 h_q2 h=>Rq Y (.guarded ((x && y2) == true) Y Y Y Y fun h => XA (ow Y h) (ov Y)<|gdT h_q2 h)<|Rq Y (.guarded ((x && y2) == true) Y Y Y Y fun h => QD (ow Y h)<|ow Y h)<|Rq Y (QU (ov Y) fun hp=>ow Y<|gT hp)<|Ra Y<|Za<|⟨_, h, ES [some 0, some 1]⟩
     ·
      refine K10 2 3 4 6 7 8 10 11 19 31 Y<|Tr<|R2 QD Y<|Ra Y<|Za<|K10 2 3 4 6 7 8 10 11 19 58 Y<|If h Y (fun h=>?_) fun h=>?_
      ·
       exact K9 2 3 4 6 7 8 10 11 19 Y<|Zu<|Rm Y<|Rm Y<|Rq Y (.guarded ((x && y2) == true) Y Y Y Y fun h => Zc<|ov Y)<|bE h fun x6 h_x6 h=>Rq Y (.guarded ((x && y2) == true) Y Y Y Y fun h => QA (ov Y) (ow Y h) QL<|gdT h_x6 h)<|Rq Y (.guarded ((x && y2) == true) Y Y Y Y fun h => Zh (ow Y h) QR<|Zj<|Z1 (o := 0) (o' := (i.toNat * 1)) (Ze arL)<|ZN<|gdT h_x6 h)<|Rq Y (.guarded ((x && y2) == true) Y Y Y Y fun h => Qi (ow Y h) JV tI3 Y)<|bE h fun q3 h_q3 h=>Rq Y (.guarded ((x && y2) == true) Y Y Y Y fun h => XA (ow Y h) (ov Y)<|gdT h_q3 h)<|Rq Y (.guarded ((x && y2) == true) Y Y Y Y fun h => Zc<|ov Y)<|bE h fun q4 h_q4 h=>Rq Y (.guarded ((x && y2) == true) Y Y Y Y fun h => Zbe (ow Y h) (ov Y)<|gdT h_q4 h)<|Rq Y (.guarded ((x && y2) == true) Y Y Y Y fun h => QD (ow Y h)<|ow Y h)<|Rq Y (QU (ov Y) fun hp=>ow Y<|gT hp)<|Ra Y<|Za<|⟨_, h, ES [some 0, some 1]⟩
      ·
       exact Zn<|⟨_, h, ES [some 0, some 1]⟩
   ·
    refine Tr<|Rm Y<|Za<|K9 2 3 4 6 7 8 10 19 71 Y<|If h Y (fun h=>?_) fun h=>?_
    ·
     exact K8 2 3 4 6 7 8 10 19 Y<|Zu<|Rm Y<|Rm Y<|Rm Y<|bE h fun x7 h_x7 h=>Rq Y (QA (ov Y) (ov Y) QL h_x7)<|Rq Y (Zh (ov Y) QR<|Zj<|Z1 (o := 0) (o' := (i.toNat * 1)) (Ze arL)<|ZN h_x7)<|Rq Y (Zd (ov Y) Y Y Xb)<|bE h fun x8 h_x8 h=>Rq Y (ZY (ov Y) (ov Y) QL Y Y h_x8)<|Rx Y (Zf (ov Y) (ov Y) (Zg QR) Y Y Y (Zt (Z1 (o := 1) (o' := (i.toNat * 1)) JL<|ZN h_x8) Y) (Zb Y)<|Xk (o := 1) (o' := (i.toNat * 1)) JL (ZN h_x8) Y (Jc h_x8 (x := x7)) Zgc)<|Rq Y (Zd (ov Y) Y Y QJ)<|bE h fun x9 h_x9 h=>Rq Y (ZY (ov Y) (ov Y) ZaO Y Y h_x9)<|Rx Y (Zf (ov Y) (ov Y) (Zg tS3) Y Y Y (Zt (Z1 (o := 65) (o' := (i.toNat * 1)) Xz<|ZN h_x9) Y) (Zb Y)<|Xk (o := 65) (o' := (i.toNat * 1)) Xz (ZN h_x9) Y (Jc h_x9 (x := 1)) ZeY)<|Za<|K7 2 3 4 6 7 8 19 Y<|Zu<|R2 ZZ Y<|Rm Y<|Za<|⟨_, h, ES [some 0, some 1]⟩
    ·
     exact Zn<|K7 2 3 4 6 7 8 19 Y<|Zu<|R2 ZZ Y<|Rm Y<|Za<|⟨_, h, ES [some 0, some 1]⟩
  ·
   refine ZL<|?_
   replace h := lx h ▸ ho1
   exact ⟨_, h, ES [some 0, some 1]⟩
 ·
  refine Tr<|Rq Y (Zy (ov Y) Y Y Y Qh (Zm<|Ze Zl) Zl (hns := Jd))<|Rx Y (Zf (ov Y) (ov Y) (Zp Qh Zl) Y Y Y (Zt (Ze Zl) Zl) (Zb ZaL)<|ZC<|Eq.trans Zl<|Eq.symm Zl)<|Za<|?_
  obtain rfl := rt h
  exact Zz (ZP Y (.one<|.agg Y Y Y Y Qh (Zm<|Ze Zl) Zl (pwB Qz) (hns := Jd)))
theorem ZhO {r_ : api_Rest} {r : Bool} (h : JD r_ = some r) :
 CSpec Tryz.prog gl0 122 [.agg ((.int .i64 r_.Number) :: ((List.map C47 r_.Frame.toList) ++ (((List.map C3 r_.States.toList) ++ ((.bool r_.Sound) :: (.int .i64 r_.Copies) :: (.bool r_.Conflict) :: [])))))] (.bool r) := by
 unfold JD at h
 replace h := Qj h
 refine So Tryz.func122 Y fun w0 A=>Tr<|Rq Y (QK (cva<|ov Y) Zl tZ_74 Qz)<|Ra Y<|Za<|K2 1 2 Y<|Tr<|Rq Y (ZB (ov Y) QJ)<|Rq Y (ZF (ov Y) Zhv (Zm Xz) arL)<|R_q (.agg<|List.map C3 (#v[0, 0, 0, 0, 0, 0, 0, 0, 0, 0, 0, 0, 0, 0, 0, 0, 0, 0, 0, 0, 0, 0, 0, 0, 0, 0, 0, 0, 0, 0, 0, 0, 0, 0, 0, 0, 0, 0, 0, 0, 0, 0, 0, 0, 0, 0, 0, 0, 0, 0, 0, 0, 0, 0, 0, 0, 0, 0, 0, 0, 0, 0, 0, 0] : Vector Int 64).toList) Y (Zbp (ys := [_, _, _, _, _, _, _, _, _, _, _, _, _, _, _, _, _, _, _, _, _, _, _, _, _, _, _, _, _, _, _, _, _, _, _, _, _, _, _, _, _, _, _, _, _, _, _, _, _, _, _, _, _, _, _, _, _, _, _, _, _, _, _, _]) ZaO Zrr .nil Y)<|Rq Y (ZoA Zrz (ov Y) (ov Y) (.aggB<|arD fun _ => Y) (.aggB<|arD fun _ => Y) (fkV fun _ => Y) (fkV fun _ => Y)<|eqV fun _ _ => Y)<|Ra Y<|Za<|?_
 obtain rfl := rt h
 exact Zz (ZP Y (.one<|rb Y))
theorem ZkJ {h_ : List Int} {r : (List api_Rest)} (h : Zcp h_ = some r) :
 CSpec Tryz.prog gl0 61 [.sl 5 (List.map R5 h_)] (.sl 74 (List.map R74 r)) := by
 unfold Zcp at h
 replace h := Qj h
 refine So Tryz.func61 Y fun w0 A=>Tr<|Ra Y<|Za<|K1 0 Y<|Tr<|Rm Y<|bE h fun y h_y h=>Rq Y (Zq (ZlT h_y)<|.cons (ov Y) (.b Y) .nil)<|bE h fun y2 h_y2 h=>Rq Y (Zq (ZjB h_y2)<|.cons (ov Y) (.b Y) .nil)<|Ra Y<|Za<|K2 0 3 Y<|Tr<|Ra Y<|Za<|I1 (fun out=>⟨[(0, .sl 5 (List.map R5 h_)), (3, .sl 158 (List.map R158 y2)), (4, .own 0 out.length)], [some ⟨74, List.map R74 out⟩]⟩) h (fun h=>?_) fun out h=>?_
 ·
  refine Tr<|Rm Y<|Rl tZ_158 QI Y<|Rm Y<|Za<|Zk<|?_
  obtain ⟨r1, hl1, ho1⟩ := QP h
  refine L2 (fun out2 i=>⟨[(0, .sl 5 (List.map R5 h_)), (3, .sl 158 (List.map R158 y2)), (4, .own 0 out2.length), (20, .sl 158 (List.map R158 y2)), (21, .int .i64 (y2.length : Int)), (22, .int .i64 i)], [some ⟨74, List.map R74 out2⟩]⟩) hl1 (ES [none]) fun n1 out2 i h=>?_
  unfold ZbY at h
  refine Tr<|R2 ZX Y<|Za<|Zr<|If h Y (fun h=>?_) fun h=>?_
  ·
   refine Zn<|Zr<|Zk<|K6 0 3 4 20 21 22 Y<|Tr<|bE h fun x h_x h=>Rq Y (ZS (ov Y) (ov Y) QI h_x)<|Rq Y (ZF (ov Y) ZbL (Zm<|Ze ln0) ln0)<|Rx Y (ZO (row := (.int .i64 0) :: ((List.map C47 (Vector.replicate 64 0).toList) ++ ([]))) 1 Y Zgg (by kernel_rfl)<|by exact Eq.symm (Eq.trans (b := 65) ln0 tZ_158.symm))<|Rx Y (Zf (ov Y) (ov Y) (Zp ZbL ln0) Y Y Y (Zt (Ze ln0) ln0) (Zb al6)<|ZC<|Eq.trans ln0<|Eq.symm ln0)<|Za<|K7 0 3 4 6 20 21 22 Y<|Td md0<|Ze7 0 _ Y (by kernel_rfl) Y Y Y ExtW.refl (fun hp' hx=>Zd (ov Y) (hx.get Y Y) Y Zfx)<|Ze7 1 _ Y (by kernel_rfl) Y Y Y ExtW.refl (fun hp' hx=>Zy (ov Y) (hx.get Y Y) Y Y Z3 (Zm at4) arL (hns := (nsM fun _ => Y)))<|bE h fun y3 h_y3 h=>Ze7 2 _ Y (by kernel_rfl) Y Y Y ExtW.refl (fun hp' hx=>Zq (Zaq h_y3)<|.cons (ov Y) (.aggB<|arD fun _ => Y) .nil)<|Ze7 3 _ Y (by kernel_rfl) Y Y Y ExtW.refl (fun hp' hx=>Zd (ov Y) (hx.get Y Y) Y Zfx)<|Ze7 4 _ Y (by kernel_rfl) Y Y Y ExtW.refl (fun hp' hx=>Zy (ov Y) (hx.get Y Y) Y Y Z3 (Zm at4) arL (hns := (nsM fun _ => Y)))<|Zai 5 _ Y (by kernel_rfl) Y Y (fun hp'=>ZaR (zr := (.int .i64 0) :: ((List.map C47 (Vector.replicate 64 0).toList) ++ (((List.map C3 (Vector.replicate 64 0).toList) ++ ((.bool false) :: (.int .i64 0) :: (.bool false) :: []))))) Zhi Zhg ZbS (by kernel_rfl) (.cons (cvs (ov Y)<|ZU Y)<|.cons (cva<|ov Y)<|.cons (cvs (ov Y)<|ZU Y)<|.cons (cvs (ov Y)<|ZU Y) .nil)<|Xf Y Y at8 pt9<|Xf Y arL JL Zgc<|Xf Y Y ZeC Zjq<|Xf Y Y Zfj Zkv ZdO)<|Znh 6 _ _ Y (by kernel_rfl) Y Y (fun _=>Ext.app) (fun h=>by cases h) (ZO (row := (.int .i64 0) :: ((List.map C47 (Vector.replicate 64 0).toList) ++ (((List.map C3 (Vector.replicate 64 0).toList) ++ ((.bool false) :: (.int .i64 0) :: (.bool false) :: []))))) 2 Y ZbS (by kernel_rfl)<|by exact Eq.symm (Eq.trans (b := 132) Zl tZ_74.symm))<|Do 7 Y (Zf (ov Y) (ov Y) (Zp Qh Zl) Y Y Y (Zt (Ze Zl) Zl) (Zb ZaL)<|ZC<|Eq.trans Zl<|Eq.symm Zl)<|Dd<|I1 (fun States=>⟨[(0, .sl 5 (List.map R5 h_)), (3, .sl 158 (List.map R158 y2)), (4, .own 0 out2.length), (7, .ptr 1 1 0 0), (20, .sl 158 (List.map R158 y2)), (21, .int .i64 (y2.length : Int)), (22, .int .i64 i)], [some ⟨74, List.map R74 out2⟩, some ⟨74, [(.int .i64 y3) :: ((List.map C47 x.Frame.toList) ++ (((List.map C3 States.toList) ++ ((.bool true) :: (.int .i64 1) :: (.bool false) :: []))))]⟩]⟩) h (fun h=>?_) fun States h=>?_
   ·
    refine K7 0 3 4 7 20 21 22 Y<|Tr<|Rm Y<|Za<|Zk<|?_
    obtain ⟨r2, hl2, ho2⟩ := QP h
    refine L2 (fun States2 i2=>⟨[(0, .sl 5 (List.map R5 h_)), (3, .sl 158 (List.map R158 y2)), (4, .own 0 out2.length), (7, .ptr 1 1 0 0), (20, .sl 158 (List.map R158 y2)), (21, .int .i64 (y2.length : Int)), (22, .int .i64 i), (32, .int .i64 i2)], [some ⟨74, List.map R74 out2⟩, some ⟨74, [(.int .i64 y3) :: ((List.map C47 x.Frame.toList) ++ (((List.map C3 States2.toList) ++ ((.bool true) :: (.int .i64 1) :: (.bool false) :: []))))]⟩]⟩) hl2 (ES [some 0, some 2]) fun n2 States2 i2 h=>?_
    unfold ZaY at h
    refine Tr<|R2 ZX Y<|Za<|Zr<|If h Y (fun h=>?_) fun h=>?_
    ·
     exact Zn<|Zr<|Zk<|K8 0 3 4 7 20 21 22 32 Y<|Tr<|Rm Y<|Ra Y<|Za<|K9 0 3 4 7 8 20 21 22 32 Y<|Zu<|Rm Y<|Rq Y (Zd (ov Y) Y Y QJ)<|bE h fun x2 h_x2 h=>Rq Y (ZY (ov Y) (ov Y) ZaO Y Y h_x2)<|Rx Y (Zf (ov Y) (ov Y) (Zg tS3) Y Y Y (Zt (Z1 (o := 65) (o' := (i2.toNat * 1)) Xz<|ZN h_x2) Y) (Zb Y)<|Xk (o := 65) (o' := (i2.toNat * 1)) Xz (ZN h_x2) Y (Jc h_x2 (x := 3)) ZeY)<|Za<|K8 0 3 4 7 20 21 22 32 Y<|Zu<|R2 ZZ Y<|Rm Y<|Za<|⟨_, h, ES [some 0, some 1]⟩
    ·
     refine ZL<|?_
     replace h := lx h ▸ ho2
     exact ⟨_, h, ES [some 0, some 1]⟩
   ·
    exact Zu<|Rm Y<|Rq Y (Zy (ov Y) Y Y Y Qh (Zm<|Ze Zl) Zl (hns := Jd))<|R_q (.sl 74<|List.map R74 ([(api_Rest.mk y3 x.Frame States true 1 false)] : List api_Rest)) Y (Xv Qd (.cons (cva<|ov Y) Zl (pwD Qz) .nil) Y Y)<|bE h fun l h_l h=>Rx Y (Zv (ov Y) (ZG (ov Y) tZ_74) Qd Y Y Y (fun x=>Zb<|E74 x) Y h_l)<|Ra Y<|Za<|K6 0 3 4 20 21 22 Y<|Zu<|R2 ZZ Y<|Rm Y<|Za<|⟨_, h, ES [some 0]⟩
  ·
   refine ZL<|?_
   replace h := lx h ▸ ho1
   exact ⟨_, h, ES [some 0]⟩
 ·
  refine I1 (fun out3=>⟨[(4, .own 0 out3.length)], [some ⟨74, List.map R74 out3⟩]⟩) h (fun h=>?_) fun out3 h=>?_
  ·
   refine Tr<|Rm Y<|Rl tZ_158 QI Y<|Rm Y<|Za<|Zk<|?_
   obtain ⟨r3, hl3, ho3⟩ := QP h
   refine L2 (fun out4 i3=>⟨[(0, .sl 5 (List.map R5 h_)), (3, .sl 158 (List.map R158 y2)), (4, .own 0 out4.length), (44, .sl 158 (List.map R158 y2)), (45, .int .i64 (y2.length : Int)), (46, .int .i64 i3)], [some ⟨74, List.map R74 out4⟩]⟩) hl3 (ES [some 0]) fun n3 out4 i3 h=>?_
   unfold ZbZ at h
   refine Tr<|R2 ZX Y<|Za<|Zr<|If h Y (fun h=>?_) fun h=>?_
   ·
    refine Zn<|I1 (fun out5=>⟨[(0, .sl 5 (List.map R5 h_)), (3, .sl 158 (List.map R158 y2)), (4, .own 0 out5.length), (44, .sl 158 (List.map R158 y2)), (45, .int .i64 (y2.length : Int)), (46, .int .i64 i3)], [some ⟨74, List.map R74 out5⟩]⟩) h (fun h=>?_) fun out5 h=>?_
    ·
     refine Zk<|K6 0 3 4 44 45 46 Y<|Tr<|Rm Y<|bE h fun x3 h_x3 h=>Rq Y (ZS (ov Y) (ov Y) QI h_x3)<|Rq Y (ZF (ov Y) ZbL (Zm<|Ze ln0) ln0)<|Rx Y (ZO (row := (.int .i64 0) :: ((List.map C47 (Vector.replicate 64 0).toList) ++ ([]))) 1 Y Zgg (by kernel_rfl)<|by exact Eq.symm (Eq.trans (b := 65) ln0 tZ_158.symm))<|Ra Y<|Rx Y (Zf (ov Y) (ov Y) (Zp ZbL ln0) Y Y Y (Zt (Ze ln0) ln0) (Zb al6)<|ZC<|Eq.trans ln0<|Eq.symm ln0)<|Za<|K8 0 3 4 9 10 44 45 46 Y<|Tr<|Rq Y (Zd (ov Y) Y Y Qc)<|Rq Y (Zi (ov Y) Y Y Y tS3<|Zj at2)<|Rq Y (Zd (ov Y) Y Y Qc)<|Rq Y (Zi (ov Y) Y Y Y tS3<|Zj at2)<|bE h fun q h_q h=>Rq Y (Zbe (ov Y) (ov Y) h_q)<|R2 Zfn Y<|R2 ZdH Y<|R2 ZdH Y<|Ra Y<|Za<|Zk<|?_
     obtain ⟨r4, hl4, ho4⟩ := QP h
     refine L2 (fun out6 at_=>⟨[(0, .sl 5 (List.map R5 h_)), (3, .sl 158 (List.map R158 y2)), (4, .own 0 out6.length), (9, .int .i64 i3), (11, .int .i64 at_), (44, .sl 158 (List.map R158 y2)), (45, .int .i64 (y2.length : Int)), (46, .int .i64 i3)], [some ⟨74, List.map R74 out6⟩]⟩) hl4 (ES [some 0]) fun n4 out6 at_ h=>?_
     unfold Zb4 at h
     refine Zr<|Tr<|Rm Y<|Rm Y<|Rl tZ_5 ZaC Y<|R2 ZX Y<|Za<|K9 0 3 4 9 11 44 45 46 62 Y<|If h Y (fun h=>?_) fun h=>?_
     ·
      refine Zn<|I1 (fun out7=>⟨[(0, .sl 5 (List.map R5 h_)), (3, .sl 158 (List.map R158 y2)), (4, .own 0 out7.length), (9, .int .i64 i3), (11, .int .i64 at_), (44, .sl 158 (List.map R158 y2)), (45, .int .i64 (y2.length : Int)), (46, .int .i64 i3)], [some ⟨74, List.map R74 out7⟩]⟩) h (fun h=>?_) fun out7 h=>?_
      ·
       refine Zk<|Zr<|K8 0 3 4 9 11 44 45 46 Y<|Tr<|Rm Y<|R2 ZX Y<|Rm Y<|Rq Y (.guarded ((decide (at_ < (-191))) == false) Y Y Y Y fun h => Zc<|ov Y)<|Rq Y (.guarded ((decide (at_ < (-191))) == false) Y Y Y Y fun h => Zc<|ov Y)<|bE h fun y4 h_y4 h=>Rq Y (.guarded ((decide (at_ < (-191))) == false) Y Y Y Y fun h => Zq (ZfS<|gdT h_y4 h)<|.cons (ow Y h) (.b Y)<|.cons (ow Y h) (.b Y) .nil)<|Rq Y (.guarded ((decide (at_ < (-191))) == false) Y Y Y Y fun h => Zc<|ov Y)<|Rq Y (.guarded ((decide (at_ < (-191))) == false) Y Y Y Y fun h => Jl (ow Y h)<|ow Y h)<|Rq Y (Zaj (ov Y) fun hp=>ow Y<|gF hp)<|Rm Y<|Rq Y (.guarded (((decide (at_ < (-191))) || (!decide (y4 = i3))) == false) Y Y Y Y fun h => Zc<|ov Y)<|Rq Y (.guarded (((decide (at_ < (-191))) || (!decide (y4 = i3))) == false) Y Y Y Y fun h => Zc<|ov Y)<|Rq Y (.guarded (((decide (at_ < (-191))) || (!decide (y4 = i3))) == false) Y Y Y Y fun h => Zc<|ov Y)<|bE h fun y5 h_y5 h=>Rq Y (.guarded (((decide (at_ < (-191))) || (!decide (y4 = i3))) == false) Y Y Y Y fun h => Zq (ZfS<|gdT h_y5 h)<|.cons (ow Y h) (.b Y)<|.cons (ow Y h) (.b Y) .nil)<|bE h fun x4 h_x4 h=>Rq Y (.guarded (((decide (at_ < (-191))) || (!decide (y4 = i3))) == false) Y Y Y Y fun h => ZS (ow Y h) (ow Y h) QI<|gdT h_x4 h)<|Rq Y (.guarded (((decide (at_ < (-191))) || (!decide (y4 = i3))) == false) Y Y Y Y fun h => ZB (ow Y h) Qc)<|Rq Y (.guarded (((decide (at_ < (-191))) || (!decide (y4 = i3))) == false) Y Y Y Y fun h => Zh (ow Y h) tS3<|Zj at2)<|Rq Y (.guarded (((decide (at_ < (-191))) || (!decide (y4 = i3))) == false) Y Y Y Y fun h => Zc<|ov Y)<|bE h fun y6 h_y6 h=>Rq Y (.guarded (((decide (at_ < (-191))) || (!decide (y4 = i3))) == false) Y Y Y Y fun h => Zq (Zab<|gdT h_y6 h)<|.cons (ow Y h) (.b Y)<|.cons (ow Y h) (.b Y) .nil)<|Rq Y (.guarded (((decide (at_ < (-191))) || (!decide (y4 = i3))) == false) Y Y Y Y fun h => ZX (ow Y h)<|ov Y)<|Rq Y (Zaj (ov Y) fun hp=>ow Y<|gF hp)<|Za<|K9 0 3 4 9 11 44 45 46 85 Y<|If h Y (fun h=>?_) fun h=>?_
       ·
        exact ZL<|⟨_, h, ES [some 0]⟩
       ·
        refine Zn<|K8 0 3 4 9 11 44 45 46 Y<|Tr<|Rm Y<|Rm Y<|bE h fun y7 h_y7 h=>Rq Y (Zq (ZfL h_y7)<|.cons (ov Y) (.b Y)<|.cons (ov Y) (.b Y) .nil)<|Rm Y<|Rq Y (Zo (ov Y) Y)<|Rq Y (Zo (ov Y) Y)<|Rx Y (ZO (row := (List.map C47 (Vector.replicate 64 0).toList)) 1 Y ZcW Y tZ_49)<|Rx Y (ZO (row := (List.map C4 (Vector.replicate 64 false).toList)) 2 Y Zkj Y tZ_171)<|Rx Y (Zf (ov Y) (ov Y) (Zp Z3 arL) Y Y Y (Zt (Ze arL) arL) (Zb<|arC fun _ => Y)<|ZC<|Eq.trans arL<|Eq.symm arL)<|Rx Y (Zf (ov Y) (ov Y) (Zp Zcs arL) Y Y Y (Zt (Ze arL) arL) (Zb<|arC fun _ => Y)<|ZC<|Eq.trans arL<|Eq.symm arL)<|Za<|K10 0 3 4 9 11 12 13 44 45 46 Y<|Tr<|Rq Y (Zy (ov Y) Y Y Y Z3 (Zm<|Ze arL) arL (hns := (nsM fun _ => Y)))<|Rq Y (Zy (ov Y) Y Y Y Zcs (Zm<|Ze arL) arL (hns := (nsM fun _ => Y)))<|bE h fun y8 h_y8 h=>Rq Y (Zq (ZiH h_y8)<|.cons (ov Y) (.aggB<|arD fun _ => Y)<|.cons (ov Y) (.aggB<|arD fun _ => Y) .nil)<|Rm Y<|Rq Y (Zo (ov Y) Y)<|Rq Y (Zo (ov Y) Y)<|Ra Y<|Ra Y<|Za<|I2 (fun n ok=>⟨[(0, .sl 5 (List.map R5 h_)), (3, .sl 158 (List.map R158 y2)), (4, .own 0 out6.length), (9, .int .i64 i3), (11, .int .i64 at_), (12, .ptr 1 1 0 0), (13, .ptr 2 1 0 0), (14, .int .i64 n), (15, .bool ok), (44, .sl 158 (List.map R158 y2)), (45, .int .i64 (y2.length : Int)), (46, .int .i64 i3)], [some ⟨74, List.map R74 out6⟩, some ⟨49, [(List.map C47 y7.1.toList)]⟩, some ⟨171, [(List.map C4 y7.2.toList)]⟩]⟩) h (fun h=>?_) fun n ok h=>?_
        ·
         refine K12 0 3 4 9 11 12 13 14 15 44 45 46 Y<|Tr<|Rm Y<|R1 Jn Y<|Za<|Zc4 (kc 0 Y<|kc 3 Y<|kc 4 Y<|kc 9 Y<|kc 11 Y<|kc 12 Y<|kc 13 Y<|kc 14 Y<|kc 15 Y<|kc 44 Y<|kc 45 Y<|kc 46 Y<|kc 99 Y kn) Y<|If h Y (fun h=>?_) fun h=>?_
         ·
          exact K12 0 3 4 9 11 12 13 14 15 44 45 46 Y<|Zu<|Rm Y<|Rm Y<|Rm Y<|bE h fun y9 h_y9 h=>Rq Y (Zq (Zhb h_y9)<|.cons (ov Y) (.b Y)<|.cons (ov Y) (.b Y)<|.cons (ov Y) (.b Y) .nil)<|Rm Y<|Rq Y (Zo (ov Y) Y)<|Rq Y (Zo (ov Y) Y)<|Ra Y<|Ra Y<|Za<|⟨_, h, ES [some 0, some 1, some 2]⟩
         ·
          exact Zn<|⟨_, h, ES [some 0, some 1, some 2]⟩
        ·
         refine Tr<|Rq Y (Zy (ov Y) Y Y Y Z3 (Zm<|Ze arL) arL (hns := (nsM fun _ => Y)))<|Rq Y (Zy (ov Y) Y Y Y Zcs (Zm<|Ze arL) arL (hns := (nsM fun _ => Y)))<|Rm Y<|bE h fun y10 h_y10 h=>Rq Y (Zq (Zkt h_y10)<|.cons (ov Y) (.aggB<|arD fun _ => Y)<|.cons (ov Y) (.aggB<|arD fun _ => Y)<|.cons (ov Y) (.b Y) .nil)<|Rx Y (ZO (row := (.int .i64 0) :: ((List.map C47 (Vector.replicate 64 0).toList) ++ (((List.map C3 (Vector.replicate 64 0).toList) ++ ((.bool false) :: (.int .i64 0) :: (.bool false) :: []))))) 3 Y ZbS (by kernel_rfl)<|by exact Eq.symm (Eq.trans (b := 132) Zl tZ_74.symm))<|Rx Y (Zf (ov Y) (ov Y) (Zp Qh Zl) Y Y Y (Zt (Ze Zl) Zl) (Zb ZaL)<|ZC<|Eq.trans Zl<|Eq.symm Zl)<|Za<|K10 0 3 4 9 11 15 16 44 45 46 Y<|Tr<|Rm Y<|Rm Y<|Rq Y (.guarded (ok == true) Y Y Y Y fun h => Zy (ov Y) Y Y Y Qh (Zm<|Ze Zl) Zl (hns := Jd))<|bE h fun y11 h_y11 h=>Rq Y (.guarded (ok == true) Y Y Y Y fun h => Zq (ZhO<|gdT h_y11 h)<|.cons (ow Y h) (.aggB Qz) .nil)<|Rq Y (.guarded (ok == true) Y Y Y Y fun h => Jn<|ow Y h)<|Rq Y (QU (ov Y) fun hp=>ow Y<|gT hp)<|Za<|K10 0 3 4 9 11 16 44 45 46 116 Y<|If h Y (fun h=>?_) fun h=>?_
         ·
          exact K9 0 3 4 9 11 16 44 45 46 Y<|Zu<|Rm Y<|Rq Y (Zy (ov Y) Y Y Y Qh (Zm<|Ze Zl) Zl (hns := Jd))<|R_q (.sl 74<|List.map R74 ([y10] : List api_Rest)) Y (Xv Qd (.cons (cva<|ov Y) Zl (pwD Qz) .nil) Y Y)<|bE h fun l2 h_l2 h=>Rx Y (Zv (ov Y) (ZG (ov Y) tZ_74) Qd Y Y Y (fun x=>Zb<|E74 x) Y h_l2)<|Ra Y<|Za<|⟨_, h, ES [some 0]⟩
         ·
          exact Zn<|⟨_, h, ES [some 0]⟩
      ·
       exact Zu<|Rm Y<|R2 ZZ Y<|Ra Y<|Za<|⟨_, h, ES [some 0]⟩
     ·
      refine ZL<|?_
      replace h := lx h ▸ ho4
      exact ⟨_, h, ES [some 0]⟩
    ·
     exact Zu<|R2 ZZ Y<|Rm Y<|Za<|⟨_, h, ES [some 0]⟩
   ·
    refine ZL<|?_
    replace h := lx h ▸ ho3
    exact ⟨_, h, ES [some 0]⟩
  ·
   refine Tr<|Rm Y<|Ra Y<|Za<|?_
   obtain rfl := rt h
   exact Zz (ZP Y (.one<|.tmp Y<|View.ownM Y Y D74))
theorem Zjs {r_ : api_Rest} {r : Bool} (h : Zc2 r_ = some r) :
 CSpec Tryz.prog gl0 160 [.agg ((.int .i64 r_.Number) :: ((List.map C47 r_.Frame.toList) ++ (((List.map C3 r_.States.toList) ++ ((.bool r_.Sound) :: (.int .i64 r_.Copies) :: (.bool r_.Conflict) :: [])))))] (.bool r) := by
 unfold Zc2 at h
 replace h := Qj h
 refine So Tryz.func160 Y fun w0 A=>Tr<|Rq Y (QK (cva<|ov Y) Zl tZ_74 Qz)<|Ra Y<|Za<|J0 (fun j => (.inr j)) ⟨[], []⟩ h (fun h=>?_) fun h=>?_
 ·
  refine K1 1 Y<|Tr<|Rq Y (ZB (ov Y) QJ)<|Rq Y (ZF (ov Y) Zhv (Zm Xz) arL)<|Rm Y<|Za<|Zk<|?_
  obtain ⟨r1, hl1, ho1⟩ := QP h
  refine L1 (fun i=>⟨[(6, .agg (List.map C3 r_.States.toList)), (7, .int .i64 i)], []⟩) hl1 (ES []) fun n1 i h=>?_
  unfold JU at h
  refine Tr<|R2 ZX Y<|Za<|Zr<|If h Y (fun h=>?_) fun h=>?_
  ·
   refine Zn<|Zr<|Zk<|K2 6 7 Y<|Tr<|bE h fun x h_x h=>Rq Y (Jr (ov Y) (ov Y) ZaO tS3 h_x)<|Ra Y<|Za<|K3 4 6 7 Y<|Tr<|Rm Y<|R2 Jl Y<|Za<|K3 6 7 11 Y<|If h Y (fun h=>?_) fun h=>?_
   ·
    refine K0<|Tr<|Ra Y<|Za<|?_
    replace h := lx h ▸ ho1
    obtain rfl := rt h
    exact Zz (ZP Y (.one<|rb Y))
   ·
    exact Zn<|K2 6 7 Y<|Zu<|R2 ZZ Y<|Rm Y<|Za<|⟨_, h, ES []⟩
  ·
   refine ZL<|?_
   replace h := lx h ▸ ho1
   exact ⟨_, h, ES []⟩
 ·
  replace h := elr h
  replace h := t0i h
  refine Tr<|Ra Y<|Za<|?_
  obtain rfl := rt h
  exact Zz (ZP Y (.one<|rb Y))
theorem Zky {l : List api_Rest} {i : Int} {r : Int × Bool} (h : ZdF l i = some r) :
 CSpec Tryz.prog gl0 161 [.sl 74 (List.map R74 l), .int .i64 i] (.tuple [.int .u16 r.1, .bool r.2]) := by
 unfold ZdF at h
 replace h := Qj h
 refine So Tryz.func161 Y fun w0 A=>Tr<|Ra Y<|Ra Y<|Za<|K2 0 1 Y<|Tr<|Ra Y<|Ra Y<|Za<|J2 (fun j => (.inr j)) (fun w some_=>⟨[(6, .int .u16 w), (7, .bool some_)], []⟩) h (fun h=>?_) fun w some_ h=>?_
 ·
  refine Tr<|Rm Y<|Rl tZ_74 Qd Y<|Rm Y<|Za<|Zk<|?_
  obtain ⟨r1, hl1, ho1⟩ := QP h
  refine L3 (fun w2 some_2 i2=>⟨[(1, .int .i64 i), (6, .int .u16 w2), (7, .bool some_2), (10, .sl 74 (List.map R74 l)), (11, .int .i64 (l.length : Int)), (12, .int .i64 i2)], []⟩) hl1 (ES []) fun n1 w2 some_2 i2 h=>?_
  unfold Zbb at h
  refine Tr<|R2 ZX Y<|Za<|Zr<|If h Y (fun h=>?_) fun h=>?_
  ·
   refine Zn<|Zr<|Zk<|K6 1 6 7 10 11 12 Y<|Tr<|bE h fun x h_x h=>Rq Y (ZS (ov Y) (ov Y) Qd h_x)<|Rq Y (ZF (ov Y) Qh (Zm<|Ze Zl) Zl)<|Rx Y (ZO (row := (.int .i64 0) :: ((List.map C47 (Vector.replicate 64 0).toList) ++ (((List.map C3 (Vector.replicate 64 0).toList) ++ ((.bool false) :: (.int .i64 0) :: (.bool false) :: []))))) 0 Y ZbS (by kernel_rfl)<|by exact Eq.symm (Eq.trans (b := 132) Zl tZ_74.symm))<|Rx Y (Zf (ov Y) (ov Y) (Zp Qh Zl) Y Y Y (Zt (Ze Zl) Zl) (Zb ZaL)<|ZC<|Eq.trans Zl<|Eq.symm Zl)<|Za<|Zr<|K7 1 6 7 9 10 11 12 Y<|Tr<|Rm Y<|Rq Y (Zd (ov Y) Y Y QJ)<|bE h fun x2 h_x2 h=>Rq Y (ZY (ov Y) (ov Y) ZaO Y Y h_x2)<|Rq Y (Zi (ov Y) Y Y Y tS3<|Zj<|Z1 (o := 65) (o' := (i.toNat * 1)) Xz<|ZN h_x2)<|R2 QD Y<|Za<|K8 1 6 7 9 10 11 12 20 Y<|If h Y (fun h=>?_) fun h=>?_
   ·
    exact ZL<|K6 1 6 7 10 11 12 Y<|Zu<|R2 ZZ Y<|Rm Y<|Za<|⟨_, h, ES []⟩
   ·
    refine Zn<|Zr<|K7 1 6 7 9 10 11 12 Y<|Tr<|Rm Y<|Rm Y<|Rq Y (.guarded (some_2 == true) Y Y Y Y fun h => Zc<|ov Y)<|Rq Y (.guarded (some_2 == true) Y Y Y Y fun h => Zc<|ov Y)<|Rq Y (.guarded (some_2 == true) Y Y Y Y fun h => Zd (ov Y) Y Y Xb)<|bE h fun x3 h_x3 h=>Rq Y (.guarded (some_2 == true) Y Y Y Y fun h => ZY (ow Y h) (ow Y h) QL Y Y<|gdT h_x3 h)<|Rq Y (.guarded (some_2 == true) Y Y Y Y fun h => Zi (ow Y h) Y Y Y QR<|Zj<|Z1 (o := 1) (o' := (i.toNat * 1)) JL<|ZN<|gdT h_x3 h)<|Rq Y (.guarded (some_2 == true) Y Y Y Y fun h => Jl (ow Y h)<|ow Y h)<|Rq Y (QU (ov Y) fun hp=>ow Y<|gT hp)<|Za<|K6 1 9 10 11 12 29 Y<|If h Y (fun h=>?_) fun h=>?_
    ·
     refine K0<|Tr<|Ra Y<|Ra Y<|Za<|?_
     replace h := lx h ▸ ho1
     obtain rfl := rt h
     exact Zz (ZP Y (.two (rb Y)<|rb Y))
    ·
     exact Zn<|K5 1 9 10 11 12 Y<|Zu<|Rm Y<|Rq Y (Zd (ov Y) Y Y Xb)<|bE h fun x4 h_x4 h=>Rq Y (ZY (ov Y) (ov Y) QL Y Y h_x4)<|Rq Y (Zi (ov Y) Y Y Y QR<|Zj<|Z1 (o := 1) (o' := (i.toNat * 1)) JL<|ZN h_x4)<|Ra Y<|Ra Y<|Za<|K6 1 6 7 10 11 12 Y<|Zu<|R2 ZZ Y<|Rm Y<|Za<|⟨_, h, ES []⟩
  ·
   refine ZL<|?_
   replace h := lx h ▸ ho1
   exact ⟨_, h, ES []⟩
 ·
  replace h := elr h
  replace h := t2i h
  refine Tr<|Rm Y<|Rm Y<|Ra Y<|Ra Y<|Za<|?_
  obtain rfl := rt h
  exact Zz (ZP Y (.two (rb Y)<|rb Y))
theorem Zdz {l : List api_Rest} {r : api_Rest} (h : Zcn l = some r) :
 CSpec Tryz.prog gl0 112 [.sl 74 (List.map R74 l)] (.agg ((.int .i64 r.Number) :: ((List.map C47 r.Frame.toList) ++ (((List.map C3 r.States.toList) ++ ((.bool r.Sound) :: (.int .i64 r.Copies) :: (.bool r.Conflict) :: [])))))) := by
 unfold Zcn at h
 replace h := Qj h
 refine So Tryz.func112 Y fun w0 A=>Tr<|Rx Y (ZO (row := (.int .i64 0) :: ((List.map C47 (Vector.replicate 64 0).toList) ++ (((List.map C3 (Vector.replicate 64 0).toList) ++ ((.bool false) :: (.int .i64 0) :: (.bool false) :: []))))) 0 Y ZbS (by kernel_rfl)<|by exact Eq.symm (Eq.trans (b := 132) Zl tZ_74.symm))<|Za<|Tr<|Rm Y<|bE h fun x h_x h=>Rq Y (ZS (ov Y) (ov Y) Qd h_x)<|Rq Y (ZB (ov Y) Qg)<|Rq Y (Zh (ov Y) tS3<|Zj at8)<|Rq Y (ZaR (zr := (.int .i64 0) :: ((List.map C47 (Vector.replicate 64 0).toList) ++ (((List.map C3 (Vector.replicate 64 0).toList) ++ ((.bool false) :: (.int .i64 0) :: (.bool false) :: []))))) Zhi Zhg ZbS (by kernel_rfl) (.cons (cvs (ov Y)<|ZU Y) .nil)<|Xf Y Y at8 pt9 ZdO)<|Rx Y (ZO (row := (.int .i64 0) :: ((List.map C47 (Vector.replicate 64 0).toList) ++ (((List.map C3 (Vector.replicate 64 0).toList) ++ ((.bool false) :: (.int .i64 0) :: (.bool false) :: []))))) 1 Y ZbS (by kernel_rfl)<|by exact Eq.symm (Eq.trans (b := 132) Zl tZ_74.symm))<|Rx Y (Zf (ov Y) (ov Y) (Zp Qh Zl) Y Y Y (Zt (Ze Zl) Zl) (Zb ZaL)<|ZC<|Eq.trans Zl<|Eq.symm Zl)<|Za<|I1 (fun out=>⟨[(0, .sl 74 (List.map R74 l)), (2, .ptr 0 1 0 0), (3, .ptr 1 1 0 0)], [some ⟨74, [(.int .i64 0) :: ((List.map C47 (Vector.replicate 64 0).toList) ++ (((List.map C3 (Vector.replicate 64 0).toList) ++ ((.bool false) :: (.int .i64 0) :: (.bool false) :: []))))]⟩, some ⟨74, [(.int .i64 out.Number) :: ((List.map C47 out.Frame.toList) ++ (((List.map C3 out.States.toList) ++ ((.bool out.Sound) :: (.int .i64 out.Copies) :: (.bool out.Conflict) :: []))))]⟩]⟩) h (fun h=>?_) fun out h=>?_
 ·
  refine K3 0 2 3 Y<|Tr<|Rm Y<|Rl tZ_74 Qd Y<|Rm Y<|Za<|Zk<|?_
  obtain ⟨r1, hl1, ho1⟩ := QP h
  refine L2 (fun out2 i=>⟨[(0, .sl 74 (List.map R74 l)), (2, .ptr 0 1 0 0), (3, .ptr 1 1 0 0), (18, .sl 74 (List.map R74 l)), (19, .int .i64 (l.length : Int)), (20, .int .i64 i)], [some ⟨74, [(.int .i64 0) :: ((List.map C47 (Vector.replicate 64 0).toList) ++ (((List.map C3 (Vector.replicate 64 0).toList) ++ ((.bool false) :: (.int .i64 0) :: (.bool false) :: []))))]⟩, some ⟨74, [(.int .i64 out2.Number) :: ((List.map C47 out2.Frame.toList) ++ (((List.map C3 out2.States.toList) ++ ((.bool out2.Sound) :: (.int .i64 out2.Copies) :: (.bool out2.Conflict) :: []))))]⟩]⟩) hl1 (ES [some 0, some 1]) fun n1 out2 i h=>?_
  unfold ZaZ at h
  refine Tr<|R2 ZX Y<|Za<|Zr<|If h Y (fun h=>?_) fun h=>?_
  ·
   refine Zn<|I1 (fun out3=>⟨[(0, .sl 74 (List.map R74 l)), (2, .ptr 0 1 0 0), (3, .ptr 1 1 0 0), (18, .sl 74 (List.map R74 l)), (19, .int .i64 (l.length : Int)), (20, .int .i64 i)], [some ⟨74, [(.int .i64 0) :: ((List.map C47 (Vector.replicate 64 0).toList) ++ (((List.map C3 (Vector.replicate 64 0).toList) ++ ((.bool false) :: (.int .i64 0) :: (.bool false) :: []))))]⟩, some ⟨74, [(.int .i64 out3.Number) :: ((List.map C47 out3.Frame.toList) ++ (((List.map C3 out3.States.toList) ++ ((.bool out3.Sound) :: (.int .i64 out3.Copies) :: (.bool out3.Conflict) :: []))))]⟩]⟩) h (fun h=>?_) fun out3 h=>?_
   ·
    refine Zk<|K6 0 2 3 18 19 20 Y<|Tr<|bE h fun x2 h_x2 h=>Rq Y (ZS (ov Y) (ov Y) Qd h_x2)<|Rq Y (ZF (ov Y) Qh (Zm<|Ze Zl) Zl)<|Rx Y (ZO (row := (.int .i64 0) :: ((List.map C47 (Vector.replicate 64 0).toList) ++ (((List.map C3 (Vector.replicate 64 0).toList) ++ ((.bool false) :: (.int .i64 0) :: (.bool false) :: []))))) 2 Y ZbS (by kernel_rfl)<|by exact Eq.symm (Eq.trans (b := 132) Zl tZ_74.symm))<|Rx Y (Zf (ov Y) (ov Y) (Zp Qh Zl) Y Y Y (Zt (Ze Zl) Zl) (Zb ZaL)<|ZC<|Eq.trans Zl<|Eq.symm Zl)<|Za<|K7 0 2 3 5 18 19 20 Y<|Tr<|Rq Y (Zd (ov Y) Y Y ZbM)<|Rq Y (Zi (ov Y) Y Y Y tS3<|Zj Zfj)<|Rq Y (Zd (ov Y) Y Y ZbM)<|Rq Y (Zi (ov Y) Y Y Y tS3<|Zj Zfj)<|R2 ZZ Y<|Rq Y (Zd (ov Y) Y Y ZbM)<|Rx Y (Zf (ov Y) (ov Y) (Zg tS3) Y Y Y (Zt Zfj Y) (Zb Y) Zkv)<|Za<|K7 0 2 3 5 18 19 20 Y<|Tr<|Rq Y (Zd (ov Y) Y Y Zgp)<|Rq Y (Zi (ov Y) Y Y Y tS4<|Zj ZkS)<|Rm Y<|Rq Y (.guarded (out2.Conflict == false) Y Y Y Y fun h => Zd (ov Y) Y Y Zgp)<|Rq Y (.guarded (out2.Conflict == false) Y Y Y Y fun h => Zi (ow Y h) Y Y Y tS4<|Zj ZkS)<|Rq Y (Zaj (ov Y) fun hp=>ow Y<|gF hp)<|Rq Y (Zd (ov Y) Y Y Zgp)<|Rx Y (Zf (ov Y) (ov Y) (Zg tS4) Y Y Y (Zt ZkS Y) (Zb Y) ZpJ)<|Za<|Zr<|K7 0 2 3 5 18 19 20 Y<|Tr<|Rq Y (Zd (ov Y) Y Y Zcm)<|Rq Y (Zi (ov Y) Y Y Y tS4<|Zj ZeC)<|R1 Jn Y<|Za<|K8 0 2 3 5 18 19 20 39 Y<|If h Y (fun h=>?_) fun h=>?_
    ·
     exact ZL<|⟨_, h, ES [some 0, some 1]⟩
    ·
     refine Zn<|I1 (fun Conflict=>⟨[(0, .sl 74 (List.map R74 l)), (2, .ptr 0 1 0 0), (3, .ptr 1 1 0 0), (5, .ptr 2 1 0 0), (18, .sl 74 (List.map R74 l)), (19, .int .i64 (l.length : Int)), (20, .int .i64 i)], [some ⟨74, [(.int .i64 0) :: ((List.map C47 (Vector.replicate 64 0).toList) ++ (((List.map C3 (Vector.replicate 64 0).toList) ++ ((.bool false) :: (.int .i64 0) :: (.bool false) :: []))))]⟩, some ⟨74, [(.int .i64 out2.Number) :: ((List.map C47 out2.Frame.toList) ++ (((List.map C3 out2.States.toList) ++ ((.bool out2.Sound) :: (.int .i64 (i64 (out2.Copies + x2.Copies))) :: (.bool Conflict) :: []))))]⟩, some ⟨74, [(.int .i64 x2.Number) :: ((List.map C47 x2.Frame.toList) ++ (((List.map C3 x2.States.toList) ++ ((.bool x2.Sound) :: (.int .i64 x2.Copies) :: (.bool x2.Conflict) :: []))))]⟩]⟩) h (fun h=>?_) fun Conflict h=>?_
     ·
      refine K7 0 2 3 5 18 19 20 Y<|Tr<|Rq Y (Zd (ov Y) Y Y Zcm)<|Rq Y (Zi (ov Y) Y Y Y tS4<|Zj ZeC)<|Rm Y<|Rq Y (.guarded (out2.Sound == true) Y Y Y Y fun h => Zd (ov Y) Y Y Xb)<|Rq Y (.guarded (out2.Sound == true) Y Y Y Y fun h => Zy (ow Y h) Y Y Y Z3 (Zm JL) arL (hns := (nsM fun _ => Y)))<|Rq Y (.guarded (out2.Sound == true) Y Y Y Y fun h => Zd (ov Y) Y Y Xb)<|Rq Y (.guarded (out2.Sound == true) Y Y Y Y fun h => Zy (ow Y h) Y Y Y Z3 (Zm JL) arL (hns := (nsM fun _ => Y)))<|Rq Y (.guarded (out2.Sound == true) Y Y Y Y fun h => ZmZ Zoj (ow Y h) (ow Y h) (.aggB<|arD fun _ => Y) (.aggB<|arD fun _ => Y) (fkV fun _ => Y) (fkV fun _ => Y)<|eqV fun _ _ => Y)<|Rq Y (QU (ov Y) fun hp=>ow Y<|gT hp)<|Za<|K8 0 2 3 5 18 19 20 48 Y<|If h Y (fun h=>?_) fun h=>?_
      ·
       exact K7 0 2 3 5 18 19 20 Y<|Zu<|Rq Y (Zd (ov Y) Y Y Zgp)<|Rx Y (Zf (ov Y) (ov Y) (Zg tS4) Y Y Y (Zt ZkS Y) (Zb Y) ZpJ)<|Za<|⟨_, h, ES [some 0, some 1, some 2]⟩
      ·
       exact Zn<|⟨_, h, ES [some 0, some 1, some 2]⟩
     ·
      refine Td md0<|Dq 2 Y (Zd (ov Y) Y Y Zcm)<|Dw 0 3 Y (Zd (ov Y) Y Y Xb) (Zf (ov Y) (ov Y) (Zg tS4) Y Y Y (Zt ZeC Y) (Zb Y) Zjq) ?_ ?_
      ·
       refine Dw 1 3 Y (Zy (ov Y) Y Y Y Z3 (Zm JL) arL (hns := (nsM fun _ => Y))) (Zf (ov Y) (ov Y) (Zg tS4) Y Y Y (Zt ZeC Y) (Zb Y) Zjq) ?_ ?_
       ·
        refine Do 3 Y (Zf (ov Y) (ov Y) (Zg tS4) Y Y Y (Zt ZeC Y) (Zb Y) Zjq)<|Dq 4 Y (Zd (ov Y) Y Y Xb)<|Do 5 Y (Zf (ov Y) (ov Y) (Zp Z3 arL) Y Y Y (Zt JL arL) (Zb<|arC fun _ => Y) Zgc)<|Dd<|K7 0 2 3 5 18 19 20 Y<|Tr<|Rq Y (Zd (ov Y) Y Y QJ)<|Rq Y (Zy (ov Y) Y Y Y Zhv (Zm Xz) arL (hns := (nsM fun _ => Y)))<|Rm Y<|Za<|Zk<|?_
        obtain ⟨r2, hl2, ho2⟩ := QP h
        refine L2 (fun States i2=>⟨[(0, .sl 74 (List.map R74 l)), (2, .ptr 0 1 0 0), (3, .ptr 1 1 0 0), (18, .sl 74 (List.map R74 l)), (19, .int .i64 (l.length : Int)), (20, .int .i64 i), (55, .agg (List.map C3 x2.States.toList)), (56, .int .i64 i2)], [some ⟨74, [(.int .i64 0) :: ((List.map C47 (Vector.replicate 64 0).toList) ++ (((List.map C3 (Vector.replicate 64 0).toList) ++ ((.bool false) :: (.int .i64 0) :: (.bool false) :: []))))]⟩, some ⟨74, [(.int .i64 out2.Number) :: ((List.map C47 x2.Frame.toList) ++ (((List.map C3 States.toList) ++ ((.bool true) :: (.int .i64 (i64 (out2.Copies + x2.Copies))) :: (.bool Conflict) :: []))))]⟩]⟩) hl2 (ES [some 0, some 1]) fun n2 States i2 h=>?_
        unfold XT at h
        refine Tr<|R2 ZX Y<|Za<|Zr<|If h Y (fun h=>?_) fun h=>?_
        ·
         exact Zn<|Zr<|Zk<|K8 0 2 3 18 19 20 55 56 Y<|Tr<|Rm Y<|bE h fun x3 h_x3 h=>Rq Y (Jr (ov Y) (ov Y) ZaO tS3 h_x3)<|Ra Y<|Ra Y<|Za<|K10 0 2 3 6 7 18 19 20 55 56 Y<|Zu<|Rm Y<|Rm Y<|Rq Y (Zd (ov Y) Y Y QJ)<|bE h fun x4 h_x4 h=>Rq Y (ZY (ov Y) (ov Y) ZaO Y Y h_x4)<|Rq Y (Zi (ov Y) Y Y Y tS3<|Zj<|Z1 (o := 65) (o' := (i2.toNat * 1)) Xz<|ZN h_x4)<|Rm Y<|Rq Y (Zjj (ov Y) (ov Y) Y)<|Rq Y (Zd (ov Y) Y Y QJ)<|bE h fun x5 h_x5 h=>Rq Y (ZY (ov Y) (ov Y) ZaO Y Y h_x5)<|Rx Y (Zf (ov Y) (ov Y) (Zg tS3) Y Y Y (Zt (Z1 (o := 65) (o' := (i2.toNat * 1)) Xz<|ZN h_x5) Y) (Zb Y)<|Xk (o := 65) (o' := (i2.toNat * 1)) Xz (ZN h_x5) Y (Jc h_x5 (x := (max x4 x3))) ZeY)<|Za<|K8 0 2 3 18 19 20 55 56 Y<|Zu<|R2 ZZ Y<|Rm Y<|Za<|⟨_, h, ES [some 0, some 1]⟩
        ·
         refine ZL<|?_
         replace h := lx h ▸ ho2
         exact ⟨_, h, ES [some 0, some 1]⟩
       ·
        refine Dq 1 Y (Zy (ov Y) Y Y Y Z3 (Zm JL) arL (hns := (nsM fun _ => Y)))<|Dq 4 Y (Zd (ov Y) Y Y Xb)<|Do 5 Y (Zf (ov Y) (ov Y) (Zp Z3 arL) Y Y Y (Zt JL arL) (Zb<|arC fun _ => Y) Zgc)<|Dd<|K7 0 2 3 5 18 19 20 Y<|Tr<|Rq Y (Zd (ov Y) Y Y QJ)<|Rq Y (Zy (ov Y) Y Y Y Zhv (Zm Xz) arL (hns := (nsM fun _ => Y)))<|Rm Y<|Za<|Zk<|?_
        obtain ⟨r2, hl2, ho2⟩ := QP h
        refine L2 (fun States i2=>⟨[(0, .sl 74 (List.map R74 l)), (2, .ptr 0 1 0 0), (3, .ptr 1 1 0 0), (18, .sl 74 (List.map R74 l)), (19, .int .i64 (l.length : Int)), (20, .int .i64 i), (55, .agg (List.map C3 x2.States.toList)), (56, .int .i64 i2)], [some ⟨74, [(.int .i64 0) :: ((List.map C47 (Vector.replicate 64 0).toList) ++ (((List.map C3 (Vector.replicate 64 0).toList) ++ ((.bool false) :: (.int .i64 0) :: (.bool false) :: []))))]⟩, some ⟨74, [(.int .i64 out2.Number) :: ((List.map C47 x2.Frame.toList) ++ (((List.map C3 States.toList) ++ ((.bool true) :: (.int .i64 (i64 (out2.Copies + x2.Copies))) :: (.bool Conflict) :: []))))]⟩]⟩) hl2 (ES [some 0, some 1]) fun n2 States i2 h=>?_
        unfold XT at h
        refine Tr<|R2 ZX Y<|Za<|Zr<|If h Y (fun h=>?_) fun h=>?_
        ·
         exact Zn<|Zr<|Zk<|K8 0 2 3 18 19 20 55 56 Y<|Tr<|Rm Y<|bE h fun x3 h_x3 h=>Rq Y (Jr (ov Y) (ov Y) ZaO tS3 h_x3)<|Ra Y<|Ra Y<|Za<|K10 0 2 3 6 7 18 19 20 55 56 Y<|Zu<|Rm Y<|Rm Y<|Rq Y (Zd (ov Y) Y Y QJ)<|bE h fun x4 h_x4 h=>Rq Y (ZY (ov Y) (ov Y) ZaO Y Y h_x4)<|Rq Y (Zi (ov Y) Y Y Y tS3<|Zj<|Z1 (o := 65) (o' := (i2.toNat * 1)) Xz<|ZN h_x4)<|Rm Y<|Rq Y (Zjj (ov Y) (ov Y) Y)<|Rq Y (Zd (ov Y) Y Y QJ)<|bE h fun x5 h_x5 h=>Rq Y (ZY (ov Y) (ov Y) ZaO Y Y h_x5)<|Rx Y (Zf (ov Y) (ov Y) (Zg tS3) Y Y Y (Zt (Z1 (o := 65) (o' := (i2.toNat * 1)) Xz<|ZN h_x5) Y) (Zb Y)<|Xk (o := 65) (o' := (i2.toNat * 1)) Xz (ZN h_x5) Y (Jc h_x5 (x := (max x4 x3))) ZeY)<|Za<|K8 0 2 3 18 19 20 55 56 Y<|Zu<|R2 ZZ Y<|Rm Y<|Za<|⟨_, h, ES [some 0, some 1]⟩
        ·
         refine ZL<|?_
         replace h := lx h ▸ ho2
         exact ⟨_, h, ES [some 0, some 1]⟩
      ·
       refine Dq 0 Y (Zd (ov Y) Y Y Xb)<|Dq 1 Y (Zy (ov Y) Y Y Y Z3 (Zm JL) arL (hns := (nsM fun _ => Y)))<|Dq 4 Y (Zd (ov Y) Y Y Xb)<|Do 5 Y (Zf (ov Y) (ov Y) (Zp Z3 arL) Y Y Y (Zt JL arL) (Zb<|arC fun _ => Y) Zgc)<|Dd<|K7 0 2 3 5 18 19 20 Y<|Tr<|Rq Y (Zd (ov Y) Y Y QJ)<|Rq Y (Zy (ov Y) Y Y Y Zhv (Zm Xz) arL (hns := (nsM fun _ => Y)))<|Rm Y<|Za<|Zk<|?_
       obtain ⟨r2, hl2, ho2⟩ := QP h
       refine L2 (fun States i2=>⟨[(0, .sl 74 (List.map R74 l)), (2, .ptr 0 1 0 0), (3, .ptr 1 1 0 0), (18, .sl 74 (List.map R74 l)), (19, .int .i64 (l.length : Int)), (20, .int .i64 i), (55, .agg (List.map C3 x2.States.toList)), (56, .int .i64 i2)], [some ⟨74, [(.int .i64 0) :: ((List.map C47 (Vector.replicate 64 0).toList) ++ (((List.map C3 (Vector.replicate 64 0).toList) ++ ((.bool false) :: (.int .i64 0) :: (.bool false) :: []))))]⟩, some ⟨74, [(.int .i64 out2.Number) :: ((List.map C47 x2.Frame.toList) ++ (((List.map C3 States.toList) ++ ((.bool true) :: (.int .i64 (i64 (out2.Copies + x2.Copies))) :: (.bool Conflict) :: []))))]⟩]⟩) hl2 (ES [some 0, some 1]) fun n2 States i2 h=>?_
       unfold XT at h
       refine Tr<|R2 ZX Y<|Za<|Zr<|If h Y (fun h=>?_) fun h=>?_
       ·
        exact Zn<|Zr<|Zk<|K8 0 2 3 18 19 20 55 56 Y<|Tr<|Rm Y<|bE h fun x3 h_x3 h=>Rq Y (Jr (ov Y) (ov Y) ZaO tS3 h_x3)<|Ra Y<|Ra Y<|Za<|K10 0 2 3 6 7 18 19 20 55 56 Y<|Zu<|Rm Y<|Rm Y<|Rq Y (Zd (ov Y) Y Y QJ)<|bE h fun x4 h_x4 h=>Rq Y (ZY (ov Y) (ov Y) ZaO Y Y h_x4)<|Rq Y (Zi (ov Y) Y Y Y tS3<|Zj<|Z1 (o := 65) (o' := (i2.toNat * 1)) Xz<|ZN h_x4)<|Rm Y<|Rq Y (Zjj (ov Y) (ov Y) Y)<|Rq Y (Zd (ov Y) Y Y QJ)<|bE h fun x5 h_x5 h=>Rq Y (ZY (ov Y) (ov Y) ZaO Y Y h_x5)<|Rx Y (Zf (ov Y) (ov Y) (Zg tS3) Y Y Y (Zt (Z1 (o := 65) (o' := (i2.toNat * 1)) Xz<|ZN h_x5) Y) (Zb Y)<|Xk (o := 65) (o' := (i2.toNat * 1)) Xz (ZN h_x5) Y (Jc h_x5 (x := (max x4 x3))) ZeY)<|Za<|K8 0 2 3 18 19 20 55 56 Y<|Zu<|R2 ZZ Y<|Rm Y<|Za<|⟨_, h, ES [some 0, some 1]⟩
       ·
        refine ZL<|?_
        replace h := lx h ▸ ho2
        exact ⟨_, h, ES [some 0, some 1]⟩
   ·
    exact Zu<|R2 ZZ Y<|Rm Y<|Za<|⟨_, h, ES [some 0, some 1]⟩
  ·
   refine ZL<|?_
   replace h := lx h ▸ ho1
   exact ⟨_, h, ES [some 0, some 1]⟩
 ·
  refine Zr<|Tr<|Rq Y (Zd (ov Y) Y Y Zgp)<|Rq Y (Zi (ov Y) Y Y Y tS4<|Zj ZkS)<|Za<|K4 0 2 3 72 Y<|If h Y (fun h=>?_) fun h=>?_
  ·
   refine K2 2 3 Y<|Tr<|Rq Y (Zd (ov Y) Y Y Qg)<|Rq Y (Zi (ov Y) Y Y Y tS3<|Zj at8)<|Rq Y (Zd (ov Y) Y Y ZbM)<|Rq Y (Zi (ov Y) Y Y Y tS3<|Zj Zfj)<|Rq Y (ZaR (zr := (.int .i64 0) :: ((List.map C47 (Vector.replicate 64 0).toList) ++ (((List.map C3 (Vector.replicate 64 0).toList) ++ ((.bool false) :: (.int .i64 0) :: (.bool false) :: []))))) Zhi Zhg ZbS (by kernel_rfl) (.cons (cvs (ov Y)<|ZU Y)<|.cons (cvs (ov Y)<|ZU Y)<|.cons (cvs (ov Y)<|ZU Y) .nil)<|Xf Y Y at8 pt9<|Xf Y Y Zfj Zkv<|Xf Y Y ZkS ZpJ ZdO)<|Rx Y (Zf (ov Y) (ov Y) (Zp Qh Zl) Y Y Y (Zt (Ze Zl) Zl) (Zb ZaL)<|ZC<|Eq.trans Zl<|Eq.symm Zl)<|Za<|?_
   obtain rfl := rt h
   exact Zz (ZP Y (.one<|.agg Y Y Y Y Qh (Zm<|Ze Zl) Zl (pwB Qz) (hns := Jd)))
  ·
   refine Zn<|Zr<|K3 0 2 3 Y<|Tr<|Rq Y (Zd (ov Y) Y Y Zcm)<|Rq Y (Zi (ov Y) Y Y Y tS4<|Zj ZeC)<|Za<|K4 0 2 3 79 Y<|If h Y (fun h=>?_) fun h=>?_
   ·
    refine Zr<|K2 2 3 Y<|Tr<|Rq Y (Zd (ov Y) Y Y ZbM)<|Rq Y (Zi (ov Y) Y Y Y tS3<|Zj Zfj)<|R2 QD Y<|Rm Y<|Rq Y (.guarded ((decide (out.Copies = 0)) == true) Y Y Y Y fun h => Zy (ov Y) Y Y Y Qh (Zm<|Ze Zl) Zl (hns := Jd))<|bE h fun y h_y h=>Rq Y (.guarded ((decide (out.Copies = 0)) == true) Y Y Y Y fun h => Zq (Zjs<|gdT h_y h)<|.cons (ow Y h) (.aggB Qz) .nil)<|Rq Y (QU (ov Y) fun hp=>ow Y<|gT hp)<|Za<|K3 2 3 86 Y<|If h Y (fun h=>?_) fun h=>?_
    ·
     refine K2 2 3 Y<|Zu<|Rq Y (Zd (ov Y) Y Y ZbM)<|Rx Y (Zf (ov Y) (ov Y) (Zg tS3) Y Y Y (Zt Zfj Y) (Zb Y) Zkv)<|Za<|K2 2 3 Y<|Tr<|Rq Y (Zy (ov Y) Y Y Y Qh (Zm<|Ze Zl) Zl (hns := Jd))<|Rx Y (Zf (ov Y) (ov Y) (Zp Qh Zl) Y Y Y (Zt (Ze Zl) Zl) (Zb ZaL)<|ZC<|Eq.trans Zl<|Eq.symm Zl)<|Za<|?_
     obtain rfl := rt h
     exact Zz (ZP Y (.one<|.agg Y Y Y Y Qh (Zm<|Ze Zl) Zl (pwB Qz) (hns := Jd)))
    ·
     refine Zn<|K2 2 3 Y<|Tr<|Rq Y (Zy (ov Y) Y Y Y Qh (Zm<|Ze Zl) Zl (hns := Jd))<|Rx Y (Zf (ov Y) (ov Y) (Zp Qh Zl) Y Y Y (Zt (Ze Zl) Zl) (Zb ZaL)<|ZC<|Eq.trans Zl<|Eq.symm Zl)<|Za<|?_
     obtain rfl := rt h
     exact Zz (ZP Y (.one<|.agg Y Y Y Y Qh (Zm<|Ze Zl) Zl (pwB Qz) (hns := Jd)))
   ·
    refine Zn<|K3 0 2 3 Y<|Tr<|Ra Y<|Za<|I2 (fun out4 whole=>⟨[(2, .ptr 0 1 0 0), (3, .ptr 1 1 0 0), (8, .bool whole)], [some ⟨74, [(.int .i64 0) :: ((List.map C47 (Vector.replicate 64 0).toList) ++ (((List.map C3 (Vector.replicate 64 0).toList) ++ ((.bool false) :: (.int .i64 0) :: (.bool false) :: []))))]⟩, some ⟨74, [(.int .i64 out4.Number) :: ((List.map C47 out4.Frame.toList) ++ (((List.map C3 out4.States.toList) ++ ((.bool out4.Sound) :: (.int .i64 out4.Copies) :: (.bool out4.Conflict) :: []))))]⟩]⟩) h (fun h=>?_) fun out4 whole h=>?_
    ·
     refine Tr<|Rm Y<|Za<|Zk<|?_
     obtain ⟨r3, hl3, ho3⟩ := QP h
     refine L3 (fun out5 whole2 i3=>⟨[(0, .sl 74 (List.map R74 l)), (2, .ptr 0 1 0 0), (3, .ptr 1 1 0 0), (8, .bool whole2), (89, .int .i64 i3)], [some ⟨74, [(.int .i64 0) :: ((List.map C47 (Vector.replicate 64 0).toList) ++ (((List.map C3 (Vector.replicate 64 0).toList) ++ ((.bool false) :: (.int .i64 0) :: (.bool false) :: []))))]⟩, some ⟨74, [(.int .i64 out5.Number) :: ((List.map C47 out5.Frame.toList) ++ (((List.map C3 out5.States.toList) ++ ((.bool out5.Sound) :: (.int .i64 out5.Copies) :: (.bool out5.Conflict) :: []))))]⟩]⟩) hl3 (ES [some 0, some 1]) fun n3 out5 whole2 i3 h=>?_
     unfold ZaX at h
     refine Tr<|R2 ZX Y<|Za<|Zr<|If h Y (fun h=>?_) fun h=>?_
     ·
      refine Zn<|Zr<|Zk<|K5 0 2 3 8 89 Y<|Tr<|Rm Y<|Ra Y<|Za<|K6 0 2 3 8 9 89 Y<|Tr<|Rm Y<|Rm Y<|bE h fun y2 h_y2 h=>Rq Y (Zq (Zky h_y2)<|.cons (ov Y) (.b Y)<|.cons (ov Y) (.b Y) .nil)<|Rm Y<|Rq Y (Zo (ov Y) Y)<|Rq Y (Zo (ov Y) Y)<|Ra Y<|Ra Y<|Za<|K8 0 2 3 8 9 10 11 89 Y<|Tr<|Rm Y<|Rm Y<|Rq Y (.guarded (whole2 == true) Y Y Y Y fun h => Zc<|ov Y)<|Rq Y (QU (ov Y) fun hp=>ow Y<|gT hp)<|Ra Y<|Za<|K8 0 2 3 8 9 10 11 89 Y<|Tr<|Rm Y<|Za<|K8 0 2 3 8 9 10 89 102 Y<|If h Y (fun h=>?_) fun h=>?_
      ·
       exact K7 0 2 3 8 9 10 89 Y<|Zu<|Rm Y<|Rm Y<|Rm Y<|Rq Y (Zd (ov Y) Y Y Xb)<|bE h fun x6 h_x6 h=>Rq Y (ZY (ov Y) (ov Y) QL Y Y h_x6)<|Rx Y (Zf (ov Y) (ov Y) (Zg QR) Y Y Y (Zt (Z1 (o := 1) (o' := (i3.toNat * 1)) JL<|ZN h_x6) Y) (Zb Y)<|Xk (o := 1) (o' := (i3.toNat * 1)) JL (ZN h_x6) Y (Jc h_x6 (x := y2.1)) Zgc)<|Rq Y (Zd (ov Y) Y Y QJ)<|bE h fun x7 h_x7 h=>Rq Y (ZY (ov Y) (ov Y) ZaO Y Y h_x7)<|Rx Y (Zf (ov Y) (ov Y) (Zg tS3) Y Y Y (Zt (Z1 (o := 65) (o' := (i3.toNat * 1)) Xz<|ZN h_x7) Y) (Zb Y)<|Xk (o := 65) (o' := (i3.toNat * 1)) Xz (ZN h_x7) Y (Jc h_x7 (x := 1)) ZeY)<|Za<|K5 0 2 3 8 89 Y<|Zu<|R2 ZZ Y<|Rm Y<|Za<|⟨_, h, ES [some 0, some 1]⟩
      ·
       exact Zn<|K5 0 2 3 8 89 Y<|Zu<|R2 ZZ Y<|Rm Y<|Za<|⟨_, h, ES [some 0, some 1]⟩
     ·
      refine ZL<|?_
      replace h := lx h ▸ ho3
      exact ⟨_, h, ES [some 0, some 1]⟩
    ·
     refine Zr<|Td md0<|D1 0 Zc Y<|D1 1 Zc Y<|Dq 2 Y (.guarded (whole == true) Y Y Y Y fun h => Zd (ov Y) Y Y Xb)<|Dq 3 Y (.guarded (whole == true) Y Y Y Y fun h => Zy (ow Y h) Y Y Y Z3 (Zm JL) arL (hns := (nsM fun _ => Y)))<|bE h fun y3 h_y3 h=>Dq 4 Y (.guarded (whole == true) Y Y Y Y fun h => Zq (ZeQ<|gdT h_y3 h)<|.cons (ow Y h) (.aggB<|arD fun _ => Y) .nil)<|Dq 5 Y (QU (ov Y) fun hp=>ow Y<|gT hp)<|D1 6 Zc Y<|Dq 7 Y (.guarded ((whole && y3) == true) Y Y Y Y fun h => Zd (ov Y) Y Y Xb)<|Dq 8 Y (.guarded ((whole && y3) == true) Y Y Y Y fun h => Zy (ow Y h) Y Y Y Z3 (Zm JL) arL (hns := (nsM fun _ => Y)))<|bE h fun y4 h_y4 h=>Dq 9 Y (.guarded ((whole && y3) == true) Y Y Y Y fun h => Zq (Zaq<|gdT h_y4 h)<|.cons (ow Y h) (.aggB<|arD fun _ => Y) .nil)<|Dq 10 Y (.guarded ((whole && y3) == true) Y Y Y Y fun h => Zd (ov Y) Y Y Qg)<|Dq 11 Y (.guarded ((whole && y3) == true) Y Y Y Y fun h => Zi (ow Y h) Y Y Y tS3<|Zj at8)<|Dq 12 Y (.guarded ((whole && y3) == true) Y Y Y Y fun h => QD (ow Y h)<|ow Y h)<|Dq 13 Y (QU (ov Y) fun hp=>ow Y<|gT hp)<|Dd<|K3 2 3 124 Y<|If h Y (fun h=>?_) fun h=>?_
     ·
      refine I1 (fun States2=>⟨[(2, .ptr 0 1 0 0), (3, .ptr 1 1 0 0)], [some ⟨74, [(.int .i64 0) :: ((List.map C47 (Vector.replicate 64 0).toList) ++ (((List.map C3 (Vector.replicate 64 0).toList) ++ ((.bool false) :: (.int .i64 0) :: (.bool false) :: []))))]⟩, some ⟨74, [(.int .i64 out4.Number) :: ((List.map C47 out4.Frame.toList) ++ (((List.map C3 States2.toList) ++ ((.bool out4.Sound) :: (.int .i64 out4.Copies) :: (.bool out4.Conflict) :: []))))]⟩]⟩) h (fun h=>?_) fun States2 h=>?_
      ·
       refine K2 2 3 Y<|Tr<|Rm Y<|Za<|Zk<|?_
       obtain ⟨r4, hl4, ho4⟩ := QP h
       refine L2 (fun States3 i4=>⟨[(2, .ptr 0 1 0 0), (3, .ptr 1 1 0 0), (125, .int .i64 i4)], [some ⟨74, [(.int .i64 0) :: ((List.map C47 (Vector.replicate 64 0).toList) ++ (((List.map C3 (Vector.replicate 64 0).toList) ++ ((.bool false) :: (.int .i64 0) :: (.bool false) :: []))))]⟩, some ⟨74, [(.int .i64 out4.Number) :: ((List.map C47 out4.Frame.toList) ++ (((List.map C3 States3.toList) ++ ((.bool out4.Sound) :: (.int .i64 out4.Copies) :: (.bool out4.Conflict) :: []))))]⟩]⟩) hl4 (ES [some 0, some 1]) fun n4 States3 i4 h=>?_
       unfold Zb6 at h
       refine Tr<|R2 ZX Y<|Za<|Zr<|If h Y (fun h=>?_) fun h=>?_
       ·
        exact Zn<|Zr<|Zk<|K3 2 3 125 Y<|Tr<|Rm Y<|Ra Y<|Za<|K4 2 3 12 125 Y<|Zu<|Rm Y<|Rq Y (Zd (ov Y) Y Y QJ)<|bE h fun x8 h_x8 h=>Rq Y (ZY (ov Y) (ov Y) ZaO Y Y h_x8)<|Rx Y (Zf (ov Y) (ov Y) (Zg tS3) Y Y Y (Zt (Z1 (o := 65) (o' := (i4.toNat * 1)) Xz<|ZN h_x8) Y) (Zb Y)<|Xk (o := 65) (o' := (i4.toNat * 1)) Xz (ZN h_x8) Y (Jc h_x8 (x := 3)) ZeY)<|Za<|K3 2 3 125 Y<|Zu<|R2 ZZ Y<|Rm Y<|Za<|⟨_, h, ES [some 0, some 1]⟩
       ·
        refine ZL<|?_
        replace h := lx h ▸ ho4
        exact ⟨_, h, ES [some 0, some 1]⟩
      ·
       refine Zu<|Rq Y (Zd (ov Y) Y Y Zcm)<|Rx Y (Zf (ov Y) (ov Y) (Zg tS4) Y Y Y (Zt ZeC Y) (Zb Y) Zjq)<|Rq Y (Zd (ov Y) Y Y ZbM)<|Rx Y (Zf (ov Y) (ov Y) (Zg tS3) Y Y Y (Zt Zfj Y) (Zb Y) Zkv)<|Za<|K2 2 3 Y<|Tr<|Rq Y (Zy (ov Y) Y Y Y Qh (Zm<|Ze Zl) Zl (hns := Jd))<|Rx Y (Zf (ov Y) (ov Y) (Zp Qh Zl) Y Y Y (Zt (Ze Zl) Zl) (Zb ZaL)<|ZC<|Eq.trans Zl<|Eq.symm Zl)<|Za<|?_
       obtain rfl := rt h
       exact Zz (ZP Y (.one<|.agg Y Y Y Y Qh (Zm<|Ze Zl) Zl (pwB Qz) (hns := Jd)))
     ·
      refine Zn<|K2 2 3 Y<|Tr<|Rq Y (Zy (ov Y) Y Y Y Qh (Zm<|Ze Zl) Zl (hns := Jd))<|Rx Y (Zf (ov Y) (ov Y) (Zp Qh Zl) Y Y Y (Zt (Ze Zl) Zl) (Zb ZaL)<|ZC<|Eq.trans Zl<|Eq.symm Zl)<|Za<|?_
      obtain rfl := rt h
      exact Zz (ZP Y (.one<|.agg Y Y Y Y Qh (Zm<|Ze Zl) Zl (pwB Qz) (hns := Jd)))
end Go.Proofs.YthdiljjohpamnaaGreatDoorRR
