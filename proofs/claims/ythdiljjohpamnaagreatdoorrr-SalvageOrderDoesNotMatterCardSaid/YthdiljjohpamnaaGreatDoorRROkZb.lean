/- A text of the proof: a verified executor of the program form, or the contracts of the functions that the law reaches. -/
import Derived.Test.YthdiljjohpamnaaGreatDoorRROkZa
set_option linter.all false
namespace Go.Proofs.YthdiljjohpamnaaGreatDoorRR
open Go Go.Vx
set_option maxRecDepth 10000
set_option maxHeartbeats 1000000
set_option linter.unusedVariables false
theorem Zc6 {state : Int} {r : (Vector Int 64)} (h : XD state = some r) :
 CSpec Tryz.prog gl0 106 [.int .i64 state] (.agg (List.map C3 r.toList)) := by
 unfold XD at h
 replace h := Qj h
 refine So Tryz.func106 Y fun w0 A=>Tr<|Rx Y (ZO (row := (List.map C3 (Vector.replicate 64 0).toList)) 0 Y Zrr Y tZ_72)<|Za<|Tr<|Rx Y (ZO (row := (List.map C3 (Vector.replicate 64 0).toList)) 1 Y Zrr Y tZ_72)<|Za<|I1 (fun out=>⟨[(2, .ptr 0 1 0 0), (3, .ptr 1 1 0 0)], [some ⟨72, [(List.map C3 (Vector.replicate 64 0).toList)]⟩, some ⟨72, [(List.map C3 out.toList)]⟩]⟩) h (fun h=>?_) fun out h=>?_
 ·
  refine Tr<|Rm Y<|Za<|Zk<|?_
  obtain ⟨r1, hl1, ho1⟩ := QP h
  refine L2 (fun out2 i=>⟨[(0, .int .i64 state), (2, .ptr 0 1 0 0), (3, .ptr 1 1 0 0), (5, .int .i64 i)], [some ⟨72, [(List.map C3 (Vector.replicate 64 0).toList)]⟩, some ⟨72, [(List.map C3 out2.toList)]⟩]⟩) hl1 (ES [some 0, some 1]) fun n1 out2 i h=>?_
  unfold XH at h
  refine Tr<|R2 ZX Y<|Za<|Zr<|If h Y (fun h=>?_) fun h=>?_
  ·
   exact Zn<|Zr<|Zk<|K4 0 2 3 5 Y<|Tr<|Rm Y<|Ra Y<|Za<|K5 0 2 3 4 5 Y<|Zu<|Rm Y<|Rm Y<|bE h fun x h_x h=>Rq Y (ZY (ov Y) (ov Y) ZaO Y Y h_x)<|Rx Y (Zf (ov Y) (ov Y) (Zg tS3) Y Y Y (arB h_x) (Zb Y)<|arS h_x)<|Za<|K4 0 2 3 5 Y<|Zu<|R2 ZZ Y<|Rm Y<|Za<|⟨_, h, ES [some 0, some 1]⟩
  ·
   refine ZL<|?_
   replace h := lx h ▸ ho1
   exact ⟨_, h, ES [some 0, some 1]⟩
 ·
  refine Tr<|Rq Y (Zy (ov Y) Y Y Y Zhv (Zm<|Ze arL) arL (hns := (nsM fun _ => Y)))<|Rx Y (Zf (ov Y) (ov Y) (Zp Zhv arL) Y Y Y (Zt (Ze arL) arL) (Zb<|arC fun _ => Y)<|ZC<|Eq.trans arL<|Eq.symm arL)<|Za<|?_
  obtain rfl := rt h
  exact Zz (ZP Y (.one<|.agg Y Y Y Y Zhv (Zm<|Ze arL) arL (pwB<|arD fun _ => Y) (hns := (nsM fun _ => Y))))
theorem Jy {x : List api_Found} {target : Int} {cmp : api_Found → Int → Option Int} {r : Int × Bool} {cmp_f : FuncId} {cmp_c : List AV} (cmp_d : cmp_c.all datB = true) (cmp_h : ∀ (z0 : api_Found) (z1 : Int) z, cmp z0 z1 = some z → CSpec Tryz.prog gl0 cmp_f ([.agg ((.int .i64 z0.At) :: ((List.map C47 z0.Frame.toList) ++ ([]))), .int .i64 z1] ++ cmp_c) (.int .i64 z)) (h : ZM x target cmp = some r) :
 CSpec Tryz.prog gl0 195 [.sl 158 (List.map R158 x), .int .i64 target, .fn cmp_f cmp_c] (.tuple [.int .i64 r.1, .bool r.2]) := by
 unfold ZM at h
 replace h := Qj h
 refine So Tryz.func195 Y fun w0 A=>Tr<|Ra Y<|Ra Y<|Za<|K3 0 1 2 Y<|Tr<|Rm Y<|Rl tZ_158 QI Y<|Ra Y<|Za<|K4 0 1 2 8 Y<|Tr<|Rm Y<|Ra Y<|Ra Y<|Za<|I1 (fun i=>⟨[(0, .sl 158 (List.map R158 x)), (1, .int .i64 target), (2, .fn cmp_f cmp_c), (8, .int .i64 (x.length : Int)), (9, .int .i64 i)], []⟩) h (fun h=>?_) fun i h=>?_
 ·
  refine Zk<|?_
  obtain ⟨r1, hl1, ho1⟩ := QP h
  refine L2 (fun i2 j=>⟨[(0, .sl 158 (List.map R158 x)), (1, .int .i64 target), (2, .fn cmp_f cmp_c), (8, .int .i64 (x.length : Int)), (9, .int .i64 i2), (10, .int .i64 j)], []⟩) hl1 (ES []<|sd 0 Y Y<|sd 1 Y Y<|sr 2 Y (rFn<|rld cmp_d)<|sd 8 Y Y<|sd 9 Y Y<|sd 10 Y Y sn) fun n1 i2 j h=>?_
  unfold ZK at h
  refine Zr<|Tr<|Rm Y<|Rm Y<|R2 ZX Y<|Za<|K7 0 1 2 8 9 10 17 Y<|If h Y (fun h=>?_) fun h=>?_
  ·
   refine Zn<|Zk<|K6 0 1 2 8 9 10 Y<|Tr<|Rm Y<|Rm Y<|R2 ZZ Y<|Rq Y (Qi (ov Y) tI3 Zqt Y)<|bE h fun q h_q h=>Rq Y (ZfF (ov Y) (ov Y) h_q)<|Rq Y (Qi (ov Y) Zqt tI3 Y)<|Ra Y<|Za<|K7 0 1 2 8 9 10 11 Y<|Tr<|Rm Y<|Rm Y<|Rm Y<|bE h fun x2 h_x2 h=>Rq Y (ZS (ov Y) (ov Y) QI h_x2)<|Rq Y (ZF (ov Y) ZbL (Zm<|Ze ln0) ln0)<|Rm Y<|bE h fun y h_y h=>Rq Y (ZjL (ov Y) cmp_d (cmp_h _ _ _ h_y)<|.cons (ov Y) (.aggB al1)<|.cons (ov Y) (.b Y) .nil)<|R2 ZX Y<|Za<|K8 0 1 2 8 9 10 11 31 Y<|If h Y (fun h=>?_) fun h=>?_
   ·
    exact K7 0 1 2 8 9 10 11 Y<|Zu<|Rm Y<|R2 ZZ Y<|Ra Y<|Za<|⟨_, h, ES []<|sd 0 Y Y<|sd 1 Y Y<|sr 2 Y (rFn<|rld cmp_d)<|sd 8 Y Y<|sd 9 Y Y<|sd 10 Y Y sn⟩
   ·
    exact K7 0 1 2 8 9 10 11 Y<|Zu<|Rm Y<|Ra Y<|Za<|⟨_, h, ES []<|sd 0 Y Y<|sd 1 Y Y<|sr 2 Y (rFn<|rld cmp_d)<|sd 8 Y Y<|sd 9 Y Y<|sd 10 Y Y sn⟩
  ·
   refine ZL<|?_
   replace h := lx h ▸ ho1
   exact ⟨_, h, ES []<|sd 0 Y Y<|sd 1 Y Y<|sr 2 Y (rFn<|rld cmp_d)<|sd 8 Y Y<|sd 9 Y Y sn⟩
 ·
  refine Tr<|Rm Y<|Rm Y<|Rm Y<|R2 ZX Y<|Rm Y<|Rq Y (.guarded ((decide (i < (x.length : Int))) == true) Y Y Y Y fun h => Zc<|ov Y)<|Rq Y (.guarded ((decide (i < (x.length : Int))) == true) Y Y Y Y fun h => Zc<|ov Y)<|Rq Y (.guarded ((decide (i < (x.length : Int))) == true) Y Y Y Y fun h => Zc<|ov Y)<|bE h fun x3 h_x3 h=>Rq Y (.guarded ((decide (i < (x.length : Int))) == true) Y Y Y Y fun h => ZS (ow Y h) (ow Y h) QI<|gdT h_x3 h)<|Rq Y (.guarded ((decide (i < (x.length : Int))) == true) Y Y Y Y fun h => ZF (ow Y h) ZbL (Zm<|Ze ln0) ln0)<|Rq Y (.guarded ((decide (i < (x.length : Int))) == true) Y Y Y Y fun h => Zc<|ov Y)<|bE h fun y2 h_y2 h=>Rq Y (.guarded ((decide (i < (x.length : Int))) == true) Y Y Y Y fun h => ZjL (ow Y h) cmp_d (cmp_h _ _ _<|gdT h_y2 h)<|.cons (ow Y h) (.aggB al1)<|.cons (ow Y h) (.b Y) .nil)<|Rq Y (.guarded ((decide (i < (x.length : Int))) == true) Y Y Y Y fun h => QD (ow Y h)<|ov Y)<|Rq Y (QU (ov Y) fun hp=>ow Y<|gT hp)<|Ra Y<|Ra Y<|Za<|?_
  obtain rfl := rt h
  exact Zz (ZP Y (.two (rb Y)<|rb Y))
theorem Zd2 {c_ : api_Found} {at_ : Int} {r : Int} (h : Qe c_ at_ = some r) :
 CSpec Tryz.prog gl0 196 [.agg ((.int .i64 c_.At) :: ((List.map C47 c_.Frame.toList) ++ ([]))), .int .i64 at_] (.int .i64 r) := by
 unfold Qe at h
 replace h := Qj h
 refine So Tryz.func196 Y fun w0 A=>Tr<|Rq Y (QK (cva<|ov Y) ln0 tZ_158 al1)<|Ra Y<|Za<|K3 1 2 4 Y<|Tr<|Rq Y (ZB (ov Y) Qc)<|Rq Y (Zh (ov Y) tS3<|Zj at2)<|Rm Y<|R2 ZdH Y<|Ra Y<|Za<|?_
 obtain rfl := rt h
 exact Zz (ZP Y (.one<|rb Y))
theorem ZeB {x : salvage_finder} {place : Int} {r : Int} (h : Qv x place = some r) :
 CSpec Tryz.prog gl0 155 [.rp [.sl 5 (List.map R5 x.h_), .sl 158 (List.map R158 x.certain), .sl 3 (List.map R3 x.numbers), .any] 0, .int .i64 place] (.int .i64 r) := by
 unfold Qv at h
 replace h := Qj h
 refine So Tryz.func155 Y fun w0 A=>Tr<|Ra Y<|Za<|K2 0 1 Y<|Tr<|Rm Y<|R1 Z4 Y<|Rq Y (ZB (ov Y) ZbF)<|Rq Y (Zh (ov Y) Zd0 Y)<|Rm Y<|bE h fun y h_y h=>Rq Y (Zq (Jy Y (fun z0 z1 _ hz=>Zd2 hz) h_y)<|.cons (ov Y) (.b Y)<|.cons (ov Y) (.b Y)<|.cons (ov Y) .fn .nil)<|Rm Y<|Rq Y (Zo (ov Y) Y)<|Rq Y (Zo (ov Y) Y)<|Ra Y<|Ra Y<|Za<|Zr<|K3 0 1 5 Y<|Td md0<|D1 0 Zc Y<|D1 1 Zc Y<|D1 2 Z4 Y<|Dq 3 Y (ZB (ov Y) ZbF)<|Dq 4 Y (Zh (ov Y) Zd0 Y)<|Dq 5 Y (Zfo (ZG (ov Y) tZ_158) QI<|Zc7 _ _)<|D2 6 QD Y<|D1 7 Zc Y<|Dq 8 Y (.guarded ((decide (y.1 = (x.certain.length : Int))) == false) Y Y Y Y fun h => Zc<|ov Y)<|Dq 9 Y (.guarded ((decide (y.1 = (x.certain.length : Int))) == false) Y Y Y Y fun h => JW (ow Y h)<|ov Y)<|Dq 10 Y (.guarded ((decide (y.1 = (x.certain.length : Int))) == false) Y Y Y Y fun h => Zc<|ow Y h)<|Dq 11 Y (.guarded2 (((decide (y.1 = (x.certain.length : Int))) == false) && ((decide (0 < y.1)) == true)) Y Y Y Y fun h => Zc<|ov Y)<|Dq 12 Y (.guarded2 (((decide (y.1 = (x.certain.length : Int))) == false) && ((decide (0 < y.1)) == true)) Y Y Y Y fun h => Zc<|ov Y)<|Dq 13 Y (.guarded2 (((decide (y.1 = (x.certain.length : Int))) == false) && ((decide (0 < y.1)) == true)) Y Y Y Y fun h => Z4<|ow Y h)<|Dq 14 Y (.guarded2 (((decide (y.1 = (x.certain.length : Int))) == false) && ((decide (0 < y.1)) == true)) Y Y Y Y fun h => ZB (ow Y h) ZbF)<|Dq 15 Y (.guarded2 (((decide (y.1 = (x.certain.length : Int))) == false) && ((decide (0 < y.1)) == true)) Y Y Y Y fun h => Zh (ow Y h) Zd0 Y)<|Dq 16 Y (.guarded2 (((decide (y.1 = (x.certain.length : Int))) == false) && ((decide (0 < y.1)) == true)) Y Y Y Y fun h => Zc<|ov Y)<|Dq 17 Y (.guarded2 (((decide (y.1 = (x.certain.length : Int))) == false) && ((decide (0 < y.1)) == true)) Y Y Y Y fun h => ZcY (ow Y h) (ov Y) Y)<|bE h fun x2 h_x2 h=>Dq 18 Y (.guarded2 (((decide (y.1 = (x.certain.length : Int))) == false) && ((decide (0 < y.1)) == true)) Y Y Y Y fun h => ZS (ow Y h) (ow Y h) QI<|gdT h_x2 h)<|Dq 19 Y (.guarded2 (((decide (y.1 = (x.certain.length : Int))) == false) && ((decide (0 < y.1)) == true)) Y Y Y Y fun h => ZB (ow Y h) Qc)<|Dq 20 Y (.guarded2 (((decide (y.1 = (x.certain.length : Int))) == false) && ((decide (0 < y.1)) == true)) Y Y Y Y fun h => Zh (ow Y h) tS3<|Zj at2)<|Dq 21 Y (.guarded2 (((decide (y.1 = (x.certain.length : Int))) == false) && ((decide (0 < y.1)) == true)) Y Y Y Y fun h => ZcY (ow Y h) (ow Y h) Y)<|Dq 22 Y (.guarded2 (((decide (y.1 = (x.certain.length : Int))) == false) && ((decide (0 < y.1)) == true)) Y Y Y Y fun h => Zc<|ov Y)<|Dq 23 Y (.guarded2 (((decide (y.1 = (x.certain.length : Int))) == false) && ((decide (0 < y.1)) == true)) Y Y Y Y fun h => Z4<|ow Y h)<|Dq 24 Y (.guarded2 (((decide (y.1 = (x.certain.length : Int))) == false) && ((decide (0 < y.1)) == true)) Y Y Y Y fun h => ZB (ow Y h) ZbF)<|Dq 25 Y (.guarded2 (((decide (y.1 = (x.certain.length : Int))) == false) && ((decide (0 < y.1)) == true)) Y Y Y Y fun h => Zh (ow Y h) Zd0 Y)<|Dq 26 Y (.guarded2 (((decide (y.1 = (x.certain.length : Int))) == false) && ((decide (0 < y.1)) == true)) Y Y Y Y fun h => Zc<|ov Y)<|bE h fun x3 h_x3 h=>Dq 27 Y (.guarded2 (((decide (y.1 = (x.certain.length : Int))) == false) && ((decide (0 < y.1)) == true)) Y Y Y Y fun h => ZS (ow Y h) (ow Y h) QI<|gdT h_x3 h)<|Dq 28 Y (.guarded2 (((decide (y.1 = (x.certain.length : Int))) == false) && ((decide (0 < y.1)) == true)) Y Y Y Y fun h => ZB (ow Y h) Qc)<|Dq 29 Y (.guarded2 (((decide (y.1 = (x.certain.length : Int))) == false) && ((decide (0 < y.1)) == true)) Y Y Y Y fun h => Zh (ow Y h) tS3<|Zj at2)<|Dq 30 Y (.guarded2 (((decide (y.1 = (x.certain.length : Int))) == false) && ((decide (0 < y.1)) == true)) Y Y Y Y fun h => Zc<|ov Y)<|Dq 31 Y (.guarded2 (((decide (y.1 = (x.certain.length : Int))) == false) && ((decide (0 < y.1)) == true)) Y Y Y Y fun h => ZcY (ow Y h) (ow Y h) Y)<|Dq 32 Y (.guarded2 (((decide (y.1 = (x.certain.length : Int))) == false) && ((decide (0 < y.1)) == true)) Y Y Y Y fun h => ZgE (ow Y h)<|ow Y h)<|Dq 33 Y (.guarded ((decide (y.1 = (x.certain.length : Int))) == false) Y Y Y Y fun h => QU (ow Y h) fun hp=>ow Y<|gA h<|gT hp)<|Dq 34 Y (Zaj (ov Y) fun hp=>ow Y<|gF hp)<|Dd<|K2 5 50 Y<|If h Y (fun h=>?_) fun h=>?_
 ·
  refine K1 5 Y<|Tr<|Rm Y<|R2 ZdH Y<|Ra Y<|Za<|?_
  obtain rfl := rt h
  exact Zz (ZP Y (.one<|rb Y))
 ·
  refine Zn<|K1 5 Y<|Tr<|Rm Y<|Ra Y<|Za<|?_
  obtain rfl := rt h
  exact Zz (ZP Y (.one<|rb Y))
theorem ZfK {n : Int} {r : Int} (h : J4 n = some r) :
 CSpec Tryz.prog gl0 156 [.int .i64 n] (.int .i64 r) := by
 unfold J4 at h
 replace h := Qj h
 refine So Tryz.func156 Y fun w0 A=>Tr<|Ra Y<|Za<|Tr<|Rm Y<|Rm Y<|Rq Y (ZrE (ov Y) Y)<|Rq Y (Zjj (ov Y) (ov Y) Y)<|Ra Y<|Za<|?_
 obtain rfl := rt h
 exact Zz (ZP Y (.one<|rb Y))
theorem ZeZ {x : salvage_finder} {i : Int} {r : (List Int)} (h : QE x i = some r) :
 CSpec Tryz.prog gl0 107 [.rp [.sl 5 (List.map R5 x.h_), .sl 158 (List.map R158 x.certain), .sl 3 (List.map R3 x.numbers), .any] 0, .int .i64 i] (.sl 3 (List.map R3 r)) := by
 unfold QE at h
 replace h := Qj h
 refine So Tryz.func107 Y fun w0 A=>Tr<|Ra Y<|Za<|K2 0 1 Y<|Tr<|Ra Y<|Za<|Tr<|Rm Y<|R1 Z4 Y<|Rq Y (ZB (ov Y) ZbF)<|Rq Y (Zh (ov Y) Zd0 Y)<|Rm Y<|bE h fun x2 h_x2 h=>Rq Y (ZS (ov Y) (ov Y) QI h_x2)<|Rq Y (ZB (ov Y) Qc)<|Rq Y (Zh (ov Y) tS3<|Zj at2)<|Ra Y<|Za<|I1 (fun out=>⟨[(5, .own 0 out.length)], [some ⟨3, List.map R3 out⟩]⟩) h (fun h=>?_) fun out h=>?_
 ·
  refine K4 0 1 5 6 Y<|Tr<|R_q (.sl 3<|List.map R3 ([(-194), 194] : List Int)) Y (Xv Qq (.cons (cvs (ov Y)<|ZU Y) Y (.cons (.b Y) .nil)<|.cons (cvs (ov Y)<|ZU Y) Y (.cons (.b Y) .nil) .nil) Y Y)<|Rl tZ_3 Qq Y<|Rm Y<|Za<|Zk<|?_
  obtain ⟨r1, hl1, ho1⟩ := QP h
  refine L2 (fun out2 i2=>⟨[(0, .rp [.sl 5 (List.map R5 x.h_), .sl 158 (List.map R158 x.certain), .sl 3 (List.map R3 x.numbers), .any] 0), (1, .int .i64 i), (5, .own 0 out2.length), (6, .int .i64 x2.At), (19, .sl 3 (List.map R3 ([(-194), 194] : List Int))), (20, .int .i64 (([(-194), 194] : List Int).length : Int)), (21, .int .i64 i2)], [some ⟨3, List.map R3 out2⟩]⟩) hl1 (ES [none]) fun n1 out2 i2 h=>?_
  unfold QB at h
  refine Tr<|R2 ZX Y<|Za<|Zr<|If h Y (fun h=>?_) fun h=>?_
  ·
   refine Zn<|I1 (fun out3=>⟨[(0, .rp [.sl 5 (List.map R5 x.h_), .sl 158 (List.map R158 x.certain), .sl 3 (List.map R3 x.numbers), .any] 0), (1, .int .i64 i), (5, .own 0 out3.length), (6, .int .i64 x2.At), (19, .sl 3 (List.map R3 ([(-194), 194] : List Int))), (20, .int .i64 (([(-194), 194] : List Int).length : Int)), (21, .int .i64 i2)], [some ⟨3, List.map R3 out3⟩]⟩) h (fun h=>?_) fun out3 h=>?_
   ·
    refine Zk<|K7 0 1 5 6 19 20 21 Y<|Tr<|bE h fun x3 h_x3 h=>Rq Y (ZS (ov Y) (ov Y) Qq h_x3)<|Rq Y (Zh (ov Y) tS3 Y)<|Ra Y<|Za<|K8 0 1 5 6 8 19 20 21 Y<|Tr<|Rm Y<|Rm Y<|R2 ZZ Y<|Ra Y<|Za<|Zk<|?_
    obtain ⟨r2, hl2, ho2⟩ := QP h
    refine L2 (fun out4 p=>⟨[(0, .rp [.sl 5 (List.map R5 x.h_), .sl 158 (List.map R158 x.certain), .sl 3 (List.map R3 x.numbers), .any] 0), (1, .int .i64 i), (5, .own 0 out4.length), (6, .int .i64 x2.At), (8, .int .i64 x3), (9, .int .i64 p), (19, .sl 3 (List.map R3 ([(-194), 194] : List Int))), (20, .int .i64 (([(-194), 194] : List Int).length : Int)), (21, .int .i64 i2)], [some ⟨3, List.map R3 out4⟩]⟩) hl2 (ES [some 0]) fun n2 out4 p h=>?_
    unfold Qy at h
    refine Zr<|Tr<|Rm Y<|R2 JW Y<|Rm Y<|Rq Y (.guarded ((decide ((-192) < p)) == true) Y Y Y Y fun h => Zc<|ov Y)<|Rq Y (.guarded ((decide ((-192) < p)) == true) Y Y Y Y fun h => Zc<|ov Y)<|Rq Y (.guarded ((decide ((-192) < p)) == true) Y Y Y Y fun h => Z4<|ow Y h)<|Rq Y (.guarded ((decide ((-192) < p)) == true) Y Y Y Y fun h => ZB (ow Y h) Znm)<|Rq Y (.guarded ((decide ((-192) < p)) == true) Y Y Y Y fun h => Zh (ow Y h) Zh3 Y)<|Rq Y (.guarded ((decide ((-192) < p)) == true) Y Y Y Y fun h => Zfo (ZG (ow Y h) tZ_5) ZaC<|Zc7 _ _)<|Rq Y (.guarded ((decide ((-192) < p)) == true) Y Y Y Y fun h => ZX (ow Y h)<|ow Y h)<|Rq Y (QU (ov Y) fun hp=>ow Y<|gT hp)<|Za<|K10 0 1 5 6 8 9 19 20 21 38 Y<|If h Y (fun h=>?_) fun h=>?_
    ·
     refine Zn<|J1 (fun j => (.inr j)) (fun out5=>⟨[(0, .rp [.sl 5 (List.map R5 x.h_), .sl 158 (List.map R158 x.certain), .sl 3 (List.map R3 x.numbers), .any] 0), (1, .int .i64 i), (5, .own 0 out5.length), (6, .int .i64 x2.At), (8, .int .i64 x3), (9, .int .i64 p), (19, .sl 3 (List.map R3 ([(-194), 194] : List Int))), (20, .int .i64 (([(-194), 194] : List Int).length : Int)), (21, .int .i64 i2)], [some ⟨3, List.map R3 out5⟩]⟩) h (fun h=>?_) fun out5 h=>?_
     ·
      refine Zk<|K9 0 1 5 6 8 9 19 20 21 Y<|Tr<|Rm Y<|Rm Y<|bE h fun y h_y h=>Rq Y (Zq (ZeB h_y)<|.cons (ov Y) (.b Y)<|.cons (ov Y) (.b Y) .nil)<|Ra Y<|Za<|Zr<|K10 0 1 5 6 8 9 10 19 20 21 Y<|Tr<|Rm Y<|Rm Y<|R2 Jl Y<|Za<|K11 0 1 5 6 8 9 10 19 20 21 47 Y<|If h Y (fun h=>?_) fun h=>?_
      ·
       refine ZL<|?_
       replace h := lx h ▸ ho2
       exact ⟨_, h, ES [some 0]⟩
      ·
       refine Zn<|K10 0 1 5 6 8 9 10 19 20 21 Y<|Tr<|Rm Y<|R1 Z4 Y<|Rq Y (ZB (ov Y) ZbF)<|Rq Y (Zh (ov Y) Zd0 Y)<|Rm Y<|bE h fun x4 h_x4 h=>Rq Y (ZS (ov Y) (ov Y) QI h_x4)<|Rq Y (ZB (ov Y) Qc)<|Rq Y (Zh (ov Y) tS3<|Zj at2)<|Rm Y<|R2 ZdH Y<|bE h fun y2 h_y2 h=>Rq Y (Zq (ZfK h_y2)<|.cons (ov Y) (.b Y) .nil)<|R2 ZdJ Y<|Za<|K10 0 1 5 6 8 9 19 20 21 59 Y<|If h Y (fun h=>?_) fun h=>?_
       ·
        exact K9 0 1 5 6 8 9 19 20 21 Y<|Zu<|Rm Y<|Rm Y<|R_q (.sl 3<|List.map R3 ([p] : List Int)) Y (Xv Qq (.cons (cvs (ov Y)<|ZU Y) Y (.cons (.b Y) .nil) .nil) Y Y)<|bE h fun l h_l h=>Rx Y (Zv (ov Y) (ZG (ov Y) tZ_3) Qq Y Y Y (fun _=>Zb Y) Y h_l)<|Ra Y<|Za<|⟨_, h, ES [some 0]⟩
       ·
        exact Zn<|⟨_, h, ES [some 0]⟩
     ·
      replace h := elr h
      replace h := t1i h
      exact Zu<|Rm Y<|Rm Y<|R2 ZZ Y<|Ra Y<|Za<|⟨_, h, ES [some 0]⟩
    ·
     refine ZL<|?_
     replace h := lx h ▸ ho2
     exact ⟨_, h, ES [some 0]⟩
   ·
    exact Zu<|R2 ZZ Y<|Rm Y<|Za<|⟨_, h, ES [some 0]⟩
  ·
   refine ZL<|?_
   replace h := lx h ▸ ho1
   exact ⟨_, h, ES [some 0]⟩
 ·
  refine Tr<|Rm Y<|Ra Y<|Za<|?_
  obtain rfl := rt h
  exact Zz (ZP Y (.one<|.tmp Y<|View.ownM Y Y D3))
theorem ZhY {h_ : List Int} {at_ : Int} {r : (Vector Int 64) × (Vector Bool 64)} (h : Xg h_ at_ = some r) :
 CSpec Tryz.prog gl0 157 [.sl 5 (List.map R5 h_), .int .i64 at_] (.tuple [.agg (List.map C47 r.1.toList), .agg (List.map C4 r.2.toList)]) := by
 unfold Xg at h
 replace h := Qj h
 refine So Tryz.func157 Y fun w0 A=>Tr<|Rx Y (ZO (row := (List.map C47 (Vector.replicate 64 0).toList)) 0 Y ZcW Y tZ_49)<|Rx Y (ZO (row := (List.map C4 (Vector.replicate 64 false).toList)) 1 Y Zkj Y tZ_171)<|Za<|I2 (fun f whole=>⟨[(4, .ptr 0 1 0 0), (5, .ptr 1 1 0 0)], [some ⟨49, [(List.map C47 f.toList)]⟩, some ⟨171, [(List.map C4 whole.toList)]⟩]⟩) h (fun h=>?_) fun f whole h=>?_
 ·
  refine Tr<|Rm Y<|Za<|Zk<|?_
  obtain ⟨r1, hl1, ho1⟩ := QP h
  refine L3 (fun f2 whole2 i=>⟨[(0, .sl 5 (List.map R5 h_)), (1, .int .i64 at_), (4, .ptr 0 1 0 0), (5, .ptr 1 1 0 0), (8, .int .i64 i)], [some ⟨49, [(List.map C47 f2.toList)]⟩, some ⟨171, [(List.map C4 whole2.toList)]⟩]⟩) hl1 (ES [some 0, some 1]) fun n1 f2 whole2 i h=>?_
  unfold Z6 at h
  refine Tr<|R2 ZX Y<|Za<|Zr<|If h Y (fun h=>?_) fun h=>?_
  ·
   refine Zn<|Zr<|Zk<|K5 0 1 4 5 8 Y<|Tr<|Rm Y<|Ra Y<|Za<|K6 0 1 4 5 6 8 Y<|Tr<|Rm Y<|Rm Y<|R2 Zfn Y<|R2 ZZ Y<|Ra Y<|Za<|K7 0 1 4 5 6 7 8 Y<|Tr<|Rm Y<|R2 ZdJ Y<|Rm Y<|Rq Y (.guarded ((decide (0 ≤ (i64 (at_ + (i64 (3 * i)))))) == true) Y Y Y Y fun h => Zc<|ov Y)<|Rq Y (.guarded ((decide (0 ≤ (i64 (at_ + (i64 (3 * i)))))) == true) Y Y Y Y fun h => Zli (ow Y h) (ov Y) Y)<|Rq Y (.guarded ((decide (0 ≤ (i64 (at_ + (i64 (3 * i)))))) == true) Y Y Y Y fun h => Zc<|ov Y)<|Rq Y (.guarded ((decide (0 ≤ (i64 (at_ + (i64 (3 * i)))))) == true) Y Y Y Y fun h => Zfo (ZG (ow Y h) tZ_5) ZaC<|Zc7 _ _)<|Rq Y (.guarded ((decide (0 ≤ (i64 (at_ + (i64 (3 * i)))))) == true) Y Y Y Y fun h => ZgE (ow Y h)<|ow Y h)<|Rq Y (QU (ov Y) fun hp=>ow Y<|gT hp)<|Za<|K8 0 1 4 5 6 7 8 23 Y<|If h Y (fun h=>?_) fun h=>?_
   ·
    exact K7 0 1 4 5 6 7 8 Y<|Zu<|Rm Y<|Rm Y<|Rm Y<|Rm Y<|Rm Y<|R2 ZZ Y<|bE h fun l h_l h=>Rq Y (Zj8 (ov Y) ZaC (oi<|ov Y) (oi<|ov Y) h_l)<|bE h fun y h_y h=>Rq Y (Zq (ZcX h_y)<|.cons (ov Y) (.b Y) .nil)<|bE h fun x h_x h=>Rq Y (ZY (ov Y) (ov Y) QL Y Y h_x)<|Rx Y (Zf (ov Y) (ov Y) (Zg QR) Y Y Y (arB h_x) (Zb Y)<|arS h_x)<|bE h fun x2 h_x2 h=>Rq Y (ZY (ov Y) (ov Y) ZfI Y Y h_x2)<|Rx Y (Zf (ov Y) (ov Y) (Zg tS4) Y Y Y (arB h_x2) (Zb Y)<|arS h_x2)<|Za<|K5 0 1 4 5 8 Y<|Zu<|R2 ZZ Y<|Rm Y<|Za<|⟨_, h, ES [some 0, some 1]⟩
   ·
    exact Zn<|K5 0 1 4 5 8 Y<|Zu<|R2 ZZ Y<|Rm Y<|Za<|⟨_, h, ES [some 0, some 1]⟩
  ·
   refine ZL<|?_
   replace h := lx h ▸ ho1
   exact ⟨_, h, ES [some 0, some 1]⟩
 ·
  refine Td md0<|Dq 0 Y (Zy (ov Y) Y Y Y Z3 (Zm<|Ze arL) arL (hns := (nsM fun _ => Y)))<|Dw 1 2 Y (Zy (ov Y) Y Y Y Zcs (Zm<|Ze arL) arL (hns := (nsM fun _ => Y))) (Zf (ov Y) (ov Y) (Zp Z3 arL) Y Y Y (Zt (Ze arL) arL) (Zb<|arC fun _ => Y)<|ZC<|Eq.trans arL<|Eq.symm arL) ?_ ?_
  ·
   refine Do 2 Y (Zf (ov Y) (ov Y) (Zp Z3 arL) Y Y Y (Zt (Ze arL) arL) (Zb<|arC fun _ => Y)<|ZC<|Eq.trans arL<|Eq.symm arL)<|Do 3 Y (Zf (ov Y) (ov Y) (Zp Zcs arL) Y Y Y (Zt (Ze arL) arL) (Zb<|arC fun _ => Y)<|ZC<|Eq.trans arL<|Eq.symm arL)<|Dd<|?_
   obtain rfl := rt h
   exact Zz (ZP Y (.two (.agg Y Y Y Y Z3 (Zm<|Ze arL) arL (pwB<|arD fun _ => Y) (hns := (nsM fun _ => Y)))<|.agg Y Y Y Y Zcs (Zm<|Ze arL) arL (pwB<|arD fun _ => Y) (hns := (nsM fun _ => Y))))
  ·
   refine Dq 1 Y (Zy (ov Y) Y Y Y Zcs (Zm<|Ze arL) arL (hns := (nsM fun _ => Y)))<|Do 3 Y (Zf (ov Y) (ov Y) (Zp Zcs arL) Y Y Y (Zt (Ze arL) arL) (Zb<|arC fun _ => Y)<|ZC<|Eq.trans arL<|Eq.symm arL)<|Dd<|?_
   obtain rfl := rt h
   exact Zz (ZP Y (.two (.agg Y Y Y Y Z3 (Zm<|Ze arL) arL (pwB<|arD fun _ => Y) (hns := (nsM fun _ => Y)))<|.agg Y Y Y Y Zcs (Zm<|Ze arL) arL (pwB<|arD fun _ => Y) (hns := (nsM fun _ => Y))))
theorem ZkD {f : Vector Int 64} {whole : Vector Bool 64} {r : Int × Bool} (h : Zbx f whole = some r) :
 CSpec Tryz.prog gl0 198 [.agg (List.map C47 f.toList), .agg (List.map C4 whole.toList)] (.tuple [.int .i64 r.1, .bool r.2]) := by
 unfold Zbx at h
 replace h := Qj h
 refine So Tryz.func198 Y fun w0 A=>Tr<|Rq Y (QK (cva<|ov Y) arL tZ_49<|arD fun _ => Y)<|Rq Y (QK (cva<|ov Y) arL tZ_171<|arD fun _ => Y)<|Ra Y<|Ra Y<|Za<|Zr<|K2 2 3 Y<|Tr<|bE h fun x h_x h=>Rq Y (QA (ov Y) (ov Y) ZfI h_x)<|Rq Y (Zh (ov Y) tS4<|Zj<|Z1 (o := 0) (o' := ((Int.toNat 0) * 1)) (Ze arL)<|ZN h_x)<|R1 Jn Y<|Rm Y<|bE h fun x2 h_x2 h=>Rq Y (.guarded ((!x) == false) Y Y Y Y fun h => QA (ov Y) (ov Y) ZfI<|gdT h_x2 h)<|Rq Y (.guarded ((!x) == false) Y Y Y Y fun h => Zh (ow Y h) tS4<|Zj<|Z1 (o := 0) (o' := ((Int.toNat 1) * 1)) (Ze arL)<|ZN<|gdT h_x2 h)<|Rq Y (.guarded ((!x) == false) Y Y Y Y fun h => Jn<|ow Y h)<|Rq Y (Zaj (ov Y) fun hp=>ow Y<|gF hp)<|Rm Y<|bE h fun x3 h_x3 h=>Rq Y (.guarded (((!x) || (!x2)) == false) Y Y Y Y fun h => QA (ov Y) (ov Y) ZfI<|gdT h_x3 h)<|Rq Y (.guarded (((!x) || (!x2)) == false) Y Y Y Y fun h => Zh (ow Y h) tS4<|Zj<|Z1 (o := 0) (o' := ((Int.toNat 2) * 1)) (Ze arL)<|ZN<|gdT h_x3 h)<|Rq Y (.guarded (((!x) || (!x2)) == false) Y Y Y Y fun h => Jn<|ow Y h)<|Rq Y (Zaj (ov Y) fun hp=>ow Y<|gF hp)<|Za<|K2 2 22 Y<|If h Y (fun h=>?_) fun h=>?_
 ·
  refine K0<|Tr<|Ra Y<|Ra Y<|Za<|?_
  obtain rfl := rt h
  exact Zz (ZP Y (.two (rb Y)<|rb Y))
 ·
  refine Zn<|K1 2 Y<|Tr<|Rq Y (ZF (ov Y) Z3 (Zm<|Ze arL) arL)<|bE h fun y h_y h=>Rq Y (Zq (ZdV h_y)<|.cons (ov Y) (.aggB<|arD fun _ => Y) .nil)<|Rm Y<|Rq Y (Zo (ov Y) Y)<|Rq Y (Zo (ov Y) Y)<|Ra Y<|Ra Y<|Za<|K3 2 6 7 Y<|Tr<|Rm Y<|bE h fun y2 h_y2 h=>Rq Y (Zq (ZeV h_y2)<|.cons (ov Y) (.b Y) .nil)<|Rm Y<|Rq Y (Zo (ov Y) Y)<|Rq Y (Zo (ov Y) Y)<|Ra Y<|Ra Y<|Za<|K4 2 6 7 8 Y<|Td md0<|D1 0 Zc Y<|D1 1 Zc Y<|D1 2 Zc Y<|bE h fun x4 h_x4 h=>Dq 3 Y (.guarded (y.2 == true) Y Y Y Y fun h => QA (ov Y) (ov Y) QL<|gdT h_x4 h)<|Dq 4 Y (.guarded (y.2 == true) Y Y Y Y fun h => Zh (ow Y h) QR<|Zj<|Z1 (o := 0) (o' := ((Int.toNat 0) * 1)) (Ze arL)<|ZN<|gdT h_x4 h)<|Dq 5 Y (.guarded (y.2 == true) Y Y Y Y fun h => Zc<|ov Y)<|Dq 6 Y (.guarded (y.2 == true) Y Y Y Y fun h => Qi (ow Y h) tI3 JV Y)<|Dq 7 Y (.guarded (y.2 == true) Y Y Y Y fun h => QD (ow Y h)<|ow Y h)<|Dq 8 Y (QU (ov Y) fun hp=>ow Y<|gT hp)<|D1 9 QG Y<|D1 10 QG Y<|Dd<|?_
  obtain rfl := rt h
  exact Zz (ZP Y (.two (rb Y)<|rb Y))
theorem Zfe {x : salvage_finder} {i : Int} {place : Int} {r : Int} (h : QM x i place = some r) :
 CSpec Tryz.prog gl0 199 [.rp [.sl 5 (List.map R5 x.h_), .sl 158 (List.map R158 x.certain), .sl 3 (List.map R3 x.numbers), .any] 0, .int .i64 i, .int .i64 place] (.int .i64 r) := by
 unfold QM at h
 replace h := Qj h
 refine So Tryz.func199 Y fun w0 A=>Tr<|Ra Y<|Za<|K3 0 1 2 Y<|Tr<|Ra Y<|Ra Y<|Za<|I1 (fun best=>⟨[(7, .int .i64 best)], []⟩) h (fun h=>?_) fun best h=>?_
 ·
  refine Tr<|Rm Y<|R1 Z4 Y<|Rq Y (ZB (ov Y) ZbF)<|Rq Y (Zh (ov Y) Zd0 Y)<|Rl tZ_158 QI Y<|Rm Y<|Za<|Zk<|?_
  obtain ⟨r1, hl1, ho1⟩ := QP h
  refine L3 (fun best2 least i2=>⟨[(0, .rp [.sl 5 (List.map R5 x.h_), .sl 158 (List.map R158 x.certain), .sl 3 (List.map R3 x.numbers), .any] 0), (1, .int .i64 i), (2, .int .i64 place), (7, .int .i64 best2), (8, .int .i64 least), (15, .sl 158 (List.map R158 x.certain)), (16, .int .i64 (x.certain.length : Int)), (17, .int .i64 i2)], []⟩) hl1 (ES []) fun n1 best2 least i2 h=>?_
  unfold QH at h
  refine Tr<|R2 ZX Y<|Za<|Zr<|If h Y (fun h=>?_) fun h=>?_
  ·
   refine Zn<|Zr<|Zk<|K8 0 1 2 7 8 15 16 17 Y<|Tr<|Rm Y<|bE h fun x2 h_x2 h=>Rq Y (ZS (ov Y) (ov Y) QI h_x2)<|Rq Y (ZF (ov Y) ZbL (Zm<|Ze ln0) ln0)<|Rx Y (ZO (row := (.int .i64 0) :: ((List.map C47 (Vector.replicate 64 0).toList) ++ ([]))) 0 Y Zgg (by kernel_rfl)<|by exact Eq.symm (Eq.trans (b := 65) ln0 tZ_158.symm))<|Ra Y<|Rx Y (Zf (ov Y) (ov Y) (Zp ZbL ln0) Y Y Y (Zt (Ze ln0) ln0) (Zb al6)<|ZC<|Eq.trans ln0<|Eq.symm ln0)<|Za<|Zr<|K10 0 1 2 7 8 9 10 15 16 17 Y<|Td md0<|D1 0 Zc Y<|D1 1 Zc Y<|D2 2 QD Y<|D1 3 Zc Y<|Dq 4 Y (.guarded ((decide (i2 = i)) == false) Y Y Y Y fun h => Zd (ov Y) Y Y Qc)<|Dq 5 Y (.guarded ((decide (i2 = i)) == false) Y Y Y Y fun h => Zi (ow Y h) Y Y Y tS3<|Zj at2)<|Dq 6 Y (.guarded ((decide (i2 = i)) == false) Y Y Y Y fun h => Zc<|ov Y)<|Dq 7 Y (.guarded ((decide (i2 = i)) == false) Y Y Y Y fun h => Z4<|ow Y h)<|Dq 8 Y (.guarded ((decide (i2 = i)) == false) Y Y Y Y fun h => ZB (ow Y h) ZbF)<|Dq 9 Y (.guarded ((decide (i2 = i)) == false) Y Y Y Y fun h => Zh (ow Y h) Zd0 Y)<|Dq 10 Y (.guarded ((decide (i2 = i)) == false) Y Y Y Y fun h => Zc<|ov Y)<|bE h fun x3 h_x3 h=>Dq 11 Y (.guarded ((decide (i2 = i)) == false) Y Y Y Y fun h => ZS (ow Y h) (ow Y h) QI<|gdT h_x3 h)<|Dq 12 Y (.guarded ((decide (i2 = i)) == false) Y Y Y Y fun h => ZB (ow Y h) Qc)<|Dq 13 Y (.guarded ((decide (i2 = i)) == false) Y Y Y Y fun h => Zh (ow Y h) tS3<|Zj at2)<|Dq 14 Y (.guarded ((decide (i2 = i)) == false) Y Y Y Y fun h => ZcY (ow Y h) (ow Y h) Y)<|bE h fun q h_q h=>Dq 15 Y (.guarded ((decide (i2 = i)) == false) Y Y Y Y fun h => XA (ow Y h) (ov Y)<|gdT h_q h)<|Dq 16 Y (.guarded ((decide (i2 = i)) == false) Y Y Y Y fun h => Jl (ow Y h)<|ov Y)<|Dq 17 Y (Zaj (ov Y) fun hp=>ow Y<|gF hp)<|Dd<|K11 0 1 2 7 8 9 10 15 16 17 39 Y<|If h Y (fun h=>?_) fun h=>?_
   ·
    exact ZL<|K8 0 1 2 7 8 15 16 17 Y<|Zu<|R2 ZZ Y<|Rm Y<|Za<|⟨_, h, ES []⟩
   ·
    refine Zn<|K10 0 1 2 7 8 9 10 15 16 17 Y<|Tr<|Rq Y (Zd (ov Y) Y Y Qc)<|Rq Y (Zi (ov Y) Y Y Y tS3<|Zj at2)<|Rm Y<|R2 ZdH Y<|bE h fun y h_y h=>Rq Y (Zq (ZfK h_y)<|.cons (ov Y) (.b Y) .nil)<|Ra Y<|Za<|K10 0 1 2 7 8 9 11 15 16 17 Y<|Tr<|Rm Y<|R2 ZX Y<|Rm Y<|Rq Y (.guarded ((decide (best2 < 0)) == false) Y Y Y Y fun h => Zc<|ov Y)<|Rq Y (.guarded ((decide (best2 < 0)) == false) Y Y Y Y fun h => Zc<|ov Y)<|Rq Y (.guarded ((decide (best2 < 0)) == false) Y Y Y Y fun h => ZX (ow Y h)<|ow Y h)<|Rq Y (Zaj (ov Y) fun hp=>ow Y<|gF hp)<|Za<|K11 0 1 2 7 8 9 11 15 16 17 51 Y<|If h Y (fun h=>?_) fun h=>?_
    ·
     exact K10 0 1 2 7 8 9 11 15 16 17 Y<|Zu<|Rm Y<|Rm Y<|Ra Y<|Ra Y<|Za<|K8 0 1 2 7 8 15 16 17 Y<|Zu<|R2 ZZ Y<|Rm Y<|Za<|⟨_, h, ES []⟩
    ·
     exact Zn<|K8 0 1 2 7 8 15 16 17 Y<|Zu<|R2 ZZ Y<|Rm Y<|Za<|⟨_, h, ES []⟩
  ·
   refine ZL<|?_
   replace h := lx h ▸ ho1
   exact ⟨_, h, ES []⟩
 ·
  refine Tr<|Rm Y<|Ra Y<|Za<|?_
  obtain rfl := rt h
  exact Zz (ZP Y (.one<|rb Y))
theorem ZhR {n : Int} {low : Int} {high : Int} {r : Bool} (h : Zar n low high = some r) :
 CSpec Tryz.prog gl0 149 [.int .i64 n, .int .i64 low, .int .i64 high] (.bool r) := by
 unfold Zar at h
 replace h := Qj h
 refine So Tryz.func149 Y fun w0 A=>Tr<|Ra Y<|Za<|Tr<|Rm Y<|Rm Y<|R2 ZdJ Y<|Rm Y<|Rq Y (.guarded ((decide (low ≤ n)) == true) Y Y Y Y fun h => Zc<|ov Y)<|Rq Y (.guarded ((decide (low ≤ n)) == true) Y Y Y Y fun h => Zc<|ov Y)<|Rq Y (.guarded ((decide (low ≤ n)) == true) Y Y Y Y fun h => ZgE (ow Y h)<|ow Y h)<|Rq Y (QU (ov Y) fun hp=>ow Y<|gT hp)<|Ra Y<|Za<|?_
 obtain rfl := rt h
 exact Zz (ZP Y (.one<|rb Y))
theorem Ze5 {x : salvage_finder} {i : Int} {place : Int} {f : Vector Int 64} {whole : Vector Bool 64} {r : Int × Bool} (h : QS x i place f whole = some r) :
 CSpec Tryz.prog gl0 158 [.rp [.sl 5 (List.map R5 x.h_), .sl 158 (List.map R158 x.certain), .sl 3 (List.map R3 x.numbers), .any] 0, .int .i64 i, .int .i64 place, .agg (List.map C47 f.toList), .agg (List.map C4 whole.toList)] (.tuple [.int .i64 r.1, .bool r.2]) := by
 unfold QS at h
 replace h := Qj h
 refine So Tryz.func158 Y fun w0 A=>Tr<|Rq Y (QK (cva<|ov Y) arL tZ_49<|arD fun _ => Y)<|Rq Y (QK (cva<|ov Y) arL tZ_171<|arD fun _ => Y)<|Ra Y<|Ra Y<|Za<|Zr<|K5 0 1 2 8 9 Y<|Tr<|Rq Y (ZF (ov Y) Z3 (Zm<|Ze arL) arL)<|Rq Y (ZF (ov Y) Zcs (Zm<|Ze arL) arL)<|bE h fun y h_y h=>Rq Y (Zq (ZkD h_y)<|.cons (ov Y) (.aggB<|arD fun _ => Y)<|.cons (ov Y) (.aggB<|arD fun _ => Y) .nil)<|Rm Y<|Rq Y (Zo (ov Y) Y)<|Rq Y (Zo (ov Y) Y)<|Ra Y<|Ra Y<|Za<|K5 0 1 2 12 13 Y<|Tr<|Rm Y<|Za<|K5 0 1 2 12 25 Y<|If h Y (fun h=>?_) fun h=>?_
 ·
  refine K1 12 Y<|Tr<|Rm Y<|Ra Y<|Ra Y<|Za<|?_
  obtain rfl := rt h
  exact Zz (ZP Y (.two (rb Y)<|rb Y))
 ·
  refine Zn<|K3 0 1 2 Y<|Tr<|Rm Y<|Rm Y<|Rm Y<|bE h fun y2 h_y2 h=>Rq Y (Zq (Zfe h_y2)<|.cons (ov Y) (.b Y)<|.cons (ov Y) (.b Y)<|.cons (ov Y) (.b Y) .nil)<|Ra Y<|Za<|Zr<|K4 0 1 2 14 Y<|Tr<|Rm Y<|R2 ZX Y<|Za<|K5 0 1 2 14 32 Y<|If h Y (fun h=>?_) fun h=>?_
  ·
   refine K0<|Tr<|Ra Y<|Ra Y<|Za<|?_
   obtain rfl := rt h
   exact Zz (ZP Y (.two (rb Y)<|rb Y))
  ·
   refine Zn<|K4 0 1 2 14 Y<|Td md0<|D1 0 Zc Y<|D1 1 Zc Y<|D1 2 Z4 Y<|Dq 3 Y (ZB (ov Y) ZbF)<|Dq 4 Y (Zh (ov Y) Zd0 Y)<|D1 5 Zc Y<|bE h fun x2 h_x2 h=>Dq 6 Y (ZS (ov Y) (ov Y) QI h_x2)<|Dq 7 Y (ZB (ov Y) Qc)<|Dq 8 Y (Zh (ov Y) tS3<|Zj at2)<|D2 9 ZdH Y<|bE h fun q h_q h=>Dq 10 Y (Zbe (ov Y) (ov Y) h_q)<|D1 11 Zc Y<|D1 12 Z4 Y<|Dq 13 Y (ZB (ov Y) ZbF)<|Dq 14 Y (Zh (ov Y) Zd0 Y)<|D1 15 Zc Y<|bE h fun x3 h_x3 h=>Dq 16 Y (ZS (ov Y) (ov Y) QI h_x3)<|Dq 17 Y (ZB (ov Y) Qc)<|Dq 18 Y (Zh (ov Y) tS3<|Zj at2)<|D1 19 Zc Y<|D1 20 Z4 Y<|Dq 21 Y (ZB (ov Y) ZbF)<|Dq 22 Y (Zh (ov Y) Zd0 Y)<|D1 23 Zc Y<|bE h fun x4 h_x4 h=>Dq 24 Y (ZS (ov Y) (ov Y) QI h_x4)<|Dq 25 Y (ZB (ov Y) Qc)<|Dq 26 Y (Zh (ov Y) tS3<|Zj at2)<|D2 27 ZdH Y<|bE h fun q2 h_q2 h=>Dq 28 Y (Zbe (ov Y) (ov Y) h_q2)<|D1 29 QG Y<|D1 30 QG Y<|Dd<|K5 0 1 14 15 16 Y<|Td md0<|D1 0 Zc Y<|D1 1 Z4 Y<|Dq 2 Y (ZB (ov Y) Ql)<|Dq 3 Y (Zh (ov Y) XN Y)<|D1 4 Zc Y<|bE h fun x5 h_x5 h=>Dq 5 Y (ZS (ov Y) (ov Y) Qq h_x5)<|Dq 6 Y (Zh (ov Y) tS3 Y)<|D1 7 Zc Y<|D1 8 Z4 Y<|Dq 9 Y (ZB (ov Y) Ql)<|Dq 10 Y (Zh (ov Y) XN Y)<|D1 11 Zc Y<|bE h fun x6 h_x6 h=>Dq 12 Y (ZS (ov Y) (ov Y) Qq h_x6)<|Dq 13 Y (Zh (ov Y) tS3 Y)<|D2 14 ZdH Y<|D1 15 QG Y<|Dd<|Zr<|K5 0 1 15 16 17 Y<|Tr<|Rm Y<|Rm Y<|bE h fun q3 h_q3 h=>Rq Y (XA (ov Y) (ov Y) h_q3)<|R2 Jl Y<|Rm Y<|Rq Y (.guarded ((!decide (q3 = 0)) == false) Y Y Y Y fun h => Zc<|ov Y)<|Rq Y (.guarded ((!decide (q3 = 0)) == false) Y Y Y Y fun h => Zc<|ov Y)<|bE h fun q4 h_q4 h=>Rq Y (.guarded ((!decide (q3 = 0)) == false) Y Y Y Y fun h => Zbe (ow Y h) (ow Y h)<|gdT h_q4 h)<|Rq Y (.guarded ((!decide (q3 = 0)) == false) Y Y Y Y fun h => ZgE (ow Y h)<|ov Y)<|Rq Y (Zaj (ov Y) fun hp=>ow Y<|gF hp)<|Za<|K6 0 1 15 16 17 86 Y<|If h Y (fun h=>?_) fun h=>?_
   ·
    refine K0<|Tr<|Ra Y<|Ra Y<|Za<|?_
    obtain rfl := rt h
    exact Zz (ZP Y (.two (rb Y)<|rb Y))
   ·
    refine Zn<|K5 0 1 15 16 17 Y<|Td md0<|D1 0 Zc Y<|D1 1 Z4 Y<|Dq 2 Y (ZB (ov Y) Ql)<|Dq 3 Y (Zh (ov Y) XN Y)<|D1 4 Zc Y<|bE h fun x7 h_x7 h=>Dq 5 Y (ZS (ov Y) (ov Y) Qq h_x7)<|Dq 6 Y (Zh (ov Y) tS3 Y)<|D1 7 Zc Y<|D1 8 Zc Y<|D1 9 Zc Y<|bE h fun q5 h_q5 h=>Dq 10 Y (Zbe (ov Y) (ov Y) h_q5)<|D2 11 Zfn Y<|D2 12 ZZ Y<|D1 13 QG Y<|Dd<|K1 18 Y<|Tr<|Rm Y<|Rm Y<|bE h fun y3 h_y3 h=>Rq Y (Zq (ZhR h_y3)<|.cons (ov Y) (.b Y)<|.cons (ov Y) (.b Y)<|.cons (ov Y) (.b Y) .nil)<|Ra Y<|Ra Y<|Za<|?_
    obtain rfl := rt h
    exact Zz (ZP Y (.two (rb Y)<|rb Y))
theorem Zfq {w : Int} {r : Bool} (h : Zct w = some r) :
 CSpec Tryz.prog gl0 201 [.int .u16 w] (.bool r) := by
 unfold Zct at h
 replace h := Qj h
 refine So Tryz.func201 Y fun w0 A=>Tr<|Ra Y<|Za<|Tr<|Rm Y<|bE h fun y h_y h=>Rq Y (Zq (ZcL h_y)<|.cons (ov Y) (.b Y) .nil)<|Ra Y<|Za<|?_
 obtain rfl := rt h
 exact Zz (ZP Y (.one<|rb Y))
theorem ZfZ {w : Int} {i : Int} {number : Int} {r : Bool} (h : Xm w i number = some r) :
 CSpec Tryz.prog gl0 159 [.int .u16 w, .int .i64 i, .int .i64 number] (.bool r) := by
 unfold Xm at h
 replace h := Qj h
 refine So Tryz.func159 Y fun w0 A=>Tr<|Ra Y<|Za<|K3 0 1 2 Y<|Tr<|Rm Y<|R2 Zer Y<|Rq Y (Qi (ov Y) JV tI3 Y)<|Ra Y<|Za<|Zr<|K4 0 1 2 7 Y<|Tr<|Rm Y<|Za<|Zk<|K4 0 2 7 13 Y<|Tr<|R2 QD Y<|Ra Y<|Za<|K5 0 2 7 13 14 Y<|If h Y (fun h=>?_) fun h=>?_
 ·
  refine K2 0 2 Y<|Tr<|Rm Y<|bE h fun y h_y h=>Rq Y (Zq (ZeV h_y)<|.cons (ov Y) (.b Y) .nil)<|Rm Y<|Rq Y (Zo (ov Y) Y)<|Rq Y (Zo (ov Y) Y)<|Ra Y<|Ra Y<|Za<|K2 0 8 Y<|Tr<|Rm Y<|Rm Y<|Rq Y (Qi (ov Y) tI3 JV Y)<|R2 QD Y<|Ra Y<|Za<|?_
  obtain rfl := rt h
  exact Zz (ZP Y (.one<|rb Y))
 ·
  refine K4 0 2 7 13 Y<|Tr<|R2 QD Y<|Ra Y<|Za<|K5 0 2 7 13 25 Y<|If h Y (fun h=>?_) fun h=>?_
  ·
   refine K3 0 2 7 Y<|Tr<|Rm Y<|bE h fun y2 h_y2 h=>Rq Y (Zq (Zfq h_y2)<|.cons (ov Y) (.b Y) .nil)<|Rm Y<|Rq Y (.guarded (y2 == true) Y Y Y Y fun h => Zc<|ov Y)<|Rq Y (.guarded (y2 == true) Y Y Y Y fun h => Zc<|ov Y)<|Rq Y (.guarded (y2 == true) Y Y Y Y fun h => Zer (ow Y h)<|ov Y)<|Rq Y (.guarded (y2 == true) Y Y Y Y fun h => QD (ow Y h)<|ow Y h)<|Rq Y (QU (ov Y) fun hp=>ow Y<|gT hp)<|Ra Y<|Za<|?_
   obtain rfl := rt h
   exact Zz (ZP Y (.one<|rb Y))
  ·
   refine K4 0 2 7 13 Y<|Tr<|R2 QD Y<|Ra Y<|Za<|K4 0 2 7 35 Y<|If h Y (fun h=>?_) fun h=>?_
   ·
    refine K3 0 2 7 Y<|Tr<|Rm Y<|bE h fun y3 h_y3 h=>Rq Y (Zq (Zfq h_y3)<|.cons (ov Y) (.b Y) .nil)<|Rm Y<|Rq Y (.guarded (y3 == true) Y Y Y Y fun h => Zc<|ov Y)<|Rq Y (.guarded (y3 == true) Y Y Y Y fun h => Zc<|ov Y)<|bE h fun q h_q h=>Rq Y (.guarded (y3 == true) Y Y Y Y fun h => ZfF (ow Y h) (ov Y)<|gdT h_q h)<|Rq Y (.guarded (y3 == true) Y Y Y Y fun h => QD (ow Y h)<|ow Y h)<|Rq Y (QU (ov Y) fun hp=>ow Y<|gT hp)<|Ra Y<|Za<|?_
    obtain rfl := rt h
    exact Zz (ZP Y (.one<|rb Y))
   ·
    refine Zn<|K1 0 Y<|Tr<|Rm Y<|bE h fun y4 h_y4 h=>Rq Y (Zq (Zfq h_y4)<|.cons (ov Y) (.b Y) .nil)<|Ra Y<|Za<|?_
    obtain rfl := rt h
    exact Zz (ZP Y (.one<|rb Y))
theorem Zd6 {s : List Int} {f : Int → Option Bool} {r : Int} {f_f : FuncId} {f_c : List AV} (f_d : f_c.all datB = true) (f_h : ∀ (z0 : Int) z, f z0 = some z → CSpec Tryz.prog gl0 f_f ([.int .i64 z0] ++ f_c) (.bool z)) (h : QQ s f = some r) :
 CSpec Tryz.prog gl0 216 [.sl 3 (List.map R3 s), .fn f_f f_c] (.int .i64 r) := by
 unfold QQ at h
 replace h := Qj h
 refine So Tryz.func216 Y fun w0 A=>Tr<|Ra Y<|Za<|J0 (fun j => (.inr j)) ⟨[], []⟩ h (fun h=>?_) fun h=>?_
 ·
  refine K2 0 1 Y<|Tr<|Rm Y<|Rl tZ_3 Qq Y<|Rm Y<|Za<|Zk<|?_
  obtain ⟨r1, hl1, ho1⟩ := QP h
  refine L1 (fun i=>⟨[(0, .sl 3 (List.map R3 s)), (1, .fn f_f f_c), (7, .int .i64 (s.length : Int)), (8, .int .i64 i)], []⟩) hl1 (ES []<|sd 0 Y Y<|sr 1 Y (rFn<|rld f_d)<|sd 7 Y Y<|sd 8 Y Y sn) fun n1 i h=>?_
  unfold Z9 at h
  refine Tr<|R2 ZX Y<|Za<|Zr<|If h Y (fun h=>?_) fun h=>?_
  ·
   refine Zn<|Zr<|Zk<|K4 0 1 7 8 Y<|Tr<|Rm Y<|Ra Y<|Za<|K5 0 1 5 7 8 Y<|Tr<|Rm Y<|Rm Y<|Rm Y<|bE h fun x h_x h=>Rq Y (ZS (ov Y) (ov Y) Qq h_x)<|Rq Y (Zh (ov Y) tS3 Y)<|bE h fun y h_y h=>Rq Y (ZjL (ov Y) f_d (f_h _ _ h_y)<|.cons (ov Y) (.b Y) .nil)<|Za<|K6 0 1 5 7 8 16 Y<|If h Y (fun h=>?_) fun h=>?_
   ·
    refine K1 5 Y<|Tr<|Rm Y<|Ra Y<|Za<|?_
    replace h := lx h ▸ ho1
    obtain rfl := rt h
    exact Zz (ZP Y (.one<|rb Y))
   ·
    exact Zn<|K4 0 1 7 8 Y<|Zu<|R2 ZZ Y<|Rm Y<|Za<|⟨_, h, ES []<|sd 0 Y Y<|sr 1 Y (rFn<|rld f_d)<|sd 7 Y Y<|sd 8 Y Y sn⟩
  ·
   refine ZL<|?_
   replace h := lx h ▸ ho1
   exact ⟨_, h, ES []⟩
 ·
  replace h := elr h
  replace h := t0i h
  refine Tr<|Ra Y<|Za<|?_
  obtain rfl := rt h
  exact Zz (ZP Y (.one<|rb Y))
theorem ZaB {s : List Int} {f : Int → Option Bool} {r : Bool} {f_f : FuncId} {f_c : List AV} (f_d : f_c.all datB = true) (f_h : ∀ (z0 : Int) z, f z0 = some z → CSpec Tryz.prog gl0 f_f ([.int .i64 z0] ++ f_c) (.bool z)) (h : Qa s f = some r) :
 CSpec Tryz.prog gl0 190 [.sl 3 (List.map R3 s), .fn f_f f_c] (.bool r) := by
 unfold Qa at h
 replace h := Qj h
 refine So Tryz.func190 Y fun w0 A=>Tr<|Ra Y<|Za<|Tr<|Rm Y<|Rm Y<|bE h fun y h_y h=>Rq Y (Zq (Zd6 f_d f_h h_y)<|.cons (ov Y) (.b Y)<|.cons (ov Y) (Dat.fnC<|.refl fun x hx => .b<|List.all_eq_true.1 f_d x hx) .nil)<|R2 ZdJ Y<|Ra Y<|Za<|?_
 obtain rfl := rt h
 exact Zz (ZP Y (.one<|rb Y))
theorem Zi4 {s : Int} {c0 : Int} {r : Bool} (h : Za0 s c0 = some r) :
 CSpec Tryz.prog gl0 192 [.int .i64 s, .rp [.int .i64 c0] 0] (.bool r) := by
 unfold Za0 at h
 replace h := Qj h
 refine So Tryz.func192 Y fun w0 A=>Tr<|Ra Y<|Za<|Tr<|Rm Y<|Rq Y (Zh (ov Y) tS3 Y)<|R2 Jl Y<|Ra Y<|Za<|?_
 obtain rfl := rt h
 exact Zz (ZP Y (.one<|rb Y))
theorem ZgS {r_ : api_Rest} {state : Int} {r : Bool} (h : Jj r_ state = some r) :
 CSpec Tryz.prog gl0 151 [.agg ((.int .i64 r_.Number) :: ((List.map C47 r_.Frame.toList) ++ (((List.map C3 r_.States.toList) ++ ((.bool r_.Sound) :: (.int .i64 r_.Copies) :: (.bool r_.Conflict) :: []))))), .int .i64 state] (.bool r) := by
 unfold Jj at h
 replace h := Qj h
 refine So Tryz.func151 Y fun w0 A=>Tr<|Rq Y (QK (cva<|ov Y) Zl tZ_74 Qz)<|Rq Y (QK (cvs (ov Y)<|ZU Y) Y tZ_3 Y)<|Ra Y<|Za<|K3 2 3 4 Y<|Tr<|Rq Y (ZB (ov Y) QJ)<|bE h fun l h_l h=>Rq Y (Zpv (f := C3) (ov Y) ZaO tZ_3 Xz Y on on h_l)<|Rq Y (Zho<|.cons (ov Y) .nil)<|bE h fun y h_y h=>Rq Y (Zq (ZaB Y (fun z0 _ hz=>Zi4 hz) h_y)<|.cons (ov Y) (.b Y)<|.cons (ov Y) (.fnC<|.cons (.b Y) .nil) .nil)<|R1 Jn Y<|Ra Y<|Za<|?_
 obtain rfl := rt h
 exact Zz (ZP Y (.one<|rb Y))
theorem Ze3 {x : salvage_finder} {i : Int} {place : Int} {r : api_Rest × Bool} (h : Qr x i place = some r) :
 CSpec Tryz.prog gl0 108 [.rp [.sl 5 (List.map R5 x.h_), .sl 158 (List.map R158 x.certain), .sl 3 (List.map R3 x.numbers), .any] 0, .int .i64 i, .int .i64 place] (.tuple [.agg ((.int .i64 r.1.Number) :: ((List.map C47 r.1.Frame.toList) ++ (((List.map C3 r.1.States.toList) ++ ((.bool r.1.Sound) :: (.int .i64 r.1.Copies) :: (.bool r.1.Conflict) :: []))))), .bool r.2]) := by
 unfold Qr at h
 replace h := Qj h
 refine So Tryz.func108 Y fun w0 A=>Tr<|Rx Y (ZO (row := (.int .i64 0) :: ((List.map C47 (Vector.replicate 64 0).toList) ++ (((List.map C3 (Vector.replicate 64 0).toList) ++ ((.bool false) :: (.int .i64 0) :: (.bool false) :: []))))) 0 Y ZbS (by kernel_rfl)<|by exact Eq.symm (Eq.trans (b := 132) Zl tZ_74.symm))<|Ra Y<|Za<|K4 0 1 2 6 Y<|Tr<|Rm Y<|R1 Z4 Y<|Rq Y (ZB (ov Y) Znm)<|Rq Y (Zh (ov Y) Zh3 Y)<|Rm Y<|bE h fun y h_y h=>Rq Y (Zq (ZhY h_y)<|.cons (ov Y) (.b Y)<|.cons (ov Y) (.b Y) .nil)<|Rm Y<|Rq Y (Zo (ov Y) Y)<|Rq Y (Zo (ov Y) Y)<|Rx Y (ZO (row := (List.map C47 (Vector.replicate 64 0).toList)) 1 Y ZcW Y tZ_49)<|Rx Y (ZO (row := (List.map C4 (Vector.replicate 64 false).toList)) 2 Y Zkj Y tZ_171)<|Rx Y (Zf (ov Y) (ov Y) (Zp Z3 arL) Y Y Y (Zt (Ze arL) arL) (Zb<|arC fun _ => Y)<|ZC<|Eq.trans arL<|Eq.symm arL)<|Rx Y (Zf (ov Y) (ov Y) (Zp Zcs arL) Y Y Y (Zt (Ze arL) arL) (Zb<|arC fun _ => Y)<|ZC<|Eq.trans arL<|Eq.symm arL)<|Za<|K6 0 1 2 6 8 9 Y<|Tr<|Rm Y<|Rm Y<|Rm Y<|Rq Y (Zy (ov Y) Y Y Y Z3 (Zm<|Ze arL) arL (hns := (nsM fun _ => Y)))<|Rq Y (Zy (ov Y) Y Y Y Zcs (Zm<|Ze arL) arL (hns := (nsM fun _ => Y)))<|bE h fun y2 h_y2 h=>Rq Y (Zq (Ze5 h_y2)<|.cons (ov Y) (.b Y)<|.cons (ov Y) (.b Y)<|.cons (ov Y) (.b Y)<|.cons (ov Y) (.aggB<|arD fun _ => Y)<|.cons (ov Y) (.aggB<|arD fun _ => Y) .nil)<|Rm Y<|Rq Y (Zo (ov Y) Y)<|Rq Y (Zo (ov Y) Y)<|Ra Y<|Ra Y<|Za<|Zr<|K5 6 8 9 10 11 Y<|Tr<|Rm Y<|R1 Jn Y<|Za<|K5 6 8 9 10 34 Y<|If h Y (fun h=>?_) fun h=>?_
 ·
  refine K1 6 Y<|Tr<|Rq Y (ZaR (zr := (.int .i64 0) :: ((List.map C47 (Vector.replicate 64 0).toList) ++ (((List.map C3 (Vector.replicate 64 0).toList) ++ ((.bool false) :: (.int .i64 0) :: (.bool false) :: []))))) Zhi Zhg ZbS (by kernel_rfl) .nil ZdO)<|Rx Y (Zf (ov Y) (ov Y) (Zp Qh Zl) Y Y Y (Zt (Ze Zl) Zl) (Zb ZaL)<|ZC<|Eq.trans Zl<|Eq.symm Zl)<|Ra Y<|Za<|?_
  obtain rfl := rt h
  exact Zz (ZP Y (.two (.agg Y Y Y Y Qh (Zm<|Ze Zl) Zl (pwB Qz) (hns := Jd))<|rb Y))
 ·
  refine Zn<|K4 6 8 9 10 Y<|Tr<|Rm Y<|Rq Y (ZaR (zr := (.int .i64 0) :: ((List.map C47 (Vector.replicate 64 0).toList) ++ (((List.map C3 (Vector.replicate 64 0).toList) ++ ((.bool false) :: (.int .i64 0) :: (.bool false) :: []))))) Zhi Zhg ZbS (by kernel_rfl) (.cons (cvs (ov Y)<|ZU Y) .nil)<|Xf Y Y at8 pt9 ZdO)<|Rx Y (ZO (row := (.int .i64 0) :: ((List.map C47 (Vector.replicate 64 0).toList) ++ (((List.map C3 (Vector.replicate 64 0).toList) ++ ((.bool false) :: (.int .i64 0) :: (.bool false) :: []))))) 3 Y ZbS (by kernel_rfl)<|by exact Eq.symm (Eq.trans (b := 132) Zl tZ_74.symm))<|Rx Y (Zf (ov Y) (ov Y) (Zp Qh Zl) Y Y Y (Zt (Ze Zl) Zl) (Zb ZaL)<|ZC<|Eq.trans Zl<|Eq.symm Zl)<|Za<|I1 (fun r_=>⟨[(6, .ptr 0 1 0 0), (12, .ptr 1 1 0 0)], [some ⟨74, [(.int .i64 0) :: ((List.map C47 (Vector.replicate 64 0).toList) ++ (((List.map C3 (Vector.replicate 64 0).toList) ++ ((.bool false) :: (.int .i64 0) :: (.bool false) :: []))))]⟩, some ⟨74, [(.int .i64 r_.Number) :: ((List.map C47 r_.Frame.toList) ++ (((List.map C3 r_.States.toList) ++ ((.bool r_.Sound) :: (.int .i64 r_.Copies) :: (.bool r_.Conflict) :: []))))]⟩]⟩) h (fun h=>?_) fun r_ h=>?_
  ·
   refine K5 6 8 9 10 12 Y<|Tr<|Rq Y (Zy (ov Y) Y Y Y Z3 (Zm<|Ze arL) arL (hns := (nsM fun _ => Y)))<|Rm Y<|Za<|Zk<|?_
   obtain ⟨r1, hl1, ho1⟩ := QP h
   refine L2 (fun r_2 i2=>⟨[(6, .ptr 0 1 0 0), (9, .ptr 1 1 0 0), (10, .int .i64 y2.1), (12, .ptr 2 1 0 0), (38, .agg (List.map C47 y.1.toList)), (39, .int .i64 i2)], [some ⟨74, [(.int .i64 0) :: ((List.map C47 (Vector.replicate 64 0).toList) ++ (((List.map C3 (Vector.replicate 64 0).toList) ++ ((.bool false) :: (.int .i64 0) :: (.bool false) :: []))))]⟩, some ⟨171, [(List.map C4 y.2.toList)]⟩, some ⟨74, [(.int .i64 r_2.Number) :: ((List.map C47 r_2.Frame.toList) ++ (((List.map C3 r_2.States.toList) ++ ((.bool r_2.Sound) :: (.int .i64 r_2.Copies) :: (.bool r_2.Conflict) :: []))))]⟩]⟩) hl1 (ES [some 0, some 2, some 3]) fun n1 r_2 i2 h=>?_
   unfold Qn at h
   refine Tr<|R2 ZX Y<|Za<|Zr<|If h Y (fun h=>?_) fun h=>?_
   ·
    refine Zn<|Zr<|Zk<|K6 6 9 10 12 38 39 Y<|Tr<|Rm Y<|bE h fun x2 h_x2 h=>Rq Y (Jr (ov Y) (ov Y) QL QR h_x2)<|Ra Y<|Ra Y<|Za<|K8 6 9 10 12 13 14 38 39 Y<|Tr<|Rm Y<|bE h fun x3 h_x3 h=>Rq Y (ZY (ov Y) (ov Y) ZfI Y Y h_x3)<|Rq Y (Zi (ov Y) Y Y Y tS4<|Zj<|Z1 (o := 0) (o' := (i2.toNat * 1)) (Ze arL)<|ZN h_x3)<|Rm Y<|Rq Y (.guarded (x3 == true) Y Y Y Y fun h => Zc<|ov Y)<|Rq Y (.guarded (x3 == true) Y Y Y Y fun h => Zc<|ov Y)<|Rq Y (.guarded (x3 == true) Y Y Y Y fun h => Zc<|ov Y)<|bE h fun y3 h_y3 h=>Rq Y (.guarded (x3 == true) Y Y Y Y fun h => Zq (ZfZ<|gdT h_y3 h)<|.cons (ow Y h) (.b Y)<|.cons (ow Y h) (.b Y)<|.cons (ow Y h) (.b Y) .nil)<|Rq Y (QU (ov Y) fun hp=>ow Y<|gT hp)<|Za<|K9 6 9 10 12 13 14 38 39 51 Y<|If h Y (fun h=>?_) fun h=>?_
    ·
     exact K8 6 9 10 12 13 14 38 39 Y<|Zu<|Rm Y<|Rm Y<|Rm Y<|Rq Y (Zd (ov Y) Y Y Xb)<|bE h fun x4 h_x4 h=>Rq Y (ZY (ov Y) (ov Y) QL Y Y h_x4)<|Rx Y (Zf (ov Y) (ov Y) (Zg QR) Y Y Y (Zt (Z1 (o := 1) (o' := (i2.toNat * 1)) JL<|ZN h_x4) Y) (Zb Y)<|Xk (o := 1) (o' := (i2.toNat * 1)) JL (ZN h_x4) Y (Jc h_x4 (x := x2)) Zgc)<|Rq Y (Zd (ov Y) Y Y QJ)<|bE h fun x5 h_x5 h=>Rq Y (ZY (ov Y) (ov Y) ZaO Y Y h_x5)<|Rx Y (Zf (ov Y) (ov Y) (Zg tS3) Y Y Y (Zt (Z1 (o := 65) (o' := (i2.toNat * 1)) Xz<|ZN h_x5) Y) (Zb Y)<|Xk (o := 65) (o' := (i2.toNat * 1)) Xz (ZN h_x5) Y (Jc h_x5 (x := 1)) ZeY)<|Za<|K6 6 9 10 12 38 39 Y<|Zu<|R2 ZZ Y<|Rm Y<|Za<|⟨_, h, ES [some 0, some 1, some 2]⟩
    ·
     exact Zn<|K6 6 9 10 12 38 39 Y<|Zu<|R2 ZZ Y<|Rm Y<|Za<|⟨_, h, ES [some 0, some 1, some 2]⟩
   ·
    refine ZL<|?_
    replace h := lx h ▸ ho1
    exact ⟨_, h, ES [some 0, some 2]⟩
  ·
   refine Td md0<|Dq 0 Y (Zy (ov Y) Y Y Y Qh (Zm<|Ze Zl) Zl (hns := Jd))<|Dq 1 Y (Zy (ov Y) Y Y Y Qh (Zm<|Ze Zl) Zl (hns := Jd))<|bE h fun y4 h_y4 h=>Dq 2 Y (Zq (ZgS h_y4)<|.cons (ov Y) (.aggB Qz)<|.cons (ov Y) (.b Y) .nil)<|Zai 3 _ Y (by kernel_rfl) Y Y (fun hp'=>Jn<|ov Y)<|Do 4 Y (Zf (ov Y) (ov Y) (Zp Qh Zl) Y Y Y (Zt (Ze Zl) Zl) (Zb ZaL)<|ZC<|Eq.trans Zl<|Eq.symm Zl)<|D1 5 QG Y<|Dd<|?_
   obtain rfl := rt h
   exact Zz (ZP Y (.two (.agg Y Y Y Y Qh (Zm<|Ze Zl) Zl (pwB Qz) (hns := Jd))<|rb Y))
theorem Zk3 {xs r : List Int} (h : Zhl xs = some r) :
    GSpec Tryz.prog gl0 126 [.own 0 xs.length] [some ⟨3, List.map R3 xs⟩] (.tuple []) [some ⟨3, List.map R3 r⟩] :=
  ZoV (g := R3) (fun _ => rfl) (by kernel_rfl) tZ_3 (fun _ _ _ _ _ h1 h2 h3 => Any.slices_Sort_int Tryz.lays189 _ _ _ _ _ h1 h2 h3) (fun p c w => Any.slices_Sort_int_none Tryz.lays189 p c w) h
theorem ZbK {s : List api_Rest} {f : api_Rest → Option Bool} {r : Int} {f_f : FuncId} {f_c : List AV} (f_d : f_c.all datB = true) (f_h : ∀ (z0 : api_Rest) z, f z0 = some z → CSpec Tryz.prog gl0 f_f ([.agg ((.int .i64 z0.Number) :: ((List.map C47 z0.Frame.toList) ++ (((List.map C3 z0.States.toList) ++ ((.bool z0.Sound) :: (.int .i64 z0.Copies) :: (.bool z0.Conflict) :: [])))))] ++ f_c) (.bool z)) (h : Qb s f = some r) :
 CSpec Tryz.prog gl0 214 [.sl 74 (List.map R74 s), .fn f_f f_c] (.int .i64 r) := by
 unfold Qb at h
 replace h := Qj h
 refine So Tryz.func214 Y fun w0 A=>Tr<|Ra Y<|Za<|J0 (fun j => (.inr j)) ⟨[], []⟩ h (fun h=>?_) fun h=>?_
 ·
  refine K2 0 1 Y<|Tr<|Rm Y<|Rl tZ_74 Qd Y<|Rm Y<|Za<|Zk<|?_
  obtain ⟨r1, hl1, ho1⟩ := QP h
  refine L1 (fun i=>⟨[(0, .sl 74 (List.map R74 s)), (1, .fn f_f f_c), (7, .int .i64 (s.length : Int)), (8, .int .i64 i)], []⟩) hl1 (ES []<|sd 0 Y Y<|sr 1 Y (rFn<|rld f_d)<|sd 7 Y Y<|sd 8 Y Y sn) fun n1 i h=>?_
  unfold ZQ at h
  refine Tr<|R2 ZX Y<|Za<|Zr<|If h Y (fun h=>?_) fun h=>?_
  ·
   refine Zn<|Zr<|Zk<|K4 0 1 7 8 Y<|Tr<|Rm Y<|Ra Y<|Za<|K5 0 1 5 7 8 Y<|Tr<|Rm Y<|Rm Y<|Rm Y<|bE h fun x h_x h=>Rq Y (ZS (ov Y) (ov Y) Qd h_x)<|Rq Y (ZF (ov Y) Qh (Zm<|Ze Zl) Zl)<|bE h fun y h_y h=>Rq Y (ZjL (ov Y) f_d (f_h _ _ h_y)<|.cons (ov Y) (.aggB Qz) .nil)<|Za<|K6 0 1 5 7 8 16 Y<|If h Y (fun h=>?_) fun h=>?_
   ·
    refine K1 5 Y<|Tr<|Rm Y<|Ra Y<|Za<|?_
    replace h := lx h ▸ ho1
    obtain rfl := rt h
    exact Zz (ZP Y (.one<|rb Y))
   ·
    exact Zn<|K4 0 1 7 8 Y<|Zu<|R2 ZZ Y<|Rm Y<|Za<|⟨_, h, ES []<|sd 0 Y Y<|sr 1 Y (rFn<|rld f_d)<|sd 7 Y Y<|sd 8 Y Y sn⟩
  ·
   refine ZL<|?_
   replace h := lx h ▸ ho1
   exact ⟨_, h, ES []⟩
 ·
  replace h := elr h
  replace h := t0i h
  refine Tr<|Ra Y<|Za<|?_
  obtain rfl := rt h
  exact Zz (ZP Y (.one<|rb Y))
theorem Za2 {s : List api_Rest} {f : api_Rest → Option Bool} {r : Bool} {f_f : FuncId} {f_c : List AV} (f_d : f_c.all datB = true) (f_h : ∀ (z0 : api_Rest) z, f z0 = some z → CSpec Tryz.prog gl0 f_f ([.agg ((.int .i64 z0.Number) :: ((List.map C47 z0.Frame.toList) ++ (((List.map C3 z0.States.toList) ++ ((.bool z0.Sound) :: (.int .i64 z0.Copies) :: (.bool z0.Conflict) :: [])))))] ++ f_c) (.bool z)) (h : ZW s f = some r) :
 CSpec Tryz.prog gl0 173 [.sl 74 (List.map R74 s), .fn f_f f_c] (.bool r) := by
 unfold ZW at h
 replace h := Qj h
 refine So Tryz.func173 Y fun w0 A=>Tr<|Ra Y<|Za<|Tr<|Rm Y<|Rm Y<|bE h fun y h_y h=>Rq Y (Zq (ZbK f_d f_h h_y)<|.cons (ov Y) (.b Y)<|.cons (ov Y) (Dat.fnC<|.refl fun x hx => .b<|List.all_eq_true.1 f_d x hx) .nil)<|R2 ZdJ Y<|Ra Y<|Za<|?_
 obtain rfl := rt h
 exact Zz (ZP Y (.one<|rb Y))
theorem ZhH {r_ : api_Rest} {r : Bool} (h : JN r_ = some r) :
 CSpec Tryz.prog gl0 174 [.agg ((.int .i64 r_.Number) :: ((List.map C47 r_.Frame.toList) ++ (((List.map C3 r_.States.toList) ++ ((.bool r_.Sound) :: (.int .i64 r_.Copies) :: (.bool r_.Conflict) :: [])))))] (.bool r) := by
 unfold JN at h
 replace h := Qj h
 refine So Tryz.func174 Y fun w0 A=>Tr<|Rq Y (QK (cva<|ov Y) Zl tZ_74 Qz)<|Ra Y<|Za<|K2 1 2 Y<|Tr<|Rq Y (ZB (ov Y) Zgp)<|Rq Y (Zh (ov Y) tS4<|Zj ZkS)<|Ra Y<|Za<|?_
 obtain rfl := rt h
 exact Zz (ZP Y (.one<|rb Y))
theorem Zgw {out : api_Rest} {l : List api_Rest} {r : Bool × api_Rest} (h : Ja out l = some r) :
 GSpec Tryz.prog gl0 175 [.ptr 0 1 0 0, .sl 74 (List.map R74 l)] [some ⟨74, [(.int .i64 out.Number) :: ((List.map C47 out.Frame.toList) ++ (((List.map C3 out.States.toList) ++ ((.bool out.Sound) :: (.int .i64 out.Copies) :: (.bool out.Conflict) :: []))))]⟩] (.bool r.1) [some ⟨74, [(.int .i64 r.2.Number) :: ((List.map C47 r.2.Frame.toList) ++ (((List.map C3 r.2.States.toList) ++ ((.bool r.2.Sound) :: (.int .i64 r.2.Copies) :: (.bool r.2.Conflict) :: []))))]⟩] := by
 unfold Ja at h
 replace h := Qj h
 refine Zes (by kernel_rfl) Tryz.func175 Y Y<|?_
 intro w0 A W φ0
 refine Tr<|Ra Y<|Za<|J1 (fun j => (.inr j)) (fun o=>⟨[], [some ⟨74, [(.int .i64 o.Number) :: ((List.map C47 o.Frame.toList) ++ (((List.map C3 o.States.toList) ++ ((.bool o.Sound) :: (.int .i64 o.Copies) :: (.bool o.Conflict) :: []))))]⟩]⟩) h (fun h=>?_) fun o h=>?_
 ·
  refine K2 0 1 Y<|Tr<|Rm Y<|Rl tZ_74 Qd Y<|Rm Y<|Za<|Zk<|?_
  obtain ⟨r1, hl1, ho1⟩ := QP h
  refine L2 (fun o2 i=>⟨[(0, .ptr 0 1 0 0), (9, .sl 74 (List.map R74 l)), (10, .int .i64 (l.length : Int)), (11, .int .i64 i)], [some ⟨74, [(.int .i64 o2.Number) :: ((List.map C47 o2.Frame.toList) ++ (((List.map C3 o2.States.toList) ++ ((.bool o2.Sound) :: (.int .i64 o2.Copies) :: (.bool o2.Conflict) :: []))))]⟩]⟩) hl1 (ES [some 0]) fun n1 o2 i h=>?_
  unfold Xo at h
  refine Tr<|R2 ZX Y<|Za<|Zr<|If h Y (fun h=>?_) fun h=>?_
  ·
   refine Zn<|J1 (fun j => (.inr j)) (fun o3=>⟨[(0, .ptr 0 1 0 0), (9, .sl 74 (List.map R74 l)), (10, .int .i64 (l.length : Int)), (11, .int .i64 i)], [some ⟨74, [(.int .i64 o3.Number) :: ((List.map C47 o3.Frame.toList) ++ (((List.map C3 o3.States.toList) ++ ((.bool o3.Sound) :: (.int .i64 o3.Copies) :: (.bool o3.Conflict) :: []))))]⟩]⟩) h (fun h=>?_) fun o3 h=>?_
   ·
    refine Zk<|K4 0 9 10 11 Y<|Tr<|bE h fun x h_x h=>Rq Y (ZS (ov Y) (ov Y) Qd h_x)<|Rq Y (ZF (ov Y) Qh (Zm<|Ze Zl) Zl)<|Rx Y (ZO (row := (.int .i64 0) :: ((List.map C47 (Vector.replicate 64 0).toList) ++ (((List.map C3 (Vector.replicate 64 0).toList) ++ ((.bool false) :: (.int .i64 0) :: (.bool false) :: []))))) 1 Y ZbS (by kernel_rfl)<|by exact Eq.symm (Eq.trans (b := 132) Zl tZ_74.symm))<|Rx Y (Zf (ov Y) (ov Y) (Zp Qh Zl) Y Y Y (Zt (Ze Zl) Zl) (Zb ZaL)<|ZC<|Eq.trans Zl<|Eq.symm Zl)<|Za<|Zr<|K5 0 6 9 10 11 Y<|Tr<|Rq Y (Zd (ov Y) Y Y Zcm)<|Rq Y (Zi (ov Y) Y Y Y tS4<|Zj ZeC)<|R1 Jn Y<|Za<|K6 0 6 9 10 11 17 Y<|If h Y (fun h=>?_) fun h=>?_
    ·
     exact ZL<|⟨_, h, ES [some 0]⟩
    ·
     refine Zn<|Zr<|K5 0 6 9 10 11 Y<|Td md0<|D1 0 Zc Y<|Dq 1 Y (Zs (ov Y) Y Y)<|Dq 2 Y (Zd (ov Y) Y Y Zcm)<|Dq 3 Y (Zi (ov Y) Y Y Y tS4<|Zj ZeC)<|D1 4 Zc Y<|Dq 5 Y (.guarded (o2.Sound == true) Y Y Y Y fun h => Zc<|ov Y)<|Dq 6 Y (.guarded (o2.Sound == true) Y Y Y Y fun h => Zs (ow Y h) Y Y)<|Dq 7 Y (.guarded (o2.Sound == true) Y Y Y Y fun h => Zd (ow Y h) Y Y Xb)<|Dq 8 Y (.guarded (o2.Sound == true) Y Y Y Y fun h => Zy (ow Y h) Y Y Y Z3 (Zm JL) arL (hns := (nsM fun _ => Y)))<|Dq 9 Y (.guarded (o2.Sound == true) Y Y Y Y fun h => Zd (ov Y) Y Y Xb)<|Dq 10 Y (.guarded (o2.Sound == true) Y Y Y Y fun h => Zy (ow Y h) Y Y Y Z3 (Zm JL) arL (hns := (nsM fun _ => Y)))<|Dq 11 Y (.guarded (o2.Sound == true) Y Y Y Y fun h => ZmZ Zoj (ow Y h) (ow Y h) (.aggB<|arD fun _ => Y) (.aggB<|arD fun _ => Y) (fkV fun _ => Y) (fkV fun _ => Y)<|eqV fun _ _ => Y)<|Dq 12 Y (QU (ov Y) fun hp=>ow Y<|gT hp)<|Dd<|K6 0 6 9 10 11 30 Y<|If h Y (fun h=>?_) fun h=>?_
     ·
      refine K0<|Tr<|Ra Y<|Za<|?_
      replace h := lx h ▸ ho1
      obtain rfl := rt h
      exact Zz<|Zmb [some 0] Y (.cons (.tmp Y) .nil) (.cons Y (ro1 (by exact Eq.trans (b := 132) Zl tZ_74.symm)<|rld Qz) .nil) Y Y<|.dat Y
     ·
      refine Zn<|K5 0 6 9 10 11 Y<|Td md0<|D1 0 Zc Y<|Dq 4 Y (Zs (ov Y) Y Y)<|Dq 5 Y (Zd (ov Y) Y Y Zcm)<|Zai 1 _ Y (by kernel_rfl) Y Y (fun hp'=>Zc<|ov Y)<|Dw 2 6 Y (Zd (ov Y) Y Y Xb) (Zf (ov Y) (ov Y) (Zg tS4) Y Y Y (Zt ZeC Y) (Zb Y) Zjq) ?_ ?_
      ·
       refine Dw 3 6 Y (Zy (ov Y) Y Y Y Z3 (Zm JL) arL (hns := (nsM fun _ => Y))) (Zf (ov Y) (ov Y) (Zg tS4) Y Y Y (Zt ZeC Y) (Zb Y) Zjq) ?_ ?_
       ·
        refine Do 6 Y (Zf (ov Y) (ov Y) (Zg tS4) Y Y Y (Zt ZeC Y) (Zb Y) Zjq)<|Dq 7 Y (Zs (ov Y) Y Y)<|Dq 8 Y (Zd (ov Y) Y Y Xb)<|Do 9 Y (Zf (ov Y) (ov Y) (Zp Z3 arL) Y Y Y (Zt JL arL) (Zb<|arC fun _ => Y) Zgc)<|Dd<|K5 0 6 9 10 11 Y<|Tr<|Rq Y (Zd (ov Y) Y Y QJ)<|Rq Y (Zy (ov Y) Y Y Y Zhv (Zm Xz) arL (hns := (nsM fun _ => Y)))<|Rm Y<|Za<|Zk<|?_
        obtain ⟨r2, hl2, ho2⟩ := bnd h
        refine L2 (fun States i2=>⟨[(0, .ptr 0 1 0 0), (9, .sl 74 (List.map R74 l)), (10, .int .i64 (l.length : Int)), (11, .int .i64 i), (40, .agg (List.map C3 x.States.toList)), (41, .int .i64 i2)], [some ⟨74, [(.int .i64 o2.Number) :: ((List.map C47 x.Frame.toList) ++ (((List.map C3 States.toList) ++ ((.bool true) :: (.int .i64 o2.Copies) :: (.bool o2.Conflict) :: []))))]⟩]⟩) hl2 (ES [some 0]) fun n2 States i2 h=>?_
        unfold Qx at h
        refine Tr<|R2 ZX Y<|Za<|Zr<|If h Y (fun h=>?_) fun h=>?_
        ·
         exact Zn<|Zr<|Zk<|K6 0 9 10 11 40 41 Y<|Tr<|Rm Y<|bE h fun x2 h_x2 h=>Rq Y (Jr (ov Y) (ov Y) ZaO tS3 h_x2)<|Ra Y<|Ra Y<|Za<|K8 0 7 8 9 10 11 40 41 Y<|J6 (cw := md0) (by kernel_rfl)<|D1 0 Zc Y<|D1 1 Zc Y<|D1 2 Zc Y<|D1 3 Zc Y<|Dq 4 Y (Zs (ov Y) Y Y)<|Dq 5 Y (Zd (ov Y) Y Y QJ)<|bE h fun x3 h_x3 h=>Dq 6 Y (ZY (ov Y) (ov Y) ZaO Y Y h_x3)<|Dq 7 Y (Zi (ov Y) Y Y Y tS3<|Zj<|Z1 (o := 65) (o' := (i2.toNat * 1)) Xz<|ZN h_x3)<|D1 8 Zc Y<|Dq 9 Y (Zjj (ov Y) (ov Y) Y)<|Dq 10 Y (Zs (ov Y) Y Y)<|Dq 11 Y (Zd (ov Y) Y Y QJ)<|bE h fun x4 h_x4 h=>Dq 12 Y (ZY (ov Y) (ov Y) ZaO Y Y h_x4)<|Do 13 Y (Zf (ov Y) (ov Y) (Zg tS3) Y Y Y (Zt (Z1 (o := 65) (o' := (i2.toNat * 1)) Xz<|ZN h_x4) Y) (Zb Y)<|Xk (o := 65) (o' := (i2.toNat * 1)) Xz (ZN h_x4) Y (Jc h_x4 (x := (max x3 x2))) ZeY)<|Dd<|K6 0 9 10 11 40 41 Y<|Zu<|R2 ZZ Y<|Rm Y<|Za<|⟨_, h, ES [some 0]⟩
        ·
         refine ZL<|?_
         replace h := lx h ▸ ho2
         exact ⟨_, h, ES [some 0]⟩
       ·
        refine Dq 3 Y (Zy (ov Y) Y Y Y Z3 (Zm JL) arL (hns := (nsM fun _ => Y)))<|Dq 7 Y (Zs (ov Y) Y Y)<|Dq 8 Y (Zd (ov Y) Y Y Xb)<|Do 9 Y (Zf (ov Y) (ov Y) (Zp Z3 arL) Y Y Y (Zt JL arL) (Zb<|arC fun _ => Y) Zgc)<|Dd<|K5 0 6 9 10 11 Y<|Tr<|Rq Y (Zd (ov Y) Y Y QJ)<|Rq Y (Zy (ov Y) Y Y Y Zhv (Zm Xz) arL (hns := (nsM fun _ => Y)))<|Rm Y<|Za<|Zk<|?_
        obtain ⟨r2, hl2, ho2⟩ := bnd h
        refine L2 (fun States i2=>⟨[(0, .ptr 0 1 0 0), (9, .sl 74 (List.map R74 l)), (10, .int .i64 (l.length : Int)), (11, .int .i64 i), (40, .agg (List.map C3 x.States.toList)), (41, .int .i64 i2)], [some ⟨74, [(.int .i64 o2.Number) :: ((List.map C47 x.Frame.toList) ++ (((List.map C3 States.toList) ++ ((.bool true) :: (.int .i64 o2.Copies) :: (.bool o2.Conflict) :: []))))]⟩]⟩) hl2 (ES [some 0]) fun n2 States i2 h=>?_
        unfold Qx at h
        refine Tr<|R2 ZX Y<|Za<|Zr<|If h Y (fun h=>?_) fun h=>?_
        ·
         exact Zn<|Zr<|Zk<|K6 0 9 10 11 40 41 Y<|Tr<|Rm Y<|bE h fun x2 h_x2 h=>Rq Y (Jr (ov Y) (ov Y) ZaO tS3 h_x2)<|Ra Y<|Ra Y<|Za<|K8 0 7 8 9 10 11 40 41 Y<|J6 (cw := md0) (by kernel_rfl)<|D1 0 Zc Y<|D1 1 Zc Y<|D1 2 Zc Y<|D1 3 Zc Y<|Dq 4 Y (Zs (ov Y) Y Y)<|Dq 5 Y (Zd (ov Y) Y Y QJ)<|bE h fun x3 h_x3 h=>Dq 6 Y (ZY (ov Y) (ov Y) ZaO Y Y h_x3)<|Dq 7 Y (Zi (ov Y) Y Y Y tS3<|Zj<|Z1 (o := 65) (o' := (i2.toNat * 1)) Xz<|ZN h_x3)<|D1 8 Zc Y<|Dq 9 Y (Zjj (ov Y) (ov Y) Y)<|Dq 10 Y (Zs (ov Y) Y Y)<|Dq 11 Y (Zd (ov Y) Y Y QJ)<|bE h fun x4 h_x4 h=>Dq 12 Y (ZY (ov Y) (ov Y) ZaO Y Y h_x4)<|Do 13 Y (Zf (ov Y) (ov Y) (Zg tS3) Y Y Y (Zt (Z1 (o := 65) (o' := (i2.toNat * 1)) Xz<|ZN h_x4) Y) (Zb Y)<|Xk (o := 65) (o' := (i2.toNat * 1)) Xz (ZN h_x4) Y (Jc h_x4 (x := (max x3 x2))) ZeY)<|Dd<|K6 0 9 10 11 40 41 Y<|Zu<|R2 ZZ Y<|Rm Y<|Za<|⟨_, h, ES [some 0]⟩
        ·
         refine ZL<|?_
         replace h := lx h ▸ ho2
         exact ⟨_, h, ES [some 0]⟩
      ·
       refine Dq 2 Y (Zd (ov Y) Y Y Xb)<|Dq 3 Y (Zy (ov Y) Y Y Y Z3 (Zm JL) arL (hns := (nsM fun _ => Y)))<|Dq 7 Y (Zs (ov Y) Y Y)<|Dq 8 Y (Zd (ov Y) Y Y Xb)<|Do 9 Y (Zf (ov Y) (ov Y) (Zp Z3 arL) Y Y Y (Zt JL arL) (Zb<|arC fun _ => Y) Zgc)<|Dd<|K5 0 6 9 10 11 Y<|Tr<|Rq Y (Zd (ov Y) Y Y QJ)<|Rq Y (Zy (ov Y) Y Y Y Zhv (Zm Xz) arL (hns := (nsM fun _ => Y)))<|Rm Y<|Za<|Zk<|?_
       obtain ⟨r2, hl2, ho2⟩ := bnd h
       refine L2 (fun States i2=>⟨[(0, .ptr 0 1 0 0), (9, .sl 74 (List.map R74 l)), (10, .int .i64 (l.length : Int)), (11, .int .i64 i), (40, .agg (List.map C3 x.States.toList)), (41, .int .i64 i2)], [some ⟨74, [(.int .i64 o2.Number) :: ((List.map C47 x.Frame.toList) ++ (((List.map C3 States.toList) ++ ((.bool true) :: (.int .i64 o2.Copies) :: (.bool o2.Conflict) :: []))))]⟩]⟩) hl2 (ES [some 0]) fun n2 States i2 h=>?_
       unfold Qx at h
       refine Tr<|R2 ZX Y<|Za<|Zr<|If h Y (fun h=>?_) fun h=>?_
       ·
        exact Zn<|Zr<|Zk<|K6 0 9 10 11 40 41 Y<|Tr<|Rm Y<|bE h fun x2 h_x2 h=>Rq Y (Jr (ov Y) (ov Y) ZaO tS3 h_x2)<|Ra Y<|Ra Y<|Za<|K8 0 7 8 9 10 11 40 41 Y<|J6 (cw := md0) (by kernel_rfl)<|D1 0 Zc Y<|D1 1 Zc Y<|D1 2 Zc Y<|D1 3 Zc Y<|Dq 4 Y (Zs (ov Y) Y Y)<|Dq 5 Y (Zd (ov Y) Y Y QJ)<|bE h fun x3 h_x3 h=>Dq 6 Y (ZY (ov Y) (ov Y) ZaO Y Y h_x3)<|Dq 7 Y (Zi (ov Y) Y Y Y tS3<|Zj<|Z1 (o := 65) (o' := (i2.toNat * 1)) Xz<|ZN h_x3)<|D1 8 Zc Y<|Dq 9 Y (Zjj (ov Y) (ov Y) Y)<|Dq 10 Y (Zs (ov Y) Y Y)<|Dq 11 Y (Zd (ov Y) Y Y QJ)<|bE h fun x4 h_x4 h=>Dq 12 Y (ZY (ov Y) (ov Y) ZaO Y Y h_x4)<|Do 13 Y (Zf (ov Y) (ov Y) (Zg tS3) Y Y Y (Zt (Z1 (o := 65) (o' := (i2.toNat * 1)) Xz<|ZN h_x4) Y) (Zb Y)<|Xk (o := 65) (o' := (i2.toNat * 1)) Xz (ZN h_x4) Y (Jc h_x4 (x := (max x3 x2))) ZeY)<|Dd<|K6 0 9 10 11 40 41 Y<|Zu<|R2 ZZ Y<|Rm Y<|Za<|⟨_, h, ES [some 0]⟩
       ·
        refine ZL<|?_
        replace h := lx h ▸ ho2
        exact ⟨_, h, ES [some 0]⟩
   ·
    replace h := elr h
    replace h := t1i h
    exact Zu<|R2 ZZ Y<|Rm Y<|Za<|⟨_, h, ES [some 0]⟩
  ·
   refine ZL<|?_
   replace h := lx h ▸ ho1
   exact ⟨_, h, ES [some 0]⟩
 ·
  replace h := elr h
  replace h := t1i h
  refine Tr<|Ra Y<|Za<|?_
  obtain rfl := rt h
  exact Zz<|Zmb [some 0] Y (.cons (.tmp Y) .nil) (.cons Y (ro1 (by exact Eq.trans (b := 132) Zl tZ_74.symm)<|rld Qz) .nil) Y Y<|.dat Y
theorem Zgt {out : api_Rest} {l : List api_Rest} {r : api_Rest} (h : JO out l = some r) :
 GSpec Tryz.prog gl0 176 [.ptr 0 1 0 0, .sl 74 (List.map R74 l)] [some ⟨74, [(.int .i64 out.Number) :: ((List.map C47 out.Frame.toList) ++ (((List.map C3 out.States.toList) ++ ((.bool out.Sound) :: (.int .i64 out.Copies) :: (.bool out.Conflict) :: []))))]⟩] (.tuple []) [some ⟨74, [(.int .i64 r.Number) :: ((List.map C47 r.Frame.toList) ++ (((List.map C3 r.States.toList) ++ ((.bool r.Sound) :: (.int .i64 r.Copies) :: (.bool r.Conflict) :: []))))]⟩] := by
 unfold JO at h
 replace h := Qj h
 refine Zes (by kernel_rfl) Tryz.func176 Y Y<|?_
 intro w0 A W φ0
 refine Tr<|Rm Y<|Za<|Zk<|?_
 obtain ⟨r1, hl1, ho1⟩ := QP h
 refine L2 (fun o i=>⟨[(0, .ptr 0 1 0 0), (1, .sl 74 (List.map R74 l)), (8, .int .i64 i)], [some ⟨74, [(.int .i64 o.Number) :: ((List.map C47 o.Frame.toList) ++ (((List.map C3 o.States.toList) ++ ((.bool o.Sound) :: (.int .i64 o.Copies) :: (.bool o.Conflict) :: []))))]⟩]⟩) hl1 (ES [some 0]) fun n1 o i h=>?_
 unfold Xr at h
 refine Tr<|R2 ZX Y<|Za<|Zr<|If h Y (fun h=>?_) fun h=>?_
 ·
  refine Zn<|I1 (fun o2=>⟨[(0, .ptr 0 1 0 0), (1, .sl 74 (List.map R74 l)), (8, .int .i64 i)], [some ⟨74, [(.int .i64 o2.Number) :: ((List.map C47 o2.Frame.toList) ++ (((List.map C3 o2.States.toList) ++ ((.bool o2.Sound) :: (.int .i64 o2.Copies) :: (.bool o2.Conflict) :: []))))]⟩]⟩) h (fun h=>?_) fun o2 h=>?_
  ·
   refine Zk<|K3 0 1 8 Y<|Tr<|Rm Y<|Ra Y<|Za<|K4 0 1 4 8 Y<|Tr<|Ra Y<|Za<|I2 (fun o3 differ=>⟨[(0, .ptr 0 1 0 0), (1, .sl 74 (List.map R74 l)), (4, .int .i64 i), (5, .bool differ), (8, .int .i64 i)], [some ⟨74, [(.int .i64 o3.Number) :: ((List.map C47 o3.Frame.toList) ++ (((List.map C3 o3.States.toList) ++ ((.bool o3.Sound) :: (.int .i64 o3.Copies) :: (.bool o3.Conflict) :: []))))]⟩]⟩) h (fun h=>?_) fun o3 differ h=>?_
   ·
    refine Tr<|Rm Y<|Rl tZ_74 Qd Y<|Rm Y<|Za<|Zk<|?_
    obtain ⟨r2, hl2, ho2⟩ := QP h
    refine L3 (fun o4 differ2 i2=>⟨[(0, .ptr 0 1 0 0), (1, .sl 74 (List.map R74 l)), (4, .int .i64 i), (5, .bool differ2), (8, .int .i64 i), (11, .sl 74 (List.map R74 l)), (12, .int .i64 (l.length : Int)), (13, .int .i64 i2)], [some ⟨74, [(.int .i64 o4.Number) :: ((List.map C47 o4.Frame.toList) ++ (((List.map C3 o4.States.toList) ++ ((.bool o4.Sound) :: (.int .i64 o4.Copies) :: (.bool o4.Conflict) :: []))))]⟩]⟩) hl2 (ES [some 0]) fun n2 o4 differ2 i2 h=>?_
    unfold Q7 at h
    refine Tr<|R2 ZX Y<|Za<|Zr<|If h Y (fun h=>?_) fun h=>?_
    ·
     refine Zn<|Zr<|Zk<|K8 0 1 4 5 8 11 12 13 Y<|Tr<|bE h fun x h_x h=>Rq Y (ZS (ov Y) (ov Y) Qd h_x)<|Rq Y (ZF (ov Y) Qh (Zm<|Ze Zl) Zl)<|Rx Y (ZO (row := (.int .i64 0) :: ((List.map C47 (Vector.replicate 64 0).toList) ++ (((List.map C3 (Vector.replicate 64 0).toList) ++ ((.bool false) :: (.int .i64 0) :: (.bool false) :: []))))) 1 Y ZbS (by kernel_rfl)<|by exact Eq.symm (Eq.trans (b := 132) Zl tZ_74.symm))<|Rx Y (Zf (ov Y) (ov Y) (Zp Qh Zl) Y Y Y (Zt (Ze Zl) Zl) (Zb ZaL)<|ZC<|Eq.trans Zl<|Eq.symm Zl)<|Za<|Zr<|K9 0 1 4 5 7 8 11 12 13 Y<|Tr<|Rm Y<|Rq Y (Zd (ov Y) Y Y QJ)<|bE h fun x2 h_x2 h=>Rq Y (ZY (ov Y) (ov Y) ZaO Y Y h_x2)<|Rq Y (Zi (ov Y) Y Y Y tS3<|Zj<|Z1 (o := 65) (o' := (i.toNat * 1)) Xz<|ZN h_x2)<|R2 QD Y<|Za<|K10 0 1 4 5 7 8 11 12 13 21 Y<|If h Y (fun h=>?_) fun h=>?_
     ·
      exact ZL<|K8 0 1 4 5 8 11 12 13 Y<|Zu<|R2 ZZ Y<|Rm Y<|Za<|⟨_, h, ES [some 0]⟩
     ·
      exact Zn<|K9 0 1 4 5 7 8 11 12 13 Y<|Td md0<|D1 0 Zc Y<|D1 1 Zc Y<|Dq 2 Y (.guarded (differ2 == false) Y Y Y Y fun h => Zc<|ov Y)<|Dq 3 Y (.guarded (differ2 == false) Y Y Y Y fun h => Zc<|ov Y)<|Dq 4 Y (.guarded (differ2 == false) Y Y Y Y fun h => Zs (ow Y h) Y Y)<|Dq 5 Y (.guarded (differ2 == false) Y Y Y Y fun h => Zd (ow Y h) Y Y QJ)<|bE h fun x3 h_x3 h=>Dq 6 Y (.guarded (differ2 == false) Y Y Y Y fun h => ZY (ow Y h) (ow Y h) ZaO Y Y<|gdT h_x3 h)<|Dq 7 Y (.guarded (differ2 == false) Y Y Y Y fun h => Zi (ow Y h) Y Y Y tS3<|Zj<|Z1 (o := 65) (o' := (i.toNat * 1)) Xz<|ZN<|gdT h_x3 h)<|Dq 8 Y (.guarded (differ2 == false) Y Y Y Y fun h => Jl (ow Y h)<|ov Y)<|Dq 9 Y (.guarded (differ2 == false) Y Y Y Y fun h => Zc<|ow Y h)<|Dq 10 Y (.guarded2 ((differ2 == false) && ((!decide (x3 = 0)) == true)) Y Y Y Y fun h => Zc<|ov Y)<|Dq 11 Y (.guarded2 ((differ2 == false) && ((!decide (x3 = 0)) == true)) Y Y Y Y fun h => Zc<|ov Y)<|Dq 12 Y (.guarded2 ((differ2 == false) && ((!decide (x3 = 0)) == true)) Y Y Y Y fun h => Zs (ow Y h) Y Y)<|Dq 13 Y (.guarded2 ((differ2 == false) && ((!decide (x3 = 0)) == true)) Y Y Y Y fun h => Zd (ow Y h) Y Y Xb)<|bE h fun x4 h_x4 h=>Dq 14 Y (.guarded2 ((differ2 == false) && ((!decide (x3 = 0)) == true)) Y Y Y Y fun h => ZY (ow Y h) (ow Y h) QL Y Y<|gdT h_x4 h)<|Dq 15 Y (.guarded2 ((differ2 == false) && ((!decide (x3 = 0)) == true)) Y Y Y Y fun h => Zi (ow Y h) Y Y Y QR<|Zj<|Z1 (o := 1) (o' := (i.toNat * 1)) JL<|ZN<|gdT h_x4 h)<|Dq 16 Y (.guarded2 ((differ2 == false) && ((!decide (x3 = 0)) == true)) Y Y Y Y fun h => Zc<|ov Y)<|Dq 17 Y (.guarded2 ((differ2 == false) && ((!decide (x3 = 0)) == true)) Y Y Y Y fun h => Zd (ov Y) Y Y Xb)<|bE h fun x5 h_x5 h=>Dq 18 Y (.guarded2 ((differ2 == false) && ((!decide (x3 = 0)) == true)) Y Y Y Y fun h => ZY (ow Y h) (ow Y h) QL Y Y<|gdT h_x5 h)<|Dq 19 Y (.guarded2 ((differ2 == false) && ((!decide (x3 = 0)) == true)) Y Y Y Y fun h => Zi (ow Y h) Y Y Y QR<|Zj<|Z1 (o := 1) (o' := (i.toNat * 1)) JL<|ZN<|gdT h_x5 h)<|Dq 20 Y (.guarded2 ((differ2 == false) && ((!decide (x3 = 0)) == true)) Y Y Y Y fun h => Jl (ow Y h)<|ow Y h)<|Dq 21 Y (.guarded (differ2 == false) Y Y Y Y fun h => QU (ow Y h) fun hp=>ow Y<|gA h<|gT hp)<|Dq 22 Y (Zaj (ov Y) fun hp=>ow Y<|gF hp)<|D1 23 QG Y<|Dd<|K9 0 1 4 5 7 8 11 12 13 Y<|J6 (cw := ⟨false, true, [some ⟨74, [(.int .i64 o4.Number) :: ((List.map C47 o4.Frame.toList) ++ (((List.map C3 o4.States.toList) ++ ((.bool o4.Sound) :: (.int .i64 o4.Copies) :: (.bool o4.Conflict) :: []))))]⟩, some ⟨74, [(.int .i64 x.Number) :: ((List.map C47 x.Frame.toList) ++ (((List.map C3 x.States.toList) ++ ((.bool x.Sound) :: (.int .i64 x.Copies) :: (.bool x.Conflict) :: []))))]⟩], [], [0]⟩) (by kernel_rfl)<|D1 0 Zc Y<|D1 1 Zc Y<|Dq 8 Y (Zs (ov Y) Y Y)<|Dq 9 Y (Zd (ov Y) Y Y QJ)<|bE h fun x6 h_x6 h=>Dq 10 Y (ZY (ov Y) (ov Y) ZaO Y Y h_x6)<|Zai 2 _ Y (by kernel_rfl) Y Y (fun hp'=>Zc<|ov Y)<|Zai 3 _ Y (by kernel_rfl) Y Y (fun hp'=>Zc<|ov Y)<|Zai 4 _ Y (by kernel_rfl) Y Y (fun hp'=>Zc<|ov Y)<|Ze7 5 _ Y (by kernel_rfl) Y Y Y (EL.ext<|.wr Y Y Y<|.keep .nil) (fun hp' hx=>Zd (ov Y) (hx.get Y Y) Y Xb)<|bE h fun x7 h_x7 h=>Ze7 6 _ Y (by kernel_rfl) Y Y Y (EL.ext<|.wr Y Y Y<|.keep .nil) (fun hp' hx=>ZY (ov Y) (ov Y) QL (hx.get Y Y) Y h_x7)<|Ze7 7 _ Y (by kernel_rfl) Y Y Y (EL.ext<|.wr Y Y Y<|.keep .nil) (fun hp' hx=>Zi (ov Y) (hx.get Y Y) Y Y QR<|Zj<|Z1 (o := 1) (o' := (i.toNat * 1)) JL<|ZN h_x7)<|Ze7 12 _ Y (by kernel_rfl) Y Y Y (EL.ext<|.wr Y Y Y<|.keep .nil) (fun hp' hx=>exW (r := 0) hx Y fun _ ho hn => Zs (ov Y) ho hn)<|Ze7 13 _ Y (by kernel_rfl) Y Y Y (EL.ext<|.wr Y Y Y<|.keep .nil) (fun hp' hx=>exW (r := 0) hx Y fun _ ho hn => Zd (ov Y) ho hn Xb)<|Znh 11 _ _ Y (by kernel_rfl) Y Y (fun h=>by cases h) (fun _=>by exact EL.ext (.wr rfl rfl rfl <| .keep <| .nil)) (Zf (ov Y) (ov Y) (Zg tS3) Y Y Y (Zt (Z1 (o := 65) (o' := (i.toNat * 1)) Xz<|ZN h_x6) Y) (Zb Y)<|Xk (o := 65) (o' := (i.toNat * 1)) Xz (ZN h_x6) Y (Jc h_x6 (x := 1)) ZeY)<|bE h fun x8 h_x8 h=>Dq 14 Y (ZY (ov Y) (ov Y) QL Y Y h_x8)<|Znh 15 _ _ Y (by kernel_rfl) Y Y (fun h=>by cases h) (fun _=>by exact EL.ext (.wr rfl rfl rfl <| .keep <| .nil)) (Zf (ov Y) (ov Y) (Zg QR) Y Y Y (Zt (Z1 (o := 1) (o' := (i.toNat * 1)) JL<|ZN h_x8) Y) (Zb Y)<|Xk (o := 1) (o' := (i.toNat * 1)) JL (ZN h_x8) Y (Jc h_x8 (x := x7)) Zgc)<|Dd<|K8 0 1 4 5 8 11 12 13 Y<|Zu<|R2 ZZ Y<|Rm Y<|Za<|⟨_, h, ES [some 0]⟩
    ·
     refine ZL<|?_
     replace h := lx h ▸ ho2
     exact ⟨_, h, ES [some 0]⟩
   ·
    refine Tr<|Rm Y<|Za<|K5 0 1 4 8 60 Y<|If h Y (fun h=>?_) fun h=>?_
    ·
     refine K4 0 1 4 8 Y<|J6 (cw := md0) (by kernel_rfl)<|D1 0 Zc Y<|D1 1 Zc Y<|Dq 4 Y (Zs (ov Y) Y Y)<|Dq 5 Y (Zd (ov Y) Y Y QJ)<|bE h fun x9 h_x9 h=>Dq 6 Y (ZY (ov Y) (ov Y) ZaO Y Y h_x9)<|Zai 2 _ Y (by kernel_rfl) Y Y (fun hp'=>Zc<|ov Y)<|Zai 3 _ Y (by kernel_rfl) Y Y (fun hp'=>Zc<|ov Y)<|Dw 8 7 Y (Zs (ov Y) Y Y) (Zf (ov Y) (ov Y) (Zg tS3) Y Y Y (Zt (Z1 (o := 65) (o' := (i.toNat * 1)) Xz<|ZN h_x9) Y) (Zb Y)<|Xk (o := 65) (o' := (i.toNat * 1)) Xz (ZN h_x9) Y (Jc h_x9 (x := 0)) ZeY) ?_ ?_
     ·
      refine Dw 9 7 Y (Zd (ov Y) Y Y Xb) (Zf (ov Y) (ov Y) (Zg tS3) Y Y Y (Zt (Z1 (o := 65) (o' := (i.toNat * 1)) Xz<|ZN h_x9) Y) (Zb Y)<|Xk (o := 65) (o' := (i.toNat * 1)) Xz (ZN h_x9) Y (Jc h_x9 (x := 0)) ZeY) ?_ ?_
      ·
       exact Do 7 Y (Zf (ov Y) (ov Y) (Zg tS3) Y Y Y (Zt (Z1 (o := 65) (o' := (i.toNat * 1)) Xz<|ZN h_x9) Y) (Zb Y)<|Xk (o := 65) (o' := (i.toNat * 1)) Xz (ZN h_x9) Y (Jc h_x9 (x := 0)) ZeY)<|bE h fun x10 h_x10 h=>Dq 10 Y (ZY (ov Y) (ov Y) QL Y Y h_x10)<|Do 11 Y (Zf (ov Y) (ov Y) (Zg QR) Y Y Y (Zt (Z1 (o := 1) (o' := (i.toNat * 1)) JL<|ZN h_x10) Y) (Zb Y)<|Xk (o := 1) (o' := (i.toNat * 1)) JL (ZN h_x10) Y (Jc h_x10 (x := 0)) Zgc)<|Dd<|⟨_, h, ES [some 0]⟩
      ·
       exact Dq 9 Y (Zd (ov Y) Y Y Xb)<|bE h fun x10 h_x10 h=>Dq 10 Y (ZY (ov Y) (ov Y) QL Y Y h_x10)<|Do 11 Y (Zf (ov Y) (ov Y) (Zg QR) Y Y Y (Zt (Z1 (o := 1) (o' := (i.toNat * 1)) JL<|ZN h_x10) Y) (Zb Y)<|Xk (o := 1) (o' := (i.toNat * 1)) JL (ZN h_x10) Y (Jc h_x10 (x := 0)) Zgc)<|Dd<|⟨_, h, ES [some 0]⟩
     ·
      exact Dq 8 Y (Zs (ov Y) Y Y)<|Dq 9 Y (Zd (ov Y) Y Y Xb)<|bE h fun x10 h_x10 h=>Dq 10 Y (ZY (ov Y) (ov Y) QL Y Y h_x10)<|Do 11 Y (Zf (ov Y) (ov Y) (Zg QR) Y Y Y (Zt (Z1 (o := 1) (o' := (i.toNat * 1)) JL<|ZN h_x10) Y) (Zb Y)<|Xk (o := 1) (o' := (i.toNat * 1)) JL (ZN h_x10) Y (Jc h_x10 (x := 0)) Zgc)<|Dd<|⟨_, h, ES [some 0]⟩
    ·
     exact Zn<|⟨_, h, ES [some 0]⟩
  ·
   exact Zu<|R2 ZZ Y<|Rm Y<|Za<|⟨_, h, ES [some 0]⟩
 ·
  refine ZL<|?_
  replace h := lx h ▸ ho1
  obtain rfl := rt h
  exact Zo7 [some 0] Y .nil (.cons Y (ro1 (by exact Eq.trans (b := 132) Zl tZ_74.symm)<|rld Qz) .nil) Y Y<|ZkV rln
theorem ZhU {s : Int} {c0 : Int} {c1 : Int} {r : Bool} (h : Zay s c0 c1 = some r) :
 CSpec Tryz.prog gl0 191 [.int .i64 s, .rp [.int .i64 c0] 0, .rp [.int .i64 c1] 0] (.bool r) := by
 unfold Zay at h
 replace h := Qj h
 refine So Tryz.func191 Y fun w0 A=>Tr<|Ra Y<|Za<|Tr<|Rm Y<|Rq Y (Zh (ov Y) tS3 Y)<|R2 QD Y<|Rm Y<|Rq Y (.guarded ((decide (s = c0)) == false) Y Y Y Y fun h => Zc<|ov Y)<|Rq Y (.guarded ((decide (s = c0)) == false) Y Y Y Y fun h => Zh (ov Y) tS3 Y)<|Rq Y (.guarded ((decide (s = c0)) == false) Y Y Y Y fun h => QD (ow Y h)<|ow Y h)<|Rq Y (Zaj (ov Y) fun hp=>ow Y<|gF hp)<|Ra Y<|Za<|?_
 obtain rfl := rt h
 exact Zz (ZP Y (.one<|rb Y))
theorem Zjv {r_ : api_Rest} {a : Int} {b : Int} {r : Bool} (h : ZaJ r_ a b = some r) :
 CSpec Tryz.prog gl0 150 [.agg ((.int .i64 r_.Number) :: ((List.map C47 r_.Frame.toList) ++ (((List.map C3 r_.States.toList) ++ ((.bool r_.Sound) :: (.int .i64 r_.Copies) :: (.bool r_.Conflict) :: []))))), .int .i64 a, .int .i64 b] (.bool r) := by
 unfold ZaJ at h
 replace h := Qj h
 refine So Tryz.func150 Y fun w0 A=>Tr<|Rq Y (QK (cva<|ov Y) Zl tZ_74 Qz)<|Rq Y (QK (cvs (ov Y)<|ZU Y) Y tZ_3 Y)<|Rq Y (QK (cvs (ov Y)<|ZU Y) Y tZ_3 Y)<|Ra Y<|Za<|K4 3 4 5 6 Y<|Tr<|Rq Y (ZB (ov Y) QJ)<|bE h fun l h_l h=>Rq Y (Zpv (f := C3) (ov Y) ZaO tZ_3 Xz Y on on h_l)<|Rq Y (Zho<|.cons (ov Y)<|.cons (ov Y) .nil)<|bE h fun y h_y h=>Rq Y (Zq (ZaB Y (fun z0 _ hz=>ZhU hz) h_y)<|.cons (ov Y) (.b Y)<|.cons (ov Y) (.fnC<|.cons (.b Y)<|.cons (.b Y) .nil) .nil)<|Ra Y<|Za<|?_
 obtain rfl := rt h
 exact Zz (ZP Y (.one<|rb Y))
theorem Zey {f : Vector Int 64} {number : Int} {r : Bool} (h : Xj f number = some r) :
 CSpec Tryz.prog gl0 129 [.agg (List.map C47 f.toList), .int .i64 number] (.bool r) := by
 unfold Xj at h
 replace h := Qj h
 refine So Tryz.func129 Y fun w0 A=>Tr<|Rq Y (QK (cva<|ov Y) arL tZ_49<|arD fun _ => Y)<|Ra Y<|Za<|K2 1 2 Y<|Tr<|Rq Y (ZF (ov Y) Z3 (Zm<|Ze arL) arL)<|bE h fun y h_y h=>Rq Y (Zq (ZdV h_y)<|.cons (ov Y) (.aggB<|arD fun _ => Y) .nil)<|Rm Y<|Rq Y (Zo (ov Y) Y)<|Rq Y (Zo (ov Y) Y)<|Ra Y<|Ra Y<|Za<|K3 1 2 5 Y<|Tr<|Rq Y (ZF (ov Y) Z3 (Zm<|Ze arL) arL)<|bE h fun y2 h_y2 h=>Rq Y (Zq (ZgO h_y2)<|.cons (ov Y) (.aggB<|arD fun _ => Y) .nil)<|Rm Y<|Rq Y (.guarded (y2 == true) Y Y Y Y fun h => Zc<|ov Y)<|Rq Y (.guarded (y2 == true) Y Y Y Y fun h => Zc<|ov Y)<|Rq Y (.guarded (y2 == true) Y Y Y Y fun h => QD (ow Y h)<|ow Y h)<|Rq Y (QU (ov Y) fun hp=>ow Y<|gT hp)<|Ra Y<|Za<|?_
 obtain rfl := rt h
 exact Zz (ZP Y (.one<|rb Y))
theorem ZbH {l : List api_Rest} {r : api_Rest} (h : XX l = some r) :
 CSpec Tryz.prog gl0 127 [.sl 74 (List.map R74 l)] (.agg ((.int .i64 r.Number) :: ((List.map C47 r.Frame.toList) ++ (((List.map C3 r.States.toList) ++ ((.bool r.Sound) :: (.int .i64 r.Copies) :: (.bool r.Conflict) :: [])))))) := by
 unfold XX at h
 replace h := Qj h
 refine So Tryz.func127 Y fun w0 A=>Tr<|Rx Y (ZO (row := (.int .i64 0) :: ((List.map C47 (Vector.replicate 64 0).toList) ++ (((List.map C3 (Vector.replicate 64 0).toList) ++ ((.bool false) :: (.int .i64 0) :: (.bool false) :: []))))) 0 Y ZbS (by kernel_rfl)<|by exact Eq.symm (Eq.trans (b := 132) Zl tZ_74.symm))<|Za<|Tr<|Rm Y<|bE h fun x h_x h=>Rq Y (ZS (ov Y) (ov Y) Qd h_x)<|Rq Y (ZB (ov Y) Qg)<|Rq Y (Zh (ov Y) tS3<|Zj at8)<|Rq Y (ZaR (zr := (.int .i64 0) :: ((List.map C47 (Vector.replicate 64 0).toList) ++ (((List.map C3 (Vector.replicate 64 0).toList) ++ ((.bool false) :: (.int .i64 0) :: (.bool false) :: []))))) Zhi Zhg ZbS (by kernel_rfl) (.cons (cvs (ov Y)<|ZU Y) .nil)<|Xf Y Y at8 pt9 ZdO)<|Rx Y (ZO (row := (.int .i64 0) :: ((List.map C47 (Vector.replicate 64 0).toList) ++ (((List.map C3 (Vector.replicate 64 0).toList) ++ ((.bool false) :: (.int .i64 0) :: (.bool false) :: []))))) 1 Y ZbS (by kernel_rfl)<|by exact Eq.symm (Eq.trans (b := 132) Zl tZ_74.symm))<|Rx Y (Zf (ov Y) (ov Y) (Zp Qh Zl) Y Y Y (Zt (Ze Zl) Zl) (Zb ZaL)<|ZC<|Eq.trans Zl<|Eq.symm Zl)<|Za<|I1 (fun Copies=>⟨[(0, .sl 74 (List.map R74 l)), (2, .ptr 0 1 0 0), (3, .ptr 1 1 0 0)], [some ⟨74, [(.int .i64 0) :: ((List.map C47 (Vector.replicate 64 0).toList) ++ (((List.map C3 (Vector.replicate 64 0).toList) ++ ((.bool false) :: (.int .i64 0) :: (.bool false) :: []))))]⟩, some ⟨74, [(.int .i64 x.Number) :: ((List.map C47 (Vector.replicate 64 0).toList) ++ (((List.map C3 (Vector.replicate 64 0).toList) ++ ((.bool false) :: (.int .i64 Copies) :: (.bool false) :: []))))]⟩]⟩) h (fun h=>?_) fun Copies h=>?_
 ·
  refine K3 0 2 3 Y<|Tr<|Rm Y<|Rl tZ_74 Qd Y<|Rm Y<|Za<|Zk<|?_
  obtain ⟨r1, hl1, ho1⟩ := QP h
  refine L2 (fun Copies2 i=>⟨[(0, .sl 74 (List.map R74 l)), (2, .ptr 0 1 0 0), (3, .ptr 1 1 0 0), (13, .sl 74 (List.map R74 l)), (14, .int .i64 (l.length : Int)), (15, .int .i64 i)], [some ⟨74, [(.int .i64 0) :: ((List.map C47 (Vector.replicate 64 0).toList) ++ (((List.map C3 (Vector.replicate 64 0).toList) ++ ((.bool false) :: (.int .i64 0) :: (.bool false) :: []))))]⟩, some ⟨74, [(.int .i64 x.Number) :: ((List.map C47 (Vector.replicate 64 0).toList) ++ (((List.map C3 (Vector.replicate 64 0).toList) ++ ((.bool false) :: (.int .i64 Copies2) :: (.bool false) :: []))))]⟩]⟩) hl1 (ES [some 0, some 1]) fun n1 Copies2 i h=>?_
  unfold Xu at h
  refine Tr<|R2 ZX Y<|Za<|Zr<|If h Y (fun h=>?_) fun h=>?_
  ·
   exact Zn<|Zr<|Zk<|K6 0 2 3 13 14 15 Y<|Tr<|bE h fun x2 h_x2 h=>Rq Y (ZS (ov Y) (ov Y) Qd h_x2)<|Rq Y (ZF (ov Y) Qh (Zm<|Ze Zl) Zl)<|Rx Y (ZO (row := (.int .i64 0) :: ((List.map C47 (Vector.replicate 64 0).toList) ++ (((List.map C3 (Vector.replicate 64 0).toList) ++ ((.bool false) :: (.int .i64 0) :: (.bool false) :: []))))) 2 Y ZbS (by kernel_rfl)<|by exact Eq.symm (Eq.trans (b := 132) Zl tZ_74.symm))<|Rx Y (Zf (ov Y) (ov Y) (Zp Qh Zl) Y Y Y (Zt (Ze Zl) Zl) (Zb ZaL)<|ZC<|Eq.trans Zl<|Eq.symm Zl)<|Za<|K7 0 2 3 5 13 14 15 Y<|Zu<|Rq Y (Zd (ov Y) Y Y ZbM)<|Rq Y (Zi (ov Y) Y Y Y tS3<|Zj Zfj)<|Rq Y (Zd (ov Y) Y Y ZbM)<|Rq Y (Zi (ov Y) Y Y Y tS3<|Zj Zfj)<|R2 ZZ Y<|Rq Y (Zd (ov Y) Y Y ZbM)<|Rx Y (Zf (ov Y) (ov Y) (Zg tS3) Y Y Y (Zt Zfj Y) (Zb Y) Zkv)<|Za<|K6 0 2 3 13 14 15 Y<|Zu<|R2 ZZ Y<|Rm Y<|Za<|⟨_, h, ES [some 0, some 1]⟩
  ·
   refine ZL<|?_
   replace h := lx h ▸ ho1
   exact ⟨_, h, ES [some 0, some 1]⟩
 ·
  refine Tr<|Rm Y<|bE h fun y h_y h=>Rq Y (Zq (Za2 Y (fun z0 _ hz=>ZhH hz) h_y)<|.cons (ov Y) (.b Y)<|.cons (ov Y) .fn .nil)<|Ra Y<|Za<|Zr<|K4 0 2 3 6 Y<|Tr<|Rm Y<|bE h fun y2 h_y2 h=>Rx Y (Zd8 [1] (Zgw h_y2) (.cons (ov Y) (.ptr _ _ _ Y)<|.cons (ov Y) (.dat Y) .nil) (.cons Y (ro1 (by exact Eq.trans (b := 132) Zl tZ_74.symm)<|rld Qz) .nil) Y (.keep Y Y<|.lent 0 (.inl Y) Y (ro1 (by exact Eq.trans (b := 132) Zl tZ_74.symm)<|rld Qz) .nil) Y Y<|.dat Y)<|Ra Y<|Za<|K5 0 2 3 6 7 Y<|Tr<|Rm Y<|Rm Y<|Rq Y (.guarded (y == false) Y Y Y Y fun h => Zc<|ov Y)<|Rq Y (.guarded (y == false) Y Y Y Y fun h => Jn<|ow Y h)<|Rq Y (Zaj (ov Y) fun hp=>ow Y<|gF hp)<|Za<|K4 0 2 3 34 Y<|If h Y (fun h=>?_) fun h=>?_
  ·
   refine K2 2 3 Y<|Tr<|Rq Y (Zd (ov Y) Y Y Qg)<|Rq Y (Zi (ov Y) Y Y Y tS3<|Zj at8)<|Rq Y (Zd (ov Y) Y Y ZbM)<|Rq Y (Zi (ov Y) Y Y Y tS3<|Zj Zfj)<|Rq Y (ZaR (zr := (.int .i64 0) :: ((List.map C47 (Vector.replicate 64 0).toList) ++ (((List.map C3 (Vector.replicate 64 0).toList) ++ ((.bool false) :: (.int .i64 0) :: (.bool false) :: []))))) Zhi Zhg ZbS (by kernel_rfl) (.cons (cvs (ov Y)<|ZU Y)<|.cons (cvs (ov Y)<|ZU Y)<|.cons (cvs (ov Y)<|ZU Y) .nil)<|Xf Y Y at8 pt9<|Xf Y Y Zfj Zkv<|Xf Y Y ZkS ZpJ ZdO)<|Rx Y (Zf (ov Y) (ov Y) (Zp Qh Zl) Y Y Y (Zt (Ze Zl) Zl) (Zb ZaL)<|ZC<|Eq.trans Zl<|Eq.symm Zl)<|Za<|?_
   obtain rfl := rt h
   exact Zz (ZP Y (.one<|.agg Y Y Y Y Qh (Zm<|Ze Zl) Zl (pwB Qz) (hns := Jd)))
  ·
   refine Zn<|I1 (fun out=>⟨[(2, .ptr 0 1 0 0), (3, .ptr 1 1 0 0)], [some ⟨74, [(.int .i64 0) :: ((List.map C47 (Vector.replicate 64 0).toList) ++ (((List.map C3 (Vector.replicate 64 0).toList) ++ ((.bool false) :: (.int .i64 0) :: (.bool false) :: []))))]⟩, some ⟨74, [(.int .i64 out.Number) :: ((List.map C47 out.Frame.toList) ++ (((List.map C3 out.States.toList) ++ ((.bool out.Sound) :: (.int .i64 out.Copies) :: (.bool out.Conflict) :: []))))]⟩]⟩) h (fun h=>?_) fun out h=>?_
   ·
    refine K3 0 2 3 Y<|Tr<|Rq Y (Zd (ov Y) Y Y Zcm)<|Rq Y (Zi (ov Y) Y Y Y tS4<|Zj ZeC)<|R1 Jn Y<|Za<|K4 0 2 3 42 Y<|If h Y (fun h=>?_) fun h=>?_
    ·
     refine K3 0 2 3 Y<|Tr<|Rm Y<|bE h fun y3 h_y3 h=>Rx Y (Zd8 [1] (Zgt h_y3) (.cons (ov Y) (.ptr _ _ _ Y)<|.cons (ov Y) (.dat Y) .nil) (.cons Y (ro1 (by exact Eq.trans (b := 132) Zl tZ_74.symm)<|rld Qz) .nil) Y (.keep Y Y<|.lent 0 (.inl Y) Y (ro1 (by exact Eq.trans (b := 132) Zl tZ_74.symm)<|rld Qz) .nil) Y Y<|ZkV<|rld Y)<|Za<|K2 2 3 Y<|Tr<|Rq Y (Zy (ov Y) Y Y Y Qh (Zm<|Ze Zl) Zl (hns := Jd))<|bE h fun y4 h_y4 h=>Rq Y (Zq (Zjv h_y4)<|.cons (ov Y) (.aggB Qz)<|.cons (ov Y) (.b Y)<|.cons (ov Y) (.b Y) .nil)<|R1 Jn Y<|Rm Y<|Rq Y (.guarded ((!y4) == true) Y Y Y Y fun h => Zd (ov Y) Y Y Xb)<|Rq Y (.guarded ((!y4) == true) Y Y Y Y fun h => Zy (ow Y h) Y Y Y Z3 (Zm JL) arL (hns := (nsM fun _ => Y)))<|Rq Y (.guarded ((!y4) == true) Y Y Y Y fun h => Zd (ov Y) Y Y Qg)<|Rq Y (.guarded ((!y4) == true) Y Y Y Y fun h => Zi (ow Y h) Y Y Y tS3<|Zj at8)<|bE h fun y5 h_y5 h=>Rq Y (.guarded ((!y4) == true) Y Y Y Y fun h => Zq (Zey<|gdT h_y5 h)<|.cons (ow Y h) (.aggB<|arD fun _ => Y)<|.cons (ow Y h) (.b Y) .nil)<|Rq Y (QU (ov Y) fun hp=>ow Y<|gT hp)<|Za<|K3 2 3 54 Y<|If h Y (fun h=>?_) fun h=>?_
     ·
      exact K2 2 3 Y<|Zu<|bE h fun y6 h_y6 h=>Rq Y (Zq (Zc6 h_y6)<|.cons (ov Y) (.b Y) .nil)<|Rq Y (Zd (ov Y) Y Y Zcm)<|Rx Y (Zf (ov Y) (ov Y) (Zg tS4) Y Y Y (Zt ZeC Y) (Zb Y) Zjq)<|Rq Y (Zd (ov Y) Y Y QJ)<|Rx Y (Zf (ov Y) (ov Y) (Zp Zhv arL) Y Y Y (Zt Xz arL) (Zb<|arC fun _ => Y) ZeY)<|Rq Y (Zd (ov Y) Y Y ZbM)<|Rx Y (Zf (ov Y) (ov Y) (Zg tS3) Y Y Y (Zt Zfj Y) (Zb Y) Zkv)<|Za<|⟨_, h, ES [some 0, some 1]⟩
     ·
      exact Zn<|⟨_, h, ES [some 0, some 1]⟩
    ·
     exact Zn<|⟨_, h, ES [some 0, some 1]⟩
   ·
    refine Zr<|Tr<|Rq Y (Zd (ov Y) Y Y Zcm)<|Rq Y (Zi (ov Y) Y Y Y tS4<|Zj ZeC)<|Rm Y<|Rq Y (.guarded (out.Sound == true) Y Y Y Y fun h => Zy (ov Y) Y Y Y Qh (Zm<|Ze Zl) Zl (hns := Jd))<|bE h fun y7 h_y7 h=>Rq Y (.guarded (out.Sound == true) Y Y Y Y fun h => Zq (ZgS<|gdT h_y7 h)<|.cons (ow Y h) (.aggB Qz)<|.cons (ov Y) (.b Y) .nil)<|Rq Y (QU (ov Y) fun hp=>ow Y<|gT hp)<|Za<|K3 2 3 64 Y<|If h Y (fun h=>?_) fun h=>?_
    ·
     refine K2 2 3 Y<|Zu<|Rq Y (Zd (ov Y) Y Y ZbM)<|Rq Y (Zi (ov Y) Y Y Y tS3<|Zj Zfj)<|Rq Y (Zjj (ov Y) (ov Y) Y)<|Rq Y (Zd (ov Y) Y Y ZbM)<|Rx Y (Zf (ov Y) (ov Y) (Zg tS3) Y Y Y (Zt Zfj Y) (Zb Y) Zkv)<|Za<|K2 2 3 Y<|Tr<|Rq Y (Zy (ov Y) Y Y Y Qh (Zm<|Ze Zl) Zl (hns := Jd))<|Rx Y (Zf (ov Y) (ov Y) (Zp Qh Zl) Y Y Y (Zt (Ze Zl) Zl) (Zb ZaL)<|ZC<|Eq.trans Zl<|Eq.symm Zl)<|Za<|?_
     obtain rfl := rt h
     exact Zz (ZP Y (.one<|.agg Y Y Y Y Qh (Zm<|Ze Zl) Zl (pwB Qz) (hns := Jd)))
    ·
     refine Zn<|K2 2 3 Y<|Tr<|Rq Y (Zy (ov Y) Y Y Y Qh (Zm<|Ze Zl) Zl (hns := Jd))<|Rx Y (Zf (ov Y) (ov Y) (Zp Qh Zl) Y Y Y (Zt (Ze Zl) Zl) (Zb ZaL)<|ZC<|Eq.trans Zl<|Eq.symm Zl)<|Za<|?_
     obtain rfl := rt h
     exact Zz (ZP Y (.one<|.agg Y Y Y Y Qh (Zm<|Ze Zl) Zl (pwB Qz) (hns := Jd)))
theorem ZhG {l : List api_Rest} {r : (List api_Rest)} (h : QO l = some r) :
 CSpec Tryz.prog gl0 65 [.sl 74 (List.map R74 l)] (.sl 74 (List.map R74 r)) := by
 unfold QO at h
 replace h := Qj h
 refine So Tryz.func65 Y fun w0 A=>Tr<|Ra Y<|Za<|K1 0 Y<|Tr<|Rx Y (Zfh 0 Y Qf)<|Ra Y<|Za<|K2 0 3 Y<|Tr<|Ra Y<|Za<|I2 (fun groups numbers=>⟨[(3, .mref 0 1), (4, .own 1 numbers.length)], [some ⟨165, [[.mcon (List.map (QC FK3 (osF 74 R74)) groups)]]⟩, some ⟨3, List.map R3 numbers⟩]⟩) h (fun h=>?_) fun groups numbers h=>?_
 ·
  refine Tr<|Rm Y<|Rl tZ_74 Qd Y<|Rm Y<|Za<|Zk<|?_
  obtain ⟨r1, hl1, ho1⟩ := QP h
  refine L3 (fun groups2 numbers2 i=>⟨[(3, .mref 0 1), (4, .own 1 numbers2.length), (11, .sl 74 (List.map R74 l)), (12, .int .i64 (l.length : Int)), (13, .int .i64 i)], [some ⟨165, [[.mcon (List.map (QC FK3 (osF 74 R74)) groups2)]]⟩, some ⟨3, List.map R3 numbers2⟩]⟩) hl1 (ES [some 0, none] (hhp := .cons Y (ZJ (fk := FK3) (fv := (osF 74 R74)) (m := ([] : List (Int × (List api_Rest)))) tZ_165 (fun _=>.dat Y) fun _=>QY D74)<|.row 3 .nil)) fun n1 groups2 numbers2 i h=>?_
  unfold Q6 at h
  refine Tr<|R2 ZX Y<|Za<|Zr<|If h Y (fun h=>?_) fun h=>?_
  ·
   refine Zn<|I2 (fun groups3 numbers3=>⟨[(3, .mref 0 1), (4, .own 1 numbers3.length), (11, .sl 74 (List.map R74 l)), (12, .int .i64 (l.length : Int)), (13, .int .i64 i)], [some ⟨165, [[.mcon (List.map (QC FK3 (osF 74 R74)) groups3)]]⟩, some ⟨3, List.map R3 numbers3⟩]⟩) h (fun h=>?_) fun groups3 numbers3 h=>?_
   ·
    refine Zk<|K5 3 4 11 12 13 Y<|Tr<|bE h fun x h_x h=>Rq Y (ZS (ov Y) (ov Y) Qd h_x)<|Rq Y (ZF (ov Y) Qh (Zm<|Ze Zl) Zl)<|Rx Y (ZO (row := (.int .i64 0) :: ((List.map C47 (Vector.replicate 64 0).toList) ++ (((List.map C3 (Vector.replicate 64 0).toList) ++ ((.bool false) :: (.int .i64 0) :: (.bool false) :: []))))) 2 Y ZbS (by kernel_rfl)<|by exact Eq.symm (Eq.trans (b := 132) Zl tZ_74.symm))<|Rx Y (Zf (ov Y) (ov Y) (Zp Qh Zl) Y Y Y (Zt (Ze Zl) Zl) (Zb ZaL)<|ZC<|Eq.trans Zl<|Eq.symm Zl)<|Za<|I1 (fun numbers4=>⟨[(3, .mref 0 1), (4, .own 1 numbers4.length), (6, .ptr 2 1 0 0), (11, .sl 74 (List.map R74 l)), (12, .int .i64 (l.length : Int)), (13, .int .i64 i)], [some ⟨165, [[.mcon (List.map (QC FK3 (osF 74 R74)) groups2)]]⟩, some ⟨3, List.map R3 numbers4⟩, some ⟨74, [(.int .i64 x.Number) :: ((List.map C47 x.Frame.toList) ++ (((List.map C3 x.States.toList) ++ ((.bool x.Sound) :: (.int .i64 x.Copies) :: (.bool x.Conflict) :: []))))]⟩]⟩) h (fun h=>?_) fun numbers4 h=>?_
    ·
     refine K6 3 4 6 11 12 13 Y<|Tr<|Rm Y<|Rq Y (Zd (ov Y) Y Y Qg)<|Rq Y (Zi (ov Y) Y Y Y tS3<|Zj at8)<|bE h fun z h_z h=>?_
     rcases z with z | z
     ·
      replace h := ell h
      refine Rq Y (ZfJ (e1 := 74) (R := R74) (m := groups2) (k := x.Number) (ZdW h_z) (ov Y) (ov Y) Qf Qk Y (fun _=>.b Y)<|Zw Za4 Y)<|Rq Y (ZoL (ng := false) (ov Y) Zlz)<|Za<|K7 3 4 6 11 12 13 21 Y<|ZnZ h Y (fun b21 h=>?_) fun b21 h=>?_
      ·
       exact K6 3 4 6 11 12 13 Y<|Zu<|Rm Y<|Rq Y (Zd (ov Y) Y Y Qg)<|Rq Y (Zi (ov Y) Y Y Y tS3<|Zj at8)<|R_q (.sl 3<|List.map R3 ([x.Number] : List Int)) Y (Xv Qq (.cons (cvs (ov Y)<|ZU Y) Y (.cons (.b Y) .nil) .nil) Y Y)<|bE h fun l2 h_l2 h=>Rx Y (Zv (ov Y) (ZG (ov Y) tZ_3) Qq Y Y Y (fun _=>Zb Y) Y h_l2)<|Ra Y<|Za<|⟨_, h, ES [some 0, some 1, some 2] (hhp := .cons Y (ZJ (fk := FK3) (fv := (osF 74 R74)) (m := groups2) tZ_165 (fun _=>.dat Y) fun _=>QY D74)<|.cons Y (roM D3)<|.cons Y (ro1 (by exact Eq.trans (b := 132) Zl tZ_74.symm)<|rld Qz) .nil)⟩
      ·
       exact Bool.noConfusion b21
     ·
      replace h := elr h
      refine Zb5 (Ent.focusMk1 (e := 74) (R := R74) (m := groups2) (k := x.Number) (r := 0) Y tZ_165 (ZaA h_z) D74)<|Rq Y (ZfO (e1 := 74) (R := R74) (m := groups2) (k := x.Number) (ov Y) (ov Y) Qf Qk Y (fun _=>.b Y)<|Zw Za4 Y)<|bE h fun u h_u h=>Rq Y (Zpl (ng := false) (ov Y) Zlz Y (List.length_map ..) h_u)<|Zb5 (by exact Ent.absorbMs1 (e := 74) (R := R74) (m := groups2) (k := x.Number) (ys := z) (fk := FK3) (r := 0) (q := 3) (ZaA h_z) rfl tZ_165 rfl rfl rfl)<|Za<|K7 3 4 6 11 12 13 21 Y<|ZnZ h Y (fun b21 h=>?_) fun b21 h=>?_
      ·
       exact Bool.noConfusion b21
      ·
       exact Zn<|⟨_, h, ES [some 0, some 1, some 2] (hhp := .cons Y (ZJ (fk := FK3) (fv := (osF 74 R74)) (m := groups2) tZ_165 (fun _=>.dat Y) fun _=>QY D74)<|.cons Y (roM D3)<|.cons Y (ro1 (by exact Eq.trans (b := 132) Zl tZ_74.symm)<|rld Qz) .nil)⟩
    ·
     refine bE h fun z2 h_z2 h=>?_
     rcases z2 with z2 | z2
     ·
      replace h := ell h
      refine J6 (cw := md0) (by kernel_rfl)<|D1 3 Zc Y<|Dq 4 Y (Zd (ov Y) Y Y Qg)<|Dq 5 Y (Zi (ov Y) Y Y Y tS3<|Zj at8)<|Dq 6 Y (ZfJ (e1 := 74) (R := R74) (m := groups2) (k := x.Number) (ZdW h_z2) (ov Y) (ov Y) Qf Qk Y (fun _=>.b Y)<|Zw Za4 Y)<|Dq 7 Y (Zy (ov Y) Y Y Y Qh (Zm<|Ze Zl) Zl (hns := Jd))<|Zjb 8 (.sl 74<|List.map R74 ([x] : List api_Rest)) Y (by kernel_rfl) Y Y (Xv Qd (.cons (cva<|ov Y) Zl (pwD Qz) .nil) Y Y)<|Zai 0 _ Y (by kernel_rfl) Y Y (fun hp'=>Zc<|ov Y)<|bE h fun l3 h_l3 h=>Dw 1 9 Y (Zd (ov Y) Y Y Qg) (X8 (r := 3) Y (ov Y) (ZG (ov Y) tZ_74) Qd Y h_l3) ?_ ?_
      ·
       refine Dw 2 9 Y (Zi (ov Y) Y Y Y tS3<|Zj at8) (X8 (r := 3) Y (ov Y) (ZG (ov Y) tZ_74) Qd Y h_l3) ?_ ?_
       ·
        exact Do 9 Y (X8 (r := 3) Y (ov Y) (ZG (ov Y) tZ_74) Qd Y h_l3)<|Do 10 Y (ZdL (e1 := 74) (R := R74) (m := groups2) (k := x.Number) (ov Y) (ov Y) (ov Y) Qf Qk Y fun _=>.b Y)<|Xy (by kernel_rfl) (Ent.absorbMk1 (e := 74) (R := R74) (m := groups2) (k := x.Number) (ys := l3) (fk := FK3) (r := 0) (q := 3) Y tZ_165 Y Y Y)<|⟨_, h, ES [some 0, some 1] (hhp := .cons Y (ZJ (fk := FK3) (fv := (osF 74 R74)) (m := (Z0 kqI groups2 x.Number l3)) tZ_165 (fun _=>.dat Y) fun _=>QY D74)<|.cons Y (roM D3) .nil)⟩
       ·
        exact Dq 2 Y (Zi (ov Y) Y Y Y tS3<|Zj at8)<|Do 10 Y (ZdL (e1 := 74) (R := R74) (m := groups2) (k := x.Number) (ov Y) (ov Y) (ov Y) Qf Qk Y fun _=>.b Y)<|Xy (by kernel_rfl) (Ent.absorbMk1 (e := 74) (R := R74) (m := groups2) (k := x.Number) (ys := l3) (fk := FK3) (r := 0) (q := 3) Y tZ_165 Y Y Y)<|⟨_, h, ES [some 0, some 1] (hhp := .cons Y (ZJ (fk := FK3) (fv := (osF 74 R74)) (m := (Z0 kqI groups2 x.Number l3)) tZ_165 (fun _=>.dat Y) fun _=>QY D74)<|.cons Y (roM D3) .nil)⟩
      ·
       exact Dq 1 Y (Zd (ov Y) Y Y Qg)<|Dq 2 Y (Zi (ov Y) Y Y Y tS3<|Zj at8)<|Do 10 Y (ZdL (e1 := 74) (R := R74) (m := groups2) (k := x.Number) (ov Y) (ov Y) (ov Y) Qf Qk Y fun _=>.b Y)<|Xy (by kernel_rfl) (Ent.absorbMk1 (e := 74) (R := R74) (m := groups2) (k := x.Number) (ys := l3) (fk := FK3) (r := 0) (q := 3) Y tZ_165 Y Y Y)<|⟨_, h, ES [some 0, some 1] (hhp := .cons Y (ZJ (fk := FK3) (fv := (osF 74 R74)) (m := (Z0 kqI groups2 x.Number l3)) tZ_165 (fun _=>.dat Y) fun _=>QY D74)<|.cons Y (roM D3) .nil)⟩
     ·
      replace h := elr h
      refine ZhW (Ent.focusMk1 (e := 74) (R := R74) (m := groups2) (k := x.Number) (r := 0) Y tZ_165 (ZaA h_z2) D74)<|J6 (cw := md0) (by kernel_rfl)<|D1 3 Zc Y<|Dq 4 Y (Zd (ov Y) Y Y Qg)<|Dq 5 Y (Zi (ov Y) Y Y Y tS3<|Zj at8)<|Dq 6 Y (ZfO (e1 := 74) (R := R74) (m := groups2) (k := x.Number) (ov Y) (ov Y) Qf Qk Y (fun _=>.b Y)<|Zw Za4 Y)<|Dq 7 Y (Zy (ov Y) Y Y Y Qh (Zm<|Ze Zl) Zl (hns := Jd))<|Zjb 8 (.sl 74<|List.map R74 ([x] : List api_Rest)) Y (by kernel_rfl) Y Y (Xv Qd (.cons (cva<|ov Y) Zl (pwD Qz) .nil) Y Y)<|Zai 0 _ Y (by kernel_rfl) Y Y (fun hp'=>Zc<|ov Y)<|bE h fun l4 h_l4 h=>Dw 1 9 Y (Zd (ov Y) Y Y Qg) (Zv (ov Y) (ZG (ov Y) tZ_74) Qd Y Y Y (fun x=>Zb<|E74 x) Y h_l4) ?_ ?_
      ·
       refine Dw 2 9 Y (Zi (ov Y) Y Y Y tS3<|Zj at8) (Zv (ov Y) (ZG (ov Y) tZ_74) Qd Y Y Y (fun x=>Zb<|E74 x) Y h_l4) ?_ ?_
       ·
        exact Do 9 Y (Zv (ov Y) (ZG (ov Y) tZ_74) Qd Y Y Y (fun x=>Zb<|E74 x) Y h_l4)<|Do 10 Y (ZdS (e1 := 74) (R := R74) (m := groups2) (k := x.Number) (ov Y) (ov Y) (ov Y) Qf Qk Y fun _=>.b Y)<|Xy (by kernel_rfl) (Ent.absorbMk1 (e := 74) (R := R74) (m := groups2) (k := x.Number) (ys := l4) (fk := FK3) (r := 0) (q := 3) Y tZ_165 Y Y Y)<|⟨_, h, ES [some 0, some 1] (hhp := .cons Y (ZJ (fk := FK3) (fv := (osF 74 R74)) (m := (Z0 kqI groups2 x.Number l4)) tZ_165 (fun _=>.dat Y) fun _=>QY D74)<|.cons Y (roM D3) .nil)⟩
       ·
        exact Dq 2 Y (Zi (ov Y) Y Y Y tS3<|Zj at8)<|Do 10 Y (ZdS (e1 := 74) (R := R74) (m := groups2) (k := x.Number) (ov Y) (ov Y) (ov Y) Qf Qk Y fun _=>.b Y)<|Xy (by kernel_rfl) (Ent.absorbMk1 (e := 74) (R := R74) (m := groups2) (k := x.Number) (ys := l4) (fk := FK3) (r := 0) (q := 3) Y tZ_165 Y Y Y)<|⟨_, h, ES [some 0, some 1] (hhp := .cons Y (ZJ (fk := FK3) (fv := (osF 74 R74)) (m := (Z0 kqI groups2 x.Number l4)) tZ_165 (fun _=>.dat Y) fun _=>QY D74)<|.cons Y (roM D3) .nil)⟩
      ·
       exact Dq 1 Y (Zd (ov Y) Y Y Qg)<|Dq 2 Y (Zi (ov Y) Y Y Y tS3<|Zj at8)<|Do 10 Y (ZdS (e1 := 74) (R := R74) (m := groups2) (k := x.Number) (ov Y) (ov Y) (ov Y) Qf Qk Y fun _=>.b Y)<|Xy (by kernel_rfl) (Ent.absorbMk1 (e := 74) (R := R74) (m := groups2) (k := x.Number) (ys := l4) (fk := FK3) (r := 0) (q := 3) Y tZ_165 Y Y Y)<|⟨_, h, ES [some 0, some 1] (hhp := .cons Y (ZJ (fk := FK3) (fv := (osF 74 R74)) (m := (Z0 kqI groups2 x.Number l4)) tZ_165 (fun _=>.dat Y) fun _=>QY D74)<|.cons Y (roM D3) .nil)⟩
   ·
    exact Zu<|R2 ZZ Y<|Rm Y<|Za<|⟨_, h, ES [some 0, some 1] (hhp := .cons Y (ZJ (fk := FK3) (fv := (osF 74 R74)) (m := groups3) tZ_165 (fun _=>.dat Y) fun _=>QY D74)<|.cons Y (roM D3) .nil)⟩
  ·
   refine ZL<|?_
   replace h := lx h ▸ ho1
   exact ⟨_, h, ES [some 0, some 1] (hhp := .cons Y (ZJ (fk := FK3) (fv := (osF 74 R74)) (m := groups2) tZ_165 (fun _=>.dat Y) fun _=>QY D74)<|.cons Y (roM D3) .nil)⟩
 ·
  refine Tr<|Rm Y<|bE h fun y h_y h=>Rx Y (Zd8 [1] (Zk3 h_y) (.cons (ov Y) (.own _ Y) .nil) (.cons Y (roM D3) .nil) Y (.keep Y Y<|.lent 0 (.inl Y) Y (roM D3) .nil) Y Y<|ZkV<|rld Y)<|Za<|K2 3 4 Y<|Tr<|Ra Y<|Za<|I1 (fun out=>⟨[(7, .own 0 out.length)], [some ⟨74, List.map R74 out⟩]⟩) h (fun h=>?_) fun out h=>?_
  ·
   refine Tr<|Rm Y<|Rq Y (Zaf (ov Y) Y (Zgm h_y) Qq)<|Rm Y<|Za<|Zk<|?_
   obtain ⟨r2, hl2, ho2⟩ := QP h
   refine L2 (fun out2 i2=>⟨[(3, .mref 0 1), (7, .own 1 out2.length), (40, .own 2 y.length), (41, .int .i64 (y.length : Int)), (42, .int .i64 i2)], [some ⟨165, [[.mcon (List.map (QC FK3 (osF 74 R74)) groups)]]⟩, some ⟨74, List.map R74 out2⟩, some ⟨3, List.map R3 y⟩]⟩) hl2 (Ent.sel [some 0, none, some 1] (sr 3 Y (.mref _ Y)<|sr 7 Y (.row Y)<|sr 40 Y (Zj1 (Eq.symm<|Zgm h_y) Y)<|sd 41 Y Y<|sd 42 Y Y sn) (.cons Y (ZJ (fk := FK3) (fv := (osF 74 R74)) (m := groups) tZ_165 (fun _=>.dat Y) fun _=>QY D74)<|.row 74<|.cons Y (roM D3) .nil) Y Y) fun n2 out2 i2 h=>?_
   unfold Q0 at h
   refine Tr<|R2 ZX Y<|Za<|Zr<|If h Y (fun h=>?_) fun h=>?_
   ·
    refine Zn<|Zr<|Zk<|K5 3 7 40 41 42 Y<|Tr<|bE h fun x2 h_x2 h=>Rq Y (XQ (ov Y) (ov Y) Qq Y Y h_x2)<|Rq Y (ZaU (ov Y) Y Y h_x2 tS3 Y)<|Ra Y<|Za<|K6 3 7 9 40 41 42 Y<|Zu<|Rm Y<|Rm Y<|Rm Y<|bE h fun z3 h_z3 h=>?_
    rcases z3 with z3 | z3
    ·
     replace h := ell h
     exact Rq Y (ZfJ (e1 := 74) (R := R74) (m := groups) (k := x2) (ZdW h_z3) (ov Y) (ov Y) Qf Qk Y (fun _=>.b Y)<|Zw Za4 Y)<|bE h fun y2 h_y2 h=>Rq Y (Zq (ZbH h_y2)<|.cons (ov Y) (Dat.nils _) .nil)<|R_q (.sl 74<|List.map R74 ([y2] : List api_Rest)) Y (Xv Qd (.cons (cva<|ov Y) Zl (pwD Qz) .nil) Y Y)<|bE h fun l5 h_l5 h=>Rx Y (Zv (ov Y) (ZG (ov Y) tZ_74) Qd Y Y Y (fun x=>Zb<|E74 x) Y h_l5)<|Ra Y<|Za<|K5 3 7 40 41 42 Y<|Zu<|R2 ZZ Y<|Rm Y<|Za<|⟨_, h, ES [some 0, some 1, some 2] (hhp := .cons Y (ZJ (fk := FK3) (fv := (osF 74 R74)) (m := groups) tZ_165 (fun _=>.dat Y) fun _=>QY D74)<|.cons Y (roM D74)<|.cons Y (roM D3) .nil)⟩
    ·
     replace h := elr h
     exact Zb5 (Ent.focusMk1 (e := 74) (R := R74) (m := groups) (k := x2) (r := 0) Y tZ_165 (ZaA h_z3) D74)<|Rq Y (ZfO (e1 := 74) (R := R74) (m := groups) (k := x2) (ov Y) (ov Y) Qf Qk Y (fun _=>.b Y)<|Zw Za4 Y)<|bE h fun y3 h_y3 h=>Rq Y (Zb7 (ZbH h_y3) (.agg<|faC .int<|faA (faV fun _ => .int)<|faA (faV fun _ => .int)<|faC .bool<|faC .int<|faC .bool faN)<|.cons (ov Y) (View.ownM Y Y D74) .nil)<|R_q (.sl 74<|List.map R74 ([y3] : List api_Rest)) Y (Xv Qd (.cons (cva<|ov Y) Zl (pwD Qz) .nil) Y Y)<|bE h fun l6 h_l6 h=>Rx Y (Zv (ov Y) (ZG (ov Y) tZ_74) Qd Y Y Y (fun x=>Zb<|E74 x) Y h_l6)<|Ra Y<|Zb5 (by exact Ent.absorbMs1 (e := 74) (R := R74) (m := groups) (k := x2) (ys := z3) (fk := FK3) (r := 0) (q := 3) (ZaA h_z3) rfl tZ_165 rfl rfl rfl)<|Za<|K5 3 7 40 41 42 Y<|Zu<|R2 ZZ Y<|Rm Y<|Za<|⟨_, h, ES [some 0, some 1, some 2] (hhp := .cons Y (ZJ (fk := FK3) (fv := (osF 74 R74)) (m := groups) tZ_165 (fun _=>.dat Y) fun _=>QY D74)<|.cons Y (roM D74)<|.cons Y (roM D3) .nil)⟩
   ·
    refine ZL<|?_
    replace h := lx h ▸ ho2
    exact ⟨_, h, ES [some 1]⟩
  ·
   refine Tr<|Rm Y<|Ra Y<|Za<|?_
   obtain rfl := rt h
   exact Zz (ZP Y (.one<|.tmp Y<|View.ownM Y Y D74))
end Go.Proofs.YthdiljjohpamnaaGreatDoorRR
