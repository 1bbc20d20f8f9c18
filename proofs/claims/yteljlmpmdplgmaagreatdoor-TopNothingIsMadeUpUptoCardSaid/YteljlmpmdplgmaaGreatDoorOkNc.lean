/- A text of the proof: a verified executor of the program form, or the contracts of the functions that the law reaches. -/
import Derived.Test.YteljlmpmdplgmaaGreatDoorOkNb
set_option linter.all false
namespace Go.Proofs.YteljlmpmdplgmaaGreatDoor
open Go Go.Vx
set_option maxRecDepth 10000
set_option maxHeartbeats 1000000
set_option linter.unusedVariables false
theorem Za3 {state : Int} {r : (Vector Int 64)} (h : XI state = some r) :
 CSpec Tryz.prog gl0 41 [.int .i64 state] (.agg (List.map C3 r.toList)) := by
 unfold XI at h
 replace h := Qf h
 refine So Tryz.func41 Y fun w0 A=>Tr<|Rx Y (ZP (row := (List.map C3 (Vector.replicate 64 0).toList)) 0 Y Zpb Y tZ_47)<|Za<|Tr<|Rx Y (ZP (row := (List.map C3 (Vector.replicate 64 0).toList)) 1 Y Zpb Y tZ_47)<|Za<|I1 (fun out=>⟨[(2, .ptr 0 1 0 0), (3, .ptr 1 1 0 0)], [some ⟨47, [(List.map C3 (Vector.replicate 64 0).toList)]⟩, some ⟨47, [(List.map C3 out.toList)]⟩]⟩) h (fun h=>?_) fun out h=>?_
 ·
  refine Tr<|Rm Y<|Za<|Zn<|?_
  obtain ⟨r1, hl1, ho1⟩ := Xq h
  refine L2 (fun out2 i=>⟨[(0, .int .i64 state), (2, .ptr 0 1 0 0), (3, .ptr 1 1 0 0), (5, .int .i64 i)], [some ⟨47, [(List.map C3 (Vector.replicate 64 0).toList)]⟩, some ⟨47, [(List.map C3 out2.toList)]⟩]⟩) hl1 (ES [some 0, some 1]) fun n1 out2 i h=>?_
  unfold XX at h
  refine Tr<|R2 Z4 Y<|Za<|Zs<|If h Y (fun h=>?_) fun h=>?_
  ·
   exact Zm<|Zs<|Zn<|K4 0 2 3 5 Y<|Tr<|Rm Y<|Ra Y<|Za<|K5 0 2 3 4 5 Y<|ZC<|Rm Y<|Rm Y<|bE h fun x h_x h=>Rq Y (Z5 (ov Y) (ov Y) Zde Y Y h_x)<|Rx Y (Ze (ov Y) (ov Y) (Zf tS3) Y Y Y (arB h_x) (Zb Y)<|arS h_x)<|Za<|K4 0 2 3 5 Y<|ZC<|R2 Z2 Y<|Rm Y<|Za<|⟨_, h, ES [some 0, some 1]⟩
  ·
   refine ZT<|?_
   replace h := lx h ▸ ho1
   exact ⟨_, h, ES [some 0, some 1]⟩
 ·
  refine Tr<|Rq Y (ZB (ov Y) Y Y Y ZiJ (Zr<|Zg arL) arL (hns := (nsM fun _ => Y)))<|Rx Y (Ze (ov Y) (ov Y) (Zo ZiJ arL) Y Y Y (ZF (Zg arL) arL) (Zb<|arC fun _ => Y)<|ZK<|Eq.trans arL<|Eq.symm arL)<|Za<|?_
  obtain rfl := rt h
  exact Zu (ZL Y (.one<|.agg Y Y Y Y ZiJ (Zr<|Zg arL) arL (pwB<|arD fun _ => Y) (hns := (nsM fun _ => Y))))
theorem XG {x : List api_Found} {target : Int} {cmp : api_Found → Int → Option Int} {r : Int × Bool} {cmp_f : FuncId} {cmp_c : List AV} (cmp_d : cmp_c.all datB = true) (cmp_h : ∀ (z0 : api_Found) (z1 : Int) z, cmp z0 z1 = some z → CSpec Tryz.prog gl0 cmp_f ([.agg ((.int .i64 z0.At) :: ((List.map C26 z0.Frame.toList) ++ ([]))), .int .i64 z1] ++ cmp_c) (.int .i64 z)) (h : ZN x target cmp = some r) :
 CSpec Tryz.prog gl0 76 [.sl 51 (List.map R51 x), .int .i64 target, .fn cmp_f cmp_c] (.tuple [.int .i64 r.1, .bool r.2]) := by
 unfold ZN at h
 replace h := Qf h
 refine So Tryz.func76 Y fun w0 A=>Tr<|Ra Y<|Ra Y<|Za<|K3 0 1 2 Y<|Tr<|Rm Y<|Rl tZ_51 Je Y<|Ra Y<|Za<|K4 0 1 2 8 Y<|Tr<|Rm Y<|Ra Y<|Ra Y<|Za<|I1 (fun i=>⟨[(0, .sl 51 (List.map R51 x)), (1, .int .i64 target), (2, .fn cmp_f cmp_c), (8, .int .i64 (x.length : Int)), (9, .int .i64 i)], []⟩) h (fun h=>?_) fun i h=>?_
 ·
  refine Zn<|?_
  obtain ⟨r1, hl1, ho1⟩ := Xq h
  refine L2 (fun i2 j=>⟨[(0, .sl 51 (List.map R51 x)), (1, .int .i64 target), (2, .fn cmp_f cmp_c), (8, .int .i64 (x.length : Int)), (9, .int .i64 i2), (10, .int .i64 j)], []⟩) hl1 (ES []<|sd 0 Y Y<|sd 1 Y Y<|sr 2 Y (rFn<|rld cmp_d)<|sd 8 Y Y<|sd 9 Y Y<|sd 10 Y Y sn) fun n1 i2 j h=>?_
  unfold ZJ at h
  refine Zs<|Tr<|Rm Y<|Rm Y<|R2 Z4 Y<|Za<|K7 0 1 2 8 9 10 17 Y<|If h Y (fun h=>?_) fun h=>?_
  ·
   refine Zm<|Zn<|K6 0 1 2 8 9 10 Y<|Tr<|Rm Y<|Rm Y<|R2 Z2 Y<|Rq Y (QR (ov Y) tI3 Zpm Y)<|bE h fun q h_q h=>Rq Y (Zcq (ov Y) (ov Y) h_q)<|Rq Y (QR (ov Y) Zpm tI3 Y)<|Ra Y<|Za<|K7 0 1 2 8 9 10 11 Y<|Tr<|Rm Y<|Rm Y<|Rm Y<|bE h fun x2 h_x2 h=>Rq Y (ZX (ov Y) (ov Y) Je h_x2)<|Rq Y (ZD (ov Y) Zek (Zr<|Zg ln4) ln4)<|Rm Y<|bE h fun y h_y h=>Rq Y (Zgw (ov Y) cmp_d (cmp_h _ _ _ h_y)<|.cons (ov Y) (.aggB al5)<|.cons (ov Y) (.b Y) .nil)<|R2 Z4 Y<|Za<|K8 0 1 2 8 9 10 11 31 Y<|If h Y (fun h=>?_) fun h=>?_
   ·
    exact K7 0 1 2 8 9 10 11 Y<|ZC<|Rm Y<|R2 Z2 Y<|Ra Y<|Za<|⟨_, h, ES []<|sd 0 Y Y<|sd 1 Y Y<|sr 2 Y (rFn<|rld cmp_d)<|sd 8 Y Y<|sd 9 Y Y<|sd 10 Y Y sn⟩
   ·
    exact K7 0 1 2 8 9 10 11 Y<|ZC<|Rm Y<|Ra Y<|Za<|⟨_, h, ES []<|sd 0 Y Y<|sd 1 Y Y<|sr 2 Y (rFn<|rld cmp_d)<|sd 8 Y Y<|sd 9 Y Y<|sd 10 Y Y sn⟩
  ·
   refine ZT<|?_
   replace h := lx h ▸ ho1
   exact ⟨_, h, ES []<|sd 0 Y Y<|sd 1 Y Y<|sr 2 Y (rFn<|rld cmp_d)<|sd 8 Y Y<|sd 9 Y Y sn⟩
 ·
  refine Tr<|Rm Y<|Rm Y<|Rm Y<|R2 Z4 Y<|Rm Y<|Rq Y (.guarded ((decide (i < (x.length : Int))) == true) Y Y Y Y fun h => Zd<|ov Y)<|Rq Y (.guarded ((decide (i < (x.length : Int))) == true) Y Y Y Y fun h => Zd<|ov Y)<|Rq Y (.guarded ((decide (i < (x.length : Int))) == true) Y Y Y Y fun h => Zd<|ov Y)<|bE h fun x3 h_x3 h=>Rq Y (.guarded ((decide (i < (x.length : Int))) == true) Y Y Y Y fun h => ZX (ow Y h) (ow Y h) Je<|gdT h_x3 h)<|Rq Y (.guarded ((decide (i < (x.length : Int))) == true) Y Y Y Y fun h => ZD (ow Y h) Zek (Zr<|Zg ln4) ln4)<|Rq Y (.guarded ((decide (i < (x.length : Int))) == true) Y Y Y Y fun h => Zd<|ov Y)<|bE h fun y2 h_y2 h=>Rq Y (.guarded ((decide (i < (x.length : Int))) == true) Y Y Y Y fun h => Zgw (ow Y h) cmp_d (cmp_h _ _ _<|gdT h_y2 h)<|.cons (ow Y h) (.aggB al5)<|.cons (ow Y h) (.b Y) .nil)<|Rq Y (.guarded ((decide (i < (x.length : Int))) == true) Y Y Y Y fun h => QC (ow Y h)<|ov Y)<|Rq Y (XU (ov Y) fun hp=>ow Y<|gT hp)<|Ra Y<|Ra Y<|Za<|?_
  obtain rfl := rt h
  exact Zu (ZL Y (.two (rb Y)<|rb Y))
theorem ZbZ {c_ : api_Found} {at_ : Int} {r : Int} (h : Qc c_ at_ = some r) :
 CSpec Tryz.prog gl0 77 [.agg ((.int .i64 c_.At) :: ((List.map C26 c_.Frame.toList) ++ ([]))), .int .i64 at_] (.int .i64 r) := by
 unfold Qc at h
 replace h := Qf h
 refine So Tryz.func77 Y fun w0 A=>Tr<|Rq Y (Qo (cva<|ov Y) ln4 tZ_51 al5)<|Ra Y<|Za<|K3 1 2 4 Y<|Tr<|Rq Y (ZI (ov Y) QL)<|Rq Y (Zh (ov Y) tS3<|Zl QK)<|Rm Y<|R2 ZdT Y<|Ra Y<|Za<|?_
 obtain rfl := rt h
 exact Zu (ZL Y (.one<|rb Y))
theorem Zcy {x : salvage_finder} {place : Int} {r : Int} (h : Qv x place = some r) :
 CSpec Tryz.prog gl0 56 [.rp [.sl 5 (List.map R5 x.h_), .sl 51 (List.map R51 x.certain), .sl 3 (List.map R3 x.numbers), .any] 0, .int .i64 place] (.int .i64 r) := by
 unfold Qv at h
 replace h := Qf h
 refine So Tryz.func56 Y fun w0 A=>Tr<|Ra Y<|Za<|K2 0 1 Y<|Tr<|Rm Y<|R1 ZQ Y<|Rq Y (ZI (ov Y) Zbq)<|Rq Y (Zh (ov Y) Zep Y)<|Rm Y<|bE h fun y h_y h=>Rq Y (Zq (XG Y (fun z0 z1 _ hz=>ZbZ hz) h_y)<|.cons (ov Y) (.b Y)<|.cons (ov Y) (.b Y)<|.cons (ov Y) .fn .nil)<|Rm Y<|Rq Y (Zi (ov Y) Y)<|Rq Y (Zi (ov Y) Y)<|Ra Y<|Ra Y<|Za<|Zs<|K3 0 1 5 Y<|Td md0<|D1 0 Zd Y<|D1 1 Zd Y<|D1 2 ZQ Y<|Dq 3 Y (ZI (ov Y) Zbq)<|Dq 4 Y (Zh (ov Y) Zep Y)<|Dq 5 Y (Zcj (ZE (ov Y) tZ_51) Je<|Jo _ _)<|D2 6 QC Y<|D1 7 Zd Y<|Dq 8 Y (.guarded ((decide (y.1 = (x.certain.length : Int))) == false) Y Y Y Y fun h => Zd<|ov Y)<|Dq 9 Y (.guarded ((decide (y.1 = (x.certain.length : Int))) == false) Y Y Y Y fun h => ZaJ (ow Y h)<|ov Y)<|Dq 10 Y (.guarded ((decide (y.1 = (x.certain.length : Int))) == false) Y Y Y Y fun h => Zd<|ow Y h)<|Dq 11 Y (.guarded2 (((decide (y.1 = (x.certain.length : Int))) == false) && ((decide (0 < y.1)) == true)) Y Y Y Y fun h => Zd<|ov Y)<|Dq 12 Y (.guarded2 (((decide (y.1 = (x.certain.length : Int))) == false) && ((decide (0 < y.1)) == true)) Y Y Y Y fun h => Zd<|ov Y)<|Dq 13 Y (.guarded2 (((decide (y.1 = (x.certain.length : Int))) == false) && ((decide (0 < y.1)) == true)) Y Y Y Y fun h => ZQ<|ow Y h)<|Dq 14 Y (.guarded2 (((decide (y.1 = (x.certain.length : Int))) == false) && ((decide (0 < y.1)) == true)) Y Y Y Y fun h => ZI (ow Y h) Zbq)<|Dq 15 Y (.guarded2 (((decide (y.1 = (x.certain.length : Int))) == false) && ((decide (0 < y.1)) == true)) Y Y Y Y fun h => Zh (ow Y h) Zep Y)<|Dq 16 Y (.guarded2 (((decide (y.1 = (x.certain.length : Int))) == false) && ((decide (0 < y.1)) == true)) Y Y Y Y fun h => Zd<|ov Y)<|Dq 17 Y (.guarded2 (((decide (y.1 = (x.certain.length : Int))) == false) && ((decide (0 < y.1)) == true)) Y Y Y Y fun h => Zdv (ow Y h) (ov Y) Y)<|bE h fun x2 h_x2 h=>Dq 18 Y (.guarded2 (((decide (y.1 = (x.certain.length : Int))) == false) && ((decide (0 < y.1)) == true)) Y Y Y Y fun h => ZX (ow Y h) (ow Y h) Je<|gdT h_x2 h)<|Dq 19 Y (.guarded2 (((decide (y.1 = (x.certain.length : Int))) == false) && ((decide (0 < y.1)) == true)) Y Y Y Y fun h => ZI (ow Y h) QL)<|Dq 20 Y (.guarded2 (((decide (y.1 = (x.certain.length : Int))) == false) && ((decide (0 < y.1)) == true)) Y Y Y Y fun h => Zh (ow Y h) tS3<|Zl QK)<|Dq 21 Y (.guarded2 (((decide (y.1 = (x.certain.length : Int))) == false) && ((decide (0 < y.1)) == true)) Y Y Y Y fun h => Zdv (ow Y h) (ow Y h) Y)<|Dq 22 Y (.guarded2 (((decide (y.1 = (x.certain.length : Int))) == false) && ((decide (0 < y.1)) == true)) Y Y Y Y fun h => Zd<|ov Y)<|Dq 23 Y (.guarded2 (((decide (y.1 = (x.certain.length : Int))) == false) && ((decide (0 < y.1)) == true)) Y Y Y Y fun h => ZQ<|ow Y h)<|Dq 24 Y (.guarded2 (((decide (y.1 = (x.certain.length : Int))) == false) && ((decide (0 < y.1)) == true)) Y Y Y Y fun h => ZI (ow Y h) Zbq)<|Dq 25 Y (.guarded2 (((decide (y.1 = (x.certain.length : Int))) == false) && ((decide (0 < y.1)) == true)) Y Y Y Y fun h => Zh (ow Y h) Zep Y)<|Dq 26 Y (.guarded2 (((decide (y.1 = (x.certain.length : Int))) == false) && ((decide (0 < y.1)) == true)) Y Y Y Y fun h => Zd<|ov Y)<|bE h fun x3 h_x3 h=>Dq 27 Y (.guarded2 (((decide (y.1 = (x.certain.length : Int))) == false) && ((decide (0 < y.1)) == true)) Y Y Y Y fun h => ZX (ow Y h) (ow Y h) Je<|gdT h_x3 h)<|Dq 28 Y (.guarded2 (((decide (y.1 = (x.certain.length : Int))) == false) && ((decide (0 < y.1)) == true)) Y Y Y Y fun h => ZI (ow Y h) QL)<|Dq 29 Y (.guarded2 (((decide (y.1 = (x.certain.length : Int))) == false) && ((decide (0 < y.1)) == true)) Y Y Y Y fun h => Zh (ow Y h) tS3<|Zl QK)<|Dq 30 Y (.guarded2 (((decide (y.1 = (x.certain.length : Int))) == false) && ((decide (0 < y.1)) == true)) Y Y Y Y fun h => Zd<|ov Y)<|Dq 31 Y (.guarded2 (((decide (y.1 = (x.certain.length : Int))) == false) && ((decide (0 < y.1)) == true)) Y Y Y Y fun h => Zdv (ow Y h) (ow Y h) Y)<|Dq 32 Y (.guarded2 (((decide (y.1 = (x.certain.length : Int))) == false) && ((decide (0 < y.1)) == true)) Y Y Y Y fun h => Zf5 (ow Y h)<|ow Y h)<|Dq 33 Y (.guarded ((decide (y.1 = (x.certain.length : Int))) == false) Y Y Y Y fun h => XU (ow Y h) fun hp=>ow Y<|gA h<|gT hp)<|Dq 34 Y (JH (ov Y) fun hp=>ow Y<|gF hp)<|Dd<|K2 5 50 Y<|If h Y (fun h=>?_) fun h=>?_
 ·
  refine K1 5 Y<|Tr<|Rm Y<|R2 ZdT Y<|Ra Y<|Za<|?_
  obtain rfl := rt h
  exact Zu (ZL Y (.one<|rb Y))
 ·
  refine Zm<|K1 5 Y<|Tr<|Rm Y<|Ra Y<|Za<|?_
  obtain rfl := rt h
  exact Zu (ZL Y (.one<|rb Y))
theorem Zdu {n : Int} {r : Int} (h : J3 n = some r) :
 CSpec Tryz.prog gl0 57 [.int .i64 n] (.int .i64 r) := by
 unfold J3 at h
 replace h := Qf h
 refine So Tryz.func57 Y fun w0 A=>Tr<|Ra Y<|Za<|Tr<|Rm Y<|Rm Y<|Rq Y (Zo7 (ov Y) Y)<|Rq Y (Zjm (ov Y) (ov Y) Y)<|Ra Y<|Za<|?_
 obtain rfl := rt h
 exact Zu (ZL Y (.one<|rb Y))
theorem ZcQ {x : salvage_finder} {i : Int} {r : (List Int)} (h : QA x i = some r) :
 CSpec Tryz.prog gl0 42 [.rp [.sl 5 (List.map R5 x.h_), .sl 51 (List.map R51 x.certain), .sl 3 (List.map R3 x.numbers), .any] 0, .int .i64 i] (.sl 3 (List.map R3 r)) := by
 unfold QA at h
 replace h := Qf h
 refine So Tryz.func42 Y fun w0 A=>Tr<|Ra Y<|Za<|K2 0 1 Y<|Tr<|Ra Y<|Za<|Tr<|Rm Y<|R1 ZQ Y<|Rq Y (ZI (ov Y) Zbq)<|Rq Y (Zh (ov Y) Zep Y)<|Rm Y<|bE h fun x2 h_x2 h=>Rq Y (ZX (ov Y) (ov Y) Je h_x2)<|Rq Y (ZI (ov Y) QL)<|Rq Y (Zh (ov Y) tS3<|Zl QK)<|Ra Y<|Za<|I1 (fun out=>⟨[(5, .own 0 out.length)], [some ⟨3, List.map R3 out⟩]⟩) h (fun h=>?_) fun out h=>?_
 ·
  refine K4 0 1 5 6 Y<|Tr<|R_q (.sl 3<|List.map R3 ([(-194), 194] : List Int)) Y (X5 QQ (.cons (cvs (ov Y)<|ZY Y) Y (.cons (.b Y) .nil)<|.cons (cvs (ov Y)<|ZY Y) Y (.cons (.b Y) .nil) .nil) Y Y)<|Rl tZ_3 QQ Y<|Rm Y<|Za<|Zn<|?_
  obtain ⟨r1, hl1, ho1⟩ := Xq h
  refine L2 (fun out2 i2=>⟨[(0, .rp [.sl 5 (List.map R5 x.h_), .sl 51 (List.map R51 x.certain), .sl 3 (List.map R3 x.numbers), .any] 0), (1, .int .i64 i), (5, .own 0 out2.length), (6, .int .i64 x2.At), (19, .sl 3 (List.map R3 ([(-194), 194] : List Int))), (20, .int .i64 (([(-194), 194] : List Int).length : Int)), (21, .int .i64 i2)], [some ⟨3, List.map R3 out2⟩]⟩) hl1 (ES [none]) fun n1 out2 i2 h=>?_
  unfold QB at h
  refine Tr<|R2 Z4 Y<|Za<|Zs<|If h Y (fun h=>?_) fun h=>?_
  ·
   refine Zm<|I1 (fun out3=>⟨[(0, .rp [.sl 5 (List.map R5 x.h_), .sl 51 (List.map R51 x.certain), .sl 3 (List.map R3 x.numbers), .any] 0), (1, .int .i64 i), (5, .own 0 out3.length), (6, .int .i64 x2.At), (19, .sl 3 (List.map R3 ([(-194), 194] : List Int))), (20, .int .i64 (([(-194), 194] : List Int).length : Int)), (21, .int .i64 i2)], [some ⟨3, List.map R3 out3⟩]⟩) h (fun h=>?_) fun out3 h=>?_
   ·
    refine Zn<|K7 0 1 5 6 19 20 21 Y<|Tr<|bE h fun x3 h_x3 h=>Rq Y (ZX (ov Y) (ov Y) QQ h_x3)<|Rq Y (Zh (ov Y) tS3 Y)<|Ra Y<|Za<|K8 0 1 5 6 8 19 20 21 Y<|Tr<|Rm Y<|Rm Y<|R2 Z2 Y<|Ra Y<|Za<|Zn<|?_
    obtain ⟨r2, hl2, ho2⟩ := Xq h
    refine L2 (fun out4 p=>⟨[(0, .rp [.sl 5 (List.map R5 x.h_), .sl 51 (List.map R51 x.certain), .sl 3 (List.map R3 x.numbers), .any] 0), (1, .int .i64 i), (5, .own 0 out4.length), (6, .int .i64 x2.At), (8, .int .i64 x3), (9, .int .i64 p), (19, .sl 3 (List.map R3 ([(-194), 194] : List Int))), (20, .int .i64 (([(-194), 194] : List Int).length : Int)), (21, .int .i64 i2)], [some ⟨3, List.map R3 out4⟩]⟩) hl2 (ES [some 0]) fun n2 out4 p h=>?_
    unfold QD at h
    refine Zs<|Tr<|Rm Y<|R2 ZaJ Y<|Rm Y<|Rq Y (.guarded ((decide ((-192) < p)) == true) Y Y Y Y fun h => Zd<|ov Y)<|Rq Y (.guarded ((decide ((-192) < p)) == true) Y Y Y Y fun h => Zd<|ov Y)<|Rq Y (.guarded ((decide ((-192) < p)) == true) Y Y Y Y fun h => ZQ<|ow Y h)<|Rq Y (.guarded ((decide ((-192) < p)) == true) Y Y Y Y fun h => ZI (ow Y h) Zmv)<|Rq Y (.guarded ((decide ((-192) < p)) == true) Y Y Y Y fun h => Zh (ow Y h) ZcV Y)<|Rq Y (.guarded ((decide ((-192) < p)) == true) Y Y Y Y fun h => Zcj (ZE (ow Y h) tZ_5) Xz<|Jo _ _)<|Rq Y (.guarded ((decide ((-192) < p)) == true) Y Y Y Y fun h => Z4 (ow Y h)<|ow Y h)<|Rq Y (XU (ov Y) fun hp=>ow Y<|gT hp)<|Za<|K10 0 1 5 6 8 9 19 20 21 38 Y<|If h Y (fun h=>?_) fun h=>?_
    ·
     refine Zm<|J1 (fun j => (.inr j)) (fun out5=>⟨[(0, .rp [.sl 5 (List.map R5 x.h_), .sl 51 (List.map R51 x.certain), .sl 3 (List.map R3 x.numbers), .any] 0), (1, .int .i64 i), (5, .own 0 out5.length), (6, .int .i64 x2.At), (8, .int .i64 x3), (9, .int .i64 p), (19, .sl 3 (List.map R3 ([(-194), 194] : List Int))), (20, .int .i64 (([(-194), 194] : List Int).length : Int)), (21, .int .i64 i2)], [some ⟨3, List.map R3 out5⟩]⟩) h (fun h=>?_) fun out5 h=>?_
     ·
      refine Zn<|K9 0 1 5 6 8 9 19 20 21 Y<|Tr<|Rm Y<|Rm Y<|bE h fun y h_y h=>Rq Y (Zq (Zcy h_y)<|.cons (ov Y) (.b Y)<|.cons (ov Y) (.b Y) .nil)<|Ra Y<|Za<|Zs<|K10 0 1 5 6 8 9 10 19 20 21 Y<|Tr<|Rm Y<|Rm Y<|R2 XY Y<|Za<|K11 0 1 5 6 8 9 10 19 20 21 47 Y<|If h Y (fun h=>?_) fun h=>?_
      ·
       refine ZT<|?_
       replace h := lx h ▸ ho2
       exact ⟨_, h, ES [some 0]⟩
      ·
       refine Zm<|K10 0 1 5 6 8 9 10 19 20 21 Y<|Tr<|Rm Y<|R1 ZQ Y<|Rq Y (ZI (ov Y) Zbq)<|Rq Y (Zh (ov Y) Zep Y)<|Rm Y<|bE h fun x4 h_x4 h=>Rq Y (ZX (ov Y) (ov Y) Je h_x4)<|Rq Y (ZI (ov Y) QL)<|Rq Y (Zh (ov Y) tS3<|Zl QK)<|Rm Y<|R2 ZdT Y<|bE h fun y2 h_y2 h=>Rq Y (Zq (Zdu h_y2)<|.cons (ov Y) (.b Y) .nil)<|R2 ZbR Y<|Za<|K10 0 1 5 6 8 9 19 20 21 59 Y<|If h Y (fun h=>?_) fun h=>?_
       ·
        exact K9 0 1 5 6 8 9 19 20 21 Y<|ZC<|Rm Y<|Rm Y<|R_q (.sl 3<|List.map R3 ([p] : List Int)) Y (X5 QQ (.cons (cvs (ov Y)<|ZY Y) Y (.cons (.b Y) .nil) .nil) Y Y)<|bE h fun l h_l h=>Rx Y (Zv (ov Y) (ZE (ov Y) tZ_3) QQ Y Y Y (fun _=>Zb Y) Y h_l)<|Ra Y<|Za<|⟨_, h, ES [some 0]⟩
       ·
        exact Zm<|⟨_, h, ES [some 0]⟩
     ·
      replace h := elr h
      replace h := t1i h
      exact ZC<|Rm Y<|Rm Y<|R2 Z2 Y<|Ra Y<|Za<|⟨_, h, ES [some 0]⟩
    ·
     refine ZT<|?_
     replace h := lx h ▸ ho2
     exact ⟨_, h, ES [some 0]⟩
   ·
    exact ZC<|R2 Z2 Y<|Rm Y<|Za<|⟨_, h, ES [some 0]⟩
  ·
   refine ZT<|?_
   replace h := lx h ▸ ho1
   exact ⟨_, h, ES [some 0]⟩
 ·
  refine Tr<|Rm Y<|Ra Y<|Za<|?_
  obtain rfl := rt h
  exact Zu (ZL Y (.one<|.tmp Y<|View.ownM Y Y D3))
theorem Ze9 {h_ : List Int} {at_ : Int} {r : (Vector Int 64) × (Vector Bool 64)} (h : Xi h_ at_ = some r) :
 CSpec Tryz.prog gl0 58 [.sl 5 (List.map R5 h_), .int .i64 at_] (.tuple [.agg (List.map C26 r.1.toList), .agg (List.map C4 r.2.toList)]) := by
 unfold Xi at h
 replace h := Qf h
 refine So Tryz.func58 Y fun w0 A=>Tr<|Rx Y (ZP (row := (List.map C26 (Vector.replicate 64 0).toList)) 0 Y ZbV Y tZ_28)<|Rx Y (ZP (row := (List.map C4 (Vector.replicate 64 false).toList)) 1 Y ZkC Y tZ_80)<|Za<|I2 (fun f whole=>⟨[(4, .ptr 0 1 0 0), (5, .ptr 1 1 0 0)], [some ⟨28, [(List.map C26 f.toList)]⟩, some ⟨80, [(List.map C4 whole.toList)]⟩]⟩) h (fun h=>?_) fun f whole h=>?_
 ·
  refine Tr<|Rm Y<|Za<|Zn<|?_
  obtain ⟨r1, hl1, ho1⟩ := Xq h
  refine L3 (fun f2 whole2 i=>⟨[(0, .sl 5 (List.map R5 h_)), (1, .int .i64 at_), (4, .ptr 0 1 0 0), (5, .ptr 1 1 0 0), (8, .int .i64 i)], [some ⟨28, [(List.map C26 f2.toList)]⟩, some ⟨80, [(List.map C4 whole2.toList)]⟩]⟩) hl1 (ES [some 0, some 1]) fun n1 f2 whole2 i h=>?_
  unfold ZZ at h
  refine Tr<|R2 Z4 Y<|Za<|Zs<|If h Y (fun h=>?_) fun h=>?_
  ·
   refine Zm<|Zs<|Zn<|K5 0 1 4 5 8 Y<|Tr<|Rm Y<|Ra Y<|Za<|K6 0 1 4 5 6 8 Y<|Tr<|Rm Y<|Rm Y<|R2 Zdz Y<|R2 Z2 Y<|Ra Y<|Za<|K7 0 1 4 5 6 7 8 Y<|Tr<|Rm Y<|R2 ZbR Y<|Rm Y<|Rq Y (.guarded ((decide (0 ≤ (i64 (at_ + (i64 (3 * i)))))) == true) Y Y Y Y fun h => Zd<|ov Y)<|Rq Y (.guarded ((decide (0 ≤ (i64 (at_ + (i64 (3 * i)))))) == true) Y Y Y Y fun h => ZhD (ow Y h) (ov Y) Y)<|Rq Y (.guarded ((decide (0 ≤ (i64 (at_ + (i64 (3 * i)))))) == true) Y Y Y Y fun h => Zd<|ov Y)<|Rq Y (.guarded ((decide (0 ≤ (i64 (at_ + (i64 (3 * i)))))) == true) Y Y Y Y fun h => Zcj (ZE (ow Y h) tZ_5) Xz<|Jo _ _)<|Rq Y (.guarded ((decide (0 ≤ (i64 (at_ + (i64 (3 * i)))))) == true) Y Y Y Y fun h => Zf5 (ow Y h)<|ow Y h)<|Rq Y (XU (ov Y) fun hp=>ow Y<|gT hp)<|Za<|K8 0 1 4 5 6 7 8 23 Y<|If h Y (fun h=>?_) fun h=>?_
   ·
    exact K7 0 1 4 5 6 7 8 Y<|ZC<|Rm Y<|Rm Y<|Rm Y<|Rm Y<|Rm Y<|R2 Z2 Y<|bE h fun l h_l h=>Rq Y (ZeT (ov Y) Xz (oi<|ov Y) (oi<|ov Y) h_l)<|bE h fun y h_y h=>Rq Y (Zq (Za9 h_y)<|.cons (ov Y) (.b Y) .nil)<|bE h fun x h_x h=>Rq Y (Z5 (ov Y) (ov Y) QI Y Y h_x)<|Rx Y (Ze (ov Y) (ov Y) (Zf QO) Y Y Y (arB h_x) (Zb Y)<|arS h_x)<|bE h fun x2 h_x2 h=>Rq Y (Z5 (ov Y) (ov Y) ZjR Y Y h_x2)<|Rx Y (Ze (ov Y) (ov Y) (Zf tS4) Y Y Y (arB h_x2) (Zb Y)<|arS h_x2)<|Za<|K5 0 1 4 5 8 Y<|ZC<|R2 Z2 Y<|Rm Y<|Za<|⟨_, h, ES [some 0, some 1]⟩
   ·
    exact Zm<|K5 0 1 4 5 8 Y<|ZC<|R2 Z2 Y<|Rm Y<|Za<|⟨_, h, ES [some 0, some 1]⟩
  ·
   refine ZT<|?_
   replace h := lx h ▸ ho1
   exact ⟨_, h, ES [some 0, some 1]⟩
 ·
  refine Td md0<|Dq 0 Y (ZB (ov Y) Y Y Y Z7 (Zr<|Zg arL) arL (hns := (nsM fun _ => Y)))<|Dw 1 2 Y (ZB (ov Y) Y Y Y ZdP (Zr<|Zg arL) arL (hns := (nsM fun _ => Y))) (Ze (ov Y) (ov Y) (Zo Z7 arL) Y Y Y (ZF (Zg arL) arL) (Zb<|arC fun _ => Y)<|ZK<|Eq.trans arL<|Eq.symm arL) ?_ ?_
  ·
   refine Do 2 Y (Ze (ov Y) (ov Y) (Zo Z7 arL) Y Y Y (ZF (Zg arL) arL) (Zb<|arC fun _ => Y)<|ZK<|Eq.trans arL<|Eq.symm arL)<|Do 3 Y (Ze (ov Y) (ov Y) (Zo ZdP arL) Y Y Y (ZF (Zg arL) arL) (Zb<|arC fun _ => Y)<|ZK<|Eq.trans arL<|Eq.symm arL)<|Dd<|?_
   obtain rfl := rt h
   exact Zu (ZL Y (.two (.agg Y Y Y Y Z7 (Zr<|Zg arL) arL (pwB<|arD fun _ => Y) (hns := (nsM fun _ => Y)))<|.agg Y Y Y Y ZdP (Zr<|Zg arL) arL (pwB<|arD fun _ => Y) (hns := (nsM fun _ => Y))))
  ·
   refine Dq 1 Y (ZB (ov Y) Y Y Y ZdP (Zr<|Zg arL) arL (hns := (nsM fun _ => Y)))<|Do 3 Y (Ze (ov Y) (ov Y) (Zo ZdP arL) Y Y Y (ZF (Zg arL) arL) (Zb<|arC fun _ => Y)<|ZK<|Eq.trans arL<|Eq.symm arL)<|Dd<|?_
   obtain rfl := rt h
   exact Zu (ZL Y (.two (.agg Y Y Y Y Z7 (Zr<|Zg arL) arL (pwB<|arD fun _ => Y) (hns := (nsM fun _ => Y)))<|.agg Y Y Y Y ZdP (Zr<|Zg arL) arL (pwB<|arD fun _ => Y) (hns := (nsM fun _ => Y))))
theorem Zg2 {f : Vector Int 64} {whole : Vector Bool 64} {r : Int × Bool} (h : ZbH f whole = some r) :
 CSpec Tryz.prog gl0 79 [.agg (List.map C26 f.toList), .agg (List.map C4 whole.toList)] (.tuple [.int .i64 r.1, .bool r.2]) := by
 unfold ZbH at h
 replace h := Qf h
 refine So Tryz.func79 Y fun w0 A=>Tr<|Rq Y (Qo (cva<|ov Y) arL tZ_28<|arD fun _ => Y)<|Rq Y (Qo (cva<|ov Y) arL tZ_80<|arD fun _ => Y)<|Ra Y<|Ra Y<|Za<|Zs<|K2 2 3 Y<|Tr<|bE h fun x h_x h=>Rq Y (QS (ov Y) (ov Y) ZjR h_x)<|Rq Y (Zh (ov Y) tS4<|Zl<|Z8 (o := 0) (o' := ((Int.toNat 0) * 1)) (Zg arL)<|Z0 h_x)<|R1 Ji Y<|Rm Y<|bE h fun x2 h_x2 h=>Rq Y (.guarded ((!x) == false) Y Y Y Y fun h => QS (ov Y) (ov Y) ZjR<|gdT h_x2 h)<|Rq Y (.guarded ((!x) == false) Y Y Y Y fun h => Zh (ow Y h) tS4<|Zl<|Z8 (o := 0) (o' := ((Int.toNat 1) * 1)) (Zg arL)<|Z0<|gdT h_x2 h)<|Rq Y (.guarded ((!x) == false) Y Y Y Y fun h => Ji<|ow Y h)<|Rq Y (JH (ov Y) fun hp=>ow Y<|gF hp)<|Rm Y<|bE h fun x3 h_x3 h=>Rq Y (.guarded (((!x) || (!x2)) == false) Y Y Y Y fun h => QS (ov Y) (ov Y) ZjR<|gdT h_x3 h)<|Rq Y (.guarded (((!x) || (!x2)) == false) Y Y Y Y fun h => Zh (ow Y h) tS4<|Zl<|Z8 (o := 0) (o' := ((Int.toNat 2) * 1)) (Zg arL)<|Z0<|gdT h_x3 h)<|Rq Y (.guarded (((!x) || (!x2)) == false) Y Y Y Y fun h => Ji<|ow Y h)<|Rq Y (JH (ov Y) fun hp=>ow Y<|gF hp)<|Za<|K2 2 22 Y<|If h Y (fun h=>?_) fun h=>?_
 ·
  refine K0<|Tr<|Ra Y<|Ra Y<|Za<|?_
  obtain rfl := rt h
  exact Zu (ZL Y (.two (rb Y)<|rb Y))
 ·
  refine Zm<|K1 2 Y<|Tr<|Rq Y (ZD (ov Y) Z7 (Zr<|Zg arL) arL)<|bE h fun y h_y h=>Rq Y (Zq (ZbQ h_y)<|.cons (ov Y) (.aggB<|arD fun _ => Y) .nil)<|Rm Y<|Rq Y (Zi (ov Y) Y)<|Rq Y (Zi (ov Y) Y)<|Ra Y<|Ra Y<|Za<|K3 2 6 7 Y<|Tr<|Rm Y<|bE h fun y2 h_y2 h=>Rq Y (Zq (ZcS h_y2)<|.cons (ov Y) (.b Y) .nil)<|Rm Y<|Rq Y (Zi (ov Y) Y)<|Rq Y (Zi (ov Y) Y)<|Ra Y<|Ra Y<|Za<|K4 2 6 7 8 Y<|Td md0<|D1 0 Zd Y<|D1 1 Zd Y<|D1 2 Zd Y<|bE h fun x4 h_x4 h=>Dq 3 Y (.guarded (y.2 == true) Y Y Y Y fun h => QS (ov Y) (ov Y) QI<|gdT h_x4 h)<|Dq 4 Y (.guarded (y.2 == true) Y Y Y Y fun h => Zh (ow Y h) QO<|Zl<|Z8 (o := 0) (o' := ((Int.toNat 0) * 1)) (Zg arL)<|Z0<|gdT h_x4 h)<|Dq 5 Y (.guarded (y.2 == true) Y Y Y Y fun h => Zd<|ov Y)<|Dq 6 Y (.guarded (y.2 == true) Y Y Y Y fun h => QR (ow Y h) tI3 Zct Y)<|Dq 7 Y (.guarded (y.2 == true) Y Y Y Y fun h => QC (ow Y h)<|ow Y h)<|Dq 8 Y (XU (ov Y) fun hp=>ow Y<|gT hp)<|D1 9 QE Y<|D1 10 QE Y<|Dd<|?_
  obtain rfl := rt h
  exact Zu (ZL Y (.two (rb Y)<|rb Y))
theorem Zc7 {x : salvage_finder} {i : Int} {place : Int} {r : Int} (h : QP x i place = some r) :
 CSpec Tryz.prog gl0 80 [.rp [.sl 5 (List.map R5 x.h_), .sl 51 (List.map R51 x.certain), .sl 3 (List.map R3 x.numbers), .any] 0, .int .i64 i, .int .i64 place] (.int .i64 r) := by
 unfold QP at h
 replace h := Qf h
 refine So Tryz.func80 Y fun w0 A=>Tr<|Ra Y<|Za<|K3 0 1 2 Y<|Tr<|Ra Y<|Ra Y<|Za<|I1 (fun best=>⟨[(7, .int .i64 best)], []⟩) h (fun h=>?_) fun best h=>?_
 ·
  refine Tr<|Rm Y<|R1 ZQ Y<|Rq Y (ZI (ov Y) Zbq)<|Rq Y (Zh (ov Y) Zep Y)<|Rl tZ_51 Je Y<|Rm Y<|Za<|Zn<|?_
  obtain ⟨r1, hl1, ho1⟩ := Xq h
  refine L3 (fun best2 least i2=>⟨[(0, .rp [.sl 5 (List.map R5 x.h_), .sl 51 (List.map R51 x.certain), .sl 3 (List.map R3 x.numbers), .any] 0), (1, .int .i64 i), (2, .int .i64 place), (7, .int .i64 best2), (8, .int .i64 least), (15, .sl 51 (List.map R51 x.certain)), (16, .int .i64 (x.certain.length : Int)), (17, .int .i64 i2)], []⟩) hl1 (ES []) fun n1 best2 least i2 h=>?_
  unfold QM at h
  refine Tr<|R2 Z4 Y<|Za<|Zs<|If h Y (fun h=>?_) fun h=>?_
  ·
   refine Zm<|Zs<|Zn<|K8 0 1 2 7 8 15 16 17 Y<|Tr<|Rm Y<|bE h fun x2 h_x2 h=>Rq Y (ZX (ov Y) (ov Y) Je h_x2)<|Rq Y (ZD (ov Y) Zek (Zr<|Zg ln4) ln4)<|Rx Y (ZP (row := (.int .i64 0) :: ((List.map C26 (Vector.replicate 64 0).toList) ++ ([]))) 0 Y ZjB (by kernel_rfl)<|by exact Eq.symm (Eq.trans (b := 65) ln4 tZ_51.symm))<|Ra Y<|Rx Y (Ze (ov Y) (ov Y) (Zo Zek ln4) Y Y Y (ZF (Zg ln4) ln4) (Zb al6)<|ZK<|Eq.trans ln4<|Eq.symm ln4)<|Za<|Zs<|K10 0 1 2 7 8 9 10 15 16 17 Y<|Td md0<|D1 0 Zd Y<|D1 1 Zd Y<|D2 2 QC Y<|D1 3 Zd Y<|Dq 4 Y (.guarded ((decide (i2 = i)) == false) Y Y Y Y fun h => Zc (ov Y) Y Y QL)<|Dq 5 Y (.guarded ((decide (i2 = i)) == false) Y Y Y Y fun h => Zj (ow Y h) Y Y Y tS3<|Zl QK)<|Dq 6 Y (.guarded ((decide (i2 = i)) == false) Y Y Y Y fun h => Zd<|ov Y)<|Dq 7 Y (.guarded ((decide (i2 = i)) == false) Y Y Y Y fun h => ZQ<|ow Y h)<|Dq 8 Y (.guarded ((decide (i2 = i)) == false) Y Y Y Y fun h => ZI (ow Y h) Zbq)<|Dq 9 Y (.guarded ((decide (i2 = i)) == false) Y Y Y Y fun h => Zh (ow Y h) Zep Y)<|Dq 10 Y (.guarded ((decide (i2 = i)) == false) Y Y Y Y fun h => Zd<|ov Y)<|bE h fun x3 h_x3 h=>Dq 11 Y (.guarded ((decide (i2 = i)) == false) Y Y Y Y fun h => ZX (ow Y h) (ow Y h) Je<|gdT h_x3 h)<|Dq 12 Y (.guarded ((decide (i2 = i)) == false) Y Y Y Y fun h => ZI (ow Y h) QL)<|Dq 13 Y (.guarded ((decide (i2 = i)) == false) Y Y Y Y fun h => Zh (ow Y h) tS3<|Zl QK)<|Dq 14 Y (.guarded ((decide (i2 = i)) == false) Y Y Y Y fun h => Zdv (ow Y h) (ow Y h) Y)<|bE h fun q h_q h=>Dq 15 Y (.guarded ((decide (i2 = i)) == false) Y Y Y Y fun h => XJ (ow Y h) (ov Y)<|gdT h_q h)<|Dq 16 Y (.guarded ((decide (i2 = i)) == false) Y Y Y Y fun h => XY (ow Y h)<|ov Y)<|Dq 17 Y (JH (ov Y) fun hp=>ow Y<|gF hp)<|Dd<|K11 0 1 2 7 8 9 10 15 16 17 39 Y<|If h Y (fun h=>?_) fun h=>?_
   ·
    exact ZT<|K8 0 1 2 7 8 15 16 17 Y<|ZC<|R2 Z2 Y<|Rm Y<|Za<|⟨_, h, ES []⟩
   ·
    refine Zm<|K10 0 1 2 7 8 9 10 15 16 17 Y<|Tr<|Rq Y (Zc (ov Y) Y Y QL)<|Rq Y (Zj (ov Y) Y Y Y tS3<|Zl QK)<|Rm Y<|R2 ZdT Y<|bE h fun y h_y h=>Rq Y (Zq (Zdu h_y)<|.cons (ov Y) (.b Y) .nil)<|Ra Y<|Za<|K10 0 1 2 7 8 9 11 15 16 17 Y<|Tr<|Rm Y<|R2 Z4 Y<|Rm Y<|Rq Y (.guarded ((decide (best2 < 0)) == false) Y Y Y Y fun h => Zd<|ov Y)<|Rq Y (.guarded ((decide (best2 < 0)) == false) Y Y Y Y fun h => Zd<|ov Y)<|Rq Y (.guarded ((decide (best2 < 0)) == false) Y Y Y Y fun h => Z4 (ow Y h)<|ow Y h)<|Rq Y (JH (ov Y) fun hp=>ow Y<|gF hp)<|Za<|K11 0 1 2 7 8 9 11 15 16 17 51 Y<|If h Y (fun h=>?_) fun h=>?_
    ·
     exact K10 0 1 2 7 8 9 11 15 16 17 Y<|ZC<|Rm Y<|Rm Y<|Ra Y<|Ra Y<|Za<|K8 0 1 2 7 8 15 16 17 Y<|ZC<|R2 Z2 Y<|Rm Y<|Za<|⟨_, h, ES []⟩
    ·
     exact Zm<|K8 0 1 2 7 8 15 16 17 Y<|ZC<|R2 Z2 Y<|Rm Y<|Za<|⟨_, h, ES []⟩
  ·
   refine ZT<|?_
   replace h := lx h ▸ ho1
   exact ⟨_, h, ES []⟩
 ·
  refine Tr<|Rm Y<|Ra Y<|Za<|?_
  obtain rfl := rt h
  exact Zu (ZL Y (.one<|rb Y))
theorem ZeQ {n : Int} {low : Int} {high : Int} {r : Bool} (h : Za4 n low high = some r) :
 CSpec Tryz.prog gl0 81 [.int .i64 n, .int .i64 low, .int .i64 high] (.bool r) := by
 unfold Za4 at h
 replace h := Qf h
 refine So Tryz.func81 Y fun w0 A=>Tr<|Ra Y<|Za<|Tr<|Rm Y<|Rm Y<|R2 ZbR Y<|Rm Y<|Rq Y (.guarded ((decide (low ≤ n)) == true) Y Y Y Y fun h => Zd<|ov Y)<|Rq Y (.guarded ((decide (low ≤ n)) == true) Y Y Y Y fun h => Zd<|ov Y)<|Rq Y (.guarded ((decide (low ≤ n)) == true) Y Y Y Y fun h => Zf5 (ow Y h)<|ow Y h)<|Rq Y (XU (ov Y) fun hp=>ow Y<|gT hp)<|Ra Y<|Za<|?_
 obtain rfl := rt h
 exact Zu (ZL Y (.one<|rb Y))
theorem ZcR {x : salvage_finder} {i : Int} {place : Int} {f : Vector Int 64} {whole : Vector Bool 64} {r : Int × Bool} (h : Q2 x i place f whole = some r) :
 CSpec Tryz.prog gl0 59 [.rp [.sl 5 (List.map R5 x.h_), .sl 51 (List.map R51 x.certain), .sl 3 (List.map R3 x.numbers), .any] 0, .int .i64 i, .int .i64 place, .agg (List.map C26 f.toList), .agg (List.map C4 whole.toList)] (.tuple [.int .i64 r.1, .bool r.2]) := by
 unfold Q2 at h
 replace h := Qf h
 refine So Tryz.func59 Y fun w0 A=>Tr<|Rq Y (Qo (cva<|ov Y) arL tZ_28<|arD fun _ => Y)<|Rq Y (Qo (cva<|ov Y) arL tZ_80<|arD fun _ => Y)<|Ra Y<|Ra Y<|Za<|Zs<|K5 0 1 2 8 9 Y<|Tr<|Rq Y (ZD (ov Y) Z7 (Zr<|Zg arL) arL)<|Rq Y (ZD (ov Y) ZdP (Zr<|Zg arL) arL)<|bE h fun y h_y h=>Rq Y (Zq (Zg2 h_y)<|.cons (ov Y) (.aggB<|arD fun _ => Y)<|.cons (ov Y) (.aggB<|arD fun _ => Y) .nil)<|Rm Y<|Rq Y (Zi (ov Y) Y)<|Rq Y (Zi (ov Y) Y)<|Ra Y<|Ra Y<|Za<|K5 0 1 2 12 13 Y<|Tr<|Rm Y<|Za<|K5 0 1 2 12 25 Y<|If h Y (fun h=>?_) fun h=>?_
 ·
  refine K1 12 Y<|Tr<|Rm Y<|Ra Y<|Ra Y<|Za<|?_
  obtain rfl := rt h
  exact Zu (ZL Y (.two (rb Y)<|rb Y))
 ·
  refine Zm<|K3 0 1 2 Y<|Tr<|Rm Y<|Rm Y<|Rm Y<|bE h fun y2 h_y2 h=>Rq Y (Zq (Zc7 h_y2)<|.cons (ov Y) (.b Y)<|.cons (ov Y) (.b Y)<|.cons (ov Y) (.b Y) .nil)<|Ra Y<|Za<|Zs<|K4 0 1 2 14 Y<|Tr<|Rm Y<|R2 Z4 Y<|Za<|K5 0 1 2 14 32 Y<|If h Y (fun h=>?_) fun h=>?_
  ·
   refine K0<|Tr<|Ra Y<|Ra Y<|Za<|?_
   obtain rfl := rt h
   exact Zu (ZL Y (.two (rb Y)<|rb Y))
  ·
   refine Zm<|K4 0 1 2 14 Y<|Td md0<|D1 0 Zd Y<|D1 1 Zd Y<|D1 2 ZQ Y<|Dq 3 Y (ZI (ov Y) Zbq)<|Dq 4 Y (Zh (ov Y) Zep Y)<|D1 5 Zd Y<|bE h fun x2 h_x2 h=>Dq 6 Y (ZX (ov Y) (ov Y) Je h_x2)<|Dq 7 Y (ZI (ov Y) QL)<|Dq 8 Y (Zh (ov Y) tS3<|Zl QK)<|D2 9 ZdT Y<|bE h fun q h_q h=>Dq 10 Y (Zcd (ov Y) (ov Y) h_q)<|D1 11 Zd Y<|D1 12 ZQ Y<|Dq 13 Y (ZI (ov Y) Zbq)<|Dq 14 Y (Zh (ov Y) Zep Y)<|D1 15 Zd Y<|bE h fun x3 h_x3 h=>Dq 16 Y (ZX (ov Y) (ov Y) Je h_x3)<|Dq 17 Y (ZI (ov Y) QL)<|Dq 18 Y (Zh (ov Y) tS3<|Zl QK)<|D1 19 Zd Y<|D1 20 ZQ Y<|Dq 21 Y (ZI (ov Y) Zbq)<|Dq 22 Y (Zh (ov Y) Zep Y)<|D1 23 Zd Y<|bE h fun x4 h_x4 h=>Dq 24 Y (ZX (ov Y) (ov Y) Je h_x4)<|Dq 25 Y (ZI (ov Y) QL)<|Dq 26 Y (Zh (ov Y) tS3<|Zl QK)<|D2 27 ZdT Y<|bE h fun q2 h_q2 h=>Dq 28 Y (Zcd (ov Y) (ov Y) h_q2)<|D1 29 QE Y<|D1 30 QE Y<|Dd<|K5 0 1 14 15 16 Y<|Td md0<|D1 0 Zd Y<|D1 1 ZQ Y<|Dq 2 Y (ZI (ov Y) Ql)<|Dq 3 Y (Zh (ov Y) QZ Y)<|D1 4 Zd Y<|bE h fun x5 h_x5 h=>Dq 5 Y (ZX (ov Y) (ov Y) QQ h_x5)<|Dq 6 Y (Zh (ov Y) tS3 Y)<|D1 7 Zd Y<|D1 8 ZQ Y<|Dq 9 Y (ZI (ov Y) Ql)<|Dq 10 Y (Zh (ov Y) QZ Y)<|D1 11 Zd Y<|bE h fun x6 h_x6 h=>Dq 12 Y (ZX (ov Y) (ov Y) QQ h_x6)<|Dq 13 Y (Zh (ov Y) tS3 Y)<|D2 14 ZdT Y<|D1 15 QE Y<|Dd<|Zs<|K5 0 1 15 16 17 Y<|Tr<|Rm Y<|Rm Y<|bE h fun q3 h_q3 h=>Rq Y (XJ (ov Y) (ov Y) h_q3)<|R2 XY Y<|Rm Y<|Rq Y (.guarded ((!decide (q3 = 0)) == false) Y Y Y Y fun h => Zd<|ov Y)<|Rq Y (.guarded ((!decide (q3 = 0)) == false) Y Y Y Y fun h => Zd<|ov Y)<|bE h fun q4 h_q4 h=>Rq Y (.guarded ((!decide (q3 = 0)) == false) Y Y Y Y fun h => Zcd (ow Y h) (ow Y h)<|gdT h_q4 h)<|Rq Y (.guarded ((!decide (q3 = 0)) == false) Y Y Y Y fun h => Zf5 (ow Y h)<|ov Y)<|Rq Y (JH (ov Y) fun hp=>ow Y<|gF hp)<|Za<|K6 0 1 15 16 17 86 Y<|If h Y (fun h=>?_) fun h=>?_
   ·
    refine K0<|Tr<|Ra Y<|Ra Y<|Za<|?_
    obtain rfl := rt h
    exact Zu (ZL Y (.two (rb Y)<|rb Y))
   ·
    refine Zm<|K5 0 1 15 16 17 Y<|Td md0<|D1 0 Zd Y<|D1 1 ZQ Y<|Dq 2 Y (ZI (ov Y) Ql)<|Dq 3 Y (Zh (ov Y) QZ Y)<|D1 4 Zd Y<|bE h fun x7 h_x7 h=>Dq 5 Y (ZX (ov Y) (ov Y) QQ h_x7)<|Dq 6 Y (Zh (ov Y) tS3 Y)<|D1 7 Zd Y<|D1 8 Zd Y<|D1 9 Zd Y<|bE h fun q5 h_q5 h=>Dq 10 Y (Zcd (ov Y) (ov Y) h_q5)<|D2 11 Zdz Y<|D2 12 Z2 Y<|D1 13 QE Y<|Dd<|K1 18 Y<|Tr<|Rm Y<|Rm Y<|bE h fun y3 h_y3 h=>Rq Y (Zq (ZeQ h_y3)<|.cons (ov Y) (.b Y)<|.cons (ov Y) (.b Y)<|.cons (ov Y) (.b Y) .nil)<|Ra Y<|Ra Y<|Za<|?_
    obtain rfl := rt h
    exact Zu (ZL Y (.two (rb Y)<|rb Y))
theorem Zdl {w : Int} {r : Bool} (h : Zb1 w = some r) :
 CSpec Tryz.prog gl0 83 [.int .u16 w] (.bool r) := by
 unfold Zb1 at h
 replace h := Qf h
 refine So Tryz.func83 Y fun w0 A=>Tr<|Ra Y<|Za<|Tr<|Rm Y<|bE h fun y h_y h=>Rq Y (Zq (Zbc h_y)<|.cons (ov Y) (.b Y) .nil)<|Ra Y<|Za<|?_
 obtain rfl := rt h
 exact Zu (ZL Y (.one<|rb Y))
theorem ZdB {w : Int} {i : Int} {number : Int} {r : Bool} (h : XF w i number = some r) :
 CSpec Tryz.prog gl0 60 [.int .u16 w, .int .i64 i, .int .i64 number] (.bool r) := by
 unfold XF at h
 replace h := Qf h
 refine So Tryz.func60 Y fun w0 A=>Tr<|Ra Y<|Za<|K3 0 1 2 Y<|Tr<|Rm Y<|R2 ZaE Y<|Rq Y (QR (ov Y) Zct tI3 Y)<|Ra Y<|Za<|Zs<|K4 0 1 2 7 Y<|Tr<|Rm Y<|Za<|Zn<|K4 0 2 7 13 Y<|Tr<|R2 QC Y<|Ra Y<|Za<|K5 0 2 7 13 14 Y<|If h Y (fun h=>?_) fun h=>?_
 ·
  refine K2 0 2 Y<|Tr<|Rm Y<|bE h fun y h_y h=>Rq Y (Zq (ZcS h_y)<|.cons (ov Y) (.b Y) .nil)<|Rm Y<|Rq Y (Zi (ov Y) Y)<|Rq Y (Zi (ov Y) Y)<|Ra Y<|Ra Y<|Za<|K2 0 8 Y<|Tr<|Rm Y<|Rm Y<|Rq Y (QR (ov Y) tI3 Zct Y)<|R2 QC Y<|Ra Y<|Za<|?_
  obtain rfl := rt h
  exact Zu (ZL Y (.one<|rb Y))
 ·
  refine K4 0 2 7 13 Y<|Tr<|R2 QC Y<|Ra Y<|Za<|K5 0 2 7 13 25 Y<|If h Y (fun h=>?_) fun h=>?_
  ·
   refine K3 0 2 7 Y<|Tr<|Rm Y<|bE h fun y2 h_y2 h=>Rq Y (Zq (Zdl h_y2)<|.cons (ov Y) (.b Y) .nil)<|Rm Y<|Rq Y (.guarded (y2 == true) Y Y Y Y fun h => Zd<|ov Y)<|Rq Y (.guarded (y2 == true) Y Y Y Y fun h => Zd<|ov Y)<|Rq Y (.guarded (y2 == true) Y Y Y Y fun h => ZaE (ow Y h)<|ov Y)<|Rq Y (.guarded (y2 == true) Y Y Y Y fun h => QC (ow Y h)<|ow Y h)<|Rq Y (XU (ov Y) fun hp=>ow Y<|gT hp)<|Ra Y<|Za<|?_
   obtain rfl := rt h
   exact Zu (ZL Y (.one<|rb Y))
  ·
   refine K4 0 2 7 13 Y<|Tr<|R2 QC Y<|Ra Y<|Za<|K4 0 2 7 35 Y<|If h Y (fun h=>?_) fun h=>?_
   ·
    refine K3 0 2 7 Y<|Tr<|Rm Y<|bE h fun y3 h_y3 h=>Rq Y (Zq (Zdl h_y3)<|.cons (ov Y) (.b Y) .nil)<|Rm Y<|Rq Y (.guarded (y3 == true) Y Y Y Y fun h => Zd<|ov Y)<|Rq Y (.guarded (y3 == true) Y Y Y Y fun h => Zd<|ov Y)<|bE h fun q h_q h=>Rq Y (.guarded (y3 == true) Y Y Y Y fun h => Zcq (ow Y h) (ov Y)<|gdT h_q h)<|Rq Y (.guarded (y3 == true) Y Y Y Y fun h => QC (ow Y h)<|ow Y h)<|Rq Y (XU (ov Y) fun hp=>ow Y<|gT hp)<|Ra Y<|Za<|?_
    obtain rfl := rt h
    exact Zu (ZL Y (.one<|rb Y))
   ·
    refine Zm<|K1 0 Y<|Tr<|Rm Y<|bE h fun y4 h_y4 h=>Rq Y (Zq (Zdl h_y4)<|.cons (ov Y) (.b Y) .nil)<|Ra Y<|Za<|?_
    obtain rfl := rt h
    exact Zu (ZL Y (.one<|rb Y))
theorem ZbT {s : List Int} {f : Int → Option Bool} {r : Int} {f_f : FuncId} {f_c : List AV} (f_d : f_c.all datB = true) (f_h : ∀ (z0 : Int) z, f z0 = some z → CSpec Tryz.prog gl0 f_f ([.int .i64 z0] ++ f_c) (.bool z)) (h : Xd s f = some r) :
 CSpec Tryz.prog gl0 100 [.sl 3 (List.map R3 s), .fn f_f f_c] (.int .i64 r) := by
 unfold Xd at h
 replace h := Qf h
 refine So Tryz.func100 Y fun w0 A=>Tr<|Ra Y<|Za<|J0 (fun j => (.inr j)) ⟨[], []⟩ h (fun h=>?_) fun h=>?_
 ·
  refine K2 0 1 Y<|Tr<|Rm Y<|Rl tZ_3 QQ Y<|Rm Y<|Za<|Zn<|?_
  obtain ⟨r1, hl1, ho1⟩ := Xq h
  refine L1 (fun i=>⟨[(0, .sl 3 (List.map R3 s)), (1, .fn f_f f_c), (7, .int .i64 (s.length : Int)), (8, .int .i64 i)], []⟩) hl1 (ES []<|sd 0 Y Y<|sr 1 Y (rFn<|rld f_d)<|sd 7 Y Y<|sd 8 Y Y sn) fun n1 i h=>?_
  unfold Qe at h
  refine Tr<|R2 Z4 Y<|Za<|Zs<|If h Y (fun h=>?_) fun h=>?_
  ·
   refine Zm<|Zs<|Zn<|K4 0 1 7 8 Y<|Tr<|Rm Y<|Ra Y<|Za<|K5 0 1 5 7 8 Y<|Tr<|Rm Y<|Rm Y<|Rm Y<|bE h fun x h_x h=>Rq Y (ZX (ov Y) (ov Y) QQ h_x)<|Rq Y (Zh (ov Y) tS3 Y)<|bE h fun y h_y h=>Rq Y (Zgw (ov Y) f_d (f_h _ _ h_y)<|.cons (ov Y) (.b Y) .nil)<|Za<|K6 0 1 5 7 8 16 Y<|If h Y (fun h=>?_) fun h=>?_
   ·
    refine K1 5 Y<|Tr<|Rm Y<|Ra Y<|Za<|?_
    replace h := lx h ▸ ho1
    obtain rfl := rt h
    exact Zu (ZL Y (.one<|rb Y))
   ·
    exact Zm<|K4 0 1 7 8 Y<|ZC<|R2 Z2 Y<|Rm Y<|Za<|⟨_, h, ES []<|sd 0 Y Y<|sr 1 Y (rFn<|rld f_d)<|sd 7 Y Y<|sd 8 Y Y sn⟩
  ·
   refine ZT<|?_
   replace h := lx h ▸ ho1
   exact ⟨_, h, ES []⟩
 ·
  replace h := elr h
  replace h := t0i h
  refine Tr<|Ra Y<|Za<|?_
  obtain rfl := rt h
  exact Zu (ZL Y (.one<|rb Y))
theorem X7 {s : List Int} {f : Int → Option Bool} {r : Bool} {f_f : FuncId} {f_c : List AV} (f_d : f_c.all datB = true) (f_h : ∀ (z0 : Int) z, f z0 = some z → CSpec Tryz.prog gl0 f_f ([.int .i64 z0] ++ f_c) (.bool z)) (h : Qd s f = some r) :
 CSpec Tryz.prog gl0 84 [.sl 3 (List.map R3 s), .fn f_f f_c] (.bool r) := by
 unfold Qd at h
 replace h := Qf h
 refine So Tryz.func84 Y fun w0 A=>Tr<|Ra Y<|Za<|Tr<|Rm Y<|Rm Y<|bE h fun y h_y h=>Rq Y (Zq (ZbT f_d f_h h_y)<|.cons (ov Y) (.b Y)<|.cons (ov Y) (Dat.fnC<|.refl fun x hx => .b<|List.all_eq_true.1 f_d x hx) .nil)<|R2 ZbR Y<|Ra Y<|Za<|?_
 obtain rfl := rt h
 exact Zu (ZL Y (.one<|rb Y))
theorem ZfI {s : Int} {c0 : Int} {r : Bool} (h : Zbw s c0 = some r) :
 CSpec Tryz.prog gl0 85 [.int .i64 s, .rp [.int .i64 c0] 0] (.bool r) := by
 unfold Zbw at h
 replace h := Qf h
 refine So Tryz.func85 Y fun w0 A=>Tr<|Ra Y<|Za<|Tr<|Rm Y<|Rq Y (Zh (ov Y) tS3 Y)<|R2 XY Y<|Ra Y<|Za<|?_
 obtain rfl := rt h
 exact Zu (ZL Y (.one<|rb Y))
theorem ZdX {r_ : api_Rest} {state : Int} {r : Bool} (h : Jh r_ state = some r) :
 CSpec Tryz.prog gl0 61 [.agg ((.int .i64 r_.Number) :: ((List.map C26 r_.Frame.toList) ++ (((List.map C3 r_.States.toList) ++ ((.bool r_.Sound) :: (.int .i64 r_.Copies) :: (.bool r_.Conflict) :: []))))), .int .i64 state] (.bool r) := by
 unfold Jh at h
 replace h := Qf h
 refine So Tryz.func61 Y fun w0 A=>Tr<|Rq Y (Qo (cva<|ov Y) Zy tZ_49 Jl)<|Rq Y (Qo (cvs (ov Y)<|ZY Y) Y tZ_3 Y)<|Ra Y<|Za<|K3 2 3 4 Y<|Tr<|Rq Y (ZI (ov Y) Jd)<|bE h fun l h_l h=>Rq Y (ZlM (f := C3) (ov Y) Zde tZ_3 Zai Y on on h_l)<|Rq Y (ZeJ<|.cons (ov Y) .nil)<|bE h fun y h_y h=>Rq Y (Zq (X7 Y (fun z0 _ hz=>ZfI hz) h_y)<|.cons (ov Y) (.b Y)<|.cons (ov Y) (.fnC<|.cons (.b Y) .nil) .nil)<|R1 Ji Y<|Ra Y<|Za<|?_
 obtain rfl := rt h
 exact Zu (ZL Y (.one<|rb Y))
theorem ZcT {x : salvage_finder} {i : Int} {place : Int} {r : api_Rest × Bool} (h : Qp x i place = some r) :
 CSpec Tryz.prog gl0 43 [.rp [.sl 5 (List.map R5 x.h_), .sl 51 (List.map R51 x.certain), .sl 3 (List.map R3 x.numbers), .any] 0, .int .i64 i, .int .i64 place] (.tuple [.agg ((.int .i64 r.1.Number) :: ((List.map C26 r.1.Frame.toList) ++ (((List.map C3 r.1.States.toList) ++ ((.bool r.1.Sound) :: (.int .i64 r.1.Copies) :: (.bool r.1.Conflict) :: []))))), .bool r.2]) := by
 unfold Qp at h
 replace h := Qf h
 refine So Tryz.func43 Y fun w0 A=>Tr<|Rx Y (ZP (row := (.int .i64 0) :: ((List.map C26 (Vector.replicate 64 0).toList) ++ (((List.map C3 (Vector.replicate 64 0).toList) ++ ((.bool false) :: (.int .i64 0) :: (.bool false) :: []))))) 0 Y ZdJ (by kernel_rfl)<|by exact Eq.symm (Eq.trans (b := 132) Zy tZ_49.symm))<|Ra Y<|Za<|K4 0 1 2 6 Y<|Tr<|Rm Y<|R1 ZQ Y<|Rq Y (ZI (ov Y) Zmv)<|Rq Y (Zh (ov Y) ZcV Y)<|Rm Y<|bE h fun y h_y h=>Rq Y (Zq (Ze9 h_y)<|.cons (ov Y) (.b Y)<|.cons (ov Y) (.b Y) .nil)<|Rm Y<|Rq Y (Zi (ov Y) Y)<|Rq Y (Zi (ov Y) Y)<|Rx Y (ZP (row := (List.map C26 (Vector.replicate 64 0).toList)) 1 Y ZbV Y tZ_28)<|Rx Y (ZP (row := (List.map C4 (Vector.replicate 64 false).toList)) 2 Y ZkC Y tZ_80)<|Rx Y (Ze (ov Y) (ov Y) (Zo Z7 arL) Y Y Y (ZF (Zg arL) arL) (Zb<|arC fun _ => Y)<|ZK<|Eq.trans arL<|Eq.symm arL)<|Rx Y (Ze (ov Y) (ov Y) (Zo ZdP arL) Y Y Y (ZF (Zg arL) arL) (Zb<|arC fun _ => Y)<|ZK<|Eq.trans arL<|Eq.symm arL)<|Za<|K6 0 1 2 6 8 9 Y<|Tr<|Rm Y<|Rm Y<|Rm Y<|Rq Y (ZB (ov Y) Y Y Y Z7 (Zr<|Zg arL) arL (hns := (nsM fun _ => Y)))<|Rq Y (ZB (ov Y) Y Y Y ZdP (Zr<|Zg arL) arL (hns := (nsM fun _ => Y)))<|bE h fun y2 h_y2 h=>Rq Y (Zq (ZcR h_y2)<|.cons (ov Y) (.b Y)<|.cons (ov Y) (.b Y)<|.cons (ov Y) (.b Y)<|.cons (ov Y) (.aggB<|arD fun _ => Y)<|.cons (ov Y) (.aggB<|arD fun _ => Y) .nil)<|Rm Y<|Rq Y (Zi (ov Y) Y)<|Rq Y (Zi (ov Y) Y)<|Ra Y<|Ra Y<|Za<|Zs<|K5 6 8 9 10 11 Y<|Tr<|Rm Y<|R1 Ji Y<|Za<|K5 6 8 9 10 34 Y<|If h Y (fun h=>?_) fun h=>?_
 ·
  refine K1 6 Y<|Tr<|Rq Y (Zcb (zr := (.int .i64 0) :: ((List.map C26 (Vector.replicate 64 0).toList) ++ (((List.map C3 (Vector.replicate 64 0).toList) ++ ((.bool false) :: (.int .i64 0) :: (.bool false) :: []))))) ZiQ Zjn ZdJ (by kernel_rfl) .nil ZeI)<|Rx Y (Ze (ov Y) (ov Y) (Zo Xk Zy) Y Y Y (ZF (Zg Zy) Zy) (Zb Zc3)<|ZK<|Eq.trans Zy<|Eq.symm Zy)<|Ra Y<|Za<|?_
  obtain rfl := rt h
  exact Zu (ZL Y (.two (.agg Y Y Y Y Xk (Zr<|Zg Zy) Zy (pwB Jl) (hns := ZbN))<|rb Y))
 ·
  refine Zm<|K4 6 8 9 10 Y<|Tr<|Rm Y<|Rq Y (Zcb (zr := (.int .i64 0) :: ((List.map C26 (Vector.replicate 64 0).toList) ++ (((List.map C3 (Vector.replicate 64 0).toList) ++ ((.bool false) :: (.int .i64 0) :: (.bool false) :: []))))) ZiQ Zjn ZdJ (by kernel_rfl) (.cons (cvs (ov Y)<|ZY Y) .nil)<|JC Y Y at8 pt9 ZeI)<|Rx Y (ZP (row := (.int .i64 0) :: ((List.map C26 (Vector.replicate 64 0).toList) ++ (((List.map C3 (Vector.replicate 64 0).toList) ++ ((.bool false) :: (.int .i64 0) :: (.bool false) :: []))))) 3 Y ZdJ (by kernel_rfl)<|by exact Eq.symm (Eq.trans (b := 132) Zy tZ_49.symm))<|Rx Y (Ze (ov Y) (ov Y) (Zo Xk Zy) Y Y Y (ZF (Zg Zy) Zy) (Zb Zc3)<|ZK<|Eq.trans Zy<|Eq.symm Zy)<|Za<|I1 (fun r_=>⟨[(6, .ptr 0 1 0 0), (12, .ptr 1 1 0 0)], [some ⟨49, [(.int .i64 0) :: ((List.map C26 (Vector.replicate 64 0).toList) ++ (((List.map C3 (Vector.replicate 64 0).toList) ++ ((.bool false) :: (.int .i64 0) :: (.bool false) :: []))))]⟩, some ⟨49, [(.int .i64 r_.Number) :: ((List.map C26 r_.Frame.toList) ++ (((List.map C3 r_.States.toList) ++ ((.bool r_.Sound) :: (.int .i64 r_.Copies) :: (.bool r_.Conflict) :: []))))]⟩]⟩) h (fun h=>?_) fun r_ h=>?_
  ·
   refine K5 6 8 9 10 12 Y<|Tr<|Rq Y (ZB (ov Y) Y Y Y Z7 (Zr<|Zg arL) arL (hns := (nsM fun _ => Y)))<|Rm Y<|Za<|Zn<|?_
   obtain ⟨r1, hl1, ho1⟩ := Xq h
   refine L2 (fun r_2 i2=>⟨[(6, .ptr 0 1 0 0), (9, .ptr 1 1 0 0), (10, .int .i64 y2.1), (12, .ptr 2 1 0 0), (38, .agg (List.map C26 y.1.toList)), (39, .int .i64 i2)], [some ⟨49, [(.int .i64 0) :: ((List.map C26 (Vector.replicate 64 0).toList) ++ (((List.map C3 (Vector.replicate 64 0).toList) ++ ((.bool false) :: (.int .i64 0) :: (.bool false) :: []))))]⟩, some ⟨80, [(List.map C4 y.2.toList)]⟩, some ⟨49, [(.int .i64 r_2.Number) :: ((List.map C26 r_2.Frame.toList) ++ (((List.map C3 r_2.States.toList) ++ ((.bool r_2.Sound) :: (.int .i64 r_2.Copies) :: (.bool r_2.Conflict) :: []))))]⟩]⟩) hl1 (ES [some 0, some 2, some 3]) fun n1 r_2 i2 h=>?_
   unfold Qm at h
   refine Tr<|R2 Z4 Y<|Za<|Zs<|If h Y (fun h=>?_) fun h=>?_
   ·
    refine Zm<|Zs<|Zn<|K6 6 9 10 12 38 39 Y<|Tr<|Rm Y<|bE h fun x2 h_x2 h=>Rq Y (ZaL (ov Y) (ov Y) QI QO h_x2)<|Ra Y<|Ra Y<|Za<|K8 6 9 10 12 13 14 38 39 Y<|Tr<|Rm Y<|bE h fun x3 h_x3 h=>Rq Y (Z5 (ov Y) (ov Y) ZjR Y Y h_x3)<|Rq Y (Zj (ov Y) Y Y Y tS4<|Zl<|Z8 (o := 0) (o' := (i2.toNat * 1)) (Zg arL)<|Z0 h_x3)<|Rm Y<|Rq Y (.guarded (x3 == true) Y Y Y Y fun h => Zd<|ov Y)<|Rq Y (.guarded (x3 == true) Y Y Y Y fun h => Zd<|ov Y)<|Rq Y (.guarded (x3 == true) Y Y Y Y fun h => Zd<|ov Y)<|bE h fun y3 h_y3 h=>Rq Y (.guarded (x3 == true) Y Y Y Y fun h => Zq (ZdB<|gdT h_y3 h)<|.cons (ow Y h) (.b Y)<|.cons (ow Y h) (.b Y)<|.cons (ow Y h) (.b Y) .nil)<|Rq Y (XU (ov Y) fun hp=>ow Y<|gT hp)<|Za<|K9 6 9 10 12 13 14 38 39 51 Y<|If h Y (fun h=>?_) fun h=>?_
    ·
     exact K8 6 9 10 12 13 14 38 39 Y<|ZC<|Rm Y<|Rm Y<|Rm Y<|Rq Y (Zc (ov Y) Y Y X9)<|bE h fun x4 h_x4 h=>Rq Y (Z5 (ov Y) (ov Y) QI Y Y h_x4)<|Rx Y (Ze (ov Y) (ov Y) (Zf QO) Y Y Y (ZF (Z8 (o := 1) (o' := (i2.toNat * 1)) Zbo<|Z0 h_x4) Y) (Zb Y)<|JE (o := 1) (o' := (i2.toNat * 1)) Zbo (Z0 h_x4) Y (ZaY h_x4 (x := x2)) Zhs)<|Rq Y (Zc (ov Y) Y Y Jd)<|bE h fun x5 h_x5 h=>Rq Y (Z5 (ov Y) (ov Y) Zde Y Y h_x5)<|Rx Y (Ze (ov Y) (ov Y) (Zf tS3) Y Y Y (ZF (Z8 (o := 65) (o' := (i2.toNat * 1)) Zai<|Z0 h_x5) Y) (Zb Y)<|JE (o := 65) (o' := (i2.toNat * 1)) Zai (Z0 h_x5) Y (ZaY h_x5 (x := 1)) Zgj)<|Za<|K6 6 9 10 12 38 39 Y<|ZC<|R2 Z2 Y<|Rm Y<|Za<|⟨_, h, ES [some 0, some 1, some 2]⟩
    ·
     exact Zm<|K6 6 9 10 12 38 39 Y<|ZC<|R2 Z2 Y<|Rm Y<|Za<|⟨_, h, ES [some 0, some 1, some 2]⟩
   ·
    refine ZT<|?_
    replace h := lx h ▸ ho1
    exact ⟨_, h, ES [some 0, some 2]⟩
  ·
   refine Td md0<|Dq 0 Y (ZB (ov Y) Y Y Y Xk (Zr<|Zg Zy) Zy (hns := ZbN))<|Dq 1 Y (ZB (ov Y) Y Y Y Xk (Zr<|Zg Zy) Zy (hns := ZbN))<|bE h fun y4 h_y4 h=>Dq 2 Y (Zq (ZdX h_y4)<|.cons (ov Y) (.aggB Jl)<|.cons (ov Y) (.b Y) .nil)<|ZaG 3 _ Y (by kernel_rfl) Y Y (fun hp'=>Ji<|ov Y)<|Do 4 Y (Ze (ov Y) (ov Y) (Zo Xk Zy) Y Y Y (ZF (Zg Zy) Zy) (Zb Zc3)<|ZK<|Eq.trans Zy<|Eq.symm Zy)<|D1 5 QE Y<|Dd<|?_
   obtain rfl := rt h
   exact Zu (ZL Y (.two (.agg Y Y Y Y Xk (Zr<|Zg Zy) Zy (pwB Jl) (hns := ZbN))<|rb Y))
theorem ZhS {xs r : List Int} (h : Zf1 xs = some r) :
    GSpec Tryz.prog gl0 45 [.own 0 xs.length] [some ⟨3, List.map R3 xs⟩] (.tuple []) [some ⟨3, List.map R3 r⟩] :=
  Zmo (g := R3) (fun _ => rfl) (by kernel_rfl) tZ_3 (fun _ _ _ _ _ h1 h2 h3 => Any.slices_Sort_int Tryz.lays189 _ _ _ _ _ h1 h2 h3) (fun p c w => Any.slices_Sort_int_none Tryz.lays189 p c w) h
theorem Zaa {s : List api_Rest} {f : api_Rest → Option Bool} {r : Int} {f_f : FuncId} {f_c : List AV} (f_d : f_c.all datB = true) (f_h : ∀ (z0 : api_Rest) z, f z0 = some z → CSpec Tryz.prog gl0 f_f ([.agg ((.int .i64 z0.Number) :: ((List.map C26 z0.Frame.toList) ++ (((List.map C3 z0.States.toList) ++ ((.bool z0.Sound) :: (.int .i64 z0.Copies) :: (.bool z0.Conflict) :: [])))))] ++ f_c) (.bool z)) (h : Qk s f = some r) :
 CSpec Tryz.prog gl0 97 [.sl 49 (List.map R49 s), .fn f_f f_c] (.int .i64 r) := by
 unfold Qk at h
 replace h := Qf h
 refine So Tryz.func97 Y fun w0 A=>Tr<|Ra Y<|Za<|J0 (fun j => (.inr j)) ⟨[], []⟩ h (fun h=>?_) fun h=>?_
 ·
  refine K2 0 1 Y<|Tr<|Rm Y<|Rl tZ_49 Xo Y<|Rm Y<|Za<|Zn<|?_
  obtain ⟨r1, hl1, ho1⟩ := Xq h
  refine L1 (fun i=>⟨[(0, .sl 49 (List.map R49 s)), (1, .fn f_f f_c), (7, .int .i64 (s.length : Int)), (8, .int .i64 i)], []⟩) hl1 (ES []<|sd 0 Y Y<|sr 1 Y (rFn<|rld f_d)<|sd 7 Y Y<|sd 8 Y Y sn) fun n1 i h=>?_
  unfold ZU at h
  refine Tr<|R2 Z4 Y<|Za<|Zs<|If h Y (fun h=>?_) fun h=>?_
  ·
   refine Zm<|Zs<|Zn<|K4 0 1 7 8 Y<|Tr<|Rm Y<|Ra Y<|Za<|K5 0 1 5 7 8 Y<|Tr<|Rm Y<|Rm Y<|Rm Y<|bE h fun x h_x h=>Rq Y (ZX (ov Y) (ov Y) Xo h_x)<|Rq Y (ZD (ov Y) Xk (Zr<|Zg Zy) Zy)<|bE h fun y h_y h=>Rq Y (Zgw (ov Y) f_d (f_h _ _ h_y)<|.cons (ov Y) (.aggB Jl) .nil)<|Za<|K6 0 1 5 7 8 16 Y<|If h Y (fun h=>?_) fun h=>?_
   ·
    refine K1 5 Y<|Tr<|Rm Y<|Ra Y<|Za<|?_
    replace h := lx h ▸ ho1
    obtain rfl := rt h
    exact Zu (ZL Y (.one<|rb Y))
   ·
    exact Zm<|K4 0 1 7 8 Y<|ZC<|R2 Z2 Y<|Rm Y<|Za<|⟨_, h, ES []<|sd 0 Y Y<|sr 1 Y (rFn<|rld f_d)<|sd 7 Y Y<|sd 8 Y Y sn⟩
  ·
   refine ZT<|?_
   replace h := lx h ▸ ho1
   exact ⟨_, h, ES []⟩
 ·
  replace h := elr h
  replace h := t0i h
  refine Tr<|Ra Y<|Za<|?_
  obtain rfl := rt h
  exact Zu (ZL Y (.one<|rb Y))
theorem JA {s : List api_Rest} {f : api_Rest → Option Bool} {r : Bool} {f_f : FuncId} {f_c : List AV} (f_d : f_c.all datB = true) (f_h : ∀ (z0 : api_Rest) z, f z0 = some z → CSpec Tryz.prog gl0 f_f ([.agg ((.int .i64 z0.Number) :: ((List.map C26 z0.Frame.toList) ++ (((List.map C3 z0.States.toList) ++ ((.bool z0.Sound) :: (.int .i64 z0.Copies) :: (.bool z0.Conflict) :: [])))))] ++ f_c) (.bool z)) (h : Z1 s f = some r) :
 CSpec Tryz.prog gl0 64 [.sl 49 (List.map R49 s), .fn f_f f_c] (.bool r) := by
 unfold Z1 at h
 replace h := Qf h
 refine So Tryz.func64 Y fun w0 A=>Tr<|Ra Y<|Za<|Tr<|Rm Y<|Rm Y<|bE h fun y h_y h=>Rq Y (Zq (Zaa f_d f_h h_y)<|.cons (ov Y) (.b Y)<|.cons (ov Y) (Dat.fnC<|.refl fun x hx => .b<|List.all_eq_true.1 f_d x hx) .nil)<|R2 ZbR Y<|Ra Y<|Za<|?_
 obtain rfl := rt h
 exact Zu (ZL Y (.one<|rb Y))
theorem ZeA {r_ : api_Rest} {r : Bool} (h : Zar r_ = some r) :
 CSpec Tryz.prog gl0 65 [.agg ((.int .i64 r_.Number) :: ((List.map C26 r_.Frame.toList) ++ (((List.map C3 r_.States.toList) ++ ((.bool r_.Sound) :: (.int .i64 r_.Copies) :: (.bool r_.Conflict) :: [])))))] (.bool r) := by
 unfold Zar at h
 replace h := Qf h
 refine So Tryz.func65 Y fun w0 A=>Tr<|Rq Y (Qo (cva<|ov Y) Zy tZ_49 Jl)<|Ra Y<|Za<|K2 1 2 Y<|Tr<|Rq Y (ZI (ov Y) Zlp)<|Rq Y (Zh (ov Y) tS4<|Zl Zn2)<|Ra Y<|Za<|?_
 obtain rfl := rt h
 exact Zu (ZL Y (.one<|rb Y))
theorem ZdI {out : api_Rest} {l : List api_Rest} {r : Bool × api_Rest} (h : Jv out l = some r) :
 GSpec Tryz.prog gl0 66 [.ptr 0 1 0 0, .sl 49 (List.map R49 l)] [some ⟨49, [(.int .i64 out.Number) :: ((List.map C26 out.Frame.toList) ++ (((List.map C3 out.States.toList) ++ ((.bool out.Sound) :: (.int .i64 out.Copies) :: (.bool out.Conflict) :: []))))]⟩] (.bool r.1) [some ⟨49, [(.int .i64 r.2.Number) :: ((List.map C26 r.2.Frame.toList) ++ (((List.map C3 r.2.States.toList) ++ ((.bool r.2.Sound) :: (.int .i64 r.2.Copies) :: (.bool r.2.Conflict) :: []))))]⟩] := by
 unfold Jv at h
 replace h := Qf h
 refine ZdL (by kernel_rfl) Tryz.func66 Y Y<|?_
 intro w0 A W φ0
 refine Tr<|Ra Y<|Za<|J1 (fun j => (.inr j)) (fun o=>⟨[], [some ⟨49, [(.int .i64 o.Number) :: ((List.map C26 o.Frame.toList) ++ (((List.map C3 o.States.toList) ++ ((.bool o.Sound) :: (.int .i64 o.Copies) :: (.bool o.Conflict) :: []))))]⟩]⟩) h (fun h=>?_) fun o h=>?_
 ·
  refine K2 0 1 Y<|Tr<|Rm Y<|Rl tZ_49 Xo Y<|Rm Y<|Za<|Zn<|?_
  obtain ⟨r1, hl1, ho1⟩ := Xq h
  refine L2 (fun o2 i=>⟨[(0, .ptr 0 1 0 0), (9, .sl 49 (List.map R49 l)), (10, .int .i64 (l.length : Int)), (11, .int .i64 i)], [some ⟨49, [(.int .i64 o2.Number) :: ((List.map C26 o2.Frame.toList) ++ (((List.map C3 o2.States.toList) ++ ((.bool o2.Sound) :: (.int .i64 o2.Copies) :: (.bool o2.Conflict) :: []))))]⟩]⟩) hl1 (ES [some 0]) fun n1 o2 i h=>?_
  unfold XH at h
  refine Tr<|R2 Z4 Y<|Za<|Zs<|If h Y (fun h=>?_) fun h=>?_
  ·
   refine Zm<|J1 (fun j => (.inr j)) (fun o3=>⟨[(0, .ptr 0 1 0 0), (9, .sl 49 (List.map R49 l)), (10, .int .i64 (l.length : Int)), (11, .int .i64 i)], [some ⟨49, [(.int .i64 o3.Number) :: ((List.map C26 o3.Frame.toList) ++ (((List.map C3 o3.States.toList) ++ ((.bool o3.Sound) :: (.int .i64 o3.Copies) :: (.bool o3.Conflict) :: []))))]⟩]⟩) h (fun h=>?_) fun o3 h=>?_
   ·
    refine Zn<|K4 0 9 10 11 Y<|Tr<|bE h fun x h_x h=>Rq Y (ZX (ov Y) (ov Y) Xo h_x)<|Rq Y (ZD (ov Y) Xk (Zr<|Zg Zy) Zy)<|Rx Y (ZP (row := (.int .i64 0) :: ((List.map C26 (Vector.replicate 64 0).toList) ++ (((List.map C3 (Vector.replicate 64 0).toList) ++ ((.bool false) :: (.int .i64 0) :: (.bool false) :: []))))) 1 Y ZdJ (by kernel_rfl)<|by exact Eq.symm (Eq.trans (b := 132) Zy tZ_49.symm))<|Rx Y (Ze (ov Y) (ov Y) (Zo Xk Zy) Y Y Y (ZF (Zg Zy) Zy) (Zb Zc3)<|ZK<|Eq.trans Zy<|Eq.symm Zy)<|Za<|Zs<|K5 0 6 9 10 11 Y<|Tr<|Rq Y (Zc (ov Y) Y Y Zdq)<|Rq Y (Zj (ov Y) Y Y Y tS4<|Zl Zgk)<|R1 Ji Y<|Za<|K6 0 6 9 10 11 17 Y<|If h Y (fun h=>?_) fun h=>?_
    ·
     exact ZT<|⟨_, h, ES [some 0]⟩
    ·
     refine Zm<|Zs<|K5 0 6 9 10 11 Y<|Td md0<|D1 0 Zd Y<|Dq 1 Y (Zk (ov Y) Y Y)<|Dq 2 Y (Zc (ov Y) Y Y Zdq)<|Dq 3 Y (Zj (ov Y) Y Y Y tS4<|Zl Zgk)<|D1 4 Zd Y<|Dq 5 Y (.guarded (o2.Sound == true) Y Y Y Y fun h => Zd<|ov Y)<|Dq 6 Y (.guarded (o2.Sound == true) Y Y Y Y fun h => Zk (ow Y h) Y Y)<|Dq 7 Y (.guarded (o2.Sound == true) Y Y Y Y fun h => Zc (ow Y h) Y Y X9)<|Dq 8 Y (.guarded (o2.Sound == true) Y Y Y Y fun h => ZB (ow Y h) Y Y Y Z7 (Zr Zbo) arL (hns := (nsM fun _ => Y)))<|Dq 9 Y (.guarded (o2.Sound == true) Y Y Y Y fun h => Zc (ov Y) Y Y X9)<|Dq 10 Y (.guarded (o2.Sound == true) Y Y Y Y fun h => ZB (ow Y h) Y Y Y Z7 (Zr Zbo) arL (hns := (nsM fun _ => Y)))<|Dq 11 Y (.guarded (o2.Sound == true) Y Y Y Y fun h => Zn3 ZlK (ow Y h) (ow Y h) (.aggB<|arD fun _ => Y) (.aggB<|arD fun _ => Y) (fkV fun _ => Y) (fkV fun _ => Y)<|eqV fun _ _ => Y)<|Dq 12 Y (XU (ov Y) fun hp=>ow Y<|gT hp)<|Dd<|K6 0 6 9 10 11 30 Y<|If h Y (fun h=>?_) fun h=>?_
     ·
      refine K0<|Tr<|Ra Y<|Za<|?_
      replace h := lx h ▸ ho1
      obtain rfl := rt h
      exact Zu<|Zlv [some 0] Y (.cons (.tmp Y) .nil) (.cons Y (ro1 (by exact Eq.trans (b := 132) Zy tZ_49.symm)<|rld Jl) .nil) Y Y<|.dat Y
     ·
      refine Zm<|K5 0 6 9 10 11 Y<|Td md0<|D1 0 Zd Y<|Dq 4 Y (Zk (ov Y) Y Y)<|Dq 5 Y (Zc (ov Y) Y Y Zdq)<|ZaG 1 _ Y (by kernel_rfl) Y Y (fun hp'=>Zd<|ov Y)<|Dw 2 6 Y (Zc (ov Y) Y Y X9) (Ze (ov Y) (ov Y) (Zf tS4) Y Y Y (ZF Zgk Y) (Zb Y) ZkM) ?_ ?_
      ·
       refine Dw 3 6 Y (ZB (ov Y) Y Y Y Z7 (Zr Zbo) arL (hns := (nsM fun _ => Y))) (Ze (ov Y) (ov Y) (Zf tS4) Y Y Y (ZF Zgk Y) (Zb Y) ZkM) ?_ ?_
       ·
        refine Do 6 Y (Ze (ov Y) (ov Y) (Zf tS4) Y Y Y (ZF Zgk Y) (Zb Y) ZkM)<|Dq 7 Y (Zk (ov Y) Y Y)<|Dq 8 Y (Zc (ov Y) Y Y X9)<|Do 9 Y (Ze (ov Y) (ov Y) (Zo Z7 arL) Y Y Y (ZF Zbo arL) (Zb<|arC fun _ => Y) Zhs)<|Dd<|K5 0 6 9 10 11 Y<|Tr<|Rq Y (Zc (ov Y) Y Y Jd)<|Rq Y (ZB (ov Y) Y Y Y ZiJ (Zr Zai) arL (hns := (nsM fun _ => Y)))<|Rm Y<|Za<|Zn<|?_
        obtain ⟨r2, hl2, ho2⟩ := bnd h
        refine L2 (fun States i2=>⟨[(0, .ptr 0 1 0 0), (9, .sl 49 (List.map R49 l)), (10, .int .i64 (l.length : Int)), (11, .int .i64 i), (40, .agg (List.map C3 x.States.toList)), (41, .int .i64 i2)], [some ⟨49, [(.int .i64 o2.Number) :: ((List.map C26 x.Frame.toList) ++ (((List.map C3 States.toList) ++ ((.bool true) :: (.int .i64 o2.Copies) :: (.bool o2.Conflict) :: []))))]⟩]⟩) hl2 (ES [some 0]) fun n2 States i2 h=>?_
        unfold Qt at h
        refine Tr<|R2 Z4 Y<|Za<|Zs<|If h Y (fun h=>?_) fun h=>?_
        ·
         exact Zm<|Zs<|Zn<|K6 0 9 10 11 40 41 Y<|Tr<|Rm Y<|bE h fun x2 h_x2 h=>Rq Y (ZaL (ov Y) (ov Y) Zde tS3 h_x2)<|Ra Y<|Ra Y<|Za<|K8 0 7 8 9 10 11 40 41 Y<|Zac (cw := md0) (by kernel_rfl)<|D1 0 Zd Y<|D1 1 Zd Y<|D1 2 Zd Y<|D1 3 Zd Y<|Dq 4 Y (Zk (ov Y) Y Y)<|Dq 5 Y (Zc (ov Y) Y Y Jd)<|bE h fun x3 h_x3 h=>Dq 6 Y (Z5 (ov Y) (ov Y) Zde Y Y h_x3)<|Dq 7 Y (Zj (ov Y) Y Y Y tS3<|Zl<|Z8 (o := 65) (o' := (i2.toNat * 1)) Zai<|Z0 h_x3)<|D1 8 Zd Y<|Dq 9 Y (Zjm (ov Y) (ov Y) Y)<|Dq 10 Y (Zk (ov Y) Y Y)<|Dq 11 Y (Zc (ov Y) Y Y Jd)<|bE h fun x4 h_x4 h=>Dq 12 Y (Z5 (ov Y) (ov Y) Zde Y Y h_x4)<|Do 13 Y (Ze (ov Y) (ov Y) (Zf tS3) Y Y Y (ZF (Z8 (o := 65) (o' := (i2.toNat * 1)) Zai<|Z0 h_x4) Y) (Zb Y)<|JE (o := 65) (o' := (i2.toNat * 1)) Zai (Z0 h_x4) Y (ZaY h_x4 (x := (max x3 x2))) Zgj)<|Dd<|K6 0 9 10 11 40 41 Y<|ZC<|R2 Z2 Y<|Rm Y<|Za<|⟨_, h, ES [some 0]⟩
        ·
         refine ZT<|?_
         replace h := lx h ▸ ho2
         exact ⟨_, h, ES [some 0]⟩
       ·
        refine Dq 3 Y (ZB (ov Y) Y Y Y Z7 (Zr Zbo) arL (hns := (nsM fun _ => Y)))<|Dq 7 Y (Zk (ov Y) Y Y)<|Dq 8 Y (Zc (ov Y) Y Y X9)<|Do 9 Y (Ze (ov Y) (ov Y) (Zo Z7 arL) Y Y Y (ZF Zbo arL) (Zb<|arC fun _ => Y) Zhs)<|Dd<|K5 0 6 9 10 11 Y<|Tr<|Rq Y (Zc (ov Y) Y Y Jd)<|Rq Y (ZB (ov Y) Y Y Y ZiJ (Zr Zai) arL (hns := (nsM fun _ => Y)))<|Rm Y<|Za<|Zn<|?_
        obtain ⟨r2, hl2, ho2⟩ := bnd h
        refine L2 (fun States i2=>⟨[(0, .ptr 0 1 0 0), (9, .sl 49 (List.map R49 l)), (10, .int .i64 (l.length : Int)), (11, .int .i64 i), (40, .agg (List.map C3 x.States.toList)), (41, .int .i64 i2)], [some ⟨49, [(.int .i64 o2.Number) :: ((List.map C26 x.Frame.toList) ++ (((List.map C3 States.toList) ++ ((.bool true) :: (.int .i64 o2.Copies) :: (.bool o2.Conflict) :: []))))]⟩]⟩) hl2 (ES [some 0]) fun n2 States i2 h=>?_
        unfold Qt at h
        refine Tr<|R2 Z4 Y<|Za<|Zs<|If h Y (fun h=>?_) fun h=>?_
        ·
         exact Zm<|Zs<|Zn<|K6 0 9 10 11 40 41 Y<|Tr<|Rm Y<|bE h fun x2 h_x2 h=>Rq Y (ZaL (ov Y) (ov Y) Zde tS3 h_x2)<|Ra Y<|Ra Y<|Za<|K8 0 7 8 9 10 11 40 41 Y<|Zac (cw := md0) (by kernel_rfl)<|D1 0 Zd Y<|D1 1 Zd Y<|D1 2 Zd Y<|D1 3 Zd Y<|Dq 4 Y (Zk (ov Y) Y Y)<|Dq 5 Y (Zc (ov Y) Y Y Jd)<|bE h fun x3 h_x3 h=>Dq 6 Y (Z5 (ov Y) (ov Y) Zde Y Y h_x3)<|Dq 7 Y (Zj (ov Y) Y Y Y tS3<|Zl<|Z8 (o := 65) (o' := (i2.toNat * 1)) Zai<|Z0 h_x3)<|D1 8 Zd Y<|Dq 9 Y (Zjm (ov Y) (ov Y) Y)<|Dq 10 Y (Zk (ov Y) Y Y)<|Dq 11 Y (Zc (ov Y) Y Y Jd)<|bE h fun x4 h_x4 h=>Dq 12 Y (Z5 (ov Y) (ov Y) Zde Y Y h_x4)<|Do 13 Y (Ze (ov Y) (ov Y) (Zf tS3) Y Y Y (ZF (Z8 (o := 65) (o' := (i2.toNat * 1)) Zai<|Z0 h_x4) Y) (Zb Y)<|JE (o := 65) (o' := (i2.toNat * 1)) Zai (Z0 h_x4) Y (ZaY h_x4 (x := (max x3 x2))) Zgj)<|Dd<|K6 0 9 10 11 40 41 Y<|ZC<|R2 Z2 Y<|Rm Y<|Za<|⟨_, h, ES [some 0]⟩
        ·
         refine ZT<|?_
         replace h := lx h ▸ ho2
         exact ⟨_, h, ES [some 0]⟩
      ·
       refine Dq 2 Y (Zc (ov Y) Y Y X9)<|Dq 3 Y (ZB (ov Y) Y Y Y Z7 (Zr Zbo) arL (hns := (nsM fun _ => Y)))<|Dq 7 Y (Zk (ov Y) Y Y)<|Dq 8 Y (Zc (ov Y) Y Y X9)<|Do 9 Y (Ze (ov Y) (ov Y) (Zo Z7 arL) Y Y Y (ZF Zbo arL) (Zb<|arC fun _ => Y) Zhs)<|Dd<|K5 0 6 9 10 11 Y<|Tr<|Rq Y (Zc (ov Y) Y Y Jd)<|Rq Y (ZB (ov Y) Y Y Y ZiJ (Zr Zai) arL (hns := (nsM fun _ => Y)))<|Rm Y<|Za<|Zn<|?_
       obtain ⟨r2, hl2, ho2⟩ := bnd h
       refine L2 (fun States i2=>⟨[(0, .ptr 0 1 0 0), (9, .sl 49 (List.map R49 l)), (10, .int .i64 (l.length : Int)), (11, .int .i64 i), (40, .agg (List.map C3 x.States.toList)), (41, .int .i64 i2)], [some ⟨49, [(.int .i64 o2.Number) :: ((List.map C26 x.Frame.toList) ++ (((List.map C3 States.toList) ++ ((.bool true) :: (.int .i64 o2.Copies) :: (.bool o2.Conflict) :: []))))]⟩]⟩) hl2 (ES [some 0]) fun n2 States i2 h=>?_
       unfold Qt at h
       refine Tr<|R2 Z4 Y<|Za<|Zs<|If h Y (fun h=>?_) fun h=>?_
       ·
        exact Zm<|Zs<|Zn<|K6 0 9 10 11 40 41 Y<|Tr<|Rm Y<|bE h fun x2 h_x2 h=>Rq Y (ZaL (ov Y) (ov Y) Zde tS3 h_x2)<|Ra Y<|Ra Y<|Za<|K8 0 7 8 9 10 11 40 41 Y<|Zac (cw := md0) (by kernel_rfl)<|D1 0 Zd Y<|D1 1 Zd Y<|D1 2 Zd Y<|D1 3 Zd Y<|Dq 4 Y (Zk (ov Y) Y Y)<|Dq 5 Y (Zc (ov Y) Y Y Jd)<|bE h fun x3 h_x3 h=>Dq 6 Y (Z5 (ov Y) (ov Y) Zde Y Y h_x3)<|Dq 7 Y (Zj (ov Y) Y Y Y tS3<|Zl<|Z8 (o := 65) (o' := (i2.toNat * 1)) Zai<|Z0 h_x3)<|D1 8 Zd Y<|Dq 9 Y (Zjm (ov Y) (ov Y) Y)<|Dq 10 Y (Zk (ov Y) Y Y)<|Dq 11 Y (Zc (ov Y) Y Y Jd)<|bE h fun x4 h_x4 h=>Dq 12 Y (Z5 (ov Y) (ov Y) Zde Y Y h_x4)<|Do 13 Y (Ze (ov Y) (ov Y) (Zf tS3) Y Y Y (ZF (Z8 (o := 65) (o' := (i2.toNat * 1)) Zai<|Z0 h_x4) Y) (Zb Y)<|JE (o := 65) (o' := (i2.toNat * 1)) Zai (Z0 h_x4) Y (ZaY h_x4 (x := (max x3 x2))) Zgj)<|Dd<|K6 0 9 10 11 40 41 Y<|ZC<|R2 Z2 Y<|Rm Y<|Za<|⟨_, h, ES [some 0]⟩
       ·
        refine ZT<|?_
        replace h := lx h ▸ ho2
        exact ⟨_, h, ES [some 0]⟩
   ·
    replace h := elr h
    replace h := t1i h
    exact ZC<|R2 Z2 Y<|Rm Y<|Za<|⟨_, h, ES [some 0]⟩
  ·
   refine ZT<|?_
   replace h := lx h ▸ ho1
   exact ⟨_, h, ES [some 0]⟩
 ·
  replace h := elr h
  replace h := t1i h
  refine Tr<|Ra Y<|Za<|?_
  obtain rfl := rt h
  exact Zu<|Zlv [some 0] Y (.cons (.tmp Y) .nil) (.cons Y (ro1 (by exact Eq.trans (b := 132) Zy tZ_49.symm)<|rld Jl) .nil) Y Y<|.dat Y
theorem ZdK {out : api_Rest} {l : List api_Rest} {r : api_Rest} (h : Zas out l = some r) :
 GSpec Tryz.prog gl0 67 [.ptr 0 1 0 0, .sl 49 (List.map R49 l)] [some ⟨49, [(.int .i64 out.Number) :: ((List.map C26 out.Frame.toList) ++ (((List.map C3 out.States.toList) ++ ((.bool out.Sound) :: (.int .i64 out.Copies) :: (.bool out.Conflict) :: []))))]⟩] (.tuple []) [some ⟨49, [(.int .i64 r.Number) :: ((List.map C26 r.Frame.toList) ++ (((List.map C3 r.States.toList) ++ ((.bool r.Sound) :: (.int .i64 r.Copies) :: (.bool r.Conflict) :: []))))]⟩] := by
 unfold Zas at h
 replace h := Qf h
 refine ZdL (by kernel_rfl) Tryz.func67 Y Y<|?_
 intro w0 A W φ0
 refine Tr<|Rm Y<|Za<|Zn<|?_
 obtain ⟨r1, hl1, ho1⟩ := Xq h
 refine L2 (fun o i=>⟨[(0, .ptr 0 1 0 0), (1, .sl 49 (List.map R49 l)), (8, .int .i64 i)], [some ⟨49, [(.int .i64 o.Number) :: ((List.map C26 o.Frame.toList) ++ (((List.map C3 o.States.toList) ++ ((.bool o.Sound) :: (.int .i64 o.Copies) :: (.bool o.Conflict) :: []))))]⟩]⟩) hl1 (ES [some 0]) fun n1 o i h=>?_
 unfold XD at h
 refine Tr<|R2 Z4 Y<|Za<|Zs<|If h Y (fun h=>?_) fun h=>?_
 ·
  refine Zm<|I1 (fun o2=>⟨[(0, .ptr 0 1 0 0), (1, .sl 49 (List.map R49 l)), (8, .int .i64 i)], [some ⟨49, [(.int .i64 o2.Number) :: ((List.map C26 o2.Frame.toList) ++ (((List.map C3 o2.States.toList) ++ ((.bool o2.Sound) :: (.int .i64 o2.Copies) :: (.bool o2.Conflict) :: []))))]⟩]⟩) h (fun h=>?_) fun o2 h=>?_
  ·
   refine Zn<|K3 0 1 8 Y<|Tr<|Rm Y<|Ra Y<|Za<|K4 0 1 4 8 Y<|Tr<|Ra Y<|Za<|I2 (fun o3 differ=>⟨[(0, .ptr 0 1 0 0), (1, .sl 49 (List.map R49 l)), (4, .int .i64 i), (5, .bool differ), (8, .int .i64 i)], [some ⟨49, [(.int .i64 o3.Number) :: ((List.map C26 o3.Frame.toList) ++ (((List.map C3 o3.States.toList) ++ ((.bool o3.Sound) :: (.int .i64 o3.Copies) :: (.bool o3.Conflict) :: []))))]⟩]⟩) h (fun h=>?_) fun o3 differ h=>?_
   ·
    refine Tr<|Rm Y<|Rl tZ_49 Xo Y<|Rm Y<|Za<|Zn<|?_
    obtain ⟨r2, hl2, ho2⟩ := Xq h
    refine L3 (fun o4 differ2 i2=>⟨[(0, .ptr 0 1 0 0), (1, .sl 49 (List.map R49 l)), (4, .int .i64 i), (5, .bool differ2), (8, .int .i64 i), (11, .sl 49 (List.map R49 l)), (12, .int .i64 (l.length : Int)), (13, .int .i64 i2)], [some ⟨49, [(.int .i64 o4.Number) :: ((List.map C26 o4.Frame.toList) ++ (((List.map C3 o4.States.toList) ++ ((.bool o4.Sound) :: (.int .i64 o4.Copies) :: (.bool o4.Conflict) :: []))))]⟩]⟩) hl2 (ES [some 0]) fun n2 o4 differ2 i2 h=>?_
    unfold Q8 at h
    refine Tr<|R2 Z4 Y<|Za<|Zs<|If h Y (fun h=>?_) fun h=>?_
    ·
     refine Zm<|Zs<|Zn<|K8 0 1 4 5 8 11 12 13 Y<|Tr<|bE h fun x h_x h=>Rq Y (ZX (ov Y) (ov Y) Xo h_x)<|Rq Y (ZD (ov Y) Xk (Zr<|Zg Zy) Zy)<|Rx Y (ZP (row := (.int .i64 0) :: ((List.map C26 (Vector.replicate 64 0).toList) ++ (((List.map C3 (Vector.replicate 64 0).toList) ++ ((.bool false) :: (.int .i64 0) :: (.bool false) :: []))))) 1 Y ZdJ (by kernel_rfl)<|by exact Eq.symm (Eq.trans (b := 132) Zy tZ_49.symm))<|Rx Y (Ze (ov Y) (ov Y) (Zo Xk Zy) Y Y Y (ZF (Zg Zy) Zy) (Zb Zc3)<|ZK<|Eq.trans Zy<|Eq.symm Zy)<|Za<|Zs<|K9 0 1 4 5 7 8 11 12 13 Y<|Tr<|Rm Y<|Rq Y (Zc (ov Y) Y Y Jd)<|bE h fun x2 h_x2 h=>Rq Y (Z5 (ov Y) (ov Y) Zde Y Y h_x2)<|Rq Y (Zj (ov Y) Y Y Y tS3<|Zl<|Z8 (o := 65) (o' := (i.toNat * 1)) Zai<|Z0 h_x2)<|R2 QC Y<|Za<|K10 0 1 4 5 7 8 11 12 13 21 Y<|If h Y (fun h=>?_) fun h=>?_
     ·
      exact ZT<|K8 0 1 4 5 8 11 12 13 Y<|ZC<|R2 Z2 Y<|Rm Y<|Za<|⟨_, h, ES [some 0]⟩
     ·
      exact Zm<|K9 0 1 4 5 7 8 11 12 13 Y<|Td md0<|D1 0 Zd Y<|D1 1 Zd Y<|Dq 2 Y (.guarded (differ2 == false) Y Y Y Y fun h => Zd<|ov Y)<|Dq 3 Y (.guarded (differ2 == false) Y Y Y Y fun h => Zd<|ov Y)<|Dq 4 Y (.guarded (differ2 == false) Y Y Y Y fun h => Zk (ow Y h) Y Y)<|Dq 5 Y (.guarded (differ2 == false) Y Y Y Y fun h => Zc (ow Y h) Y Y Jd)<|bE h fun x3 h_x3 h=>Dq 6 Y (.guarded (differ2 == false) Y Y Y Y fun h => Z5 (ow Y h) (ow Y h) Zde Y Y<|gdT h_x3 h)<|Dq 7 Y (.guarded (differ2 == false) Y Y Y Y fun h => Zj (ow Y h) Y Y Y tS3<|Zl<|Z8 (o := 65) (o' := (i.toNat * 1)) Zai<|Z0<|gdT h_x3 h)<|Dq 8 Y (.guarded (differ2 == false) Y Y Y Y fun h => XY (ow Y h)<|ov Y)<|Dq 9 Y (.guarded (differ2 == false) Y Y Y Y fun h => Zd<|ow Y h)<|Dq 10 Y (.guarded2 ((differ2 == false) && ((!decide (x3 = 0)) == true)) Y Y Y Y fun h => Zd<|ov Y)<|Dq 11 Y (.guarded2 ((differ2 == false) && ((!decide (x3 = 0)) == true)) Y Y Y Y fun h => Zd<|ov Y)<|Dq 12 Y (.guarded2 ((differ2 == false) && ((!decide (x3 = 0)) == true)) Y Y Y Y fun h => Zk (ow Y h) Y Y)<|Dq 13 Y (.guarded2 ((differ2 == false) && ((!decide (x3 = 0)) == true)) Y Y Y Y fun h => Zc (ow Y h) Y Y X9)<|bE h fun x4 h_x4 h=>Dq 14 Y (.guarded2 ((differ2 == false) && ((!decide (x3 = 0)) == true)) Y Y Y Y fun h => Z5 (ow Y h) (ow Y h) QI Y Y<|gdT h_x4 h)<|Dq 15 Y (.guarded2 ((differ2 == false) && ((!decide (x3 = 0)) == true)) Y Y Y Y fun h => Zj (ow Y h) Y Y Y QO<|Zl<|Z8 (o := 1) (o' := (i.toNat * 1)) Zbo<|Z0<|gdT h_x4 h)<|Dq 16 Y (.guarded2 ((differ2 == false) && ((!decide (x3 = 0)) == true)) Y Y Y Y fun h => Zd<|ov Y)<|Dq 17 Y (.guarded2 ((differ2 == false) && ((!decide (x3 = 0)) == true)) Y Y Y Y fun h => Zc (ov Y) Y Y X9)<|bE h fun x5 h_x5 h=>Dq 18 Y (.guarded2 ((differ2 == false) && ((!decide (x3 = 0)) == true)) Y Y Y Y fun h => Z5 (ow Y h) (ow Y h) QI Y Y<|gdT h_x5 h)<|Dq 19 Y (.guarded2 ((differ2 == false) && ((!decide (x3 = 0)) == true)) Y Y Y Y fun h => Zj (ow Y h) Y Y Y QO<|Zl<|Z8 (o := 1) (o' := (i.toNat * 1)) Zbo<|Z0<|gdT h_x5 h)<|Dq 20 Y (.guarded2 ((differ2 == false) && ((!decide (x3 = 0)) == true)) Y Y Y Y fun h => XY (ow Y h)<|ow Y h)<|Dq 21 Y (.guarded (differ2 == false) Y Y Y Y fun h => XU (ow Y h) fun hp=>ow Y<|gA h<|gT hp)<|Dq 22 Y (JH (ov Y) fun hp=>ow Y<|gF hp)<|D1 23 QE Y<|Dd<|K9 0 1 4 5 7 8 11 12 13 Y<|Zac (cw := ⟨false, true, [some ⟨49, [(.int .i64 o4.Number) :: ((List.map C26 o4.Frame.toList) ++ (((List.map C3 o4.States.toList) ++ ((.bool o4.Sound) :: (.int .i64 o4.Copies) :: (.bool o4.Conflict) :: []))))]⟩, some ⟨49, [(.int .i64 x.Number) :: ((List.map C26 x.Frame.toList) ++ (((List.map C3 x.States.toList) ++ ((.bool x.Sound) :: (.int .i64 x.Copies) :: (.bool x.Conflict) :: []))))]⟩], [], [0]⟩) (by kernel_rfl)<|D1 0 Zd Y<|D1 1 Zd Y<|Dq 8 Y (Zk (ov Y) Y Y)<|Dq 9 Y (Zc (ov Y) Y Y Jd)<|bE h fun x6 h_x6 h=>Dq 10 Y (Z5 (ov Y) (ov Y) Zde Y Y h_x6)<|ZaG 2 _ Y (by kernel_rfl) Y Y (fun hp'=>Zd<|ov Y)<|ZaG 3 _ Y (by kernel_rfl) Y Y (fun hp'=>Zd<|ov Y)<|ZaG 4 _ Y (by kernel_rfl) Y Y (fun hp'=>Zd<|ov Y)<|ZgI 5 _ Y (by kernel_rfl) Y Y Y (EL.ext<|.wr Y Y Y<|.keep .nil) (fun hp' hx=>Zc (ov Y) (hx.get Y Y) Y X9)<|bE h fun x7 h_x7 h=>ZgI 6 _ Y (by kernel_rfl) Y Y Y (EL.ext<|.wr Y Y Y<|.keep .nil) (fun hp' hx=>Z5 (ov Y) (ov Y) QI (hx.get Y Y) Y h_x7)<|ZgI 7 _ Y (by kernel_rfl) Y Y Y (EL.ext<|.wr Y Y Y<|.keep .nil) (fun hp' hx=>Zj (ov Y) (hx.get Y Y) Y Y QO<|Zl<|Z8 (o := 1) (o' := (i.toNat * 1)) Zbo<|Z0 h_x7)<|ZgI 12 _ Y (by kernel_rfl) Y Y Y (EL.ext<|.wr Y Y Y<|.keep .nil) (fun hp' hx=>exW (r := 0) hx Y fun _ ho hn => Zk (ov Y) ho hn)<|ZgI 13 _ Y (by kernel_rfl) Y Y Y (EL.ext<|.wr Y Y Y<|.keep .nil) (fun hp' hx=>exW (r := 0) hx Y fun _ ho hn => Zc (ov Y) ho hn X9)<|ZlS 11 _ _ Y (by kernel_rfl) Y Y (fun h=>by cases h) (fun _=>by exact EL.ext (.wr rfl rfl rfl <| .keep <| .nil)) (Ze (ov Y) (ov Y) (Zf tS3) Y Y Y (ZF (Z8 (o := 65) (o' := (i.toNat * 1)) Zai<|Z0 h_x6) Y) (Zb Y)<|JE (o := 65) (o' := (i.toNat * 1)) Zai (Z0 h_x6) Y (ZaY h_x6 (x := 1)) Zgj)<|bE h fun x8 h_x8 h=>Dq 14 Y (Z5 (ov Y) (ov Y) QI Y Y h_x8)<|ZlS 15 _ _ Y (by kernel_rfl) Y Y (fun h=>by cases h) (fun _=>by exact EL.ext (.wr rfl rfl rfl <| .keep <| .nil)) (Ze (ov Y) (ov Y) (Zf QO) Y Y Y (ZF (Z8 (o := 1) (o' := (i.toNat * 1)) Zbo<|Z0 h_x8) Y) (Zb Y)<|JE (o := 1) (o' := (i.toNat * 1)) Zbo (Z0 h_x8) Y (ZaY h_x8 (x := x7)) Zhs)<|Dd<|K8 0 1 4 5 8 11 12 13 Y<|ZC<|R2 Z2 Y<|Rm Y<|Za<|⟨_, h, ES [some 0]⟩
    ·
     refine ZT<|?_
     replace h := lx h ▸ ho2
     exact ⟨_, h, ES [some 0]⟩
   ·
    refine Tr<|Rm Y<|Za<|K5 0 1 4 8 60 Y<|If h Y (fun h=>?_) fun h=>?_
    ·
     refine K4 0 1 4 8 Y<|Zac (cw := md0) (by kernel_rfl)<|D1 0 Zd Y<|D1 1 Zd Y<|Dq 4 Y (Zk (ov Y) Y Y)<|Dq 5 Y (Zc (ov Y) Y Y Jd)<|bE h fun x9 h_x9 h=>Dq 6 Y (Z5 (ov Y) (ov Y) Zde Y Y h_x9)<|ZaG 2 _ Y (by kernel_rfl) Y Y (fun hp'=>Zd<|ov Y)<|ZaG 3 _ Y (by kernel_rfl) Y Y (fun hp'=>Zd<|ov Y)<|Dw 8 7 Y (Zk (ov Y) Y Y) (Ze (ov Y) (ov Y) (Zf tS3) Y Y Y (ZF (Z8 (o := 65) (o' := (i.toNat * 1)) Zai<|Z0 h_x9) Y) (Zb Y)<|JE (o := 65) (o' := (i.toNat * 1)) Zai (Z0 h_x9) Y (ZaY h_x9 (x := 0)) Zgj) ?_ ?_
     ·
      refine Dw 9 7 Y (Zc (ov Y) Y Y X9) (Ze (ov Y) (ov Y) (Zf tS3) Y Y Y (ZF (Z8 (o := 65) (o' := (i.toNat * 1)) Zai<|Z0 h_x9) Y) (Zb Y)<|JE (o := 65) (o' := (i.toNat * 1)) Zai (Z0 h_x9) Y (ZaY h_x9 (x := 0)) Zgj) ?_ ?_
      ·
       exact Do 7 Y (Ze (ov Y) (ov Y) (Zf tS3) Y Y Y (ZF (Z8 (o := 65) (o' := (i.toNat * 1)) Zai<|Z0 h_x9) Y) (Zb Y)<|JE (o := 65) (o' := (i.toNat * 1)) Zai (Z0 h_x9) Y (ZaY h_x9 (x := 0)) Zgj)<|bE h fun x10 h_x10 h=>Dq 10 Y (Z5 (ov Y) (ov Y) QI Y Y h_x10)<|Do 11 Y (Ze (ov Y) (ov Y) (Zf QO) Y Y Y (ZF (Z8 (o := 1) (o' := (i.toNat * 1)) Zbo<|Z0 h_x10) Y) (Zb Y)<|JE (o := 1) (o' := (i.toNat * 1)) Zbo (Z0 h_x10) Y (ZaY h_x10 (x := 0)) Zhs)<|Dd<|⟨_, h, ES [some 0]⟩
      ·
       exact Dq 9 Y (Zc (ov Y) Y Y X9)<|bE h fun x10 h_x10 h=>Dq 10 Y (Z5 (ov Y) (ov Y) QI Y Y h_x10)<|Do 11 Y (Ze (ov Y) (ov Y) (Zf QO) Y Y Y (ZF (Z8 (o := 1) (o' := (i.toNat * 1)) Zbo<|Z0 h_x10) Y) (Zb Y)<|JE (o := 1) (o' := (i.toNat * 1)) Zbo (Z0 h_x10) Y (ZaY h_x10 (x := 0)) Zhs)<|Dd<|⟨_, h, ES [some 0]⟩
     ·
      exact Dq 8 Y (Zk (ov Y) Y Y)<|Dq 9 Y (Zc (ov Y) Y Y X9)<|bE h fun x10 h_x10 h=>Dq 10 Y (Z5 (ov Y) (ov Y) QI Y Y h_x10)<|Do 11 Y (Ze (ov Y) (ov Y) (Zf QO) Y Y Y (ZF (Z8 (o := 1) (o' := (i.toNat * 1)) Zbo<|Z0 h_x10) Y) (Zb Y)<|JE (o := 1) (o' := (i.toNat * 1)) Zbo (Z0 h_x10) Y (ZaY h_x10 (x := 0)) Zhs)<|Dd<|⟨_, h, ES [some 0]⟩
    ·
     exact Zm<|⟨_, h, ES [some 0]⟩
  ·
   exact ZC<|R2 Z2 Y<|Rm Y<|Za<|⟨_, h, ES [some 0]⟩
 ·
  refine ZT<|?_
  replace h := lx h ▸ ho1
  obtain rfl := rt h
  exact Zkd [some 0] Y .nil (.cons Y (ro1 (by exact Eq.trans (b := 132) Zy tZ_49.symm)<|rld Jl) .nil) Y Y<|ZgF rln
end Go.Proofs.YteljlmpmdplgmaaGreatDoor
