/- A text of the proof: a verified executor of the program form, or the contracts of the functions that the law reaches. -/
import Derived.Test.YteljlmpmdplgmaaGreatDoorOkNd
set_option linter.all false
namespace Go.Proofs.YteljlmpmdplgmaaGreatDoor
open Go Go.Vx
set_option maxRecDepth 10000
set_option maxHeartbeats 1000000
set_option linter.unusedVariables false
theorem Zeu {a : Int} {b : Int} {r : Int} (h : Qu a b = some r) :
 CSpec Tryz.prog gl0 49 [.int .i64 a, .int .i64 b] (.int .i64 r) := by
 unfold Qu at h
 replace h := Qf h
 refine So Tryz.func49 Y fun w0 A=>Tr<|Ra Y<|Za<|Zs<|K2 0 1 Y<|Tr<|Rm Y<|Rm Y<|R2 Z4 Y<|Za<|K3 0 1 7 Y<|If h Y (fun h=>?_) fun h=>?_
 ·
  refine K2 0 1 Y<|Tr<|Rm Y<|Rm Y<|R2 ZdT Y<|Ra Y<|Za<|?_
  obtain rfl := rt h
  exact Zu (ZL Y (.one<|rb Y))
 ·
  refine Zm<|K2 0 1 Y<|Tr<|Rm Y<|Rm Y<|R2 ZdT Y<|Ra Y<|Za<|?_
  obtain rfl := rt h
  exact Zu (ZL Y (.one<|rb Y))
theorem Zgn {l : List api_Found} {r : (List api_Found)} (h : J9 l = some r) :
 CSpec Tryz.prog gl0 29 [.sl 51 (List.map R51 l)] (.sl 51 (List.map R51 r)) := by
 unfold J9 at h
 replace h := Qf h
 refine So Tryz.func29 Y fun w0 A=>Tr<|Ra Y<|Za<|K1 0 Y<|Tr<|Ra Y<|Za<|I1 (fun out=>⟨[(3, .own 0 out.length)], [some ⟨51, List.map R51 out⟩]⟩) h (fun h=>?_) fun out h=>?_
 ·
  refine Tr<|Rm Y<|Rl tZ_51 Je Y<|Rm Y<|Za<|Zn<|?_
  obtain ⟨r1, hl1, ho1⟩ := Xq h
  refine L2 (fun out2 i=>⟨[(0, .sl 51 (List.map R51 l)), (3, .own 0 out2.length), (7, .sl 51 (List.map R51 l)), (8, .int .i64 (l.length : Int)), (9, .int .i64 i)], [some ⟨51, List.map R51 out2⟩]⟩) hl1 (ES [none]) fun n1 out2 i h=>?_
  unfold XO at h
  refine Tr<|R2 Z4 Y<|Za<|Zs<|If h Y (fun h=>?_) fun h=>?_
  ·
   refine Zm<|Zs<|Zn<|K5 0 3 7 8 9 Y<|Tr<|Rm Y<|bE h fun x h_x h=>Rq Y (ZX (ov Y) (ov Y) Je h_x)<|Rq Y (ZD (ov Y) Zek (Zr<|Zg ln4) ln4)<|Rx Y (ZP (row := (.int .i64 0) :: ((List.map C26 (Vector.replicate 64 0).toList) ++ ([]))) 1 Y ZjB (by kernel_rfl)<|by exact Eq.symm (Eq.trans (b := 65) ln4 tZ_51.symm))<|Ra Y<|Rx Y (Ze (ov Y) (ov Y) (Zo Zek ln4) Y Y Y (ZF (Zg ln4) ln4) (Zb al6)<|ZK<|Eq.trans ln4<|Eq.symm ln4)<|Za<|K7 0 3 4 5 7 8 9 Y<|Td md0<|D1 0 Zd Y<|D2 1 QC Y<|D1 2 Zd Y<|Dq 3 Y (.guarded ((decide (i = 0)) == false) Y Y Y Y fun h => Zd<|ov Y)<|Dq 4 Y (.guarded ((decide (i = 0)) == false) Y Y Y Y fun h => Zd<|ov Y)<|Dq 5 Y (.guarded ((decide (i = 0)) == false) Y Y Y Y fun h => Zdv (ow Y h) (ov Y) Y)<|bE h fun x2 h_x2 h=>Dq 6 Y (.guarded ((decide (i = 0)) == false) Y Y Y Y fun h => ZX (ow Y h) (ow Y h) Je<|gdT h_x2 h)<|Dq 7 Y (.guarded ((decide (i = 0)) == false) Y Y Y Y fun h => ZI (ow Y h) QL)<|Dq 8 Y (.guarded ((decide (i = 0)) == false) Y Y Y Y fun h => Zh (ow Y h) tS3<|Zl QK)<|Dq 9 Y (.guarded ((decide (i = 0)) == false) Y Y Y Y fun h => Zc (ov Y) Y Y QL)<|Dq 10 Y (.guarded ((decide (i = 0)) == false) Y Y Y Y fun h => Zj (ow Y h) Y Y Y tS3<|Zl QK)<|bE h fun y h_y h=>Dq 11 Y (.guarded ((decide (i = 0)) == false) Y Y Y Y fun h => Zq (Zeu<|gdT h_y h)<|.cons (ow Y h) (.b Y)<|.cons (ow Y h) (.b Y) .nil)<|Dq 12 Y (.guarded ((decide (i = 0)) == false) Y Y Y Y fun h => ZbR (ow Y h)<|ov Y)<|Dq 13 Y (JH (ov Y) fun hp=>ow Y<|gF hp)<|D1 14 Zd Y<|Dq 15 Y (.guarded (((decide (i = 0)) || (decide (192 ≤ y))) == true) Y Y Y Y fun h => Zd<|ov Y)<|Dq 16 Y (.guarded (((decide (i = 0)) || (decide (192 ≤ y))) == true) Y Y Y Y fun h => ZhD (ow Y h) (ov Y) Y)<|Dq 17 Y (.guarded (((decide (i = 0)) || (decide (192 ≤ y))) == true) Y Y Y Y fun h => Zd<|ov Y)<|Dq 18 Y (.guarded (((decide (i = 0)) || (decide (192 ≤ y))) == true) Y Y Y Y fun h => Zcj (ZE (ow Y h) tZ_51) Je<|Jo _ _)<|Dq 19 Y (.guarded (((decide (i = 0)) || (decide (192 ≤ y))) == true) Y Y Y Y fun h => QC (ow Y h)<|ow Y h)<|Dq 20 Y (.guarded (((decide (i = 0)) || (decide (192 ≤ y))) == true) Y Y Y Y fun h => Zd<|ow Y h)<|Dq 21 Y (.guarded2 ((((decide (i = 0)) || (decide (192 ≤ y))) == true) && ((decide ((i64 (i + 1)) = (l.length : Int))) == false)) Y Y Y Y fun h => Zd<|ov Y)<|Dq 22 Y (.guarded2 ((((decide (i = 0)) || (decide (192 ≤ y))) == true) && ((decide ((i64 (i + 1)) = (l.length : Int))) == false)) Y Y Y Y fun h => Zd<|ov Y)<|Dq 23 Y (.guarded2 ((((decide (i = 0)) || (decide (192 ≤ y))) == true) && ((decide ((i64 (i + 1)) = (l.length : Int))) == false)) Y Y Y Y fun h => ZhD (ow Y h) (ov Y) Y)<|bE h fun x3 h_x3 h=>Dq 24 Y (.guarded2 ((((decide (i = 0)) || (decide (192 ≤ y))) == true) && ((decide ((i64 (i + 1)) = (l.length : Int))) == false)) Y Y Y Y fun h => ZX (ow Y h) (ow Y h) Je<|gdT h_x3 h)<|Dq 25 Y (.guarded2 ((((decide (i = 0)) || (decide (192 ≤ y))) == true) && ((decide ((i64 (i + 1)) = (l.length : Int))) == false)) Y Y Y Y fun h => ZI (ow Y h) QL)<|Dq 26 Y (.guarded2 ((((decide (i = 0)) || (decide (192 ≤ y))) == true) && ((decide ((i64 (i + 1)) = (l.length : Int))) == false)) Y Y Y Y fun h => Zh (ow Y h) tS3<|Zl QK)<|Dq 27 Y (.guarded2 ((((decide (i = 0)) || (decide (192 ≤ y))) == true) && ((decide ((i64 (i + 1)) = (l.length : Int))) == false)) Y Y Y Y fun h => Zc (ov Y) Y Y QL)<|Dq 28 Y (.guarded2 ((((decide (i = 0)) || (decide (192 ≤ y))) == true) && ((decide ((i64 (i + 1)) = (l.length : Int))) == false)) Y Y Y Y fun h => Zj (ow Y h) Y Y Y tS3<|Zl QK)<|bE h fun y2 h_y2 h=>Dq 29 Y (.guarded2 ((((decide (i = 0)) || (decide (192 ≤ y))) == true) && ((decide ((i64 (i + 1)) = (l.length : Int))) == false)) Y Y Y Y fun h => Zq (Zeu<|gdT h_y2 h)<|.cons (ow Y h) (.b Y)<|.cons (ow Y h) (.b Y) .nil)<|Dq 30 Y (.guarded2 ((((decide (i = 0)) || (decide (192 ≤ y))) == true) && ((decide ((i64 (i + 1)) = (l.length : Int))) == false)) Y Y Y Y fun h => ZbR (ow Y h)<|ov Y)<|Dq 31 Y (.guarded (((decide (i = 0)) || (decide (192 ≤ y))) == true) Y Y Y Y fun h => JH (ow Y h) fun hp=>ow Y<|gA h<|gF hp)<|Dq 32 Y (XU (ov Y) fun hp=>ow Y<|gT hp)<|D1 33 QE Y<|Dd<|K7 0 3 5 6 7 8 9 Y<|Tr<|Rm Y<|Za<|K7 0 3 5 7 8 9 47 Y<|If h Y (fun h=>?_) fun h=>?_
   ·
    exact K6 0 3 5 7 8 9 Y<|ZC<|Rm Y<|Rq Y (ZB (ov Y) Y Y Y Zek (Zr<|Zg ln4) ln4 (hns := ns7))<|R_q (.sl 51<|List.map R51 ([x] : List api_Found)) Y (X5 Je (.cons (cva<|ov Y) ln4 (pwD al5) .nil) Y Y)<|bE h fun l2 h_l2 h=>Rx Y (Zv (ov Y) (ZE (ov Y) tZ_51) Je Y Y Y (fun x=>Zb<|E51 x) Y h_l2)<|Ra Y<|Za<|K5 0 3 7 8 9 Y<|ZC<|R2 Z2 Y<|Rm Y<|Za<|⟨_, h, ES [some 0]⟩
   ·
    exact Zm<|K5 0 3 7 8 9 Y<|ZC<|R2 Z2 Y<|Rm Y<|Za<|⟨_, h, ES [some 0]⟩
  ·
   refine ZT<|?_
   replace h := lx h ▸ ho1
   exact ⟨_, h, ES [some 0]⟩
 ·
  refine Tr<|Rm Y<|Ra Y<|Za<|?_
  obtain rfl := rt h
  exact Zu (ZL Y (.one<|.tmp Y<|View.ownM Y Y D51))
theorem Zgl {p : api_Piece} {r : (List api_Found) × Int} (h : Za8 p = some r) :
 CSpec Tryz.prog gl0 12 [.agg [.sl 5 (List.map R5 p.Bytes), .bool p.Half]] (.tuple [.sl 51 (List.map R51 r.1), .int .i64 r.2]) := by
 unfold Za8 at h
 replace h := Qf h
 refine So Tryz.func12 Y fun w0 A=>Tr<|Rq Y (Qo (cva<|ov Y) Y tZ_35 Y)<|Ra Y<|Ra Y<|Za<|K1 1 Y<|Tr<|Rq Y (ZD (ov Y) XL Y Y)<|bE h fun y h_y h=>Rq Y (Zq (Zdd h_y)<|.cons (ov Y) (.aggB Y) .nil)<|Rm Y<|Rq Y (Zi (ov Y) Y)<|Rq Y (Zi (ov Y) Y)<|Ra Y<|Ra Y<|Za<|K2 4 5 Y<|Tr<|Rm Y<|bE h fun y2 h_y2 h=>Rq Y (Zq (Zgn h_y2)<|.cons (ov Y) (.b Y) .nil)<|Rm Y<|Ra Y<|Ra Y<|Za<|?_
 obtain rfl := rt h
 exact Zu (ZL Y (.two (rb Y)<|rb Y))
theorem Zam {s : List (Vector Int 64)} {v : Vector Int 64} {r : Int} (h : Qr s v = some r) :
 CSpec Tryz.prog gl0 30 [.sl 28 (List.map R28 s), .agg (List.map C26 v.toList)] (.int .i64 r) := by
 unfold Qr at h
 replace h := Qf h
 refine So Tryz.func30 Y fun w0 A=>Tr<|Rq Y (Qo (cva<|ov Y) arL tZ_28<|arD fun _ => Y)<|Ra Y<|Za<|J0 (fun j => (.inr j)) ⟨[], []⟩ h (fun h=>?_) fun h=>?_
 ·
  refine K2 0 3 Y<|Tr<|Rm Y<|Rl tZ_28 Zld Y<|Rm Y<|Za<|Zn<|?_
  obtain ⟨r1, hl1, ho1⟩ := Xq h
  refine L1 (fun i=>⟨[(0, .sl 28 (List.map R28 s)), (3, .rp (List.map C26 v.toList) 0), (7, .int .i64 (s.length : Int)), (8, .int .i64 i)], []⟩) hl1 (ES []) fun n1 i h=>?_
  unfold Qg at h
  refine Tr<|R2 Z4 Y<|Za<|Zs<|If h Y (fun h=>?_) fun h=>?_
  ·
   refine Zm<|Zs<|Zn<|K4 0 3 7 8 Y<|Tr<|Rm Y<|Ra Y<|Za<|K5 0 3 5 7 8 Y<|Td md0<|Dq 0 Y (ZD (ov Y) Z7 (Zr<|Zg arL) arL)<|D1 1 Zd Y<|D1 2 Zd Y<|bE h fun x h_x h=>Dq 3 Y (ZX (ov Y) (ov Y) Zld h_x)<|Dq 4 Y (ZD (ov Y) Z7 (Zr<|Zg arL) arL)<|Dq 5 Y (ZlQ ZlK (ov Y) (ov Y) (.aggB<|arD fun _ => Y) (.aggB<|arD fun _ => Y) (fkV fun _ => Y) (fkV fun _ => Y)<|eqV fun _ _ => Y)<|Dd<|K6 0 3 5 7 8 16 Y<|If h Y (fun h=>?_) fun h=>?_
   ·
    refine K1 5 Y<|Tr<|Rm Y<|Ra Y<|Za<|?_
    replace h := lx h ▸ ho1
    obtain rfl := rt h
    exact Zu (ZL Y (.one<|rb Y))
   ·
    exact Zm<|K4 0 3 7 8 Y<|ZC<|R2 Z2 Y<|Rm Y<|Za<|⟨_, h, ES []⟩
  ·
   refine ZT<|?_
   replace h := lx h ▸ ho1
   exact ⟨_, h, ES []⟩
 ·
  replace h := elr h
  replace h := t0i h
  refine Tr<|Ra Y<|Za<|?_
  obtain rfl := rt h
  exact Zu (ZL Y (.one<|rb Y))
theorem JM {s : List (Vector Int 64)} {v : Vector Int 64} {r : Bool} (h : Z3 s v = some r) :
 CSpec Tryz.prog gl0 13 [.sl 28 (List.map R28 s), .agg (List.map C26 v.toList)] (.bool r) := by
 unfold Z3 at h
 replace h := Qf h
 refine So Tryz.func13 Y fun w0 A=>Tr<|Rq Y (Qo (cva<|ov Y) arL tZ_28<|arD fun _ => Y)<|Ra Y<|Za<|K3 0 3 4 Y<|Tr<|Rm Y<|Rq Y (ZD (ov Y) Z7 (Zr<|Zg arL) arL)<|bE h fun y h_y h=>Rq Y (Zq (Zam h_y)<|.cons (ov Y) (.b Y)<|.cons (ov Y) (.aggB<|arD fun _ => Y) .nil)<|R2 ZbR Y<|Ra Y<|Za<|?_
 obtain rfl := rt h
 exact Zu (ZL Y (.one<|rb Y))
theorem Zcx {l : List (Vector Int 64)} {noise : List (List Int)} {cut : Int} {r : Bool} (h : Xt l noise cut = some r) :
 CSpec Tryz.prog gl0 3 [.sl 28 (List.map R28 l), .sl 25 (List.map R25 noise), .int .i64 cut] (.bool r) := by
 unfold Xt at h
 replace h := Qf h
 refine So Tryz.func3 Y fun w0 A=>Tr<|Ra Y<|Za<|Zs<|K3 0 1 2 Y<|Tr<|bE h fun y h_y h=>Rq Y (Zq (Zir h_y) .nil)<|R1 Ji Y<|Za<|K4 0 1 2 31 Y<|If h Y (fun h=>?_) fun h=>?_
 ·
  refine K0<|Tr<|Ra Y<|Za<|?_
  obtain rfl := rt h
  exact Zu (ZL Y (.one<|rb Y))
 ·
  refine Zm<|K3 0 1 2 Y<|Tr<|Ra Y<|Za<|J1 (fun j => (.inr j)) (fun all=>⟨[(0, .sl 28 (List.map R28 l)), (2, .int .i64 cut), (7, .own 0 all.length)], [some ⟨5, List.map R5 all⟩]⟩) h (fun h=>?_) fun all h=>?_
  ·
   refine Tr<|Rm Y<|Rl tZ_28 Zld Y<|Rm Y<|Za<|Zn<|?_
   obtain ⟨r1, hl1, ho1⟩ := Xq h
   refine L2 (fun all2 i=>⟨[(0, .sl 28 (List.map R28 l)), (1, .sl 25 (List.map R25 noise)), (2, .int .i64 cut), (7, .own 0 all2.length), (32, .sl 28 (List.map R28 l)), (33, .int .i64 (l.length : Int)), (34, .int .i64 i)], [some ⟨5, List.map R5 all2⟩]⟩) hl1 (ES [none]) fun n1 all2 i h=>?_
   unfold Qi at h
   refine Tr<|R2 Z4 Y<|Za<|Zs<|If h Y (fun h=>?_) fun h=>?_
   ·
    refine Zm<|Zs<|Zn<|K7 0 1 2 7 32 33 34 Y<|Tr<|Rm Y<|bE h fun x h_x h=>Rq Y (ZX (ov Y) (ov Y) Zld h_x)<|Rq Y (ZD (ov Y) Z7 (Zr<|Zg arL) arL)<|Rx Y (ZP (row := (List.map C26 (Vector.replicate 64 0).toList)) 1 Y ZbV Y tZ_28)<|Ra Y<|Rx Y (Ze (ov Y) (ov Y) (Zo Z7 arL) Y Y Y (ZF (Zg arL) arL) (Zb<|arC fun _ => Y)<|ZK<|Eq.trans arL<|Eq.symm arL)<|Za<|Zs<|K9 0 1 2 7 8 9 32 33 34 Y<|Tr<|Rq Y (ZB (ov Y) Y Y Y Z7 (Zr<|Zg arL) arL (hns := (nsM fun _ => Y)))<|bE h fun y2 h_y2 h=>Rq Y (Zq (Zev h_y2)<|.cons (ov Y) (.aggB<|arD fun _ => Y) .nil)<|R1 Ji Y<|Rm Y<|Rq Y (.guarded ((!y2) == false) Y Y Y Y fun h => Zd<|ov Y)<|Rq Y (.guarded ((!y2) == false) Y Y Y Y fun h => Zd<|ov Y)<|Rq Y (.guarded ((!y2) == false) Y Y Y Y fun h => Zcj (ZE (ow Y h) tZ_25) Zni<|Jo _ _)<|Rq Y (.guarded ((!y2) == false) Y Y Y Y fun h => ZbR (ow Y h)<|ow Y h)<|Rq Y (JH (ov Y) fun hp=>ow Y<|gF hp)<|Rm Y<|Rq Y (.guarded (((!y2) || (decide ((noise.length : Int) ≤ i))) == false) Y Y Y Y fun h => Zd<|ov Y)<|Rq Y (.guarded (((!y2) || (decide ((noise.length : Int) ≤ i))) == false) Y Y Y Y fun h => Zd<|ov Y)<|bE h fun x2 h_x2 h=>Rq Y (.guarded (((!y2) || (decide ((noise.length : Int) ≤ i))) == false) Y Y Y Y fun h => ZX (ow Y h) (ow Y h) Zni<|gdT h_x2 h)<|Rq Y (.guarded (((!y2) || (decide ((noise.length : Int) ≤ i))) == false) Y Y Y Y fun h => Zh (ow Y h) ZcV Y)<|Rq Y (.guarded (((!y2) || (decide ((noise.length : Int) ≤ i))) == false) Y Y Y Y fun h => Zcj (ZE (ow Y h) tZ_5) Xz<|Jo _ _)<|Rq Y (.guarded (((!y2) || (decide ((noise.length : Int) ≤ i))) == false) Y Y Y Y fun h => ZaJ (ow Y h)<|ov Y)<|Rq Y (JH (ov Y) fun hp=>ow Y<|gF hp)<|Rm Y<|Rq Y (.guarded ((((!y2) || (decide ((noise.length : Int) ≤ i))) || (decide (2000 < (x2.length : Int)))) == false) Y Y Y Y fun h => Zd<|ov Y)<|Rq Y (.guarded ((((!y2) || (decide ((noise.length : Int) ≤ i))) || (decide (2000 < (x2.length : Int)))) == false) Y Y Y Y fun h => Zd<|ov Y)<|bE h fun x3 h_x3 h=>Rq Y (.guarded ((((!y2) || (decide ((noise.length : Int) ≤ i))) || (decide (2000 < (x2.length : Int)))) == false) Y Y Y Y fun h => ZX (ow Y h) (ow Y h) Zni<|gdT h_x3 h)<|Rq Y (.guarded ((((!y2) || (decide ((noise.length : Int) ≤ i))) || (decide (2000 < (x2.length : Int)))) == false) Y Y Y Y fun h => Zh (ow Y h) ZcV Y)<|bE h fun y3 h_y3 h=>Rq Y (.guarded ((((!y2) || (decide ((noise.length : Int) ≤ i))) || (decide (2000 < (x2.length : Int)))) == false) Y Y Y Y fun h => Zq (Zhv<|gdT h_y3 h)<|.cons (ow Y h) (.b Y) .nil)<|Rq Y (.guarded ((((!y2) || (decide ((noise.length : Int) ≤ i))) || (decide (2000 < (x2.length : Int)))) == false) Y Y Y Y fun h => Ji<|ow Y h)<|Rq Y (JH (ov Y) fun hp=>ow Y<|gF hp)<|Za<|K10 0 1 2 7 8 9 32 33 34 63 Y<|If h Y (fun h=>?_) fun h=>?_
    ·
     refine K0<|Tr<|Ra Y<|Za<|?_
     replace h := lx h ▸ ho1
     obtain rfl := rt h
     exact Zu (ZL Y (.one<|rb Y))
    ·
     exact Zm<|K9 0 1 2 7 8 9 32 33 34 Y<|Tr<|Rq Y (ZB (ov Y) Y Y Y Z7 (Zr<|Zg arL) arL (hns := (nsM fun _ => Y)))<|bE h fun y4 h_y4 h=>Rq Y (Zq (Zgf h_y4)<|.cons (ov Y) (.aggB<|arD fun _ => Y) .nil)<|Rm Y<|Rq Y (Zi (ov Y) Y)<|Rq Y (Zi (ov Y) Y)<|Ra Y<|Ra Y<|Za<|K9 0 1 2 7 8 10 32 33 34 Y<|ZC<|Rm Y<|Rm Y<|Rm Y<|bE h fun x4 h_x4 h=>Rq Y (ZX (ov Y) (ov Y) Zni h_x4)<|Rq Y (Zh (ov Y) ZcV Y)<|bE h fun l2 h_l2 h=>Rx Y (ZfB (ov Y) (ZE (ov Y) tZ_5) Xz Y Y (fun _=>Zb Y) Y h_l2)<|Rm Y<|bE h fun l3 h_l3 h=>Rx Y (ZfB (ov Y) (ZE (ov Y) tZ_5) Xz Y Y (fun _=>Zb Y) Y h_l3)<|Ra Y<|Za<|K7 0 1 2 7 32 33 34 Y<|ZC<|R2 Z2 Y<|Rm Y<|Za<|⟨_, h, ES [some 0]⟩
   ·
    refine ZT<|?_
    replace h := lx h ▸ ho1
    exact ⟨_, h, ES [some 0]⟩
  ·
   replace h := elr h
   replace h := t1i h
   refine Tr<|Rm Y<|Rq Y (JZ (ys := [_, _]) Zhx Zhy Zey (.cons (cvs (ov Y)<|ZY Y) .nil) Y)<|Rx Y (ZP (row := [_, _]) 1 Y Zey Y tZ_35)<|Rx Y (Ze (ov Y) (ov Y) (Zo XL Y) Y Y Y (Nat.le_of_ble_eq_true Y) (Zb Y) Y)<|Za<|K3 0 2 12 Y<|Tr<|Rq Y (ZB (ov Y) Y Y Y XL Y Y)<|bE h fun y5 h_y5 h=>ZdF (Ent.sel [none, some 1] (sd 0 Y Y<|sd 2 Y Y<|sr 12 Y (.ptr (r' := 1) _ _ _ Y)<|sr 81 Y (ZoF<|rlc (ZiZ Y Y Y D5)<|rlc (.dat Y) rln) sn) (.row 5<|.cons Y (ro1 (by exact tZ_35.symm)<|rlc (ZiZ Y Y Y D5)<|rlc (.dat Y) rln) .nil) Y Y)<|Rq Y (Zq (Zdd h_y5)<|.cons (ov Y) (.aggB Y) .nil)<|Rm Y<|Rq Y (Zi (ov Y) Y)<|Rq Y (Zi (ov Y) Y)<|Ra Y<|Ra Y<|Za<|Zs<|K5 0 2 12 13 14 Y<|Tr<|Rm Y<|R2 XY Y<|Rm Y<|Rq Y (.guarded ((!decide (y5.2 = 0)) == false) Y Y Y Y fun h => Zd<|ov Y)<|Rq Y (.guarded ((!decide (y5.2 = 0)) == false) Y Y Y Y fun h => Zcj (ZE (ow Y h) tZ_51) Je<|Jo _ _)<|Rq Y (.guarded ((!decide (y5.2 = 0)) == false) Y Y Y Y fun h => Zd<|ov Y)<|Rq Y (.guarded ((!decide (y5.2 = 0)) == false) Y Y Y Y fun h => Zcj (ZE (ow Y h) tZ_28) Zld<|Jo _ _)<|Rq Y (.guarded ((!decide (y5.2 = 0)) == false) Y Y Y Y fun h => XY (ow Y h)<|ow Y h)<|Rq Y (JH (ov Y) fun hp=>ow Y<|gF hp)<|Za<|K4 0 2 12 93 Y<|If h Y (fun h=>?_) fun h=>?_
   ·
    refine K0<|Tr<|Ra Y<|Za<|?_
    obtain rfl := rt h
    exact Zu (ZL Y (.one<|rb Y))
   ·
    refine Zm<|K3 0 2 12 Y<|Tr<|Rq Y (ZB (ov Y) Y Y Y XL Y Y)<|bE h fun y6 h_y6 h=>Rq Y (Zq (ZgW h_y6)<|.cons (ov Y) (.aggB Y) .nil)<|Rm Y<|Rq Y (Zi (ov Y) Y)<|Rq Y (Zi (ov Y) Y)<|Ra Y<|Ra Y<|Za<|Zs<|K4 0 2 12 15 Y<|Tr<|Rm Y<|R2 Z4 Y<|Rm Y<|Rq Y (.guarded ((decide (cut < 0)) == false) Y Y Y Y fun h => Zd<|ov Y)<|Rq Y (.guarded ((decide (cut < 0)) == false) Y Y Y Y fun h => Zd<|ov Y)<|Rq Y (.guarded ((decide (cut < 0)) == false) Y Y Y Y fun h => ZaJ (ow Y h)<|ow Y h)<|Rq Y (JH (ov Y) fun hp=>ow Y<|gF hp)<|Za<|K5 0 2 12 15 105 Y<|If h Y (fun h=>?_) fun h=>?_
    ·
     refine K0<|Tr<|Ra Y<|Za<|?_
     obtain rfl := rt h
     exact Zu (ZL Y (.one<|rb Y))
    ·
     refine Zm<|K4 0 2 12 15 Y<|Tr<|Rm Y<|Rm Y<|bE h fun q h_q h=>Rq Y (XJ (ov Y) (ov Y) h_q)<|R2 ZdT Y<|Ra Y<|Za<|K4 0 2 12 15 Y<|Tr<|Rq Y (ZB (ov Y) Y Y Y XL Y Y)<|Rm Y<|bE h fun y7 h_y7 h=>Rq Y (Zq (ZdR h_y7)<|.cons (ov Y) (.aggB Y)<|.cons (ov Y) (.b Y)<|.cons (ov Y) (.b Y) .nil)<|Rm Y<|Rq Y (Zi (ov Y) Y)<|Rq Y (Zi (ov Y) Y)<|Rx Y (ZP (row := [_, _]) 2 Y Zey Y tZ_35)<|Rx Y (Ze (ov Y) (ov Y) (Zo XL Y) Y Y Y (Nat.le_of_ble_eq_true Y) (Zb Y) Y)<|Ra Y<|Za<|K6 0 2 12 14 15 17 Y<|Tr<|Rq Y (ZB (ov Y) Y Y Y XL Y Y)<|Rm Y<|Rm Y<|bE h fun y8 h_y8 h=>Rq Y (Zq (ZdR h_y8)<|.cons (ov Y) (.aggB Y)<|.cons (ov Y) (.b Y)<|.cons (ov Y) (.b Y) .nil)<|Rm Y<|Rq Y (Zi (ov Y) Y)<|Rq Y (Zi (ov Y) Y)<|Rx Y (ZP (row := [_, _]) 3 Y Zey Y tZ_35)<|Rx Y (Ze (ov Y) (ov Y) (Zo XL Y) Y Y Y (Nat.le_of_ble_eq_true Y) (Zb Y) Y)<|Ra Y<|Za<|Zs<|K5 0 14 17 18 19 Y<|Tr<|Rm Y<|R2 XY Y<|Rm Y<|Rq Y (.guarded ((!decide (y7.2 = 0)) == false) Y Y Y Y fun h => Zd<|ov Y)<|Rq Y (.guarded ((!decide (y7.2 = 0)) == false) Y Y Y Y fun h => XY (ow Y h)<|ov Y)<|Rq Y (JH (ov Y) fun hp=>ow Y<|gF hp)<|Za<|K4 0 17 18 128 Y<|If h Y (fun h=>?_) fun h=>?_
     ·
      refine K0<|Tr<|Ra Y<|Za<|?_
      obtain rfl := rt h
      exact Zu (ZL Y (.one<|rb Y))
     ·
      refine Zm<|K3 0 17 18 Y<|Tr<|Rq Y (ZB (ov Y) Y Y Y XL Y Y)<|Rq Y (ZB (ov Y) Y Y Y XL Y Y)<|R_q (.sl 35<|List.map R35 ([y7.1, y8.1] : List api_Piece)) Y (X5 ZiA (.cons (cva<|ov Y) Y (pwD Y)<|.cons (cva<|ov Y) Y (pwD Y) .nil) Y Y)<|bE h fun y9 h_y9 h=>Rq Y (Zq (ZeG h_y9)<|.cons (ov Y) (.b Y) .nil)<|Rm Y<|Rq Y (Zi (ov Y) Y)<|Rq Y (Zi (ov Y) Y)<|Ra Y<|Ra Y<|Za<|Zs<|K5 0 14 17 18 20 Y<|Tr<|Rm Y<|R2 XY Y<|Za<|K6 0 14 17 18 20 137 Y<|If h Y (fun h=>?_) fun h=>?_
      ·
       refine K1 14 Y<|Tr<|Rm Y<|R2 QC Y<|Ra Y<|Za<|?_
       obtain rfl := rt h
       exact Zu (ZL Y (.one<|rb Y))
      ·
       refine Zm<|J0 (fun j => (.inr j)) ⟨[], []⟩ h (fun h=>?_) fun h=>?_
       ·
        refine K4 0 17 18 20 Y<|Tr<|Rm Y<|Rl tZ_49 Xo Y<|Rm Y<|Za<|Zn<|?_
        obtain ⟨r2, hl2, ho2⟩ := Xq h
        refine L1 (fun i2=>⟨[(0, .sl 28 (List.map R28 l)), (17, .ptr 0 1 0 0), (18, .ptr 1 1 0 0), (140, .sl 49 (List.map R49 y9.1)), (141, .int .i64 (y9.1.length : Int)), (142, .int .i64 i2)], [some ⟨35, [[.sl 5 (List.map R5 y7.1.Bytes), .bool y7.1.Half]]⟩, some ⟨35, [[.sl 5 (List.map R5 y8.1.Bytes), .bool y8.1.Half]]⟩]⟩) hl2 (ES [some 2, some 3]) fun n2 i2 h=>?_
        unfold Qy at h
        refine Tr<|R2 Z4 Y<|Za<|Zs<|If h Y (fun h=>?_) fun h=>?_
        ·
         refine Zm<|Zs<|Zn<|K6 0 17 18 140 141 142 Y<|Tr<|bE h fun x5 h_x5 h=>Rq Y (ZX (ov Y) (ov Y) Xo h_x5)<|Rq Y (ZD (ov Y) Xk (Zr<|Zg Zy) Zy)<|Rx Y (ZP (row := (.int .i64 0) :: ((List.map C26 (Vector.replicate 64 0).toList) ++ (((List.map C3 (Vector.replicate 64 0).toList) ++ ((.bool false) :: (.int .i64 0) :: (.bool false) :: []))))) 2 Y ZdJ (by kernel_rfl)<|by exact Eq.symm (Eq.trans (b := 132) Zy tZ_49.symm))<|Rx Y (Ze (ov Y) (ov Y) (Zo Xk Zy) Y Y Y (ZF (Zg Zy) Zy) (Zb Zc3)<|ZK<|Eq.trans Zy<|Eq.symm Zy)<|Za<|Zs<|K7 0 17 18 22 140 141 142 Y<|Tr<|Rq Y (Zc (ov Y) Y Y Zdq)<|Rq Y (Zj (ov Y) Y Y Y tS4<|Zl Zgk)<|R1 Ji Y<|Rm Y<|Rq Y (.guarded ((!x5.Sound) == false) Y Y Y Y fun h => Zc (ov Y) Y Y Zdf)<|Rq Y (.guarded ((!x5.Sound) == false) Y Y Y Y fun h => Zj (ow Y h) Y Y Y tS3<|Zl ZgM)<|Rq Y (.guarded ((!x5.Sound) == false) Y Y Y Y fun h => QC (ow Y h)<|ov Y)<|Rq Y (JH (ov Y) fun hp=>ow Y<|gF hp)<|Za<|K8 0 17 18 22 140 141 142 153 Y<|If h Y (fun h=>?_) fun h=>?_
         ·
          exact ZT<|K6 0 17 18 140 141 142 Y<|ZC<|R2 Z2 Y<|Rm Y<|Za<|⟨_, h, ES [some 0, some 1]⟩
         ·
          refine Zm<|K7 0 17 18 22 140 141 142 Y<|Tr<|Ra Y<|Za<|J1 (fun j => (.inr j)) (fun fromPlace=>⟨[(0, .sl 28 (List.map R28 l)), (17, .ptr 0 1 0 0), (18, .ptr 1 1 0 0), (22, .ptr 2 1 0 0), (23, .bool fromPlace), (140, .sl 49 (List.map R49 y9.1)), (141, .int .i64 (y9.1.length : Int)), (142, .int .i64 i2)], [some ⟨35, [[.sl 5 (List.map R5 y7.1.Bytes), .bool y7.1.Half]]⟩, some ⟨35, [[.sl 5 (List.map R5 y8.1.Bytes), .bool y8.1.Half]]⟩, some ⟨49, [(.int .i64 x5.Number) :: ((List.map C26 x5.Frame.toList) ++ (((List.map C3 x5.States.toList) ++ ((.bool x5.Sound) :: (.int .i64 x5.Copies) :: (.bool x5.Conflict) :: []))))]⟩]⟩) h (fun h=>?_) fun fromPlace h=>?_
          ·
           refine Tr<|Rq Y (ZB (ov Y) Y Y Y XL Y Y)<|Rq Y (ZB (ov Y) Y Y Y XL Y Y)<|R_q (.sl 35<|List.map R35 ([y7.1, y8.1] : List api_Piece)) Y (X5 ZiA (.cons (cva<|ov Y) Y (pwD Y)<|.cons (cva<|ov Y) Y (pwD Y) .nil) Y Y)<|Rl tZ_35 ZiA Y<|Rm Y<|Za<|Zn<|?_
           obtain ⟨r3, hl3, ho3⟩ := Xq h
           refine L2 (fun fromPlace2 i3=>⟨[(0, .sl 28 (List.map R28 l)), (17, .ptr 0 1 0 0), (18, .ptr 1 1 0 0), (22, .ptr 2 1 0 0), (23, .bool fromPlace2), (140, .sl 49 (List.map R49 y9.1)), (141, .int .i64 (y9.1.length : Int)), (142, .int .i64 i2), (156, .sl 35 (List.map R35 ([y7.1, y8.1] : List api_Piece))), (157, .int .i64 (([y7.1, y8.1] : List api_Piece).length : Int)), (158, .int .i64 i3)], [some ⟨35, [[.sl 5 (List.map R5 y7.1.Bytes), .bool y7.1.Half]]⟩, some ⟨35, [[.sl 5 (List.map R5 y8.1.Bytes), .bool y8.1.Half]]⟩, some ⟨49, [(.int .i64 x5.Number) :: ((List.map C26 x5.Frame.toList) ++ (((List.map C3 x5.States.toList) ++ ((.bool x5.Sound) :: (.int .i64 x5.Copies) :: (.bool x5.Conflict) :: []))))]⟩]⟩) hl3 (ES [some 0, some 1, some 2]) fun n3 fromPlace2 i3 h=>?_
           unfold Qj at h
           refine Tr<|R2 Z4 Y<|Za<|Zs<|If h Y (fun h=>?_) fun h=>?_
           ·
            refine Zm<|J1 (fun j => (.inr j)) (fun fromPlace3=>⟨[(0, .sl 28 (List.map R28 l)), (17, .ptr 0 1 0 0), (18, .ptr 1 1 0 0), (22, .ptr 2 1 0 0), (23, .bool fromPlace3), (140, .sl 49 (List.map R49 y9.1)), (141, .int .i64 (y9.1.length : Int)), (142, .int .i64 i2), (156, .sl 35 (List.map R35 ([y7.1, y8.1] : List api_Piece))), (157, .int .i64 (([y7.1, y8.1] : List api_Piece).length : Int)), (158, .int .i64 i3)], [some ⟨35, [[.sl 5 (List.map R5 y7.1.Bytes), .bool y7.1.Half]]⟩, some ⟨35, [[.sl 5 (List.map R5 y8.1.Bytes), .bool y8.1.Half]]⟩, some ⟨49, [(.int .i64 x5.Number) :: ((List.map C26 x5.Frame.toList) ++ (((List.map C3 x5.States.toList) ++ ((.bool x5.Sound) :: (.int .i64 x5.Copies) :: (.bool x5.Conflict) :: []))))]⟩]⟩) h (fun h=>?_) fun fromPlace3 h=>?_
            ·
             refine Zn<|K11 0 17 18 22 23 140 141 142 156 157 158 Y<|Tr<|bE h fun x6 h_x6 h=>Rq Y (ZX (ov Y) (ov Y) ZiA h_x6)<|Rq Y (ZD (ov Y) XL Y Y)<|Rx Y (ZP (row := [_, _]) 3 Y Zey Y tZ_35)<|Rx Y (Ze (ov Y) (ov Y) (Zo XL Y) Y Y Y (Nat.le_of_ble_eq_true Y) (Zb Y) Y)<|Za<|K12 0 17 18 22 23 25 140 141 142 156 157 158 Y<|Tr<|Rq Y (ZB (ov Y) Y Y Y XL Y Y)<|bE h fun y10 h_y10 h=>Rq Y (Zq (Zgl h_y10)<|.cons (ov Y) (.aggB Y) .nil)<|Rm Y<|Rq Y (Zi (ov Y) Y)<|Rq Y (Zi (ov Y) Y)<|Ra Y<|Ra Y<|Za<|Zs<|Jz (kc 0 Y<|kc 17 Y<|kc 18 Y<|kc 22 Y<|kc 23 Y<|kc 26 Y<|kc 27 Y<|kc 140 Y<|kc 141 Y<|kc 142 Y<|kc 156 Y<|kc 157 Y<|kc 158 Y kn) Y<|Tr<|Rm Y<|R2 XY Y<|Za<|Jz (kc 0 Y<|kc 17 Y<|kc 18 Y<|kc 22 Y<|kc 23 Y<|kc 26 Y<|kc 140 Y<|kc 141 Y<|kc 142 Y<|kc 156 Y<|kc 157 Y<|kc 158 Y<|kc 168 Y kn) Y<|If h Y (fun h=>?_) fun h=>?_
             ·
              refine K0<|Tr<|Ra Y<|Za<|?_
              replace h := lx h ▸ ho3
              replace h := lx h ▸ ho2
              obtain rfl := rt h
              exact Zu (ZL Y (.one<|rb Y))
             ·
              refine Zm<|K12 0 17 18 22 23 26 140 141 142 156 157 158 Y<|Tr<|Rm Y<|Rl tZ_51 Je Y<|Rm Y<|Za<|Zn<|?_
              obtain ⟨r4, hl4, ho4⟩ := bnd h
              refine L2 (fun fromPlace4 i4=>⟨[(0, .sl 28 (List.map R28 l)), (17, .ptr 0 1 0 0), (18, .ptr 1 1 0 0), (22, .ptr 2 1 0 0), (23, .bool fromPlace4), (140, .sl 49 (List.map R49 y9.1)), (141, .int .i64 (y9.1.length : Int)), (142, .int .i64 i2), (156, .sl 35 (List.map R35 ([y7.1, y8.1] : List api_Piece))), (157, .int .i64 (([y7.1, y8.1] : List api_Piece).length : Int)), (158, .int .i64 i3), (169, .sl 51 (List.map R51 y10.1)), (170, .int .i64 (y10.1.length : Int)), (171, .int .i64 i4)], [some ⟨35, [[.sl 5 (List.map R5 y7.1.Bytes), .bool y7.1.Half]]⟩, some ⟨35, [[.sl 5 (List.map R5 y8.1.Bytes), .bool y8.1.Half]]⟩, some ⟨49, [(.int .i64 x5.Number) :: ((List.map C26 x5.Frame.toList) ++ (((List.map C3 x5.States.toList) ++ ((.bool x5.Sound) :: (.int .i64 x5.Copies) :: (.bool x5.Conflict) :: []))))]⟩]⟩) hl4 (ES [some 0, some 1, some 2]) fun n4 fromPlace4 i4 h=>?_
              unfold Qh at h
              refine Tr<|R2 Z4 Y<|Za<|Zs<|If h Y (fun h=>?_) fun h=>?_
              ·
               exact Zm<|Zs<|Zn<|Jz (kc 0 Y<|kc 17 Y<|kc 18 Y<|kc 22 Y<|kc 23 Y<|kc 140 Y<|kc 141 Y<|kc 142 Y<|kc 156 Y<|kc 157 Y<|kc 158 Y<|kc 169 Y<|kc 170 Y<|kc 171 Y kn) Y<|Tr<|bE h fun x7 h_x7 h=>Rq Y (ZX (ov Y) (ov Y) Je h_x7)<|Rq Y (ZD (ov Y) Zek (Zr<|Zg ln4) ln4)<|Rx Y (ZP (row := (.int .i64 0) :: ((List.map C26 (Vector.replicate 64 0).toList) ++ ([]))) 3 Y ZjB (by kernel_rfl)<|by exact Eq.symm (Eq.trans (b := 65) ln4 tZ_51.symm))<|Rx Y (Ze (ov Y) (ov Y) (Zo Zek ln4) Y Y Y (ZF (Zg ln4) ln4) (Zb al6)<|ZK<|Eq.trans ln4<|Eq.symm ln4)<|Za<|Jz (kc 0 Y<|kc 17 Y<|kc 18 Y<|kc 22 Y<|kc 23 Y<|kc 29 Y<|kc 140 Y<|kc 141 Y<|kc 142 Y<|kc 156 Y<|kc 157 Y<|kc 158 Y<|kc 169 Y<|kc 170 Y<|kc 171 Y kn) Y<|ZC<|Rm Y<|Rm Y<|Rq Y (.guarded (fromPlace4 == false) Y Y Y Y fun h => Zc (ov Y) Y Y ZjN)<|Rq Y (.guarded (fromPlace4 == false) Y Y Y Y fun h => ZB (ow Y h) Y Y Y Z7 (Zr at2) arL (hns := (nsM fun _ => Y)))<|Rq Y (.guarded (fromPlace4 == false) Y Y Y Y fun h => Zc (ov Y) Y Y X9)<|Rq Y (.guarded (fromPlace4 == false) Y Y Y Y fun h => ZB (ow Y h) Y Y Y Z7 (Zr Zbo) arL (hns := (nsM fun _ => Y)))<|Rq Y (.guarded (fromPlace4 == false) Y Y Y Y fun h => ZlQ ZlK (ow Y h) (ow Y h) (.aggB<|arD fun _ => Y) (.aggB<|arD fun _ => Y) (fkV fun _ => Y) (fkV fun _ => Y)<|eqV fun _ _ => Y)<|Rq Y (JH (ov Y) fun hp=>ow Y<|gF hp)<|Ra Y<|Za<|Jz (kc 0 Y<|kc 17 Y<|kc 18 Y<|kc 22 Y<|kc 23 Y<|kc 140 Y<|kc 141 Y<|kc 142 Y<|kc 156 Y<|kc 157 Y<|kc 158 Y<|kc 169 Y<|kc 170 Y<|kc 171 Y kn) Y<|ZC<|R2 Z2 Y<|Rm Y<|Za<|⟨_, h, ES [some 0, some 1, some 2]⟩
              ·
               refine ZT<|?_
               replace h := lx h ▸ ho4
               exact ⟨_, h, ES [some 0, some 1, some 2]⟩
            ·
             replace h := elr h
             replace h := t1i h
             exact ZC<|R2 Z2 Y<|Rm Y<|Za<|⟨_, h, ES [some 0, some 1, some 2]⟩
           ·
            refine ZT<|?_
            replace h := lx h ▸ ho3
            exact ⟨_, h, ES [some 0, some 1, some 2]⟩
          ·
           replace h := elr h
           replace h := t1i h
           refine Tr<|Rm Y<|Rm Y<|Rq Y (.guarded (fromPlace == true) Y Y Y Y fun h => Zd<|ov Y)<|Rq Y (.guarded (fromPlace == true) Y Y Y Y fun h => Zc (ov Y) Y Y X9)<|Rq Y (.guarded (fromPlace == true) Y Y Y Y fun h => ZB (ow Y h) Y Y Y Z7 (Zr Zbo) arL (hns := (nsM fun _ => Y)))<|bE h fun y11 h_y11 h=>Rq Y (.guarded (fromPlace == true) Y Y Y Y fun h => Zq (JM<|gdT h_y11 h)<|.cons (ow Y h) (.b Y)<|.cons (ow Y h) (.aggB<|arD fun _ => Y) .nil)<|Rq Y (.guarded (fromPlace == true) Y Y Y Y fun h => Ji<|ow Y h)<|Rq Y (XU (ov Y) fun hp=>ow Y<|gT hp)<|Za<|K7 0 17 18 140 141 142 192 Y<|If h Y (fun h=>?_) fun h=>?_
           ·
            refine K0<|Tr<|Ra Y<|Za<|?_
            replace h := lx h ▸ ho2
            obtain rfl := rt h
            exact Zu (ZL Y (.one<|rb Y))
           ·
            exact Zm<|K6 0 17 18 140 141 142 Y<|ZC<|R2 Z2 Y<|Rm Y<|Za<|⟨_, h, ES [some 0, some 1]⟩
        ·
         refine ZT<|?_
         replace h := lx h ▸ ho2
         exact ⟨_, h, ES []⟩
       ·
        replace h := elr h
        replace h := t0i h
        refine Tr<|Ra Y<|Za<|?_
        obtain rfl := rt h
        exact Zu (ZL Y (.one<|rb Y))
end Go.Proofs.YteljlmpmdplgmaaGreatDoor
