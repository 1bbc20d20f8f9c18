/- A text of the proof: a verified executor of the program form, or the contracts of the functions that the law reaches. -/
import Derived.Test.YteljlmpmdplgmaaGreatDoorOkNc
set_option linter.all false
namespace Go.Proofs.YteljlmpmdplgmaaGreatDoor
open Go Go.Vx
set_option maxRecDepth 10000
set_option maxHeartbeats 1000000
set_option linter.unusedVariables false
theorem Ze7 {s : Int} {c0 : Int} {c1 : Int} {r : Bool} (h : Za1 s c0 c1 = some r) :
 CSpec Tryz.prog gl0 98 [.int .i64 s, .rp [.int .i64 c0] 0, .rp [.int .i64 c1] 0] (.bool r) := by
 unfold Za1 at h
 replace h := Qf h
 refine So Tryz.func98 Y fun w0 A=>Tr<|Ra Y<|Za<|Tr<|Rm Y<|Rq Y (Zh (ov Y) tS3 Y)<|R2 QC Y<|Rm Y<|Rq Y (.guarded ((decide (s = c0)) == false) Y Y Y Y fun h => Zd<|ov Y)<|Rq Y (.guarded ((decide (s = c0)) == false) Y Y Y Y fun h => Zh (ov Y) tS3 Y)<|Rq Y (.guarded ((decide (s = c0)) == false) Y Y Y Y fun h => QC (ow Y h)<|ow Y h)<|Rq Y (JH (ov Y) fun hp=>ow Y<|gF hp)<|Ra Y<|Za<|?_
 obtain rfl := rt h
 exact Zu (ZL Y (.one<|rb Y))
theorem Zgi {r_ : api_Rest} {a : Int} {b : Int} {r : Bool} (h : Zbd r_ a b = some r) :
 CSpec Tryz.prog gl0 68 [.agg ((.int .i64 r_.Number) :: ((List.map C26 r_.Frame.toList) ++ (((List.map C3 r_.States.toList) ++ ((.bool r_.Sound) :: (.int .i64 r_.Copies) :: (.bool r_.Conflict) :: []))))), .int .i64 a, .int .i64 b] (.bool r) := by
 unfold Zbd at h
 replace h := Qf h
 refine So Tryz.func68 Y fun w0 A=>Tr<|Rq Y (Qo (cva<|ov Y) Zy tZ_49 Jl)<|Rq Y (Qo (cvs (ov Y)<|ZY Y) Y tZ_3 Y)<|Rq Y (Qo (cvs (ov Y)<|ZY Y) Y tZ_3 Y)<|Ra Y<|Za<|K4 3 4 5 6 Y<|Tr<|Rq Y (ZI (ov Y) Jd)<|bE h fun l h_l h=>Rq Y (ZlM (f := C3) (ov Y) Zde tZ_3 Zai Y on on h_l)<|Rq Y (ZeJ<|.cons (ov Y)<|.cons (ov Y) .nil)<|bE h fun y h_y h=>Rq Y (Zq (X7 Y (fun z0 _ hz=>Ze7 hz) h_y)<|.cons (ov Y) (.b Y)<|.cons (ov Y) (.fnC<|.cons (.b Y)<|.cons (.b Y) .nil) .nil)<|Ra Y<|Za<|?_
 obtain rfl := rt h
 exact Zu (ZL Y (.one<|rb Y))
theorem Zcl {f : Vector Int 64} {number : Int} {r : Bool} (h : Xn f number = some r) :
 CSpec Tryz.prog gl0 48 [.agg (List.map C26 f.toList), .int .i64 number] (.bool r) := by
 unfold Xn at h
 replace h := Qf h
 refine So Tryz.func48 Y fun w0 A=>Tr<|Rq Y (Qo (cva<|ov Y) arL tZ_28<|arD fun _ => Y)<|Ra Y<|Za<|K2 1 2 Y<|Tr<|Rq Y (ZD (ov Y) Z7 (Zr<|Zg arL) arL)<|bE h fun y h_y h=>Rq Y (Zq (ZbQ h_y)<|.cons (ov Y) (.aggB<|arD fun _ => Y) .nil)<|Rm Y<|Rq Y (Zi (ov Y) Y)<|Rq Y (Zi (ov Y) Y)<|Ra Y<|Ra Y<|Za<|K3 1 2 5 Y<|Tr<|Rq Y (ZD (ov Y) Z7 (Zr<|Zg arL) arL)<|bE h fun y2 h_y2 h=>Rq Y (Zq (ZdV h_y2)<|.cons (ov Y) (.aggB<|arD fun _ => Y) .nil)<|Rm Y<|Rq Y (.guarded (y2 == true) Y Y Y Y fun h => Zd<|ov Y)<|Rq Y (.guarded (y2 == true) Y Y Y Y fun h => Zd<|ov Y)<|Rq Y (.guarded (y2 == true) Y Y Y Y fun h => QC (ow Y h)<|ow Y h)<|Rq Y (XU (ov Y) fun hp=>ow Y<|gT hp)<|Ra Y<|Za<|?_
 obtain rfl := rt h
 exact Zu (ZL Y (.one<|rb Y))
theorem J7 {l : List api_Rest} {r : api_Rest} (h : X2 l = some r) :
 CSpec Tryz.prog gl0 46 [.sl 49 (List.map R49 l)] (.agg ((.int .i64 r.Number) :: ((List.map C26 r.Frame.toList) ++ (((List.map C3 r.States.toList) ++ ((.bool r.Sound) :: (.int .i64 r.Copies) :: (.bool r.Conflict) :: [])))))) := by
 unfold X2 at h
 replace h := Qf h
 refine So Tryz.func46 Y fun w0 A=>Tr<|Rx Y (ZP (row := (.int .i64 0) :: ((List.map C26 (Vector.replicate 64 0).toList) ++ (((List.map C3 (Vector.replicate 64 0).toList) ++ ((.bool false) :: (.int .i64 0) :: (.bool false) :: []))))) 0 Y ZdJ (by kernel_rfl)<|by exact Eq.symm (Eq.trans (b := 132) Zy tZ_49.symm))<|Za<|Tr<|Rm Y<|bE h fun x h_x h=>Rq Y (ZX (ov Y) (ov Y) Xo h_x)<|Rq Y (ZI (ov Y) XN)<|Rq Y (Zh (ov Y) tS3<|Zl at8)<|Rq Y (Zcb (zr := (.int .i64 0) :: ((List.map C26 (Vector.replicate 64 0).toList) ++ (((List.map C3 (Vector.replicate 64 0).toList) ++ ((.bool false) :: (.int .i64 0) :: (.bool false) :: []))))) ZiQ Zjn ZdJ (by kernel_rfl) (.cons (cvs (ov Y)<|ZY Y) .nil)<|JC Y Y at8 pt9 ZeI)<|Rx Y (ZP (row := (.int .i64 0) :: ((List.map C26 (Vector.replicate 64 0).toList) ++ (((List.map C3 (Vector.replicate 64 0).toList) ++ ((.bool false) :: (.int .i64 0) :: (.bool false) :: []))))) 1 Y ZdJ (by kernel_rfl)<|by exact Eq.symm (Eq.trans (b := 132) Zy tZ_49.symm))<|Rx Y (Ze (ov Y) (ov Y) (Zo Xk Zy) Y Y Y (ZF (Zg Zy) Zy) (Zb Zc3)<|ZK<|Eq.trans Zy<|Eq.symm Zy)<|Za<|I1 (fun Copies=>⟨[(0, .sl 49 (List.map R49 l)), (2, .ptr 0 1 0 0), (3, .ptr 1 1 0 0)], [some ⟨49, [(.int .i64 0) :: ((List.map C26 (Vector.replicate 64 0).toList) ++ (((List.map C3 (Vector.replicate 64 0).toList) ++ ((.bool false) :: (.int .i64 0) :: (.bool false) :: []))))]⟩, some ⟨49, [(.int .i64 x.Number) :: ((List.map C26 (Vector.replicate 64 0).toList) ++ (((List.map C3 (Vector.replicate 64 0).toList) ++ ((.bool false) :: (.int .i64 Copies) :: (.bool false) :: []))))]⟩]⟩) h (fun h=>?_) fun Copies h=>?_
 ·
  refine K3 0 2 3 Y<|Tr<|Rm Y<|Rl tZ_49 Xo Y<|Rm Y<|Za<|Zn<|?_
  obtain ⟨r1, hl1, ho1⟩ := Xq h
  refine L2 (fun Copies2 i=>⟨[(0, .sl 49 (List.map R49 l)), (2, .ptr 0 1 0 0), (3, .ptr 1 1 0 0), (13, .sl 49 (List.map R49 l)), (14, .int .i64 (l.length : Int)), (15, .int .i64 i)], [some ⟨49, [(.int .i64 0) :: ((List.map C26 (Vector.replicate 64 0).toList) ++ (((List.map C3 (Vector.replicate 64 0).toList) ++ ((.bool false) :: (.int .i64 0) :: (.bool false) :: []))))]⟩, some ⟨49, [(.int .i64 x.Number) :: ((List.map C26 (Vector.replicate 64 0).toList) ++ (((List.map C3 (Vector.replicate 64 0).toList) ++ ((.bool false) :: (.int .i64 Copies2) :: (.bool false) :: []))))]⟩]⟩) hl1 (ES [some 0, some 1]) fun n1 Copies2 i h=>?_
  unfold Xy at h
  refine Tr<|R2 Z4 Y<|Za<|Zs<|If h Y (fun h=>?_) fun h=>?_
  ·
   exact Zm<|Zs<|Zn<|K6 0 2 3 13 14 15 Y<|Tr<|bE h fun x2 h_x2 h=>Rq Y (ZX (ov Y) (ov Y) Xo h_x2)<|Rq Y (ZD (ov Y) Xk (Zr<|Zg Zy) Zy)<|Rx Y (ZP (row := (.int .i64 0) :: ((List.map C26 (Vector.replicate 64 0).toList) ++ (((List.map C3 (Vector.replicate 64 0).toList) ++ ((.bool false) :: (.int .i64 0) :: (.bool false) :: []))))) 2 Y ZdJ (by kernel_rfl)<|by exact Eq.symm (Eq.trans (b := 132) Zy tZ_49.symm))<|Rx Y (Ze (ov Y) (ov Y) (Zo Xk Zy) Y Y Y (ZF (Zg Zy) Zy) (Zb Zc3)<|ZK<|Eq.trans Zy<|Eq.symm Zy)<|Za<|K7 0 2 3 5 13 14 15 Y<|ZC<|Rq Y (Zc (ov Y) Y Y Zdf)<|Rq Y (Zj (ov Y) Y Y Y tS3<|Zl ZgM)<|Rq Y (Zc (ov Y) Y Y Zdf)<|Rq Y (Zj (ov Y) Y Y Y tS3<|Zl ZgM)<|R2 Z2 Y<|Rq Y (Zc (ov Y) Y Y Zdf)<|Rx Y (Ze (ov Y) (ov Y) (Zf tS3) Y Y Y (ZF ZgM Y) (Zb Y) Zk8)<|Za<|K6 0 2 3 13 14 15 Y<|ZC<|R2 Z2 Y<|Rm Y<|Za<|⟨_, h, ES [some 0, some 1]⟩
  ·
   refine ZT<|?_
   replace h := lx h ▸ ho1
   exact ⟨_, h, ES [some 0, some 1]⟩
 ·
  refine Tr<|Rm Y<|bE h fun y h_y h=>Rq Y (Zq (JA Y (fun z0 _ hz=>ZeA hz) h_y)<|.cons (ov Y) (.b Y)<|.cons (ov Y) .fn .nil)<|Ra Y<|Za<|Zs<|K4 0 2 3 6 Y<|Tr<|Rm Y<|bE h fun y2 h_y2 h=>Rx Y (Zdj [1] (ZdI h_y2) (.cons (ov Y) (.ptr _ _ _ Y)<|.cons (ov Y) (.dat Y) .nil) (.cons Y (ro1 (by exact Eq.trans (b := 132) Zy tZ_49.symm)<|rld Jl) .nil) Y (.keep Y Y<|.lent 0 (.inl Y) Y (ro1 (by exact Eq.trans (b := 132) Zy tZ_49.symm)<|rld Jl) .nil) Y Y<|.dat Y)<|Ra Y<|Za<|K5 0 2 3 6 7 Y<|Tr<|Rm Y<|Rm Y<|Rq Y (.guarded (y == false) Y Y Y Y fun h => Zd<|ov Y)<|Rq Y (.guarded (y == false) Y Y Y Y fun h => Ji<|ow Y h)<|Rq Y (JH (ov Y) fun hp=>ow Y<|gF hp)<|Za<|K4 0 2 3 34 Y<|If h Y (fun h=>?_) fun h=>?_
  ·
   refine K2 2 3 Y<|Tr<|Rq Y (Zc (ov Y) Y Y XN)<|Rq Y (Zj (ov Y) Y Y Y tS3<|Zl at8)<|Rq Y (Zc (ov Y) Y Y Zdf)<|Rq Y (Zj (ov Y) Y Y Y tS3<|Zl ZgM)<|Rq Y (Zcb (zr := (.int .i64 0) :: ((List.map C26 (Vector.replicate 64 0).toList) ++ (((List.map C3 (Vector.replicate 64 0).toList) ++ ((.bool false) :: (.int .i64 0) :: (.bool false) :: []))))) ZiQ Zjn ZdJ (by kernel_rfl) (.cons (cvs (ov Y)<|ZY Y)<|.cons (cvs (ov Y)<|ZY Y)<|.cons (cvs (ov Y)<|ZY Y) .nil)<|JC Y Y at8 pt9<|JC Y Y ZgM Zk8<|JC Y Y Zn2 Zpt ZeI)<|Rx Y (Ze (ov Y) (ov Y) (Zo Xk Zy) Y Y Y (ZF (Zg Zy) Zy) (Zb Zc3)<|ZK<|Eq.trans Zy<|Eq.symm Zy)<|Za<|?_
   obtain rfl := rt h
   exact Zu (ZL Y (.one<|.agg Y Y Y Y Xk (Zr<|Zg Zy) Zy (pwB Jl) (hns := ZbN)))
  ·
   refine Zm<|I1 (fun out=>⟨[(2, .ptr 0 1 0 0), (3, .ptr 1 1 0 0)], [some ⟨49, [(.int .i64 0) :: ((List.map C26 (Vector.replicate 64 0).toList) ++ (((List.map C3 (Vector.replicate 64 0).toList) ++ ((.bool false) :: (.int .i64 0) :: (.bool false) :: []))))]⟩, some ⟨49, [(.int .i64 out.Number) :: ((List.map C26 out.Frame.toList) ++ (((List.map C3 out.States.toList) ++ ((.bool out.Sound) :: (.int .i64 out.Copies) :: (.bool out.Conflict) :: []))))]⟩]⟩) h (fun h=>?_) fun out h=>?_
   ·
    refine K3 0 2 3 Y<|Tr<|Rq Y (Zc (ov Y) Y Y Zdq)<|Rq Y (Zj (ov Y) Y Y Y tS4<|Zl Zgk)<|R1 Ji Y<|Za<|K4 0 2 3 42 Y<|If h Y (fun h=>?_) fun h=>?_
    ·
     refine K3 0 2 3 Y<|Tr<|Rm Y<|bE h fun y3 h_y3 h=>Rx Y (Zdj [1] (ZdK h_y3) (.cons (ov Y) (.ptr _ _ _ Y)<|.cons (ov Y) (.dat Y) .nil) (.cons Y (ro1 (by exact Eq.trans (b := 132) Zy tZ_49.symm)<|rld Jl) .nil) Y (.keep Y Y<|.lent 0 (.inl Y) Y (ro1 (by exact Eq.trans (b := 132) Zy tZ_49.symm)<|rld Jl) .nil) Y Y<|ZgF<|rld Y)<|Za<|K2 2 3 Y<|Tr<|Rq Y (ZB (ov Y) Y Y Y Xk (Zr<|Zg Zy) Zy (hns := ZbN))<|bE h fun y4 h_y4 h=>Rq Y (Zq (Zgi h_y4)<|.cons (ov Y) (.aggB Jl)<|.cons (ov Y) (.b Y)<|.cons (ov Y) (.b Y) .nil)<|R1 Ji Y<|Rm Y<|Rq Y (.guarded ((!y4) == true) Y Y Y Y fun h => Zc (ov Y) Y Y X9)<|Rq Y (.guarded ((!y4) == true) Y Y Y Y fun h => ZB (ow Y h) Y Y Y Z7 (Zr Zbo) arL (hns := (nsM fun _ => Y)))<|Rq Y (.guarded ((!y4) == true) Y Y Y Y fun h => Zc (ov Y) Y Y XN)<|Rq Y (.guarded ((!y4) == true) Y Y Y Y fun h => Zj (ow Y h) Y Y Y tS3<|Zl at8)<|bE h fun y5 h_y5 h=>Rq Y (.guarded ((!y4) == true) Y Y Y Y fun h => Zq (Zcl<|gdT h_y5 h)<|.cons (ow Y h) (.aggB<|arD fun _ => Y)<|.cons (ow Y h) (.b Y) .nil)<|Rq Y (XU (ov Y) fun hp=>ow Y<|gT hp)<|Za<|K3 2 3 54 Y<|If h Y (fun h=>?_) fun h=>?_
     ·
      exact K2 2 3 Y<|ZC<|bE h fun y6 h_y6 h=>Rq Y (Zq (Za3 h_y6)<|.cons (ov Y) (.b Y) .nil)<|Rq Y (Zc (ov Y) Y Y Zdq)<|Rx Y (Ze (ov Y) (ov Y) (Zf tS4) Y Y Y (ZF Zgk Y) (Zb Y) ZkM)<|Rq Y (Zc (ov Y) Y Y Jd)<|Rx Y (Ze (ov Y) (ov Y) (Zo ZiJ arL) Y Y Y (ZF Zai arL) (Zb<|arC fun _ => Y) Zgj)<|Rq Y (Zc (ov Y) Y Y Zdf)<|Rx Y (Ze (ov Y) (ov Y) (Zf tS3) Y Y Y (ZF ZgM Y) (Zb Y) Zk8)<|Za<|⟨_, h, ES [some 0, some 1]⟩
     ·
      exact Zm<|⟨_, h, ES [some 0, some 1]⟩
    ·
     exact Zm<|⟨_, h, ES [some 0, some 1]⟩
   ·
    refine Zs<|Tr<|Rq Y (Zc (ov Y) Y Y Zdq)<|Rq Y (Zj (ov Y) Y Y Y tS4<|Zl Zgk)<|Rm Y<|Rq Y (.guarded (out.Sound == true) Y Y Y Y fun h => ZB (ov Y) Y Y Y Xk (Zr<|Zg Zy) Zy (hns := ZbN))<|bE h fun y7 h_y7 h=>Rq Y (.guarded (out.Sound == true) Y Y Y Y fun h => Zq (ZdX<|gdT h_y7 h)<|.cons (ow Y h) (.aggB Jl)<|.cons (ov Y) (.b Y) .nil)<|Rq Y (XU (ov Y) fun hp=>ow Y<|gT hp)<|Za<|K3 2 3 64 Y<|If h Y (fun h=>?_) fun h=>?_
    ·
     refine K2 2 3 Y<|ZC<|Rq Y (Zc (ov Y) Y Y Zdf)<|Rq Y (Zj (ov Y) Y Y Y tS3<|Zl ZgM)<|Rq Y (Zjm (ov Y) (ov Y) Y)<|Rq Y (Zc (ov Y) Y Y Zdf)<|Rx Y (Ze (ov Y) (ov Y) (Zf tS3) Y Y Y (ZF ZgM Y) (Zb Y) Zk8)<|Za<|K2 2 3 Y<|Tr<|Rq Y (ZB (ov Y) Y Y Y Xk (Zr<|Zg Zy) Zy (hns := ZbN))<|Rx Y (Ze (ov Y) (ov Y) (Zo Xk Zy) Y Y Y (ZF (Zg Zy) Zy) (Zb Zc3)<|ZK<|Eq.trans Zy<|Eq.symm Zy)<|Za<|?_
     obtain rfl := rt h
     exact Zu (ZL Y (.one<|.agg Y Y Y Y Xk (Zr<|Zg Zy) Zy (pwB Jl) (hns := ZbN)))
    ·
     refine Zm<|K2 2 3 Y<|Tr<|Rq Y (ZB (ov Y) Y Y Y Xk (Zr<|Zg Zy) Zy (hns := ZbN))<|Rx Y (Ze (ov Y) (ov Y) (Zo Xk Zy) Y Y Y (ZF (Zg Zy) Zy) (Zb Zc3)<|ZK<|Eq.trans Zy<|Eq.symm Zy)<|Za<|?_
     obtain rfl := rt h
     exact Zu (ZL Y (.one<|.agg Y Y Y Y Xk (Zr<|Zg Zy) Zy (pwB Jl) (hns := ZbN)))
theorem ZeF {l : List api_Rest} {r : (List api_Rest)} (h : QH l = some r) :
 CSpec Tryz.prog gl0 27 [.sl 49 (List.map R49 l)] (.sl 49 (List.map R49 r)) := by
 unfold QH at h
 replace h := Qf h
 refine So Tryz.func27 Y fun w0 A=>Tr<|Ra Y<|Za<|K1 0 Y<|Tr<|Rx Y (ZfO 0 Y Jf)<|Ra Y<|Za<|K2 0 3 Y<|Tr<|Ra Y<|Za<|I2 (fun groups numbers=>⟨[(3, .mref 0 1), (4, .own 1 numbers.length)], [some ⟨93, [[.mcon (List.map (Qw FK3 (osF 49 R49)) groups)]]⟩, some ⟨3, List.map R3 numbers⟩]⟩) h (fun h=>?_) fun groups numbers h=>?_
 ·
  refine Tr<|Rm Y<|Rl tZ_49 Xo Y<|Rm Y<|Za<|Zn<|?_
  obtain ⟨r1, hl1, ho1⟩ := Xq h
  refine L3 (fun groups2 numbers2 i=>⟨[(3, .mref 0 1), (4, .own 1 numbers2.length), (11, .sl 49 (List.map R49 l)), (12, .int .i64 (l.length : Int)), (13, .int .i64 i)], [some ⟨93, [[.mcon (List.map (Qw FK3 (osF 49 R49)) groups2)]]⟩, some ⟨3, List.map R3 numbers2⟩]⟩) hl1 (ES [some 0, none] (hhp := .cons Y (ZS (fk := FK3) (fv := (osF 49 R49)) (m := ([] : List (Int × (List api_Rest)))) tZ_93 (fun _=>.dat Y) fun _=>Zbi D49)<|.row 3 .nil)) fun n1 groups2 numbers2 i h=>?_
  unfold Q7 at h
  refine Tr<|R2 Z4 Y<|Za<|Zs<|If h Y (fun h=>?_) fun h=>?_
  ·
   refine Zm<|I2 (fun groups3 numbers3=>⟨[(3, .mref 0 1), (4, .own 1 numbers3.length), (11, .sl 49 (List.map R49 l)), (12, .int .i64 (l.length : Int)), (13, .int .i64 i)], [some ⟨93, [[.mcon (List.map (Qw FK3 (osF 49 R49)) groups3)]]⟩, some ⟨3, List.map R3 numbers3⟩]⟩) h (fun h=>?_) fun groups3 numbers3 h=>?_
   ·
    refine Zn<|K5 3 4 11 12 13 Y<|Tr<|bE h fun x h_x h=>Rq Y (ZX (ov Y) (ov Y) Xo h_x)<|Rq Y (ZD (ov Y) Xk (Zr<|Zg Zy) Zy)<|Rx Y (ZP (row := (.int .i64 0) :: ((List.map C26 (Vector.replicate 64 0).toList) ++ (((List.map C3 (Vector.replicate 64 0).toList) ++ ((.bool false) :: (.int .i64 0) :: (.bool false) :: []))))) 2 Y ZdJ (by kernel_rfl)<|by exact Eq.symm (Eq.trans (b := 132) Zy tZ_49.symm))<|Rx Y (Ze (ov Y) (ov Y) (Zo Xk Zy) Y Y Y (ZF (Zg Zy) Zy) (Zb Zc3)<|ZK<|Eq.trans Zy<|Eq.symm Zy)<|Za<|I1 (fun numbers4=>⟨[(3, .mref 0 1), (4, .own 1 numbers4.length), (6, .ptr 2 1 0 0), (11, .sl 49 (List.map R49 l)), (12, .int .i64 (l.length : Int)), (13, .int .i64 i)], [some ⟨93, [[.mcon (List.map (Qw FK3 (osF 49 R49)) groups2)]]⟩, some ⟨3, List.map R3 numbers4⟩, some ⟨49, [(.int .i64 x.Number) :: ((List.map C26 x.Frame.toList) ++ (((List.map C3 x.States.toList) ++ ((.bool x.Sound) :: (.int .i64 x.Copies) :: (.bool x.Conflict) :: []))))]⟩]⟩) h (fun h=>?_) fun numbers4 h=>?_
    ·
     refine K6 3 4 6 11 12 13 Y<|Tr<|Rm Y<|Rq Y (Zc (ov Y) Y Y XN)<|Rq Y (Zj (ov Y) Y Y Y tS3<|Zl at8)<|bE h fun z h_z h=>?_
     rcases z with z | z
     ·
      replace h := ell h
      refine Rq Y (ZhF (e1 := 49) (R := R49) (m := groups2) (k := x.Number) (ZfL h_z) (ov Y) (ov Y) Jf Qn Y (fun _=>.b Y)<|Zt Zdt Y)<|Rq Y (Zl2 (ng := false) (ov Y) ZiM)<|Za<|K7 3 4 6 11 12 13 21 Y<|Zk7 h Y (fun b21 h=>?_) fun b21 h=>?_
      ·
       exact K6 3 4 6 11 12 13 Y<|ZC<|Rm Y<|Rq Y (Zc (ov Y) Y Y XN)<|Rq Y (Zj (ov Y) Y Y Y tS3<|Zl at8)<|R_q (.sl 3<|List.map R3 ([x.Number] : List Int)) Y (X5 QQ (.cons (cvs (ov Y)<|ZY Y) Y (.cons (.b Y) .nil) .nil) Y Y)<|bE h fun l2 h_l2 h=>Rx Y (Zv (ov Y) (ZE (ov Y) tZ_3) QQ Y Y Y (fun _=>Zb Y) Y h_l2)<|Ra Y<|Za<|⟨_, h, ES [some 0, some 1, some 2] (hhp := .cons Y (ZS (fk := FK3) (fv := (osF 49 R49)) (m := groups2) tZ_93 (fun _=>.dat Y) fun _=>Zbi D49)<|.cons Y (roM D3)<|.cons Y (ro1 (by exact Eq.trans (b := 132) Zy tZ_49.symm)<|rld Jl) .nil)⟩
      ·
       exact Bool.noConfusion b21
     ·
      replace h := elr h
      refine ZdF (Ent.focusMk1 (e := 49) (R := R49) (m := groups2) (k := x.Number) (r := 0) Y tZ_93 (ZcL h_z) D49)<|Rq Y (Zhw (e1 := 49) (R := R49) (m := groups2) (k := x.Number) (ov Y) (ov Y) Jf Qn Y (fun _=>.b Y)<|Zt Zdt Y)<|bE h fun u h_u h=>Rq Y (ZlX (ng := false) (ov Y) ZiM Y (List.length_map ..) h_u)<|ZdF (by exact Ent.absorbMs1 (e := 49) (R := R49) (m := groups2) (k := x.Number) (ys := z) (fk := FK3) (r := 0) (q := 3) (ZcL h_z) rfl tZ_93 rfl rfl rfl)<|Za<|K7 3 4 6 11 12 13 21 Y<|Zk7 h Y (fun b21 h=>?_) fun b21 h=>?_
      ·
       exact Bool.noConfusion b21
      ·
       exact Zm<|⟨_, h, ES [some 0, some 1, some 2] (hhp := .cons Y (ZS (fk := FK3) (fv := (osF 49 R49)) (m := groups2) tZ_93 (fun _=>.dat Y) fun _=>Zbi D49)<|.cons Y (roM D3)<|.cons Y (ro1 (by exact Eq.trans (b := 132) Zy tZ_49.symm)<|rld Jl) .nil)⟩
    ·
     refine bE h fun z2 h_z2 h=>?_
     rcases z2 with z2 | z2
     ·
      replace h := ell h
      refine Zac (cw := md0) (by kernel_rfl)<|D1 3 Zd Y<|Dq 4 Y (Zc (ov Y) Y Y XN)<|Dq 5 Y (Zj (ov Y) Y Y Y tS3<|Zl at8)<|Dq 6 Y (ZhF (e1 := 49) (R := R49) (m := groups2) (k := x.Number) (ZfL h_z2) (ov Y) (ov Y) Jf Qn Y (fun _=>.b Y)<|Zt Zdt Y)<|Dq 7 Y (ZB (ov Y) Y Y Y Xk (Zr<|Zg Zy) Zy (hns := ZbN))<|Zin 8 (.sl 49<|List.map R49 ([x] : List api_Rest)) Y (by kernel_rfl) Y Y (X5 Xo (.cons (cva<|ov Y) Zy (pwD Jl) .nil) Y Y)<|ZaG 0 _ Y (by kernel_rfl) Y Y (fun hp'=>Zd<|ov Y)<|bE h fun l3 h_l3 h=>Dw 1 9 Y (Zc (ov Y) Y Y XN) (Zay (r := 3) Y (ov Y) (ZE (ov Y) tZ_49) Xo Y h_l3) ?_ ?_
      ·
       refine Dw 2 9 Y (Zj (ov Y) Y Y Y tS3<|Zl at8) (Zay (r := 3) Y (ov Y) (ZE (ov Y) tZ_49) Xo Y h_l3) ?_ ?_
       ·
        exact Do 9 Y (Zay (r := 3) Y (ov Y) (ZE (ov Y) tZ_49) Xo Y h_l3)<|Do 10 Y (Zfz (e1 := 49) (R := R49) (m := groups2) (k := x.Number) (ov Y) (ov Y) (ov Y) Jf Qn Y fun _=>.b Y)<|Zaq (by kernel_rfl) (Ent.absorbMk1 (e := 49) (R := R49) (m := groups2) (k := x.Number) (ys := l3) (fk := FK3) (r := 0) (q := 3) Y tZ_93 Y Y Y)<|⟨_, h, ES [some 0, some 1] (hhp := .cons Y (ZS (fk := FK3) (fv := (osF 49 R49)) (m := (ZV kqI groups2 x.Number l3)) tZ_93 (fun _=>.dat Y) fun _=>Zbi D49)<|.cons Y (roM D3) .nil)⟩
       ·
        exact Dq 2 Y (Zj (ov Y) Y Y Y tS3<|Zl at8)<|Do 10 Y (Zfz (e1 := 49) (R := R49) (m := groups2) (k := x.Number) (ov Y) (ov Y) (ov Y) Jf Qn Y fun _=>.b Y)<|Zaq (by kernel_rfl) (Ent.absorbMk1 (e := 49) (R := R49) (m := groups2) (k := x.Number) (ys := l3) (fk := FK3) (r := 0) (q := 3) Y tZ_93 Y Y Y)<|⟨_, h, ES [some 0, some 1] (hhp := .cons Y (ZS (fk := FK3) (fv := (osF 49 R49)) (m := (ZV kqI groups2 x.Number l3)) tZ_93 (fun _=>.dat Y) fun _=>Zbi D49)<|.cons Y (roM D3) .nil)⟩
      ·
       exact Dq 1 Y (Zc (ov Y) Y Y XN)<|Dq 2 Y (Zj (ov Y) Y Y Y tS3<|Zl at8)<|Do 10 Y (Zfz (e1 := 49) (R := R49) (m := groups2) (k := x.Number) (ov Y) (ov Y) (ov Y) Jf Qn Y fun _=>.b Y)<|Zaq (by kernel_rfl) (Ent.absorbMk1 (e := 49) (R := R49) (m := groups2) (k := x.Number) (ys := l3) (fk := FK3) (r := 0) (q := 3) Y tZ_93 Y Y Y)<|⟨_, h, ES [some 0, some 1] (hhp := .cons Y (ZS (fk := FK3) (fv := (osF 49 R49)) (m := (ZV kqI groups2 x.Number l3)) tZ_93 (fun _=>.dat Y) fun _=>Zbi D49)<|.cons Y (roM D3) .nil)⟩
     ·
      replace h := elr h
      refine ZgV (Ent.focusMk1 (e := 49) (R := R49) (m := groups2) (k := x.Number) (r := 0) Y tZ_93 (ZcL h_z2) D49)<|Zac (cw := md0) (by kernel_rfl)<|D1 3 Zd Y<|Dq 4 Y (Zc (ov Y) Y Y XN)<|Dq 5 Y (Zj (ov Y) Y Y Y tS3<|Zl at8)<|Dq 6 Y (Zhw (e1 := 49) (R := R49) (m := groups2) (k := x.Number) (ov Y) (ov Y) Jf Qn Y (fun _=>.b Y)<|Zt Zdt Y)<|Dq 7 Y (ZB (ov Y) Y Y Y Xk (Zr<|Zg Zy) Zy (hns := ZbN))<|Zin 8 (.sl 49<|List.map R49 ([x] : List api_Rest)) Y (by kernel_rfl) Y Y (X5 Xo (.cons (cva<|ov Y) Zy (pwD Jl) .nil) Y Y)<|ZaG 0 _ Y (by kernel_rfl) Y Y (fun hp'=>Zd<|ov Y)<|bE h fun l4 h_l4 h=>Dw 1 9 Y (Zc (ov Y) Y Y XN) (Zv (ov Y) (ZE (ov Y) tZ_49) Xo Y Y Y (fun x=>Zb<|E49 x) Y h_l4) ?_ ?_
      ·
       refine Dw 2 9 Y (Zj (ov Y) Y Y Y tS3<|Zl at8) (Zv (ov Y) (ZE (ov Y) tZ_49) Xo Y Y Y (fun x=>Zb<|E49 x) Y h_l4) ?_ ?_
       ·
        exact Do 9 Y (Zv (ov Y) (ZE (ov Y) tZ_49) Xo Y Y Y (fun x=>Zb<|E49 x) Y h_l4)<|Do 10 Y (ZfW (e1 := 49) (R := R49) (m := groups2) (k := x.Number) (ov Y) (ov Y) (ov Y) Jf Qn Y fun _=>.b Y)<|Zaq (by kernel_rfl) (Ent.absorbMk1 (e := 49) (R := R49) (m := groups2) (k := x.Number) (ys := l4) (fk := FK3) (r := 0) (q := 3) Y tZ_93 Y Y Y)<|⟨_, h, ES [some 0, some 1] (hhp := .cons Y (ZS (fk := FK3) (fv := (osF 49 R49)) (m := (ZV kqI groups2 x.Number l4)) tZ_93 (fun _=>.dat Y) fun _=>Zbi D49)<|.cons Y (roM D3) .nil)⟩
       ·
        exact Dq 2 Y (Zj (ov Y) Y Y Y tS3<|Zl at8)<|Do 10 Y (ZfW (e1 := 49) (R := R49) (m := groups2) (k := x.Number) (ov Y) (ov Y) (ov Y) Jf Qn Y fun _=>.b Y)<|Zaq (by kernel_rfl) (Ent.absorbMk1 (e := 49) (R := R49) (m := groups2) (k := x.Number) (ys := l4) (fk := FK3) (r := 0) (q := 3) Y tZ_93 Y Y Y)<|⟨_, h, ES [some 0, some 1] (hhp := .cons Y (ZS (fk := FK3) (fv := (osF 49 R49)) (m := (ZV kqI groups2 x.Number l4)) tZ_93 (fun _=>.dat Y) fun _=>Zbi D49)<|.cons Y (roM D3) .nil)⟩
      ·
       exact Dq 1 Y (Zc (ov Y) Y Y XN)<|Dq 2 Y (Zj (ov Y) Y Y Y tS3<|Zl at8)<|Do 10 Y (ZfW (e1 := 49) (R := R49) (m := groups2) (k := x.Number) (ov Y) (ov Y) (ov Y) Jf Qn Y fun _=>.b Y)<|Zaq (by kernel_rfl) (Ent.absorbMk1 (e := 49) (R := R49) (m := groups2) (k := x.Number) (ys := l4) (fk := FK3) (r := 0) (q := 3) Y tZ_93 Y Y Y)<|⟨_, h, ES [some 0, some 1] (hhp := .cons Y (ZS (fk := FK3) (fv := (osF 49 R49)) (m := (ZV kqI groups2 x.Number l4)) tZ_93 (fun _=>.dat Y) fun _=>Zbi D49)<|.cons Y (roM D3) .nil)⟩
   ·
    exact ZC<|R2 Z2 Y<|Rm Y<|Za<|⟨_, h, ES [some 0, some 1] (hhp := .cons Y (ZS (fk := FK3) (fv := (osF 49 R49)) (m := groups3) tZ_93 (fun _=>.dat Y) fun _=>Zbi D49)<|.cons Y (roM D3) .nil)⟩
  ·
   refine ZT<|?_
   replace h := lx h ▸ ho1
   exact ⟨_, h, ES [some 0, some 1] (hhp := .cons Y (ZS (fk := FK3) (fv := (osF 49 R49)) (m := groups2) tZ_93 (fun _=>.dat Y) fun _=>Zbi D49)<|.cons Y (roM D3) .nil)⟩
 ·
  refine Tr<|Rm Y<|bE h fun y h_y h=>Rx Y (Zdj [1] (ZhS h_y) (.cons (ov Y) (.own _ Y) .nil) (.cons Y (roM D3) .nil) Y (.keep Y Y<|.lent 0 (.inl Y) Y (roM D3) .nil) Y Y<|ZgF<|rld Y)<|Za<|K2 3 4 Y<|Tr<|Ra Y<|Za<|I1 (fun out=>⟨[(7, .own 0 out.length)], [some ⟨49, List.map R49 out⟩]⟩) h (fun h=>?_) fun out h=>?_
  ·
   refine Tr<|Rm Y<|Rq Y (ZcN (ov Y) Y (ZdZ h_y) QQ)<|Rm Y<|Za<|Zn<|?_
   obtain ⟨r2, hl2, ho2⟩ := Xq h
   refine L2 (fun out2 i2=>⟨[(3, .mref 0 1), (7, .own 1 out2.length), (40, .own 2 y.length), (41, .int .i64 (y.length : Int)), (42, .int .i64 i2)], [some ⟨93, [[.mcon (List.map (Qw FK3 (osF 49 R49)) groups)]]⟩, some ⟨49, List.map R49 out2⟩, some ⟨3, List.map R3 y⟩]⟩) hl2 (Ent.sel [some 0, none, some 1] (sr 3 Y (.mref _ Y)<|sr 7 Y (.row Y)<|sr 40 Y (ZkU (Eq.symm<|ZdZ h_y) Y)<|sd 41 Y Y<|sd 42 Y Y sn) (.cons Y (ZS (fk := FK3) (fv := (osF 49 R49)) (m := groups) tZ_93 (fun _=>.dat Y) fun _=>Zbi D49)<|.row 49<|.cons Y (roM D3) .nil) Y Y) fun n2 out2 i2 h=>?_
   unfold Q5 at h
   refine Tr<|R2 Z4 Y<|Za<|Zs<|If h Y (fun h=>?_) fun h=>?_
   ·
    refine Zm<|Zs<|Zn<|K5 3 7 40 41 42 Y<|Tr<|bE h fun x2 h_x2 h=>Rq Y (Za2 (ov Y) (ov Y) QQ Y Y h_x2)<|Rq Y (Zc1 (ov Y) Y Y h_x2 tS3 Y)<|Ra Y<|Za<|K6 3 7 9 40 41 42 Y<|ZC<|Rm Y<|Rm Y<|Rm Y<|bE h fun z3 h_z3 h=>?_
    rcases z3 with z3 | z3
    ·
     replace h := ell h
     exact Rq Y (ZhF (e1 := 49) (R := R49) (m := groups) (k := x2) (ZfL h_z3) (ov Y) (ov Y) Jf Qn Y (fun _=>.b Y)<|Zt Zdt Y)<|bE h fun y2 h_y2 h=>Rq Y (Zq (J7 h_y2)<|.cons (ov Y) (Dat.nils _) .nil)<|R_q (.sl 49<|List.map R49 ([y2] : List api_Rest)) Y (X5 Xo (.cons (cva<|ov Y) Zy (pwD Jl) .nil) Y Y)<|bE h fun l5 h_l5 h=>Rx Y (Zv (ov Y) (ZE (ov Y) tZ_49) Xo Y Y Y (fun x=>Zb<|E49 x) Y h_l5)<|Ra Y<|Za<|K5 3 7 40 41 42 Y<|ZC<|R2 Z2 Y<|Rm Y<|Za<|⟨_, h, ES [some 0, some 1, some 2] (hhp := .cons Y (ZS (fk := FK3) (fv := (osF 49 R49)) (m := groups) tZ_93 (fun _=>.dat Y) fun _=>Zbi D49)<|.cons Y (roM D49)<|.cons Y (roM D3) .nil)⟩
    ·
     replace h := elr h
     exact ZdF (Ent.focusMk1 (e := 49) (R := R49) (m := groups) (k := x2) (r := 0) Y tZ_93 (ZcL h_z3) D49)<|Rq Y (Zhw (e1 := 49) (R := R49) (m := groups) (k := x2) (ov Y) (ov Y) Jf Qn Y (fun _=>.b Y)<|Zt Zdt Y)<|bE h fun y3 h_y3 h=>Rq Y (J5 (J7 h_y3) (.agg<|faC .int<|faA (faV fun _ => .int)<|faA (faV fun _ => .int)<|faC .bool<|faC .int<|faC .bool faN)<|.cons (ov Y) (View.ownM Y Y D49) .nil)<|R_q (.sl 49<|List.map R49 ([y3] : List api_Rest)) Y (X5 Xo (.cons (cva<|ov Y) Zy (pwD Jl) .nil) Y Y)<|bE h fun l6 h_l6 h=>Rx Y (Zv (ov Y) (ZE (ov Y) tZ_49) Xo Y Y Y (fun x=>Zb<|E49 x) Y h_l6)<|Ra Y<|ZdF (by exact Ent.absorbMs1 (e := 49) (R := R49) (m := groups) (k := x2) (ys := z3) (fk := FK3) (r := 0) (q := 3) (ZcL h_z3) rfl tZ_93 rfl rfl rfl)<|Za<|K5 3 7 40 41 42 Y<|ZC<|R2 Z2 Y<|Rm Y<|Za<|⟨_, h, ES [some 0, some 1, some 2] (hhp := .cons Y (ZS (fk := FK3) (fv := (osF 49 R49)) (m := groups) tZ_93 (fun _=>.dat Y) fun _=>Zbi D49)<|.cons Y (roM D49)<|.cons Y (roM D3) .nil)⟩
   ·
    refine ZT<|?_
    replace h := lx h ▸ ho2
    exact ⟨_, h, ES [some 1]⟩
  ·
   refine Tr<|Rm Y<|Ra Y<|Za<|?_
   obtain rfl := rt h
   exact Zu (ZL Y (.one<|.tmp Y<|View.ownM Y Y D49))
theorem ZfG {h_ : List Int} {r : (List api_Rest)} (h : X1 h_ = some r) :
 CSpec Tryz.prog gl0 25 [.sl 5 (List.map R5 h_)] (.sl 49 (List.map R49 r)) := by
 unfold X1 at h
 replace h := Qf h
 refine So Tryz.func25 Y fun w0 A=>Tr<|Ra Y<|Za<|K1 0 Y<|Tr<|Rm Y<|bE h fun y h_y h=>Rq Y (Zq (ZdU h_y)<|.cons (ov Y) (.b Y) .nil)<|Ra Y<|Za<|K1 3 Y<|Tr<|Ra Y<|Za<|I1 (fun l=>⟨[(4, .own 0 l.length)], [some ⟨49, List.map R49 l⟩]⟩) h (fun h=>?_) fun l h=>?_
 ·
  refine Tr<|Rm Y<|R1 ZQ Y<|Rq Y (ZI (ov Y) Zbq)<|Rq Y (Zh (ov Y) Zep Y)<|Rl tZ_51 Je Y<|Rm Y<|Za<|Zn<|?_
  obtain ⟨r1, hl1, ho1⟩ := Xq h
  refine L2 (fun l2 i=>⟨[(3, .rp [.sl 5 (List.map R5 y.h_), .sl 51 (List.map R51 y.certain), .sl 3 (List.map R3 y.numbers), .any] 0), (4, .own 0 l2.length), (16, .sl 51 (List.map R51 y.certain)), (17, .int .i64 (y.certain.length : Int)), (18, .int .i64 i)], [some ⟨49, List.map R49 l2⟩]⟩) hl1 (ES [none]) fun n1 l2 i h=>?_
  unfold Xx at h
  refine Tr<|R2 Z4 Y<|Za<|Zs<|If h Y (fun h=>?_) fun h=>?_
  ·
   refine Zm<|I1 (fun l3=>⟨[(3, .rp [.sl 5 (List.map R5 y.h_), .sl 51 (List.map R51 y.certain), .sl 3 (List.map R3 y.numbers), .any] 0), (4, .own 0 l3.length), (16, .sl 51 (List.map R51 y.certain)), (17, .int .i64 (y.certain.length : Int)), (18, .int .i64 i)], [some ⟨49, List.map R49 l3⟩]⟩) h (fun h=>?_) fun l3 h=>?_
   ·
    refine Zn<|K5 3 4 16 17 18 Y<|Tr<|Rm Y<|bE h fun x h_x h=>Rq Y (ZX (ov Y) (ov Y) Je h_x)<|Rq Y (ZD (ov Y) Zek (Zr<|Zg ln4) ln4)<|Rx Y (ZP (row := (.int .i64 0) :: ((List.map C26 (Vector.replicate 64 0).toList) ++ ([]))) 1 Y ZjB (by kernel_rfl)<|by exact Eq.symm (Eq.trans (b := 65) ln4 tZ_51.symm))<|Ra Y<|Rx Y (Ze (ov Y) (ov Y) (Zo Zek ln4) Y Y Y (ZF (Zg ln4) ln4) (Zb al6)<|ZK<|Eq.trans ln4<|Eq.symm ln4)<|Za<|K7 3 4 5 6 16 17 18 Y<|Td md0<|D1 0 Zd Y<|D1 1 Zd Y<|D1 2 ZQ Y<|Dq 3 Y (ZI (ov Y) Ql)<|Dq 4 Y (Zh (ov Y) QZ Y)<|D1 5 Zd Y<|bE h fun x2 h_x2 h=>Dq 6 Y (ZX (ov Y) (ov Y) QQ h_x2)<|Dq 7 Y (Zh (ov Y) tS3 Y)<|Dq 8 Y (Zc (ov Y) Y Y ZjN)<|Dq 9 Y (ZB (ov Y) Y Y Y Z7 (Zr at2) arL (hns := (nsM fun _ => Y)))<|bE h fun y2 h_y2 h=>Dq 10 Y (Zq (Za3 h_y2)<|.cons (ov Y) (.b Y) .nil)<|Dq 11 Y (Zcb (zr := (.int .i64 0) :: ((List.map C26 (Vector.replicate 64 0).toList) ++ (((List.map C3 (Vector.replicate 64 0).toList) ++ ((.bool false) :: (.int .i64 0) :: (.bool false) :: []))))) ZiQ Zjn ZdJ (by kernel_rfl) (.cons (cvs (ov Y)<|ZY Y)<|.cons (cva<|ov Y)<|.cons (cva<|ov Y)<|.cons (cvs (ov Y)<|ZY Y)<|.cons (cvs (ov Y)<|ZY Y) .nil)<|JC Y Y at8 pt9<|JC Y arL Zbo Zhs<|JC Y arL Zai Zgj<|JC Y Y Zgk ZkM<|JC Y Y ZgM Zk8 ZeI)<|Zin 12 (.sl 49<|List.map R49 ([(api_Rest.mk x2 x.Frame y2 true 1 false)] : List api_Rest)) Y (by kernel_rfl) Y Y (X5 Xo (.cons (cva<|ov Y) Zy (pwD Jl) .nil) Y Y)<|bE h fun l4 h_l4 h=>Do 13 Y (Zv (ov Y) (ZE (ov Y) tZ_49) Xo Y Y Y (fun x=>Zb<|E49 x) Y h_l4)<|D1 14 QE Y<|Dd<|K6 3 4 5 16 17 18 Y<|Tr<|Rm Y<|Rm Y<|bE h fun y3 h_y3 h=>Rq Y (Zq (ZcQ h_y3)<|.cons (ov Y) (.b Y)<|.cons (ov Y) (.b Y) .nil)<|Rl tZ_3 QQ Y<|Rm Y<|Za<|Zn<|?_
    obtain ⟨r2, hl2, ho2⟩ := Xq h
    refine L2 (fun l5 i2=>⟨[(3, .rp [.sl 5 (List.map R5 y.h_), .sl 51 (List.map R51 y.certain), .sl 3 (List.map R3 y.numbers), .any] 0), (4, .own 0 l5.length), (5, .int .i64 i), (16, .sl 51 (List.map R51 y.certain)), (17, .int .i64 (y.certain.length : Int)), (18, .int .i64 i), (39, .sl 3 (List.map R3 y3)), (40, .int .i64 (y3.length : Int)), (41, .int .i64 i2)], [some ⟨49, List.map R49 l5⟩]⟩) hl2 (ES [some 0]) fun n2 l5 i2 h=>?_
    unfold XA at h
    refine Tr<|R2 Z4 Y<|Za<|Zs<|If h Y (fun h=>?_) fun h=>?_
    ·
     refine Zm<|Zs<|Zn<|K9 3 4 5 16 17 18 39 40 41 Y<|Tr<|bE h fun x3 h_x3 h=>Rq Y (ZX (ov Y) (ov Y) QQ h_x3)<|Rq Y (Zh (ov Y) tS3 Y)<|Ra Y<|Za<|K10 3 4 5 8 16 17 18 39 40 41 Y<|Tr<|Rm Y<|Rm Y<|Rm Y<|bE h fun y4 h_y4 h=>Rq Y (Zq (ZcT h_y4)<|.cons (ov Y) (.b Y)<|.cons (ov Y) (.b Y)<|.cons (ov Y) (.b Y) .nil)<|Rm Y<|Rq Y (Zi (ov Y) Y)<|Rq Y (Zi (ov Y) Y)<|Rx Y (ZP (row := (.int .i64 0) :: ((List.map C26 (Vector.replicate 64 0).toList) ++ (((List.map C3 (Vector.replicate 64 0).toList) ++ ((.bool false) :: (.int .i64 0) :: (.bool false) :: []))))) 1 Y ZdJ (by kernel_rfl)<|by exact Eq.symm (Eq.trans (b := 132) Zy tZ_49.symm))<|Rx Y (Ze (ov Y) (ov Y) (Zo Xk Zy) Y Y Y (ZF (Zg Zy) Zy) (Zb Zc3)<|ZK<|Eq.trans Zy<|Eq.symm Zy)<|Ra Y<|Za<|K11 3 4 5 9 10 16 17 18 39 40 41 Y<|Tr<|Rm Y<|Za<|K11 3 4 5 9 16 17 18 39 40 41 52 Y<|If h Y (fun h=>?_) fun h=>?_
     ·
      exact K10 3 4 5 9 16 17 18 39 40 41 Y<|ZC<|Rm Y<|Rq Y (ZB (ov Y) Y Y Y Xk (Zr<|Zg Zy) Zy (hns := ZbN))<|R_q (.sl 49<|List.map R49 ([y4.1] : List api_Rest)) Y (X5 Xo (.cons (cva<|ov Y) Zy (pwD Jl) .nil) Y Y)<|bE h fun l6 h_l6 h=>Rx Y (Zv (ov Y) (ZE (ov Y) tZ_49) Xo Y Y Y (fun x=>Zb<|E49 x) Y h_l6)<|Ra Y<|Za<|K9 3 4 5 16 17 18 39 40 41 Y<|ZC<|R2 Z2 Y<|Rm Y<|Za<|⟨_, h, ES [some 0]⟩
     ·
      exact Zm<|K9 3 4 5 16 17 18 39 40 41 Y<|ZC<|R2 Z2 Y<|Rm Y<|Za<|⟨_, h, ES [some 0]⟩
    ·
     refine ZT<|?_
     replace h := lx h ▸ ho2
     exact ⟨_, h, ES [some 0]⟩
   ·
    exact ZC<|R2 Z2 Y<|Rm Y<|Za<|⟨_, h, ES [some 0]⟩
  ·
   refine ZT<|?_
   replace h := lx h ▸ ho1
   exact ⟨_, h, ES [some 0]⟩
 ·
  refine Tr<|Rm Y<|bE h fun y5 h_y5 h=>ZdF (Ent.sel [none] (sr 4 Y (ZiZ Y Y Y D49)<|sr 59 Y (ZiZ Y Y Y D49) sn) (.row 49 .nil) Y Y)<|Rq Y (Zq (ZeF h_y5)<|.cons (ov Y) (.b Y) .nil)<|Ra Y<|Za<|?_
  obtain rfl := rt h
  exact Zu (ZL Y (.one<|rb Y))
theorem ZdQ {l : List api_Rest} {r : (List api_Rest)} (h : QH l = some r) :
 GSpec Tryz.prog gl0 27 [.sl 49 (List.map R49 l)] [] (.own 0 r.length) [some ⟨49, List.map R49 r⟩] := by
 unfold QH at h
 replace h := Qf h
 refine ZdL (by kernel_rfl) Tryz.func27 Y Y<|?_
 intro w0 A W φ0
 refine Tr<|Ra Y<|Za<|K1 0 Y<|Tr<|Rx Y (ZfO 0 Y Jf)<|Ra Y<|Za<|K2 0 3 Y<|Tr<|Ra Y<|Za<|I2 (fun groups numbers=>⟨[(3, .mref 0 1), (4, .own 1 numbers.length)], [some ⟨93, [[.mcon (List.map (Qw FK3 (osF 49 R49)) groups)]]⟩, some ⟨3, List.map R3 numbers⟩]⟩) h (fun h=>?_) fun groups numbers h=>?_
 ·
  refine Tr<|Rm Y<|Rl tZ_49 Xo Y<|Rm Y<|Za<|Zn<|?_
  obtain ⟨r1, hl1, ho1⟩ := Xq h
  refine L3 (fun groups2 numbers2 i=>⟨[(3, .mref 0 1), (4, .own 1 numbers2.length), (11, .sl 49 (List.map R49 l)), (12, .int .i64 (l.length : Int)), (13, .int .i64 i)], [some ⟨93, [[.mcon (List.map (Qw FK3 (osF 49 R49)) groups2)]]⟩, some ⟨3, List.map R3 numbers2⟩]⟩) hl1 (ES [some 0, none] (hhp := .cons Y (ZS (fk := FK3) (fv := (osF 49 R49)) (m := ([] : List (Int × (List api_Rest)))) tZ_93 (fun _=>.dat Y) fun _=>Zbi D49)<|.row 3 .nil)) fun n1 groups2 numbers2 i h=>?_
  unfold Q7 at h
  refine Tr<|R2 Z4 Y<|Za<|Zs<|If h Y (fun h=>?_) fun h=>?_
  ·
   refine Zm<|I2 (fun groups3 numbers3=>⟨[(3, .mref 0 1), (4, .own 1 numbers3.length), (11, .sl 49 (List.map R49 l)), (12, .int .i64 (l.length : Int)), (13, .int .i64 i)], [some ⟨93, [[.mcon (List.map (Qw FK3 (osF 49 R49)) groups3)]]⟩, some ⟨3, List.map R3 numbers3⟩]⟩) h (fun h=>?_) fun groups3 numbers3 h=>?_
   ·
    refine Zn<|K5 3 4 11 12 13 Y<|Tr<|bE h fun x h_x h=>Rq Y (ZX (ov Y) (ov Y) Xo h_x)<|Rq Y (ZD (ov Y) Xk (Zr<|Zg Zy) Zy)<|Rx Y (ZP (row := (.int .i64 0) :: ((List.map C26 (Vector.replicate 64 0).toList) ++ (((List.map C3 (Vector.replicate 64 0).toList) ++ ((.bool false) :: (.int .i64 0) :: (.bool false) :: []))))) 2 Y ZdJ (by kernel_rfl)<|by exact Eq.symm (Eq.trans (b := 132) Zy tZ_49.symm))<|Rx Y (Ze (ov Y) (ov Y) (Zo Xk Zy) Y Y Y (ZF (Zg Zy) Zy) (Zb Zc3)<|ZK<|Eq.trans Zy<|Eq.symm Zy)<|Za<|I1 (fun numbers4=>⟨[(3, .mref 0 1), (4, .own 1 numbers4.length), (6, .ptr 2 1 0 0), (11, .sl 49 (List.map R49 l)), (12, .int .i64 (l.length : Int)), (13, .int .i64 i)], [some ⟨93, [[.mcon (List.map (Qw FK3 (osF 49 R49)) groups2)]]⟩, some ⟨3, List.map R3 numbers4⟩, some ⟨49, [(.int .i64 x.Number) :: ((List.map C26 x.Frame.toList) ++ (((List.map C3 x.States.toList) ++ ((.bool x.Sound) :: (.int .i64 x.Copies) :: (.bool x.Conflict) :: []))))]⟩]⟩) h (fun h=>?_) fun numbers4 h=>?_
    ·
     refine K6 3 4 6 11 12 13 Y<|Tr<|Rm Y<|Rq Y (Zc (ov Y) Y Y XN)<|Rq Y (Zj (ov Y) Y Y Y tS3<|Zl at8)<|bE h fun z h_z h=>?_
     rcases z with z | z
     ·
      replace h := ell h
      refine Rq Y (ZhF (e1 := 49) (R := R49) (m := groups2) (k := x.Number) (ZfL h_z) (ov Y) (ov Y) Jf Qn Y (fun _=>.b Y)<|Zt Zdt Y)<|Rq Y (Zl2 (ng := false) (ov Y) ZiM)<|Za<|K7 3 4 6 11 12 13 21 Y<|Zk7 h Y (fun b21 h=>?_) fun b21 h=>?_
      ·
       exact K6 3 4 6 11 12 13 Y<|ZC<|Rm Y<|Rq Y (Zc (ov Y) Y Y XN)<|Rq Y (Zj (ov Y) Y Y Y tS3<|Zl at8)<|R_q (.sl 3<|List.map R3 ([x.Number] : List Int)) Y (X5 QQ (.cons (cvs (ov Y)<|ZY Y) Y (.cons (.b Y) .nil) .nil) Y Y)<|bE h fun l2 h_l2 h=>Rx Y (Zv (ov Y) (ZE (ov Y) tZ_3) QQ Y Y Y (fun _=>Zb Y) Y h_l2)<|Ra Y<|Za<|⟨_, h, ES [some 0, some 1, some 2] (hhp := .cons Y (ZS (fk := FK3) (fv := (osF 49 R49)) (m := groups2) tZ_93 (fun _=>.dat Y) fun _=>Zbi D49)<|.cons Y (roM D3)<|.cons Y (ro1 (by exact Eq.trans (b := 132) Zy tZ_49.symm)<|rld Jl) .nil)⟩
      ·
       exact Bool.noConfusion b21
     ·
      replace h := elr h
      refine ZdF (Ent.focusMk1 (e := 49) (R := R49) (m := groups2) (k := x.Number) (r := 0) Y tZ_93 (ZcL h_z) D49)<|Rq Y (Zhw (e1 := 49) (R := R49) (m := groups2) (k := x.Number) (ov Y) (ov Y) Jf Qn Y (fun _=>.b Y)<|Zt Zdt Y)<|bE h fun u h_u h=>Rq Y (ZlX (ng := false) (ov Y) ZiM Y (List.length_map ..) h_u)<|ZdF (by exact Ent.absorbMs1 (e := 49) (R := R49) (m := groups2) (k := x.Number) (ys := z) (fk := FK3) (r := 0) (q := 3) (ZcL h_z) rfl tZ_93 rfl rfl rfl)<|Za<|K7 3 4 6 11 12 13 21 Y<|Zk7 h Y (fun b21 h=>?_) fun b21 h=>?_
      ·
       exact Bool.noConfusion b21
      ·
       exact Zm<|⟨_, h, ES [some 0, some 1, some 2] (hhp := .cons Y (ZS (fk := FK3) (fv := (osF 49 R49)) (m := groups2) tZ_93 (fun _=>.dat Y) fun _=>Zbi D49)<|.cons Y (roM D3)<|.cons Y (ro1 (by exact Eq.trans (b := 132) Zy tZ_49.symm)<|rld Jl) .nil)⟩
    ·
     refine bE h fun z2 h_z2 h=>?_
     rcases z2 with z2 | z2
     ·
      replace h := ell h
      refine Zac (cw := md0) (by kernel_rfl)<|D1 3 Zd Y<|Dq 4 Y (Zc (ov Y) Y Y XN)<|Dq 5 Y (Zj (ov Y) Y Y Y tS3<|Zl at8)<|Dq 6 Y (ZhF (e1 := 49) (R := R49) (m := groups2) (k := x.Number) (ZfL h_z2) (ov Y) (ov Y) Jf Qn Y (fun _=>.b Y)<|Zt Zdt Y)<|Dq 7 Y (ZB (ov Y) Y Y Y Xk (Zr<|Zg Zy) Zy (hns := ZbN))<|Zin 8 (.sl 49<|List.map R49 ([x] : List api_Rest)) Y (by kernel_rfl) Y Y (X5 Xo (.cons (cva<|ov Y) Zy (pwD Jl) .nil) Y Y)<|ZaG 0 _ Y (by kernel_rfl) Y Y (fun hp'=>Zd<|ov Y)<|bE h fun l3 h_l3 h=>Dw 1 9 Y (Zc (ov Y) Y Y XN) (Zay (r := 3) Y (ov Y) (ZE (ov Y) tZ_49) Xo Y h_l3) ?_ ?_
      ·
       refine Dw 2 9 Y (Zj (ov Y) Y Y Y tS3<|Zl at8) (Zay (r := 3) Y (ov Y) (ZE (ov Y) tZ_49) Xo Y h_l3) ?_ ?_
       ·
        exact Do 9 Y (Zay (r := 3) Y (ov Y) (ZE (ov Y) tZ_49) Xo Y h_l3)<|Do 10 Y (Zfz (e1 := 49) (R := R49) (m := groups2) (k := x.Number) (ov Y) (ov Y) (ov Y) Jf Qn Y fun _=>.b Y)<|Zaq (by kernel_rfl) (Ent.absorbMk1 (e := 49) (R := R49) (m := groups2) (k := x.Number) (ys := l3) (fk := FK3) (r := 0) (q := 3) Y tZ_93 Y Y Y)<|⟨_, h, ES [some 0, some 1] (hhp := .cons Y (ZS (fk := FK3) (fv := (osF 49 R49)) (m := (ZV kqI groups2 x.Number l3)) tZ_93 (fun _=>.dat Y) fun _=>Zbi D49)<|.cons Y (roM D3) .nil)⟩
       ·
        exact Dq 2 Y (Zj (ov Y) Y Y Y tS3<|Zl at8)<|Do 10 Y (Zfz (e1 := 49) (R := R49) (m := groups2) (k := x.Number) (ov Y) (ov Y) (ov Y) Jf Qn Y fun _=>.b Y)<|Zaq (by kernel_rfl) (Ent.absorbMk1 (e := 49) (R := R49) (m := groups2) (k := x.Number) (ys := l3) (fk := FK3) (r := 0) (q := 3) Y tZ_93 Y Y Y)<|⟨_, h, ES [some 0, some 1] (hhp := .cons Y (ZS (fk := FK3) (fv := (osF 49 R49)) (m := (ZV kqI groups2 x.Number l3)) tZ_93 (fun _=>.dat Y) fun _=>Zbi D49)<|.cons Y (roM D3) .nil)⟩
      ·
       exact Dq 1 Y (Zc (ov Y) Y Y XN)<|Dq 2 Y (Zj (ov Y) Y Y Y tS3<|Zl at8)<|Do 10 Y (Zfz (e1 := 49) (R := R49) (m := groups2) (k := x.Number) (ov Y) (ov Y) (ov Y) Jf Qn Y fun _=>.b Y)<|Zaq (by kernel_rfl) (Ent.absorbMk1 (e := 49) (R := R49) (m := groups2) (k := x.Number) (ys := l3) (fk := FK3) (r := 0) (q := 3) Y tZ_93 Y Y Y)<|⟨_, h, ES [some 0, some 1] (hhp := .cons Y (ZS (fk := FK3) (fv := (osF 49 R49)) (m := (ZV kqI groups2 x.Number l3)) tZ_93 (fun _=>.dat Y) fun _=>Zbi D49)<|.cons Y (roM D3) .nil)⟩
     ·
      replace h := elr h
      refine ZgV (Ent.focusMk1 (e := 49) (R := R49) (m := groups2) (k := x.Number) (r := 0) Y tZ_93 (ZcL h_z2) D49)<|Zac (cw := md0) (by kernel_rfl)<|D1 3 Zd Y<|Dq 4 Y (Zc (ov Y) Y Y XN)<|Dq 5 Y (Zj (ov Y) Y Y Y tS3<|Zl at8)<|Dq 6 Y (Zhw (e1 := 49) (R := R49) (m := groups2) (k := x.Number) (ov Y) (ov Y) Jf Qn Y (fun _=>.b Y)<|Zt Zdt Y)<|Dq 7 Y (ZB (ov Y) Y Y Y Xk (Zr<|Zg Zy) Zy (hns := ZbN))<|Zin 8 (.sl 49<|List.map R49 ([x] : List api_Rest)) Y (by kernel_rfl) Y Y (X5 Xo (.cons (cva<|ov Y) Zy (pwD Jl) .nil) Y Y)<|ZaG 0 _ Y (by kernel_rfl) Y Y (fun hp'=>Zd<|ov Y)<|bE h fun l4 h_l4 h=>Dw 1 9 Y (Zc (ov Y) Y Y XN) (Zv (ov Y) (ZE (ov Y) tZ_49) Xo Y Y Y (fun x=>Zb<|E49 x) Y h_l4) ?_ ?_
      ·
       refine Dw 2 9 Y (Zj (ov Y) Y Y Y tS3<|Zl at8) (Zv (ov Y) (ZE (ov Y) tZ_49) Xo Y Y Y (fun x=>Zb<|E49 x) Y h_l4) ?_ ?_
       ·
        exact Do 9 Y (Zv (ov Y) (ZE (ov Y) tZ_49) Xo Y Y Y (fun x=>Zb<|E49 x) Y h_l4)<|Do 10 Y (ZfW (e1 := 49) (R := R49) (m := groups2) (k := x.Number) (ov Y) (ov Y) (ov Y) Jf Qn Y fun _=>.b Y)<|Zaq (by kernel_rfl) (Ent.absorbMk1 (e := 49) (R := R49) (m := groups2) (k := x.Number) (ys := l4) (fk := FK3) (r := 0) (q := 3) Y tZ_93 Y Y Y)<|⟨_, h, ES [some 0, some 1] (hhp := .cons Y (ZS (fk := FK3) (fv := (osF 49 R49)) (m := (ZV kqI groups2 x.Number l4)) tZ_93 (fun _=>.dat Y) fun _=>Zbi D49)<|.cons Y (roM D3) .nil)⟩
       ·
        exact Dq 2 Y (Zj (ov Y) Y Y Y tS3<|Zl at8)<|Do 10 Y (ZfW (e1 := 49) (R := R49) (m := groups2) (k := x.Number) (ov Y) (ov Y) (ov Y) Jf Qn Y fun _=>.b Y)<|Zaq (by kernel_rfl) (Ent.absorbMk1 (e := 49) (R := R49) (m := groups2) (k := x.Number) (ys := l4) (fk := FK3) (r := 0) (q := 3) Y tZ_93 Y Y Y)<|⟨_, h, ES [some 0, some 1] (hhp := .cons Y (ZS (fk := FK3) (fv := (osF 49 R49)) (m := (ZV kqI groups2 x.Number l4)) tZ_93 (fun _=>.dat Y) fun _=>Zbi D49)<|.cons Y (roM D3) .nil)⟩
      ·
       exact Dq 1 Y (Zc (ov Y) Y Y XN)<|Dq 2 Y (Zj (ov Y) Y Y Y tS3<|Zl at8)<|Do 10 Y (ZfW (e1 := 49) (R := R49) (m := groups2) (k := x.Number) (ov Y) (ov Y) (ov Y) Jf Qn Y fun _=>.b Y)<|Zaq (by kernel_rfl) (Ent.absorbMk1 (e := 49) (R := R49) (m := groups2) (k := x.Number) (ys := l4) (fk := FK3) (r := 0) (q := 3) Y tZ_93 Y Y Y)<|⟨_, h, ES [some 0, some 1] (hhp := .cons Y (ZS (fk := FK3) (fv := (osF 49 R49)) (m := (ZV kqI groups2 x.Number l4)) tZ_93 (fun _=>.dat Y) fun _=>Zbi D49)<|.cons Y (roM D3) .nil)⟩
   ·
    exact ZC<|R2 Z2 Y<|Rm Y<|Za<|⟨_, h, ES [some 0, some 1] (hhp := .cons Y (ZS (fk := FK3) (fv := (osF 49 R49)) (m := groups3) tZ_93 (fun _=>.dat Y) fun _=>Zbi D49)<|.cons Y (roM D3) .nil)⟩
  ·
   refine ZT<|?_
   replace h := lx h ▸ ho1
   exact ⟨_, h, ES [some 0, some 1] (hhp := .cons Y (ZS (fk := FK3) (fv := (osF 49 R49)) (m := groups2) tZ_93 (fun _=>.dat Y) fun _=>Zbi D49)<|.cons Y (roM D3) .nil)⟩
 ·
  refine Tr<|Rm Y<|bE h fun y h_y h=>Rx Y (Zdj [1] (ZhS h_y) (.cons (ov Y) (.own _ Y) .nil) (.cons Y (roM D3) .nil) Y (.keep Y Y<|.lent 0 (.inl Y) Y (roM D3) .nil) Y Y<|ZgF<|rld Y)<|Za<|K2 3 4 Y<|Tr<|Ra Y<|Za<|I1 (fun out=>⟨[(7, .own 0 out.length)], [some ⟨49, List.map R49 out⟩]⟩) h (fun h=>?_) fun out h=>?_
  ·
   refine Tr<|Rm Y<|Rq Y (ZcN (ov Y) Y (ZdZ h_y) QQ)<|Rm Y<|Za<|Zn<|?_
   obtain ⟨r2, hl2, ho2⟩ := Xq h
   refine L2 (fun out2 i2=>⟨[(3, .mref 0 1), (7, .own 1 out2.length), (40, .own 2 y.length), (41, .int .i64 (y.length : Int)), (42, .int .i64 i2)], [some ⟨93, [[.mcon (List.map (Qw FK3 (osF 49 R49)) groups)]]⟩, some ⟨49, List.map R49 out2⟩, some ⟨3, List.map R3 y⟩]⟩) hl2 (Ent.sel [some 0, none, some 1] (sr 3 Y (.mref _ Y)<|sr 7 Y (.row Y)<|sr 40 Y (ZkU (Eq.symm<|ZdZ h_y) Y)<|sd 41 Y Y<|sd 42 Y Y sn) (.cons Y (ZS (fk := FK3) (fv := (osF 49 R49)) (m := groups) tZ_93 (fun _=>.dat Y) fun _=>Zbi D49)<|.row 49<|.cons Y (roM D3) .nil) Y Y) fun n2 out2 i2 h=>?_
   unfold Q5 at h
   refine Tr<|R2 Z4 Y<|Za<|Zs<|If h Y (fun h=>?_) fun h=>?_
   ·
    refine Zm<|Zs<|Zn<|K5 3 7 40 41 42 Y<|Tr<|bE h fun x2 h_x2 h=>Rq Y (Za2 (ov Y) (ov Y) QQ Y Y h_x2)<|Rq Y (Zc1 (ov Y) Y Y h_x2 tS3 Y)<|Ra Y<|Za<|K6 3 7 9 40 41 42 Y<|ZC<|Rm Y<|Rm Y<|Rm Y<|bE h fun z3 h_z3 h=>?_
    rcases z3 with z3 | z3
    ·
     replace h := ell h
     exact Rq Y (ZhF (e1 := 49) (R := R49) (m := groups) (k := x2) (ZfL h_z3) (ov Y) (ov Y) Jf Qn Y (fun _=>.b Y)<|Zt Zdt Y)<|bE h fun y2 h_y2 h=>Rq Y (Zq (J7 h_y2)<|.cons (ov Y) (Dat.nils _) .nil)<|R_q (.sl 49<|List.map R49 ([y2] : List api_Rest)) Y (X5 Xo (.cons (cva<|ov Y) Zy (pwD Jl) .nil) Y Y)<|bE h fun l5 h_l5 h=>Rx Y (Zv (ov Y) (ZE (ov Y) tZ_49) Xo Y Y Y (fun x=>Zb<|E49 x) Y h_l5)<|Ra Y<|Za<|K5 3 7 40 41 42 Y<|ZC<|R2 Z2 Y<|Rm Y<|Za<|⟨_, h, ES [some 0, some 1, some 2] (hhp := .cons Y (ZS (fk := FK3) (fv := (osF 49 R49)) (m := groups) tZ_93 (fun _=>.dat Y) fun _=>Zbi D49)<|.cons Y (roM D49)<|.cons Y (roM D3) .nil)⟩
    ·
     replace h := elr h
     exact ZdF (Ent.focusMk1 (e := 49) (R := R49) (m := groups) (k := x2) (r := 0) Y tZ_93 (ZcL h_z3) D49)<|Rq Y (Zhw (e1 := 49) (R := R49) (m := groups) (k := x2) (ov Y) (ov Y) Jf Qn Y (fun _=>.b Y)<|Zt Zdt Y)<|bE h fun y3 h_y3 h=>Rq Y (J5 (J7 h_y3) (.agg<|faC .int<|faA (faV fun _ => .int)<|faA (faV fun _ => .int)<|faC .bool<|faC .int<|faC .bool faN)<|.cons (ov Y) (View.ownM Y Y D49) .nil)<|R_q (.sl 49<|List.map R49 ([y3] : List api_Rest)) Y (X5 Xo (.cons (cva<|ov Y) Zy (pwD Jl) .nil) Y Y)<|bE h fun l6 h_l6 h=>Rx Y (Zv (ov Y) (ZE (ov Y) tZ_49) Xo Y Y Y (fun x=>Zb<|E49 x) Y h_l6)<|Ra Y<|ZdF (by exact Ent.absorbMs1 (e := 49) (R := R49) (m := groups) (k := x2) (ys := z3) (fk := FK3) (r := 0) (q := 3) (ZcL h_z3) rfl tZ_93 rfl rfl rfl)<|Za<|K5 3 7 40 41 42 Y<|ZC<|R2 Z2 Y<|Rm Y<|Za<|⟨_, h, ES [some 0, some 1, some 2] (hhp := .cons Y (ZS (fk := FK3) (fv := (osF 49 R49)) (m := groups) tZ_93 (fun _=>.dat Y) fun _=>Zbi D49)<|.cons Y (roM D49)<|.cons Y (roM D3) .nil)⟩
   ·
    refine ZT<|?_
    replace h := lx h ▸ ho2
    exact ⟨_, h, ES [some 1]⟩
  ·
   refine Tr<|Rm Y<|Ra Y<|Za<|?_
   obtain rfl := rt h
   exact Zu<|Zlv [some 0] Y (.cons (.tmp Y) .nil) (.cons Y (roM D49) .nil) Y Y<|.own _ Y
theorem ZeS {f : Vector Int 64} {i : Int} {r : (Vector Int 64)} (h : QW f i = some r) :
 CSpec Tryz.prog gl0 70 [.agg (List.map C26 f.toList), .int .i64 i] (.agg (List.map C26 r.toList)) := by
 unfold QW at h
 replace h := Qf h
 refine So Tryz.func70 Y fun w0 A=>Tr<|Rx Y (Zkt 0 Y (ov Y) Z7 arL)<|Rx Y (ZP (row := (List.map C26 (Vector.replicate 64 0).toList)) 1 Y ZbV Y tZ_28)<|Za<|I1 (fun f2=>⟨[(2, .ptr 0 1 0 0), (4, .ptr 1 1 0 0)], [some ⟨28, [(List.map C26 f2.toList)]⟩, some ⟨28, [(List.map C26 (Vector.replicate 64 0).toList)]⟩]⟩) h (fun h=>?_) fun f2 h=>?_
 ·
  refine K3 1 2 4 Y<|Tr<|Rm Y<|Za<|Zn<|Tr<|R2 QC Y<|Ra Y<|Za<|K5 1 2 4 5 19 Y<|If h Y (fun h=>?_) fun h=>?_
  ·
   exact K2 2 4 Y<|ZC<|bE h fun y h_y h=>Rq Y (J5 (JD h_y) .int<|.cons (ov Y) (View.ptr Y Y Y (pwB<|arD fun _ => Y) (hns := (nsM fun _ => Y))) .nil)<|bE h fun q h_q h=>Rq Y (XJ (ov Y) (ov Y) h_q)<|bE h fun x h_x h=>Rq Y (QS (og (v := gv_frame_syncs) (k := .u16) (f := C26) (by simp [gl0]) fun _=>Y) (ov Y) Zku h_x)<|Rq Y (Zh (ov Y) QO<|Zl<|Z8 (o := 0) (o' := (q.toNat * 1)) (Zg arL)<|Z0 h_x)<|bE h fun x2 h_x2 h=>Rq Y (Z5 (ov Y) (ov Y) QI Y Y h_x2)<|Rx Y (Ze (ov Y) (ov Y) (Zf QO) Y Y Y (arB h_x2) (Zb Y)<|arS h_x2)<|Za<|⟨_, h, ES [some 0, some 1]⟩
  ·
   refine K4 1 2 4 5 Y<|Tr<|R2 QC Y<|Ra Y<|Za<|K5 1 2 4 5 26 Y<|If h Y (fun h=>?_) fun h=>?_
   ·
    exact K3 1 2 4 Y<|ZC<|Rm Y<|bE h fun y2 h_y2 h=>Rq Y (J5 (ZaX h_y2) .int<|.cons (ov Y) (View.ptr Y Y Y (pwB<|arD fun _ => Y) (hns := (nsM fun _ => Y))) .nil)<|bE h fun y3 h_y3 h=>Rq Y (Zq (QT h_y3)<|.cons (ov Y) (.b Y) .nil)<|bE h fun x3 h_x3 h=>Rq Y (Z5 (ov Y) (ov Y) QI Y Y h_x3)<|Rx Y (Ze (ov Y) (ov Y) (Zf QO) Y Y Y (arB h_x3) (Zb Y)<|arS h_x3)<|Za<|⟨_, h, ES [some 0, some 1]⟩
   ·
    refine K4 1 2 4 5 Y<|Tr<|R2 QC Y<|Ra Y<|Za<|K5 1 2 4 5 32 Y<|If h Y (fun h=>?_) fun h=>?_
    ·
     exact K3 1 2 4 Y<|ZC<|Rm Y<|bE h fun y4 h_y4 h=>Rq Y (J5 (J4 h_y4) .int<|.cons (ov Y) (View.ptr Y Y Y (pwB<|arD fun _ => Y) (hns := (nsM fun _ => Y))) .nil)<|bE h fun q2 h_q2 h=>Rq Y (Zcq (ov Y) (ov Y) h_q2)<|bE h fun y5 h_y5 h=>Rq Y (Zq (QT h_y5)<|.cons (ov Y) (.b Y) .nil)<|bE h fun x4 h_x4 h=>Rq Y (Z5 (ov Y) (ov Y) QI Y Y h_x4)<|Rx Y (Ze (ov Y) (ov Y) (Zf QO) Y Y Y (arB h_x4) (Zb Y)<|arS h_x4)<|Za<|⟨_, h, ES [some 0, some 1]⟩
    ·
     refine K4 1 2 4 5 Y<|Tr<|R2 QC Y<|Ra Y<|Za<|K4 1 2 4 39 Y<|If h Y (fun h=>?_) fun h=>?_
     ·
      exact K3 1 2 4 Y<|ZC<|Rm Y<|bE h fun y6 h_y6 h=>Rq Y (J5 (J4 h_y6) .int<|.cons (ov Y) (View.ptr Y Y Y (pwB<|arD fun _ => Y) (hns := (nsM fun _ => Y))) .nil)<|R2 ZaE Y<|bE h fun y7 h_y7 h=>Rq Y (Zq (QT h_y7)<|.cons (ov Y) (.b Y) .nil)<|bE h fun x5 h_x5 h=>Rq Y (Z5 (ov Y) (ov Y) QI Y Y h_x5)<|Rx Y (Ze (ov Y) (ov Y) (Zf QO) Y Y Y (arB h_x5) (Zb Y)<|arS h_x5)<|Za<|⟨_, h, ES [some 0, some 1]⟩
     ·
      exact K3 1 2 4 Y<|Zac (cw := md0) (by kernel_rfl)<|D1 0 Zd Y<|bE h fun y8 h_y8 h=>Dq 1 Y (J5 (ZaX h_y8) .int<|.cons (ov Y) (View.ptr Y Y Y (pwB<|arD fun _ => Y) (hns := (nsM fun _ => Y))) .nil)<|D1 2 Zd Y<|bE h fun x6 h_x6 h=>Dq 3 Y (Z5 (ov Y) (ov Y) QI Y Y h_x6)<|Dq 4 Y (Zj (ov Y) Y Y Y QO<|Zl<|Z8 (o := 0) (o' := (i.toNat * 1)) (Zg arL)<|Z0 h_x6)<|bE h fun y9 h_y9 h=>Dq 5 Y (Zq (Xw h_y9)<|.cons (ov Y) (.b Y) .nil)<|D2 6 Zfu Y<|bE h fun x7 h_x7 h=>Dq 7 Y (Z5 (ov Y) (ov Y) QI Y Y h_x7)<|Dq 8 Y (Zj (ov Y) Y Y Y QO<|Zl<|Z8 (o := 0) (o' := ((Int.toNat 61) * 1)) (Zg arL)<|Z0 h_x7)<|bE h fun y10 h_y10 h=>Dq 9 Y (Zq (Xw h_y10)<|.cons (ov Y) (.b Y) .nil)<|D2 10 Zfu Y<|bE h fun y11 h_y11 h=>Dq 11 Y (Zq (QT h_y11)<|.cons (ov Y) (.b Y) .nil)<|bE h fun x8 h_x8 h=>Dq 12 Y (Z5 (ov Y) (ov Y) QI Y Y h_x8)<|Do 13 Y (Ze (ov Y) (ov Y) (Zf QO) Y Y Y (arB h_x8) (Zb Y)<|arS h_x8)<|Dd<|⟨_, h, ES [some 0, some 1]⟩
 ·
  refine Tr<|Rq Y (ZB (ov Y) Y Y Y Z7 (Zr<|Zg arL) arL (hns := (nsM fun _ => Y)))<|Rx Y (Ze (ov Y) (ov Y) (Zo Z7 arL) Y Y Y (ZF (Zg arL) arL) (Zb<|arC fun _ => Y)<|ZK<|Eq.trans arL<|Eq.symm arL)<|Za<|?_
  obtain rfl := rt h
  exact Zu (ZL Y (.one<|.agg Y Y Y Y Z7 (Zr<|Zg arL) arL (pwB<|arD fun _ => Y) (hns := (nsM fun _ => Y))))
theorem Ze4 {f : Vector Int 64} {i : Int} {r : (Vector Int 64) × Bool} (h : JI f i = some r) :
 CSpec Tryz.prog gl0 47 [.agg (List.map C26 f.toList), .int .i64 i] (.tuple [.agg (List.map C26 r.1.toList), .bool r.2]) := by
 unfold JI at h
 replace h := Qf h
 refine So Tryz.func47 Y fun w0 A=>Tr<|Rx Y (Zkt 0 Y (ov Y) Z7 arL)<|Rx Y (ZP (row := (List.map C26 (Vector.replicate 64 0).toList)) 1 Y ZbV Y tZ_28)<|Ra Y<|Za<|Zs<|K3 1 2 4 Y<|Tr<|Rm Y<|R2 Z4 Y<|Rm Y<|Rq Y (.guarded ((decide (i < 0)) == false) Y Y Y Y fun h => Zd<|ov Y)<|Rq Y (.guarded ((decide (i < 0)) == false) Y Y Y Y fun h => ZbR (ow Y h)<|ov Y)<|Rq Y (JH (ov Y) fun hp=>ow Y<|gF hp)<|Za<|K4 1 2 4 12 Y<|If h Y (fun h=>?_) fun h=>?_
 ·
  refine K1 4 Y<|Tr<|R_q (.agg<|List.map C26 (#v[0, 0, 0, 0, 0, 0, 0, 0, 0, 0, 0, 0, 0, 0, 0, 0, 0, 0, 0, 0, 0, 0, 0, 0, 0, 0, 0, 0, 0, 0, 0, 0, 0, 0, 0, 0, 0, 0, 0, 0, 0, 0, 0, 0, 0, 0, 0, 0, 0, 0, 0, 0, 0, 0, 0, 0, 0, 0, 0, 0, 0, 0, 0, 0] : Vector Int 64).toList) Y (ZaU (ys := [_, _, _, _, _, _, _, _, _, _, _, _, _, _, _, _, _, _, _, _, _, _, _, _, _, _, _, _, _, _, _, _, _, _, _, _, _, _, _, _, _, _, _, _, _, _, _, _, _, _, _, _, _, _, _, _, _, _, _, _, _, _, _, _]) QI ZbV .nil Y)<|Rx Y (Ze (ov Y) (ov Y) (Zo Z7 arL) Y Y Y (ZF (Zg arL) arL) (Zb<|arC fun _ => Y)<|ZK<|Eq.trans arL<|Eq.symm arL)<|Ra Y<|Za<|?_
  obtain rfl := rt h
  exact Zu (ZL Y (.two (.agg Y Y Y Y Z7 (Zr<|Zg arL) arL (pwB<|arD fun _ => Y) (hns := (nsM fun _ => Y)))<|rb Y))
 ·
  refine Zm<|K3 1 2 4 Y<|Tr<|Rm Y<|bE h fun x h_x h=>Rq Y (Z5 (ov Y) (ov Y) QI Y Y h_x)<|Rx Y (Ze (ov Y) (ov Y) (Zf QO) Y Y Y (arB h_x) (Zb Y)<|arS h_x)<|Za<|Zs<|K3 1 2 4 Y<|Tr<|bE h fun y h_y h=>Rq Y (J5 (Zew h_y) .bool<|.cons (ov Y) (View.ptr Y Y Y (pwB<|arD fun _ => Y) (hns := (nsM fun _ => Y))) .nil)<|Za<|If h Y (fun h=>?_) fun h=>?_
  ·
   refine K1 4 Y<|Tr<|R_q (.agg<|List.map C26 (#v[0, 0, 0, 0, 0, 0, 0, 0, 0, 0, 0, 0, 0, 0, 0, 0, 0, 0, 0, 0, 0, 0, 0, 0, 0, 0, 0, 0, 0, 0, 0, 0, 0, 0, 0, 0, 0, 0, 0, 0, 0, 0, 0, 0, 0, 0, 0, 0, 0, 0, 0, 0, 0, 0, 0, 0, 0, 0, 0, 0, 0, 0, 0, 0] : Vector Int 64).toList) Y (ZaU (ys := [_, _, _, _, _, _, _, _, _, _, _, _, _, _, _, _, _, _, _, _, _, _, _, _, _, _, _, _, _, _, _, _, _, _, _, _, _, _, _, _, _, _, _, _, _, _, _, _, _, _, _, _, _, _, _, _, _, _, _, _, _, _, _, _]) QI ZbV .nil Y)<|Rx Y (Ze (ov Y) (ov Y) (Zo Z7 arL) Y Y Y (ZF (Zg arL) arL) (Zb<|arC fun _ => Y)<|ZK<|Eq.trans arL<|Eq.symm arL)<|Ra Y<|Za<|?_
   obtain rfl := rt h
   exact Zu (ZL Y (.two (.agg Y Y Y Y Z7 (Zr<|Zg arL) arL (pwB<|arD fun _ => Y) (hns := (nsM fun _ => Y)))<|rb Y))
  ·
   refine Zm<|K3 1 2 4 Y<|Tr<|Rq Y (ZB (ov Y) Y Y Y Z7 (Zr<|Zg arL) arL (hns := (nsM fun _ => Y)))<|Rm Y<|bE h fun y2 h_y2 h=>Rq Y (Zq (ZeS h_y2)<|.cons (ov Y) (.aggB<|arD fun _ => Y)<|.cons (ov Y) (.b Y) .nil)<|Rx Y (ZP (row := (List.map C26 (Vector.replicate 64 0).toList)) 2 Y ZbV Y tZ_28)<|Rx Y (Ze (ov Y) (ov Y) (Zo Z7 arL) Y Y Y (ZF (Zg arL) arL) (Zb<|arC fun _ => Y)<|ZK<|Eq.trans arL<|Eq.symm arL)<|Za<|Zs<|K2 4 6 Y<|Tr<|bE h fun y3 h_y3 h=>Rq Y (J5 (ZdG h_y3) .bool<|.cons (ov Y) (View.ptr Y Y Y (pwB<|arD fun _ => Y) (hns := (nsM fun _ => Y))) .nil)<|R1 Ji Y<|Za<|K3 4 6 22 Y<|If h Y (fun h=>?_) fun h=>?_
   ·
    refine K1 4 Y<|Tr<|R_q (.agg<|List.map C26 (#v[0, 0, 0, 0, 0, 0, 0, 0, 0, 0, 0, 0, 0, 0, 0, 0, 0, 0, 0, 0, 0, 0, 0, 0, 0, 0, 0, 0, 0, 0, 0, 0, 0, 0, 0, 0, 0, 0, 0, 0, 0, 0, 0, 0, 0, 0, 0, 0, 0, 0, 0, 0, 0, 0, 0, 0, 0, 0, 0, 0, 0, 0, 0, 0] : Vector Int 64).toList) Y (ZaU (ys := [_, _, _, _, _, _, _, _, _, _, _, _, _, _, _, _, _, _, _, _, _, _, _, _, _, _, _, _, _, _, _, _, _, _, _, _, _, _, _, _, _, _, _, _, _, _, _, _, _, _, _, _, _, _, _, _, _, _, _, _, _, _, _, _]) QI ZbV .nil Y)<|Rx Y (Ze (ov Y) (ov Y) (Zo Z7 arL) Y Y Y (ZF (Zg arL) arL) (Zb<|arC fun _ => Y)<|ZK<|Eq.trans arL<|Eq.symm arL)<|Ra Y<|Za<|?_
    obtain rfl := rt h
    exact Zu (ZL Y (.two (.agg Y Y Y Y Z7 (Zr<|Zg arL) arL (pwB<|arD fun _ => Y) (hns := (nsM fun _ => Y)))<|rb Y))
   ·
    refine Zm<|K2 4 6 Y<|Tr<|Rq Y (ZB (ov Y) Y Y Y Z7 (Zr<|Zg arL) arL (hns := (nsM fun _ => Y)))<|Rx Y (Ze (ov Y) (ov Y) (Zo Z7 arL) Y Y Y (ZF (Zg arL) arL) (Zb<|arC fun _ => Y)<|ZK<|Eq.trans arL<|Eq.symm arL)<|Ra Y<|Za<|?_
    obtain rfl := rt h
    exact Zu (ZL Y (.two (.agg Y Y Y Y Z7 (Zr<|Zg arL) arL (pwB<|arD fun _ => Y) (hns := (nsM fun _ => Y)))<|rb Y))
theorem Zfq {r_ : api_Rest} {r : api_Rest} (h : XB r_ = some r) :
 CSpec Tryz.prog gl0 28 [.agg ((.int .i64 r_.Number) :: ((List.map C26 r_.Frame.toList) ++ (((List.map C3 r_.States.toList) ++ ((.bool r_.Sound) :: (.int .i64 r_.Copies) :: (.bool r_.Conflict) :: [])))))] (.agg ((.int .i64 r.Number) :: ((List.map C26 r.Frame.toList) ++ (((List.map C3 r.States.toList) ++ ((.bool r.Sound) :: (.int .i64 r.Copies) :: (.bool r.Conflict) :: [])))))) := by
 unfold XB at h
 replace h := Qf h
 refine So Tryz.func28 Y fun w0 A=>Tr<|Rx Y (Zkt 0 Y (ov Y) Xk Zy)<|Rx Y (ZP (row := (.int .i64 0) :: ((List.map C26 (Vector.replicate 64 0).toList) ++ (((List.map C3 (Vector.replicate 64 0).toList) ++ ((.bool false) :: (.int .i64 0) :: (.bool false) :: []))))) 1 Y ZdJ (by kernel_rfl)<|by exact Eq.symm (Eq.trans (b := 132) Zy tZ_49.symm))<|Za<|Zs<|K2 1 2 Y<|Tr<|Rq Y (Zc (ov Y) Y Y Zdq)<|Rq Y (Zj (ov Y) Y Y Y tS4<|Zl Zgk)<|Rm Y<|Rq Y (.guarded (r_.Sound == false) Y Y Y Y fun h => Zc (ov Y) Y Y Zlp)<|Rq Y (.guarded (r_.Sound == false) Y Y Y Y fun h => Zj (ow Y h) Y Y Y tS4<|Zl Zn2)<|Rq Y (JH (ov Y) fun hp=>ow Y<|gF hp)<|Za<|K3 1 2 14 Y<|If h Y (fun h=>?_) fun h=>?_
 ·
  refine K2 1 2 Y<|Tr<|Rq Y (ZB (ov Y) Y Y Y Xk (Zr<|Zg Zy) Zy (hns := ZbN))<|Rx Y (Ze (ov Y) (ov Y) (Zo Xk Zy) Y Y Y (ZF (Zg Zy) Zy) (Zb Zc3)<|ZK<|Eq.trans Zy<|Eq.symm Zy)<|Za<|?_
  obtain rfl := rt h
  exact Zu (ZL Y (.one<|.agg Y Y Y Y Xk (Zr<|Zg Zy) Zy (pwB Jl) (hns := ZbN)))
 ·
  refine Zm<|K2 1 2 Y<|Tr<|Ra Y<|Ra Y<|Za<|I2 (fun lost place=>⟨[(1, .ptr 0 1 0 0), (2, .ptr 1 1 0 0), (3, .int .i64 lost), (4, .int .i64 place)], [some ⟨49, [(.int .i64 r_.Number) :: ((List.map C26 r_.Frame.toList) ++ (((List.map C3 r_.States.toList) ++ ((.bool r_.Sound) :: (.int .i64 r_.Copies) :: (.bool r_.Conflict) :: []))))]⟩, some ⟨49, [(.int .i64 0) :: ((List.map C26 (Vector.replicate 64 0).toList) ++ (((List.map C3 (Vector.replicate 64 0).toList) ++ ((.bool false) :: (.int .i64 0) :: (.bool false) :: []))))]⟩]⟩) h (fun h=>?_) fun lost place h=>?_
  ·
   refine Tr<|Rq Y (Zc (ov Y) Y Y Jd)<|Rq Y (ZB (ov Y) Y Y Y ZiJ (Zr Zai) arL (hns := (nsM fun _ => Y)))<|Rm Y<|Za<|Zn<|?_
   obtain ⟨r1, hl1, ho1⟩ := Xq h
   refine L3 (fun lost2 place2 i=>⟨[(1, .ptr 0 1 0 0), (2, .ptr 1 1 0 0), (3, .int .i64 lost2), (4, .int .i64 place2), (17, .agg (List.map C3 r_.States.toList)), (18, .int .i64 i)], [some ⟨49, [(.int .i64 r_.Number) :: ((List.map C26 r_.Frame.toList) ++ (((List.map C3 r_.States.toList) ++ ((.bool r_.Sound) :: (.int .i64 r_.Copies) :: (.bool r_.Conflict) :: []))))]⟩, some ⟨49, [(.int .i64 0) :: ((List.map C26 (Vector.replicate 64 0).toList) ++ (((List.map C3 (Vector.replicate 64 0).toList) ++ ((.bool false) :: (.int .i64 0) :: (.bool false) :: []))))]⟩]⟩) hl1 (ES [some 0, some 1]) fun n1 lost2 place2 i h=>?_
   unfold Xm at h
   refine Tr<|R2 Z4 Y<|Za<|Zs<|If h Y (fun h=>?_) fun h=>?_
   ·
    refine Zm<|Zs<|Zn<|K6 1 2 3 4 17 18 Y<|Tr<|Rm Y<|bE h fun x h_x h=>Rq Y (ZaL (ov Y) (ov Y) Zde tS3 h_x)<|Ra Y<|Ra Y<|Za<|K8 1 2 3 4 5 6 17 18 Y<|Tr<|Rm Y<|R2 QC Y<|Za<|K8 1 2 3 4 5 17 18 23 Y<|If h Y (fun h=>?_) fun h=>?_
    ·
     exact K7 1 2 3 4 5 17 18 Y<|ZC<|Rm Y<|R2 Z2 Y<|Rm Y<|Ra Y<|Ra Y<|Za<|K6 1 2 3 4 17 18 Y<|ZC<|R2 Z2 Y<|Rm Y<|Za<|⟨_, h, ES [some 0, some 1]⟩
    ·
     exact Zm<|K6 1 2 3 4 17 18 Y<|ZC<|R2 Z2 Y<|Rm Y<|Za<|⟨_, h, ES [some 0, some 1]⟩
   ·
    refine ZT<|?_
    replace h := lx h ▸ ho1
    exact ⟨_, h, ES [some 0, some 1]⟩
  ·
   refine Zs<|Tr<|Rm Y<|R2 XY Y<|Za<|K4 1 2 4 29 Y<|If h Y (fun h=>?_) fun h=>?_
   ·
    refine K2 1 2 Y<|Tr<|Rq Y (ZB (ov Y) Y Y Y Xk (Zr<|Zg Zy) Zy (hns := ZbN))<|Rx Y (Ze (ov Y) (ov Y) (Zo Xk Zy) Y Y Y (ZF (Zg Zy) Zy) (Zb Zc3)<|ZK<|Eq.trans Zy<|Eq.symm Zy)<|Za<|?_
    obtain rfl := rt h
    exact Zu (ZL Y (.one<|.agg Y Y Y Y Xk (Zr<|Zg Zy) Zy (pwB Jl) (hns := ZbN)))
   ·
    refine Zm<|K3 1 2 4 Y<|Tr<|Rq Y (Zc (ov Y) Y Y X9)<|Rq Y (ZB (ov Y) Y Y Y Z7 (Zr Zbo) arL (hns := (nsM fun _ => Y)))<|Rm Y<|bE h fun y h_y h=>Rq Y (Zq (Ze4 h_y)<|.cons (ov Y) (.aggB<|arD fun _ => Y)<|.cons (ov Y) (.b Y) .nil)<|Rm Y<|Rq Y (Zi (ov Y) Y)<|Rq Y (Zi (ov Y) Y)<|Rx Y (ZP (row := (List.map C26 (Vector.replicate 64 0).toList)) 2 Y ZbV Y tZ_28)<|Rx Y (Ze (ov Y) (ov Y) (Zo Z7 arL) Y Y Y (ZF (Zg arL) arL) (Zb<|arC fun _ => Y)<|ZK<|Eq.trans arL<|Eq.symm arL)<|Ra Y<|Za<|Zs<|K5 1 2 4 7 8 Y<|Tr<|Rm Y<|R1 Ji Y<|Rm Y<|Rq Y (.guarded ((!y.2) == false) Y Y Y Y fun h => ZB (ov Y) Y Y Y Z7 (Zr<|Zg arL) arL (hns := (nsM fun _ => Y)))<|Rq Y (.guarded ((!y.2) == false) Y Y Y Y fun h => Zc (ov Y) Y Y XN)<|Rq Y (.guarded ((!y.2) == false) Y Y Y Y fun h => Zj (ow Y h) Y Y Y tS3<|Zl at8)<|bE h fun y2 h_y2 h=>Rq Y (.guarded ((!y.2) == false) Y Y Y Y fun h => Zq (Zcl<|gdT h_y2 h)<|.cons (ow Y h) (.aggB<|arD fun _ => Y)<|.cons (ow Y h) (.b Y) .nil)<|Rq Y (.guarded ((!y.2) == false) Y Y Y Y fun h => Ji<|ow Y h)<|Rq Y (JH (ov Y) fun hp=>ow Y<|gF hp)<|Za<|K5 1 2 4 7 46 Y<|If h Y (fun h=>?_) fun h=>?_
    ·
     refine K2 1 2 Y<|Tr<|Rq Y (ZB (ov Y) Y Y Y Xk (Zr<|Zg Zy) Zy (hns := ZbN))<|Rx Y (Ze (ov Y) (ov Y) (Zo Xk Zy) Y Y Y (ZF (Zg Zy) Zy) (Zb Zc3)<|ZK<|Eq.trans Zy<|Eq.symm Zy)<|Za<|?_
     obtain rfl := rt h
     exact Zu (ZL Y (.one<|.agg Y Y Y Y Xk (Zr<|Zg Zy) Zy (pwB Jl) (hns := ZbN)))
    ·
     refine Zm<|K4 1 2 4 7 Y<|Td md0<|Dq 0 Y (ZB (ov Y) Y Y Y Z7 (Zr<|Zg arL) arL (hns := (nsM fun _ => Y)))<|bE h fun y3 h_y3 h=>Dq 1 Y (Zq (Za3 h_y3)<|.cons (ov Y) (.b Y) .nil)<|Dq 2 Y (Zc (ov Y) Y Y X9)<|Do 3 Y (Ze (ov Y) (ov Y) (Zo Z7 arL) Y Y Y (ZF Zbo arL) (Zb<|arC fun _ => Y) Zhs)<|Dq 4 Y (Zc (ov Y) Y Y Jd)<|Do 5 Y (Ze (ov Y) (ov Y) (Zo ZiJ arL) Y Y Y (ZF Zai arL) (Zb<|arC fun _ => Y) Zgj)<|Dq 6 Y (Zc (ov Y) Y Y Zdq)<|Do 7 Y (Ze (ov Y) (ov Y) (Zf tS4) Y Y Y (ZF Zgk Y) (Zb Y) ZkM)<|Dq 8 Y (Zc (ov Y) Y Y Zdf)<|Do 9 Y (Ze (ov Y) (ov Y) (Zf tS3) Y Y Y (ZF ZgM Y) (Zb Y) Zk8)<|Dd<|K3 1 2 4 Y<|Tr<|Rm Y<|Rq Y (Zc (ov Y) Y Y Jd)<|bE h fun x2 h_x2 h=>Rq Y (Z5 (ov Y) (ov Y) Zde Y Y h_x2)<|Rx Y (Ze (ov Y) (ov Y) (Zf tS3) Y Y Y (ZF (Z8 (o := 65) (o' := (place.toNat * 1)) Zai<|Z0 h_x2) Y) (Zb Y)<|JE (o := 65) (o' := (place.toNat * 1)) Zai (Z0 h_x2) Y (ZaY h_x2 (x := 2)) Zgj)<|Za<|K2 1 2 Y<|Tr<|Rq Y (ZB (ov Y) Y Y Y Xk (Zr<|Zg Zy) Zy (hns := ZbN))<|Rx Y (Ze (ov Y) (ov Y) (Zo Xk Zy) Y Y Y (ZF (Zg Zy) Zy) (Zb Zc3)<|ZK<|Eq.trans Zy<|Eq.symm Zy)<|Za<|?_
     obtain rfl := rt h
     exact Zu (ZL Y (.one<|.agg Y Y Y Y Xk (Zr<|Zg Zy) Zy (pwB Jl) (hns := ZbN)))
theorem ZeG {l : List api_Piece} {r : (List api_Rest) × Int} (h : Js l = some r) :
 CSpec Tryz.prog gl0 11 [.sl 35 (List.map R35 l)] (.tuple [.sl 49 (List.map R49 r.1), .int .i64 r.2]) := by
 unfold Js at h
 replace h := Qf h
 refine So Tryz.func11 Y fun w0 A=>Tr<|Ra Y<|Ra Y<|Za<|Zs<|K1 0 Y<|Tr<|Rm Y<|Rl tZ_35 ZiA Y<|R2 ZaJ Y<|Za<|K2 0 14 Y<|If h Y (fun h=>?_) fun h=>?_
 ·
  refine K0<|Tr<|Ra Y<|Ra Y<|Za<|?_
  obtain rfl := rt h
  exact Zu (ZL Y (.two (.tmp Y<|View.nils 49)<|rb Y))
 ·
  refine Zm<|J0 (fun j => (.inr j)) ⟨[(0, .sl 35 (List.map R35 l))], []⟩ h (fun h=>?_) fun h=>?_
  ·
   refine K1 0 Y<|Tr<|Rm Y<|Rl tZ_35 ZiA Y<|Rm Y<|Za<|Zn<|?_
   obtain ⟨r1, hl1, ho1⟩ := Xq h
   refine L1 (fun i=>⟨[(0, .sl 35 (List.map R35 l)), (15, .sl 35 (List.map R35 l)), (16, .int .i64 (l.length : Int)), (17, .int .i64 i)], []⟩) hl1 (ES []) fun n1 i h=>?_
   unfold Xc at h
   refine Tr<|R2 Z4 Y<|Za<|Zs<|If h Y (fun h=>?_) fun h=>?_
   ·
    refine Zm<|Zs<|Zn<|K4 0 15 16 17 Y<|Tr<|bE h fun x h_x h=>Rq Y (ZX (ov Y) (ov Y) ZiA h_x)<|Rq Y (ZD (ov Y) XL Y Y)<|Rx Y (ZP (row := [_, _]) 0 Y Zey Y tZ_35)<|Rx Y (Ze (ov Y) (ov Y) (Zo XL Y) Y Y Y (Nat.le_of_ble_eq_true Y) (Zb Y) Y)<|Za<|K5 0 5 15 16 17 Y<|Tr<|Rq Y (ZB (ov Y) Y Y Y XL Y Y)<|bE h fun y h_y h=>Rq Y (Zq (Zbk h_y)<|.cons (ov Y) (.aggB Y) .nil)<|Ra Y<|Za<|K5 0 6 15 16 17 Y<|Tr<|Rm Y<|R2 XY Y<|Za<|K6 0 6 15 16 17 24 Y<|If h Y (fun h=>?_) fun h=>?_
    ·
     refine K1 6 Y<|Tr<|Rm Y<|Ra Y<|Ra Y<|Za<|?_
     replace h := lx h ▸ ho1
     obtain rfl := rt h
     exact Zu (ZL Y (.two (.tmp Y<|View.nils 49)<|rb Y))
    ·
     exact Zm<|K4 0 15 16 17 Y<|ZC<|R2 Z2 Y<|Rm Y<|Za<|⟨_, h, ES []⟩
   ·
    refine ZT<|?_
    replace h := lx h ▸ ho1
    exact ⟨_, h, ES []⟩
  ·
   replace h := elr h
   replace h := t0i h
   refine Tr<|Ra Y<|Za<|I1 (fun parts=>⟨[(7, .own 0 parts.length)], [some ⟨49, List.map R49 parts⟩]⟩) h (fun h=>?_) fun parts h=>?_
   ·
    refine Tr<|Rm Y<|Rl tZ_35 ZiA Y<|Rm Y<|Za<|Zn<|?_
    obtain ⟨r2, hl2, ho2⟩ := Xq h
    refine L2 (fun parts2 i2=>⟨[(7, .own 0 parts2.length), (27, .sl 35 (List.map R35 l)), (28, .int .i64 (l.length : Int)), (29, .int .i64 i2)], [some ⟨49, List.map R49 parts2⟩]⟩) hl2 (ES [none]) fun n2 parts2 i2 h=>?_
    unfold Xb at h
    refine Tr<|R2 Z4 Y<|Za<|Zs<|If h Y (fun h=>?_) fun h=>?_
    ·
     exact Zm<|Zs<|Zn<|K4 7 27 28 29 Y<|Tr<|bE h fun x2 h_x2 h=>Rq Y (ZX (ov Y) (ov Y) ZiA h_x2)<|Rq Y (ZD (ov Y) XL Y Y)<|Rx Y (ZP (row := [_, _]) 1 Y Zey Y tZ_35)<|Rx Y (Ze (ov Y) (ov Y) (Zo XL Y) Y Y Y (Nat.le_of_ble_eq_true Y) (Zb Y) Y)<|Za<|K5 7 9 27 28 29 Y<|ZC<|Rm Y<|Rq Y (ZB (ov Y) Y Y Y XL Y Y)<|bE h fun y2 h_y2 h=>Rq Y (Zq (Zfb h_y2)<|.cons (ov Y) (.aggB Y) .nil)<|bE h fun y3 h_y3 h=>Rq Y (Zq (ZfG h_y3)<|.cons (ov Y) (.b Y) .nil)<|bE h fun l2 h_l2 h=>Rx Y (ZfB (ov Y) (ZE (ov Y) tZ_49) Xo Y Y (fun x=>Zb<|E49 x) Y h_l2)<|Ra Y<|Za<|K4 7 27 28 29 Y<|ZC<|R2 Z2 Y<|Rm Y<|Za<|⟨_, h, ES [some 0]⟩
    ·
     refine ZT<|?_
     replace h := lx h ▸ ho2
     exact ⟨_, h, ES [some 0]⟩
   ·
    refine Tr<|Rm Y<|bE h fun y4 h_y4 h=>ZdF (Ent.sel [none] (sr 7 Y (ZiZ Y Y Y D49)<|sr 39 Y (ZiZ Y Y Y D49) sn) (.row 49 .nil) Y Y)<|Rx Y (Zdj [] (ZdQ h_y4) (.cons (ov Y) (.dat Y) .nil) .nil Y (.keep Y Y<|.lent 0 (.inr ⟨Nat.le_of_ble_eq_true Y, Y⟩) Y (roM D49) .nil) Y Y<|.own _<|.inr ⟨Nat.le_of_ble_eq_true Y, Y⟩)<|Ra Y<|Za<|Zs<|K1 10 Y<|Td md0<|D1 0 Zd Y<|Dq 1 Y (ZcN (ov Y) Y Y Xo)<|D2 2 ZaJ Y<|D1 3 Zd Y<|Dq 4 Y (.guarded ((decide (0 < (y4.length : Int))) == true) Y Y Y Y fun h => Zd<|ov Y)<|Dq 5 Y (.guarded ((decide (0 < (y4.length : Int))) == true) Y Y Y Y fun h => Zd<|ov Y)<|Dq 6 Y (.guarded ((decide (0 < (y4.length : Int))) == true) Y Y Y Y fun h => ZcN (ow Y h) Y Y Xo)<|Dq 7 Y (.guarded ((decide (0 < (y4.length : Int))) == true) Y Y Y Y fun h => Zdv (ow Y h) (ov Y) Y)<|bE h fun x3 h_x3 h=>Dq 8 Y (.guarded ((decide (0 < (y4.length : Int))) == true) Y Y Y Y fun h => Za2 (ow Y h) (ow Y h) Xo Y Y<|gdT h_x3 h)<|Dq 9 Y (.guarded ((decide (0 < (y4.length : Int))) == true) Y Y Y Y fun h => ZhW (ow Y h) Y Y XN)<|Dq 10 Y (.guarded ((decide (0 < (y4.length : Int))) == true) Y Y Y Y fun h => Zc1 (ow Y h) Y Y (gdT h_x3 h) tS3<|Zl at8)<|Dq 11 Y (.guarded ((decide (0 < (y4.length : Int))) == true) Y Y Y Y fun h => Zd<|ov Y)<|bE h fun x4 h_x4 h=>Dq 12 Y (.guarded ((decide (0 < (y4.length : Int))) == true) Y Y Y Y fun h => Za2 (ow Y h) (ov Y) Xo Y Y<|gdT h_x4 h)<|Dq 13 Y (.guarded ((decide (0 < (y4.length : Int))) == true) Y Y Y Y fun h => ZhW (ow Y h) Y Y XN)<|Dq 14 Y (.guarded ((decide (0 < (y4.length : Int))) == true) Y Y Y Y fun h => Zc1 (ow Y h) Y Y (gdT h_x4 h) tS3<|Zl at8)<|Dq 15 Y (.guarded ((decide (0 < (y4.length : Int))) == true) Y Y Y Y fun h => Zdv (ow Y h) (ow Y h) Y)<|Dq 16 Y (.guarded ((decide (0 < (y4.length : Int))) == true) Y Y Y Y fun h => ZaJ (ow Y h)<|ov Y)<|Dq 17 Y (XU (ov Y) fun hp=>ow Y<|gT hp)<|Dd<|K2 10 58 Y<|If h Y (fun h=>?_) fun h=>?_
    ·
     refine K0<|Tr<|Ra Y<|Ra Y<|Za<|?_
     obtain rfl := rt h
     exact Zu (ZL Y (.two (.tmp Y<|View.nils 49)<|rb Y))
    ·
     refine Zm<|I1 (fun out=>⟨[(10, .own 0 out.length)], [some ⟨49, List.map R49 out⟩]⟩) h (fun h=>?_) fun out h=>?_
     ·
      refine K1 10 Y<|Tr<|Rm Y<|Rq Y (ZcN (ov Y) Y Y Xo)<|Rm Y<|Za<|Zn<|?_
      obtain ⟨r3, hl3, ho3⟩ := Xq h
      refine L2 (fun out2 i3=>⟨[(10, .own 0 out2.length), (60, .int .i64 (y4.length : Int)), (61, .int .i64 i3)], [some ⟨49, List.map R49 out2⟩]⟩) hl3 (ES [some 1]) fun n3 out2 i3 h=>?_
      unfold Q9 at h
      refine Tr<|R2 Z4 Y<|Za<|Zs<|If h Y (fun h=>?_) fun h=>?_
      ·
       exact Zm<|Zs<|Zn<|K3 10 60 61 Y<|Tr<|Rm Y<|Ra Y<|Za<|K4 10 11 60 61 Y<|ZC<|Rm Y<|Rm Y<|Rm Y<|Rm Y<|bE h fun x5 h_x5 h=>Rq Y (Za2 (ov Y) (ov Y) Xo Y Y h_x5)<|Rq Y (Zjs (ov Y) Y Y h_x5 Xk (Zr<|Zg Zy) Zy (hns := ZbN))<|bE h fun y5 h_y5 h=>Rq Y (Zq (Zfq h_y5)<|.cons (ov Y) (.aggB Jl) .nil)<|bE h fun x6 h_x6 h=>Rq Y (Za2 (ov Y) (ov Y) Xo Y Y h_x6)<|Rx Y (Zc2 (u' := y5) (ov Y) (ov Y) (Zo Xk Zy) Y Y h_x6 (Nat.ble_eq_true_of_le<|ZF (Zg Zy) Zy) (Zb Zc3)<|ZK<|Eq.trans Zy<|Eq.symm Zy)<|Za<|K3 10 60 61 Y<|ZC<|R2 Z2 Y<|Rm Y<|Za<|⟨_, h, ES [some 0]<|sr 10 Y (ZkU (Eq.symm<|(List.length_set ..).trans Y) Y)<|sd 60 Y Y<|sd 61 Y Y sn⟩
      ·
       refine ZT<|?_
       replace h := lx h ▸ ho3
       exact ⟨_, h, ES [some 0]⟩
     ·
      refine Tr<|Rm Y<|Ra Y<|Ra Y<|Za<|?_
      obtain rfl := rt h
      exact Zu (ZL Y (.two (.tmp Y<|View.ownM Y Y D49)<|rb Y))
end Go.Proofs.YteljlmpmdplgmaaGreatDoor
