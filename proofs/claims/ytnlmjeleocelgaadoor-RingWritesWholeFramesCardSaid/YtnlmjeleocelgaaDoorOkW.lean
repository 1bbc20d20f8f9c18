/- A text of the proof: a verified executor of the program form, or the contracts of the functions that the law reaches. -/
import Derived.Test.YtnlmjeleocelgaaDoorOkWc
set_option linter.all false
namespace Go.Proofs.YtnlmjeleocelgaaDoor
open Go Go.Vx
set_option maxRecDepth 10000
set_option maxHeartbeats 1000000
set_option linter.unusedVariables false
theorem ZiV {l : List api_Memory} {r : (List api_Memory)} (h : XD l = some r) :
 CSpec Tryd.prog gl0 31 [.sl 60 (List.map R60 l)] (.sl 60 (List.map R60 r)) := by
 unfold XD at h
 replace h := QO h
 refine So Tryd.func31 Y fun w0 A=>Tr<|Ra Y<|Za<|K1 0 Y<|Tr<|Ra Y<|Za<|I1 (fun out=>⟨[(3, .own 0 out.length)], [some ⟨60, List.map O60 out⟩]⟩) h (fun h=>?_) fun out h=>?_
 ·
  refine Tr<|Rm Y<|Rl tZ_60 ZdK Y<|Rm Y<|Za<|Zf<|?_
  obtain ⟨r1, hl1, ho1⟩ := Xm h
  refine L2 (fun out2 i=>⟨[(3, .own 0 out2.length), (6, .sl 60 (List.map R60 l)), (7, .int .i64 (l.length : Int)), (8, .int .i64 i)], [some ⟨60, List.map O60 out2⟩]⟩) hl1 (ES [none]) fun n1 out2 i h=>?_
  unfold Xr at h
  refine Tr<|R2 ZT Y<|Za<|Zg<|If h Y (fun h=>?_) fun h=>?_
  ·
   exact Zh<|Zg<|Zf<|K4 3 6 7 8 Y<|Tr<|bE h fun x h_x h=>Rq Y (Qz (ov Y) (ov Y) ZdK h_x)<|Rq Y (QP (ov Y) Zax Y Y)<|Rx Y (Qd (row := [_, _, _, _, _]) 1 Y Zex Y tZ_60)<|Rx Y (Zk (ov Y) (ov Y) (ZB Zax Y) Y Y Y (Nat.le_of_ble_eq_true Y) (Zb Y) Y)<|Za<|K5 3 5 6 7 8 Y<|QS [some ⟨60, List.map O60 out2⟩, some ⟨60, [[.int .i64 x.Slots, .int .i64 x.Limit, .sl 29 (List.map R29 x.Sectors), .sl 3 (List.map R3 x.Wear), .sl 4 (List.map R4 x.Bad)]]⟩] Y<|Zs<|Rm Y<|Rq Y (QD (ov Y) Y Y Y Zax Y Y)<|bE h fun y h_y h=>Rx Y (ZE [] (Zc5 h_y) (.cons (ov Y) (Zfq<|rld Y) .nil) .nil Y (.keep Y Y<|.keep Y Y<|.lent 0 (.inr ⟨Nat.le_of_ble_eq_true Y, Y⟩) Y (roO Jo)<|.lent 1 (.inr ⟨Nat.le_of_ble_eq_true Y, Y⟩) Y (roM D3)<|.lent 2 (.inr ⟨Nat.le_of_ble_eq_true Y, Y⟩) Y (roM D4) .nil) Y Y<|Zfq<|rlc (.dat Y)<|rlc (.dat Y)<|rlc (.own _<|.inr ⟨Nat.le_of_ble_eq_true Y, Y⟩)<|rlc (.own _<|.inr ⟨Nat.le_of_ble_eq_true Y, Y⟩)<|rlc (.own _<|.inr ⟨Nat.le_of_ble_eq_true Y, Y⟩) rln)<|Rx Y (Q3 (r := 5) Y ZdK (.cons (cva<|ov Y) Y .nil) Y Y)<|bE h fun l2 h_l2 h=>Rx Y (ZP (f := O60) (ov Y) (Qf (o := ⟨60, [[.int .i64 y.Slots, .int .i64 y.Limit, .own 2 y.Sectors.length, .own 3 y.Wear.length, .own 4 y.Bad.length]]⟩) (ov Y) Y Y tZ_60) ZdK Y Y (Zb Y) Y h_l2)<|Ra Y<|ZfS [some ⟨60, List.set (List.map O60 l2) out2.length [.int .i64 y.Slots, .int .i64 y.Limit, .own 2 y.Sectors.length, .own 3 y.Wear.length, .own 4 y.Bad.length]⟩, some ⟨60, [[.int .i64 x.Slots, .int .i64 x.Limit, .sl 29 (List.map R29 x.Sectors), .sl 3 (List.map R3 x.Wear), .sl 4 (List.map R4 x.Bad)]]⟩, some ⟨29, List.map O29 y.Sectors⟩, some ⟨3, List.map R3 y.Wear⟩, some ⟨4, List.map R4 y.Bad⟩, some ⟨60, [[.int .i64 y.Slots, .int .i64 y.Limit, .own 2 y.Sectors.length, .own 3 y.Wear.length, .own 4 y.Bad.length]]⟩] Y<|Xz (Ent.absorbH (r := 0) (j := 2) (q := 2) Y (Zo h_l2) Y Y (List.length_map ..) Y)<|Xz (Ent.absorbH (r := 0) (j := 3) (q := 3) Y (Zo h_l2) Y Y (List.length_map ..) Y)<|Xz (Ent.absorbH (r := 0) (j := 4) (q := 4) Y (Zo h_l2) Y Y (List.length_map ..) Y)<|Xz (Ent.closeS (r := 0) Y (Zo h_l2) Y)<|Za<|K4 3 6 7 8 Y<|QS [some ⟨60, List.map O60 l2⟩, some ⟨60, [[.int .i64 x.Slots, .int .i64 x.Limit, .sl 29 (List.map R29 x.Sectors), .sl 3 (List.map R3 x.Wear), .sl 4 (List.map R4 x.Bad)]]⟩, none, none, none, some ⟨60, [[.int .i64 y.Slots, .int .i64 y.Limit, .own 2 y.Sectors.length, .own 3 y.Wear.length, .own 4 y.Bad.length]]⟩] Y<|Zs<|R2 ZU Y<|Rm Y<|Za<|⟨_, h, ES [some 0] (hhp := .cons Y (roO Q5) .nil)⟩
  ·
   refine ZM<|?_
   replace h := lx h ▸ ho1
   exact ⟨_, h, ES [some 0] (hhp := .cons Y (roO Q5) .nil)⟩
 ·
  refine Tr<|Rm Y<|Ra Y<|Za<|?_
  obtain rfl := rt h
  exact Zp (Z5 Y (.one<|.tmp Y<|View.ownO Y Y Q5 (fun x=>(D60 x).1) Zly))
theorem ZaF {r_ : ring_Recorder} {r : (List api_Memory)} (h : Qw r_ = some r) :
 GSpec Tryd.prog gl0 16 [.ptr 0 1 0 0] [some ⟨80, [[.own 1 r_.bank.memories.length, .own 2 r_.bank.spots.length, .int .i64 r_.copies, .bool r_.frozen, .bool r_.stopped, .int .i64 r_.last, .bool r_.some_]]⟩, some ⟨60, List.map O60 r_.bank.memories⟩, some ⟨83, List.map R83 r_.bank.spots⟩] (.sl 60 (List.map R60 r)) [some ⟨80, [[.sl 60 (List.map R60 r_.bank.memories), .own 3 r_.bank.spots.length, .int .i64 r_.copies, .bool r_.frozen, .bool r_.stopped, .int .i64 r_.last, .bool r_.some_]]⟩, none, none, some ⟨83, List.map R83 r_.bank.spots⟩] := by
 unfold Qw at h
 replace h := QO h
 refine Q0 (by kernel_rfl) Tryd.func16 Y Y<|?_
 intro w0 A W φ0
 refine ZeT (Ent.sel [some 0, some 1, some 2, some 1, some 2] (sr 0 Y (.ptr (r' := 0) _ _ _ Y) sn) (.cons Y (ro1 (by exact tZ_80.symm)<|rlc (.own (r' := 3) _ Y)<|rlc (.own (r' := 4) _ Y)<|rlc (.dat Y)<|rlc (.dat Y)<|rlc (.dat Y)<|rlc (.dat Y)<|rlc (.dat Y) rln)<|.dead<|.dead<|.cons Y (roO Q5)<|.cons Y (roM D83) .nil) Y Y)<|QS [some ⟨80, [[.own 3 r_.bank.memories.length, .own 4 r_.bank.spots.length, .int .i64 r_.copies, .bool r_.frozen, .bool r_.stopped, .int .i64 r_.last, .bool r_.some_]]⟩, none, none, some ⟨60, List.map O60 r_.bank.memories⟩, some ⟨83, List.map R83 r_.bank.spots⟩] Y<|Tr<|Ra Y<|Za<|Tr<|Rm Y<|Rq Y (Zy (ov Y) Y Y)<|Rq Y (Zd (ov Y) Y Y ZeA)<|Rq Y (Zd (ov Y) Y Y Zeu)<|Rq Y (Zv (ov Y) Y Y Y Zj7 Y)<|bE h fun y h_y h=>Xz (Ent.meltO (r := 3) Y Q5 (fun x=>(D60 x).1) Zly)<|Xz (Ent.sel [some 0, some 1, some 2, none, some 4] (sr 0 Y (.ptr (r' := 0) _ _ _ Y)<|sd 2 Y Y<|sr 3 Y (.ptr (r' := 0) _ _ _ Y)<|sr 4 Y (.ptr (r' := 0) _ _ _ Y)<|sr 5 Y (.ptr (r' := 0) _ _ _ Y)<|sr 6 Y (.ptr (r' := 0) _ _ _ Y)<|sr 7 Y (Zrg Y Y Y D60) sn) (.cons Y (ro1 (by exact tZ_80.symm)<|rlc (Zrg Y Y Y D60)<|rlc (.own (r' := 4) _ Y)<|rlc (.dat Y)<|rlc (.dat Y)<|rlc (.dat Y)<|rlc (.dat Y)<|rlc (.dat Y) rln)<|.dead<|.dead<|.row 60<|.cons Y (roM D83) .nil) Y Y)<|Rq Y (Zt (ZiV h_y)<|.cons (ov Y) (.b Y) .nil)<|Ra Y<|Za<|?_
 obtain rfl := rt h
 exact Zp<|Za0 [some 0, some 1, some 2, some 4] Y (.cons (.tmp Y) .nil) (.cons Y (ro1 (by exact tZ_80.symm)<|rlc (.dat Y)<|rlc (.own _ Y)<|rlc (.dat Y)<|rlc (.dat Y)<|rlc (.dat Y)<|rlc (.dat Y)<|rlc (.dat Y) rln)<|.dead<|.dead<|.cons Y (roM D83) .nil) Y Y<|.dat Y
theorem Zm8 {xs r : List Int} (h : ZiH xs = some r) :
    GSpec Tryd.prog gl0 43 [.own 0 xs.length] [some ⟨3, List.map R3 xs⟩] (.tuple []) [some ⟨3, List.map R3 r⟩] :=
  ZoB (g := R3) (fun _ => rfl) (by kernel_rfl) tZ_3 (fun _ _ _ _ _ h1 h2 h3 => Any.slices_Sort_int Tryd.lays189 _ _ _ _ _ h1 h2 h3) (fun p c w => Any.slices_Sort_int_none Tryd.lays189 p c w) h
theorem Zji {l : List api_Memory} {r : (List (Vector Int 64)) × Int} (h : Zdg l = some r) :
 CSpec Tryd.prog gl0 23 [.sl 60 (List.map R60 l)] (.tuple [.sl 44 (List.map R44 r.1), .int .i64 r.2]) := by
 unfold Zdg at h
 replace h := QO h
 refine So Tryd.func23 Y fun w0 A=>Tr<|Ra Y<|Ra Y<|Za<|K1 0 Y<|Tr<|Rm Y<|bE h fun y h_y h=>Rq Y (Zt (Zdr h_y)<|.cons (ov Y) (.b Y) .nil)<|Rm Y<|Rq Y (Zm (ov Y) Y)<|Rq Y (Zm (ov Y) Y)<|Ra Y<|Ra Y<|Za<|Zg<|K2 4 5 Y<|Tr<|Rm Y<|R2 Jv Y<|Za<|K3 4 5 23 Y<|If h Y (fun h=>?_) fun h=>?_
 ·
  refine K1 5 Y<|Tr<|Rm Y<|Ra Y<|Ra Y<|Za<|?_
  obtain rfl := rt h
  exact Zp (Z5 Y (.two (.tmp Y<|View.nils 44)<|rb Y))
 ·
  refine Zh<|K1 4 Y<|Tr<|Rx Y (ZmS 0 Y Zmt)<|Ra Y<|Za<|K2 4 6 Y<|Tr<|Ra Y<|Za<|I2 (fun best numbers=>⟨[(6, .mref 0 1), (7, .own 1 numbers.length)], [some ⟨97, [[.mcon (List.map (Zbk FK3 Zgs) best)]]⟩, some ⟨3, List.map R3 numbers⟩]⟩) h (fun h=>?_) fun best numbers h=>?_
  ·
   refine Tr<|Rm Y<|Rl tZ_51 Zk9 Y<|Rm Y<|Za<|Zf<|?_
   obtain ⟨r1, hl1, ho1⟩ := Xm h
   refine L3 (fun best2 numbers2 i=>⟨[(6, .mref 0 1), (7, .own 1 numbers2.length), (26, .sl 51 (List.map R51 y.1)), (27, .int .i64 (y.1.length : Int)), (28, .int .i64 i)], [some ⟨97, [[.mcon (List.map (Zbk FK3 Zgs) best2)]]⟩, some ⟨3, List.map R3 numbers2⟩]⟩) hl1 (ES [some 0, none] (hhp := .cons Y (ZhL (fk := FK3) (fv := Zgs) (m := ([] : List (Int × api_Kept))) tZ_97 (fun _=>.dat Y) fun _=>.ren<|Zfq<|rld ZeD)<|.row 3 .nil)) fun n1 best2 numbers2 i h=>?_
   unfold Zb3 at h
   refine Tr<|R2 ZT Y<|Za<|Zg<|If h Y (fun h=>?_) fun h=>?_
   ·
    refine Zh<|Zg<|Zf<|K5 6 7 26 27 28 Y<|Tr<|bE h fun x h_x h=>Rq Y (Qz (ov Y) (ov Y) Zk9 h_x)<|Rq Y (QP (ov Y) Zj2 (Qp<|Zu Zab) Zab)<|Rx Y (Qd (row := (.int .i64 0) :: (.int .i64 0) :: (.int .i64 0) :: (.int .i64 0) :: ((List.map C42 (Vector.replicate 64 0).toList) ++ ([]))) 2 Y Zpk (by kernel_rfl)<|by exact Eq.symm (Eq.trans (b := 68) Zab tZ_51.symm))<|Rx Y (Zk (ov Y) (ov Y) (ZB Zj2 Zab) Y Y Y (Zaq (Zu Zab) Zab) (Zb ZoJ)<|Jd<|Eq.trans Zab<|Eq.symm Zab)<|Za<|Zg<|K6 6 7 9 26 27 28 Y<|Tr<|Rq Y (Zd (ov Y) Y Y Zl2)<|Rq Y (QD (ov Y) Y Y Y JS (Qp at9) arL (hns := (nsM fun _ => Y)))<|bE h fun y2 h_y2 h=>Rq Y (Zt (Zf0 h_y2)<|.cons (ov Y) (.aggB<|arD fun _ => Y) .nil)<|Rl tZ_114 Zin Y<|R2 Zde Y<|Za<|K7 6 7 9 26 27 28 36 Y<|If h Y (fun h=>?_) fun h=>?_
    ·
     exact ZM<|K5 6 7 26 27 28 Y<|Zs<|R2 ZU Y<|Rm Y<|Za<|⟨_, h, ES [some 0, some 1] (hhp := .cons Y (ZhL (fk := FK3) (fv := Zgs) (m := best2) tZ_97 (fun _=>.dat Y) fun _=>.ren<|Zfq<|rld ZeD)<|.cons Y (roM D3) .nil)⟩
    ·
     refine Zh<|K6 6 7 9 26 27 28 Y<|Tr<|Rq Y (Zd (ov Y) Y Y Zl2)<|Rq Y (QD (ov Y) Y Y Y JS (Qp at9) arL (hns := (nsM fun _ => Y)))<|bE h fun y3 h_y3 h=>Rq Y (Zt (Zft h_y3)<|.cons (ov Y) (.aggB<|arD fun _ => Y) .nil)<|Rm Y<|Rq Y (Zm (ov Y) Y)<|Rq Y (Zm (ov Y) Y)<|Ra Y<|Ra Y<|Za<|K7 6 7 9 10 26 27 28 Y<|Tr<|Rm Y<|Rm Y<|bE h fun o h_o h=>Rq Y (Zrr (m := best2) (fk := FK3) (fv := Zgs) (k := y3.1) (z0 := (api_Kept.mk 0 0 0 0 (Vector.replicate 64 0))) (ov Y) (ov Y) Zmt Zp8 Y (fun _=>.b Y) (Zlv ZpR Y) (fun _ _=>Y) h_o)<|Rm Y<|Rq Y (Zm (ov Y) Y)<|Rq Y (Zm (ov Y) Y)<|Rx Y (Qd (row := (.int .i64 0) :: (.int .i64 0) :: (.int .i64 0) :: (.int .i64 0) :: ((List.map C42 (Vector.replicate 64 0).toList) ++ ([]))) 3 Y Zpk (by kernel_rfl)<|by exact Eq.symm (Eq.trans (b := 68) Zab tZ_51.symm))<|Rx Y (Zk (ov Y) (ov Y) (ZB Zj2 Zab) Y Y Y (Zaq (Zu Zab) Zab) (Zb ZoJ)<|Jd<|Eq.trans Zab<|Eq.symm Zab)<|Ra Y<|Za<|I1 (fun numbers3=>⟨[(6, .mref 0 1), (7, .own 1 numbers3.length), (9, .ptr 2 1 0 0), (10, .int .i64 y3.1), (12, .ptr 3 1 0 0), (13, .bool o.isSome), (26, .sl 51 (List.map R51 y.1)), (27, .int .i64 (y.1.length : Int)), (28, .int .i64 i)], [some ⟨97, [[.mcon (List.map (Zbk FK3 Zgs) best2)]]⟩, some ⟨3, List.map R3 numbers3⟩, some ⟨51, [(.int .i64 x.Memory) :: (.int .i64 x.Sector) :: (.int .i64 x.Sequence) :: (.int .i64 x.Slot) :: ((List.map C42 x.Frame.toList) ++ ([]))]⟩, some ⟨51, [(.int .i64 ((o.getD (api_Kept.mk 0 0 0 0 (Vector.replicate 64 0))).Memory)) :: (.int .i64 ((o.getD (api_Kept.mk 0 0 0 0 (Vector.replicate 64 0))).Sector)) :: (.int .i64 ((o.getD (api_Kept.mk 0 0 0 0 (Vector.replicate 64 0))).Sequence)) :: (.int .i64 ((o.getD (api_Kept.mk 0 0 0 0 (Vector.replicate 64 0))).Slot)) :: ((List.map C42 ((o.getD (api_Kept.mk 0 0 0 0 (Vector.replicate 64 0))).Frame).toList) ++ ([]))]⟩]⟩) h (fun h=>?_) fun numbers3 h=>?_
     ·
      refine K9 6 7 9 10 12 13 26 27 28 Y<|Tr<|Rm Y<|R1 J9 Y<|Za<|K10 6 7 9 10 12 13 26 27 28 50 Y<|If h Y (fun h=>?_) fun h=>?_
      ·
       exact K9 6 7 9 10 12 13 26 27 28 Y<|Zs<|Rm Y<|Rm Y<|R_q (.sl 3<|List.map R3 ([y3.1] : List Int)) Y (Zae Xg (.cons (cvs (ov Y)<|Zn Y) Y (.cons (.b Y) .nil) .nil) Y Y)<|bE h fun l2 h_l2 h=>Rx Y (XT (ov Y) (Jb (ov Y) tZ_3) Xg Y Y Y (fun _=>Zb Y) Y h_l2)<|Ra Y<|Za<|⟨_, h, ES [some 0, some 1, some 2, some 3] (hhp := .cons Y (ZhL (fk := FK3) (fv := Zgs) (m := best2) tZ_97 (fun _=>.dat Y) fun _=>.ren<|Zfq<|rld ZeD)<|.cons Y (roM D3)<|.cons Y (ro1 (by exact Eq.trans (b := 68) Zab tZ_51.symm)<|rld ZeD)<|.cons Y (ro1 (by exact Eq.trans (b := 68) Zab tZ_51.symm)<|rld ZeD) .nil)⟩
      ·
       exact Zh<|⟨_, h, ES [some 0, some 1, some 2, some 3] (hhp := .cons Y (ZhL (fk := FK3) (fv := Zgs) (m := best2) tZ_97 (fun _=>.dat Y) fun _=>.ren<|Zfq<|rld ZeD)<|.cons Y (roM D3)<|.cons Y (ro1 (by exact Eq.trans (b := 68) Zab tZ_51.symm)<|rld ZeD)<|.cons Y (ro1 (by exact Eq.trans (b := 68) Zab tZ_51.symm)<|rld ZeD) .nil)⟩
     ·
      refine Tr<|Rm Y<|R1 J9 Y<|Rm Y<|Rq Y (.guarded ((!o.isSome) == false) Y Y Y Y fun h => Zd (ov Y) Y Y ZnY)<|Rq Y (.guarded ((!o.isSome) == false) Y Y Y Y fun h => Zv (ow Y h) Y Y Y tS3<|QF at5)<|Rq Y (.guarded ((!o.isSome) == false) Y Y Y Y fun h => Zd (ov Y) Y Y ZnY)<|Rq Y (.guarded ((!o.isSome) == false) Y Y Y Y fun h => Zv (ow Y h) Y Y Y tS3<|QF at5)<|Rq Y (.guarded ((!o.isSome) == false) Y Y Y Y fun h => Zde (ow Y h)<|ow Y h)<|Rq Y (Zgu (ov Y) fun hp=>ow Y<|gF hp)<|Za<|K8 6 7 9 10 26 27 28 63 Y<|If h Y (fun h=>?_) fun h=>?_
      ·
       exact K7 6 7 9 10 26 27 28 Y<|Zs<|Rm Y<|Rm Y<|Rq Y (QD (ov Y) Y Y Y Zj2 (Qp<|Zu Zab) Zab (hns := Zq9))<|Rx Y (ZnQ (m := best2) (fk := FK3) (fv := Zgs) (k := y3.1) (v := x) (ov Y) (ov Y) (ov Y) Zmt Zp8 Y fun _=>.b Y)<|Za<|K5 6 7 26 27 28 Y<|Zs<|R2 ZU Y<|Rm Y<|Za<|⟨_, h, ES [some 0, some 1] (hhp := .cons Y (ZhL (fk := FK3) (fv := Zgs) (m := (Zlh kqI best2 y3.1 x)) tZ_97 (fun _=>.dat Y) fun _=>.ren<|Zfq<|rld ZeD)<|.cons Y (roM D3) .nil)⟩
      ·
       exact Zh<|K5 6 7 26 27 28 Y<|Zs<|R2 ZU Y<|Rm Y<|Za<|⟨_, h, ES [some 0, some 1] (hhp := .cons Y (ZhL (fk := FK3) (fv := Zgs) (m := best2) tZ_97 (fun _=>.dat Y) fun _=>.ren<|Zfq<|rld ZeD)<|.cons Y (roM D3) .nil)⟩
   ·
    refine ZM<|?_
    replace h := lx h ▸ ho1
    exact ⟨_, h, ES [some 0, some 1] (hhp := .cons Y (ZhL (fk := FK3) (fv := Zgs) (m := best2) tZ_97 (fun _=>.dat Y) fun _=>.ren<|Zfq<|rld ZeD)<|.cons Y (roM D3) .nil)⟩
  ·
   refine Tr<|Rm Y<|bE h fun y4 h_y4 h=>Rx Y (ZE [1] (Zm8 h_y4) (.cons (ov Y) (.own _ Y) .nil) (.cons Y (roM D3) .nil) Y (.keep Y Y<|.lent 0 (.inl Y) Y (roM D3) .nil) Y Y<|Xe<|rld Y)<|Za<|K2 6 7 Y<|Tr<|Ra Y<|Za<|I1 (fun out=>⟨[(14, .own 0 out.length)], [some ⟨44, List.map R44 out⟩]⟩) h (fun h=>?_) fun out h=>?_
   ·
    refine Tr<|Rm Y<|Rq Y (Zfj (ov Y) Y (Zjr h_y4) Xg)<|Rm Y<|Za<|Zf<|?_
    obtain ⟨r2, hl2, ho2⟩ := Xm h
    refine L2 (fun out2 i2=>⟨[(6, .mref 0 1), (14, .own 1 out2.length), (70, .own 2 y4.length), (71, .int .i64 (y4.length : Int)), (72, .int .i64 i2)], [some ⟨97, [[.mcon (List.map (Zbk FK3 Zgs) best)]]⟩, some ⟨44, List.map R44 out2⟩, some ⟨3, List.map R3 y4⟩]⟩) hl2 (Ent.sel [some 0, none, some 1] (sr 6 Y (.mref _ Y)<|sr 14 Y (.row Y)<|sr 70 Y (Zds (Eq.symm<|Zjr h_y4) Y)<|sd 71 Y Y<|sd 72 Y Y sn) (.cons Y (ZhL (fk := FK3) (fv := Zgs) (m := best) tZ_97 (fun _=>.dat Y) fun _=>.ren<|Zfq<|rld ZeD)<|.row 44<|.cons Y (roM D3) .nil) Y Y) fun n2 out2 i2 h=>?_
    unfold Zco at h
    refine Tr<|R2 ZT Y<|Za<|Zg<|If h Y (fun h=>?_) fun h=>?_
    ·
     exact Zh<|Zg<|Zf<|K5 6 14 70 71 72 Y<|Tr<|bE h fun x2 h_x2 h=>Rq Y (QA (ov Y) (ov Y) Xg Y Y h_x2)<|Rq Y (QE (ov Y) Y Y h_x2 tS3 Y)<|Ra Y<|Za<|K6 6 14 16 70 71 72 Y<|Zs<|Rm Y<|Rm Y<|Rm Y<|bE h fun o2 h_o2 h=>Rq Y (Zri (m := best) (fk := FK3) (fv := Zgs) (k := x2) (z0 := (api_Kept.mk 0 0 0 0 (Vector.replicate 64 0))) (ov Y) (ov Y) Zmt Zp8 Y (fun _=>.b Y) (Zlv ZpR Y) (fun _ _=>Y) h_o2)<|Rq Y (Zn2 (ov Y) Zpr at9)<|R_q (.sl 44<|List.map R44 ([o2.Frame] : List (Vector Int 64))) Y (Zae Zpa (.cons (cva<|ov Y) arL (pwD<|arD fun _ => Y) .nil) Y Y)<|bE h fun l3 h_l3 h=>Rx Y (XT (ov Y) (Jb (ov Y) tZ_44) Zpa Y Y Y (fun x=>Zb<|E44 x) Y h_l3)<|Ra Y<|Za<|K5 6 14 70 71 72 Y<|Zs<|R2 ZU Y<|Rm Y<|Za<|⟨_, h, ES [some 0, some 1, some 2] (hhp := .cons Y (ZhL (fk := FK3) (fv := Zgs) (m := best) tZ_97 (fun _=>.dat Y) fun _=>.ren<|Zfq<|rld ZeD)<|.cons Y (roM D44)<|.cons Y (roM D3) .nil)⟩
    ·
     refine ZM<|?_
     replace h := lx h ▸ ho2
     exact ⟨_, h, ES [some 1]⟩
   ·
    refine Tr<|Rm Y<|Ra Y<|Ra Y<|Za<|?_
    obtain rfl := rt h
    exact Zp (Z5 Y (.two (.tmp Y<|View.ownM Y Y D44)<|rb Y))
theorem Zfg  {r : Bool} (h : ZbK  = some r) :
 CSpec Tryd.prog gl0 9 [] (.bool r) := by
 unfold ZbK at h
 replace h := QO h
 refine So Tryd.func9 Y fun w0 A=>Tr<|Ra Y<|Za<|K0<|Tr<|bE h fun l h_l h=>Rx Y (Zbq [none] (r := 0) (f := R3) (z0 := 0) Y (ov Y) (ov Y) Xg Y tZ3 Y Y h_l)<|bE h fun y h_y h=>Rq Y (Zc1 (Zlm h_y) (.tuple<|by simp only [List.mem_cons, List.not_mem_nil, or_false, forall_eq_or_imp, forall_eq]; exact ⟨(Zln (fun _ => .int)), .int⟩)<|.cons (ov Y) (Dat.view<|.b Y)<|.cons (ov Y) (View.ownM Y Y D3) .nil)<|Rm Y<|Rq Y (Zm (ov Y) Y)<|Rq Y (Zm (ov Y) Y)<|Rx Y (Qd (row := (List.map C42 (Vector.replicate 64 0).toList)) 1 Y ZhC Y tZ_44)<|Rx Y (Zk (ov Y) (ov Y) (ZB JS arL) Y Y Y (Zaq (Zu arL) arL) (Zb<|arC fun _ => Y)<|Jd<|Eq.trans arL<|Eq.symm arL)<|Ra Y<|Za<|K1 1 Y<|Tr<|bE h fun y2 h_y2 h=>Rq Y (Zt (Zhp h_y2)<|.cons (ov Y) (.b Y)<|.cons (ov Y) (.b Y)<|.cons (ov Y) (.b Y) .nil)<|Rm Y<|Rq Y (Zm (ov Y) Y)<|Rq Y (Zm (ov Y) Y)<|Rx Y (Qd (row := [_, _, _, _, _]) 2 Y Zex Y tZ_60)<|Rx Y (Zk (ov Y) (ov Y) (ZB Zax Y) Y Y Y (Nat.le_of_ble_eq_true Y) (Zb Y) Y)<|Ra Y<|Za<|Zg<|K3 1 3 4 Y<|Tr<|Rm Y<|R2 Jv Y<|Za<|K3 1 3 20 Y<|If h Y (fun h=>?_) fun h=>?_
 ·
  refine K0<|Tr<|Ra Y<|Za<|?_
  obtain rfl := rt h
  exact Zp (Z5 Y (.one<|rb Y))
 ·
  refine Zh<|K2 1 3 Y<|Tr<|Rq Y (QD (ov Y) Y Y Y Zax Y Y)<|R_q (.sl 60<|List.map R60 ([y2.1] : List api_Memory)) Y (Zae ZdK (.cons (cva<|ov Y) Y (pwD Y) .nil) Y Y)<|bE h fun y3 h_y3 h=>?_
  rcases y3 with y3 | y3
  ·
   replace h := ell h
   refine Rx Y (ZE [] (ZdC h_y3) (.cons (ov Y) (.dat Y)<|.cons (ov Y) (.dat Y) .nil) .nil Y (.keep Y Y<|.keep Y Y<|.keep Y Y .nil) Y Y<|Xe<|rlc (.dat Y)<|rlc (.dat Y) rln)<|Rm Y<|Rq Y (Zm (ov Y) Y)<|Rq Y (Zm (ov Y) Y)<|Ra Y<|Ra Y<|Za<|Zg<|K3 1 4 5 Y<|Tr<|Rm Y<|R2 Jv Y<|Za<|K3 1 5 28 Y<|If h Y (fun h=>?_) fun h=>?_
   ·
    refine K0<|Tr<|Ra Y<|Za<|?_
    obtain rfl := rt h
    exact Zp (Z5 Y (.one<|rb Y))
   ·
    exact Zh<|(Zko h).elim
  ·
   replace h := elr h
   refine Rx Y (ZE [] (Zdz h_y3) (.cons (ov Y) (.dat Y)<|.cons (ov Y) (.dat Y) .nil) .nil Y (.keep Y Y<|.keep Y Y<|.keep Y Y<|.lent 0 (.inr ⟨Nat.le_of_ble_eq_true Y, Y⟩) Y (ro1 (by exact tZ_80.symm)<|rlc (.own _<|.inr ⟨Nat.le_of_ble_eq_true Y, Y⟩)<|rlc (.own _<|.inr ⟨Nat.le_of_ble_eq_true Y, Y⟩)<|rlc (.dat Y)<|rlc (.dat Y)<|rlc (.dat Y)<|rlc (.dat Y)<|rlc (.dat Y) rln)<|.lent 1 (.inr ⟨Nat.le_of_ble_eq_true Y, Y⟩) Y (roO Q5)<|.lent 2 (.inr ⟨Nat.le_of_ble_eq_true Y, Y⟩) Y (roM D83) .nil) Y Y<|Xe<|rlc (.ptr _ _ _<|.inr ⟨Nat.le_of_ble_eq_true Y, Y⟩)<|rlc (.dat Y) rln)<|Rm Y<|Rq Y (Zm (ov Y) Y)<|Rq Y (Zm (ov Y) Y)<|Ra Y<|Ra Y<|Za<|Zg<|K3 1 4 5 Y<|QS [some ⟨3, List.map R3 l⟩, some ⟨44, [(List.map C42 y.1.toList)]⟩, some ⟨60, [[.int .i64 y2.1.Slots, .int .i64 y2.1.Limit, .sl 29 (List.map R29 y2.1.Sectors), .sl 3 (List.map R3 y2.1.Wear), .sl 4 (List.map R4 y2.1.Bad)]]⟩, some ⟨80, [[.own 4 y3.1.bank.memories.length, .own 5 y3.1.bank.spots.length, .int .i64 y3.1.copies, .bool y3.1.frozen, .bool y3.1.stopped, .int .i64 y3.1.last, .bool y3.1.some_]]⟩, some ⟨60, List.map O60 y3.1.bank.memories⟩, some ⟨83, List.map R83 y3.1.bank.spots⟩] Y<|Tr<|Rm Y<|R2 Jv Y<|Za<|K3 1 5 28 Y<|If h Y (fun h=>?_) fun h=>?_
   ·
    refine K0<|Tr<|Ra Y<|Za<|?_
    obtain rfl := rt h
    exact Zp (Z5 Y (.one<|rb Y))
   ·
    refine Zh<|K2 1 5 Y<|Tr<|Rm Y<|Rq Y (QD (ov Y) Y Y Y JS (Qp<|Zu arL) arL (hns := (nsM fun _ => Y)))<|bE h fun y4 h_y4 h=>Rx Y (ZE [3, 4, 5] (Za6 h_y4) (.cons (ov Y) (.ptr _ _ _ Y)<|.cons (ov Y) (Zfq<|rld<|arD fun _ => Y)<|.cons (ov Y) (.dat Y) .nil) (.cons Y (ro1 (by exact tZ_80.symm)<|rlc (.own _ Y)<|rlc (.own _ Y)<|rlc (.dat Y)<|rlc (.dat Y)<|rlc (.dat Y)<|rlc (.dat Y)<|rlc (.dat Y) rln)<|.cons Y (roO Q5)<|.cons Y (roM D83) .nil) Y (.keep Y Y<|.keep Y Y<|.keep Y Y<|.lent 0 (.inl Y) Y (ro1 (by exact tZ_80.symm)<|rlc (.own _<|.inr ⟨Nat.le_of_ble_eq_true Y, Y⟩)<|rlc (.own _<|.inr ⟨Nat.le_of_ble_eq_true Y, Y⟩)<|rlc (.dat Y)<|rlc (.dat Y)<|rlc (.dat Y)<|rlc (.dat Y)<|rlc (.dat Y) rln)<|.none<|.none<|.lent 3 (.inr ⟨Nat.le_of_ble_eq_true Y, Y⟩) Y (roO Q5)<|.lent 4 (.inr ⟨Nat.le_of_ble_eq_true Y, Y⟩) Y (roM D83) .nil) Y Y<|Xe<|rld Y)<|Rm Y<|Rq Y (Zm (ov Y) Y)<|Rq Y (Zm (ov Y) Y)<|Rq Y (Zm (ov Y) Y)<|Ra Y<|Ra Y<|Ra Y<|Za<|K5 1 4 5 6 7 Y<|QS [some ⟨3, List.map R3 l⟩, some ⟨44, [(List.map C42 y.1.toList)]⟩, some ⟨60, [[.int .i64 y2.1.Slots, .int .i64 y2.1.Limit, .sl 29 (List.map R29 y2.1.Sectors), .sl 3 (List.map R3 y2.1.Wear), .sl 4 (List.map R4 y2.1.Bad)]]⟩, some ⟨80, [[.own 6 y4.2.2.2.bank.memories.length, .own 7 y4.2.2.2.bank.spots.length, .int .i64 y4.2.2.2.copies, .bool y4.2.2.2.frozen, .bool y4.2.2.2.stopped, .int .i64 y4.2.2.2.last, .bool y4.2.2.2.some_]]⟩, none, none, some ⟨60, List.map O60 y4.2.2.2.bank.memories⟩, some ⟨83, List.map R83 y4.2.2.2.bank.spots⟩] Y<|Tr<|Rm Y<|bE h fun y5 h_y5 h=>Rx Y (ZE [3, 6, 7] (ZaF h_y5) (.cons (ov Y) (.ptr _ _ _ Y) .nil) (.cons Y (ro1 (by exact tZ_80.symm)<|rlc (.own _ Y)<|rlc (.own _ Y)<|rlc (.dat Y)<|rlc (.dat Y)<|rlc (.dat Y)<|rlc (.dat Y)<|rlc (.dat Y) rln)<|.cons Y (roO Q5)<|.cons Y (roM D83) .nil) Y (.keep Y Y<|.keep Y Y<|.keep Y Y<|.lent 0 (.inl Y) Y (ro1 (by exact tZ_80.symm)<|rlc (.dat Y)<|rlc (.own _<|.inr ⟨Nat.le_of_ble_eq_true Y, Y⟩)<|rlc (.dat Y)<|rlc (.dat Y)<|rlc (.dat Y)<|rlc (.dat Y)<|rlc (.dat Y) rln)<|.none<|.none<|.none<|.none<|.lent 3 (.inr ⟨Nat.le_of_ble_eq_true Y, Y⟩) Y (roM D83) .nil) Y Y<|.dat Y)<|bE h fun y6 h_y6 h=>Rq Y (Zt (Zji h_y6)<|.cons (ov Y) (.b Y) .nil)<|Rm Y<|Rq Y (Zm (ov Y) Y)<|Rq Y (Zm (ov Y) Y)<|Ra Y<|Ra Y<|Za<|Zg<|K6 1 4 6 7 8 9 Y<|QL (cw := md0) (by kernel_rfl)<|D1 0 Zc Y<|D2 1 Zdf Y<|D1 2 Zc Y<|Dq 3 Y (.guarded ((decide (y4.1 = 1)) == true) Y Y Y Y fun h => Zc<|ov Y)<|Dq 4 Y (Zdj (ov Y) fun hp=>ow Y<|gT hp)<|D1 5 Zc Y<|Dq 6 Y (.guarded (((decide (y4.1 = 1)) && y4.2.1) == true) Y Y Y Y fun h => Zc<|ov Y)<|Dq 7 Y (.guarded (((decide (y4.1 = 1)) && y4.2.1) == true) Y Y Y Y fun h => Zdf (ow Y h)<|ov Y)<|Dq 8 Y (Zdj (ov Y) fun hp=>ow Y<|gT hp)<|D1 9 Zc Y<|Dq 10 Y (.guarded ((((decide (y4.1 = 1)) && y4.2.1) && (decide (y4.2.2.1 = 0))) == true) Y Y Y Y fun h => Zc<|ov Y)<|Dq 11 Y (.guarded ((((decide (y4.1 = 1)) && y4.2.1) && (decide (y4.2.2.1 = 0))) == true) Y Y Y Y fun h => Zdf (ow Y h)<|ov Y)<|Dq 12 Y (Zdj (ov Y) fun hp=>ow Y<|gT hp)<|D1 13 Zc Y<|Dq 14 Y (.guarded (((((decide (y4.1 = 1)) && y4.2.1) && (decide (y4.2.2.1 = 0))) && (decide (y6.2 = 0))) == true) Y Y Y Y fun h => Zc<|ov Y)<|Dq 15 Y (.guarded (((((decide (y4.1 = 1)) && y4.2.1) && (decide (y4.2.2.1 = 0))) && (decide (y6.2 = 0))) == true) Y Y Y Y fun h => ZlO (Jb (ow Y h) tZ_44) Zpa<|ZhB _ _)<|Dq 16 Y (.guarded (((((decide (y4.1 = 1)) && y4.2.1) && (decide (y4.2.2.1 = 0))) && (decide (y6.2 = 0))) == true) Y Y Y Y fun h => Zdf (ow Y h)<|ov Y)<|Dq 17 Y (Zdj (ov Y) fun hp=>ow Y<|gT hp)<|D1 18 Zc Y<|Dq 19 Y (.guarded ((((((decide (y4.1 = 1)) && y4.2.1) && (decide (y4.2.2.1 = 0))) && (decide (y6.2 = 0))) && (decide ((y6.1.length : Int) = 1))) == true) Y Y Y Y fun h => Zc<|ov Y)<|bE h fun x h_x h=>Dq 20 Y (.guarded ((((((decide (y4.1 = 1)) && y4.2.1) && (decide (y4.2.2.1 = 0))) && (decide (y6.2 = 0))) && (decide ((y6.1.length : Int) = 1))) == true) Y Y Y Y fun h => Qz (ow Y h) (ov Y) Zpa<|gdT h_x h)<|Dq 21 Y (.guarded ((((((decide (y4.1 = 1)) && y4.2.1) && (decide (y4.2.2.1 = 0))) && (decide (y6.2 = 0))) && (decide ((y6.1.length : Int) = 1))) == true) Y Y Y Y fun h => QP (ow Y h) JS (Qp<|Zu arL) arL)<|Dq 22 Y (.guarded ((((((decide (y4.1 = 1)) && y4.2.1) && (decide (y4.2.2.1 = 0))) && (decide (y6.2 = 0))) && (decide ((y6.1.length : Int) = 1))) == true) Y Y Y Y fun h => QD (ov Y) Y Y Y JS (Qp<|Zu arL) arL (hns := (nsM fun _ => Y)))<|Dq 23 Y (.guarded ((((((decide (y4.1 = 1)) && y4.2.1) && (decide (y4.2.2.1 = 0))) && (decide (y6.2 = 0))) && (decide ((y6.1.length : Int) = 1))) == true) Y Y Y Y fun h => Zmb ZpH (ow Y h) (ow Y h) (.aggB<|arD fun _ => Y) (.aggB<|arD fun _ => Y) (fkV fun _ => Y) (fkV fun _ => Y)<|eqV fun _ _ => Y)<|Dq 24 Y (Zdj (ov Y) fun hp=>ow Y<|gT hp)<|D1 25 QN Y<|Dd<|?_
    obtain rfl := rt h
    exact Zp (Z5 Y (.one<|rb Y))
theorem Zef {r_ : ring_Recorder} {power : Int} {r : Int × Bool × Int × ring_Recorder} (h : XR r_ power = some r) :
 GSpec Tryd.prog gl0 14 [.ptr 0 1 0 0, .int .i64 power] [some ⟨80, [[.own 1 r_.bank.memories.length, .own 2 r_.bank.spots.length, .int .i64 r_.copies, .bool r_.frozen, .bool r_.stopped, .int .i64 r_.last, .bool r_.some_]]⟩, some ⟨60, List.map O60 r_.bank.memories⟩, some ⟨83, List.map R83 r_.bank.spots⟩] (.tuple [.int .i64 r.1, .bool r.2.1, .int .i64 r.2.2.1]) [some ⟨80, [[.own 3 r.2.2.2.bank.memories.length, .own 4 r.2.2.2.bank.spots.length, .int .i64 r.2.2.2.copies, .bool r.2.2.2.frozen, .bool r.2.2.2.stopped, .int .i64 r.2.2.2.last, .bool r.2.2.2.some_]]⟩, none, none, some ⟨60, List.map O60 r.2.2.2.bank.memories⟩, some ⟨83, List.map R83 r.2.2.2.bank.spots⟩] := by
 unfold XR at h
 replace h := QO h
 refine Q0 (by kernel_rfl) Tryd.func14 Y Y<|?_
 intro w0 A W φ0
 refine ZeT (Ent.sel [some 0, some 1, some 2, some 1, some 2] (sr 0 Y (.ptr (r' := 0) _ _ _ Y)<|sd 1 Y Y sn) (.cons Y (ro1 (by exact tZ_80.symm)<|rlc (.own (r' := 3) _ Y)<|rlc (.own (r' := 4) _ Y)<|rlc (.dat Y)<|rlc (.dat Y)<|rlc (.dat Y)<|rlc (.dat Y)<|rlc (.dat Y) rln)<|.dead<|.dead<|.cons Y (roO Q5)<|.cons Y (roM D83) .nil) Y Y)<|QS [some ⟨80, [[.own 3 r_.bank.memories.length, .own 4 r_.bank.spots.length, .int .i64 r_.copies, .bool r_.frozen, .bool r_.stopped, .int .i64 r_.last, .bool r_.some_]]⟩, none, none, some ⟨60, List.map O60 r_.bank.memories⟩, some ⟨83, List.map R83 r_.bank.spots⟩] Y<|Tr<|Ra Y<|Ra Y<|Ra Y<|Za<|Zg<|K2 0 1 Y<|Tr<|Rm Y<|Rm Y<|bE h fun y h_y h=>Rq Y (Zc1 (Zct h_y) .int<|.cons (ov Y) (View.ptrS (j := 0) (k := 7) Y Y Y (Nat.le_of_ble_eq_true Y)<|.cons (View.ownO Y Y Q5 (fun x=>(D60 x).1) Zly)<|.cons (View.ownM Y Y D83)<|.cons (Dat.view<|.b Y)<|.cons (Dat.view<|.b Y)<|.cons (Dat.view<|.b Y)<|.cons (Dat.view<|.b Y)<|.cons (Dat.view<|.b Y) .nil)<|.cons (ov Y) (Dat.view<|.b Y) .nil)<|Ra Y<|Za<|K3 0 1 7 Y<|Tr<|Rm Y<|R2 Jv Y<|Za<|K4 0 1 7 15 Y<|If h Y (fun h=>?_) fun h=>?_
 ·
  refine K1 7 Y<|Tr<|Rm Y<|Ra Y<|Ra Y<|Ra Y<|Za<|?_
  obtain rfl := rt h
  exact Zp<|Za0 [some 0, some 1, some 2, some 3, some 4] Y (.cons (.tmp Y)<|.cons (.tmp Y)<|.cons (.tmp Y) .nil) (.cons Y (ro1 (by exact tZ_80.symm)<|rlc (.own _ Y)<|rlc (.own _ Y)<|rlc (.dat Y)<|rlc (.dat Y)<|rlc (.dat Y)<|rlc (.dat Y)<|rlc (.dat Y) rln)<|.dead<|.dead<|.cons Y (roO Q5)<|.cons Y (roM D83) .nil) Y Y<|Xe<|rlc (.dat Y)<|rlc (.dat Y)<|rlc (.dat Y) rln
 ·
  refine Zh<|K2 0 1 Y<|Tr<|Rm Y<|Rq Y (Zy (ov Y) Y Y)<|Rq Y (Zd (ov Y) Y Y ZkF)<|Rx Y (Zk (ov Y) (ov Y) (Ze tS4) Y Y Y (Nat.le_of_ble_eq_true Y) (Zb Y) Y)<|Za<|J2 (fun j => (.inr j)) (fun memories power2=>⟨[(1, .int .i64 power2)], [some ⟨80, [[.own 3 memories.length, .own 4 r_.bank.spots.length, .int .i64 r_.copies, .bool true, .bool r_.stopped, .int .i64 r_.last, .bool r_.some_]]⟩, none, none, some ⟨60, List.map O60 memories⟩, some ⟨83, List.map R83 r_.bank.spots⟩]⟩) h (fun h=>?_) fun memories power2 h=>?_
  ·
   refine K2 0 1 Y<|QS [some ⟨80, [[.own 3 r_.bank.memories.length, .own 4 r_.bank.spots.length, .int .i64 r_.copies, .bool true, .bool r_.stopped, .int .i64 r_.last, .bool r_.some_]]⟩, none, none, some ⟨60, List.map O60 r_.bank.memories⟩, some ⟨83, List.map R83 r_.bank.spots⟩] Y<|Tr<|Rm Y<|Rq Y (Zy (ov Y) Y Y)<|Rq Y (Zd (ov Y) Y Y ZeA)<|Rq Y (Zd (ov Y) Y Y Zf8)<|Rq Y (Zv (ov Y) Y Y Y Zlf Y)<|Rq Y (Zfj (ov Y) Y Y ZkU)<|Rm Y<|Za<|Zf<|?_
   obtain ⟨r1, hl1, ho1⟩ := Xm h
   refine L3 (fun memories2 power3 i=>⟨[(0, .ptr 0 1 0 0), (1, .int .i64 power3), (24, .own 4 r_.bank.spots.length), (25, .int .i64 (r_.bank.spots.length : Int)), (26, .int .i64 i)], [some ⟨80, [[.own 3 memories2.length, .own 4 r_.bank.spots.length, .int .i64 r_.copies, .bool true, .bool r_.stopped, .int .i64 r_.last, .bool r_.some_]]⟩, none, none, some ⟨60, List.map O60 memories2⟩, some ⟨83, List.map R83 r_.bank.spots⟩]⟩) hl1 (ES [some 0, some 1, some 2, some 3, some 4] (hhp := .cons Y (ro1 (by exact tZ_80.symm)<|rlc (.own _ Y)<|rlc (.own _ Y)<|rlc (.dat Y)<|rlc (.dat Y)<|rlc (.dat Y)<|rlc (.dat Y)<|rlc (.dat Y) rln)<|.dead<|.dead<|.cons Y (roO Q5)<|.cons Y (roM D83) .nil)) fun n1 memories2 power3 i h=>?_
   unfold Xd at h
   refine Tr<|R2 ZT Y<|Za<|Zg<|If h Y (fun h=>?_) fun h=>?_
   ·
    refine Zh<|Zg<|Zf<|K5 0 1 24 25 26 Y<|Tr<|Rm Y<|bE h fun x h_x h=>Rq Y (QA (ov Y) (ov Y) ZkU Y Y h_x)<|Rq Y (ZnR (ov Y) Y Y h_x Zjf Y Y)<|Rx Y (Qd (row := [_, _]) 5 Y Zmg Y tZ_83)<|Ra Y<|Rx Y (Zk (ov Y) (ov Y) (ZB Zjf Y) Y Y Y (Nat.le_of_ble_eq_true Y) (Zb Y) Y)<|Za<|Zg<|K7 0 1 8 9 24 25 26 Y<|QS [some ⟨80, [[.own 3 memories2.length, .own 4 r_.bank.spots.length, .int .i64 r_.copies, .bool true, .bool r_.stopped, .int .i64 r_.last, .bool r_.some_]]⟩, none, none, some ⟨60, List.map O60 memories2⟩, some ⟨83, List.map R83 r_.bank.spots⟩, some ⟨83, [[.int .i64 x.sector, .int .i64 x.slot]]⟩] Y<|Tr<|Rq Y (Zd (ov Y) Y Y Zf9)<|Rq Y (Zv (ov Y) Y Y Y tS3 Y)<|R2 ZT Y<|Za<|K8 0 1 8 9 24 25 26 33 Y<|If h Y (fun h=>?_) fun h=>?_
    ·
     exact ZM<|K5 0 1 24 25 26 Y<|Zs<|R2 ZU Y<|Rm Y<|Za<|⟨_, h, ES [some 0, some 1, some 2, some 3, some 4] (hhp := .cons Y (ro1 (by exact tZ_80.symm)<|rlc (.own _ Y)<|rlc (.own _ Y)<|rlc (.dat Y)<|rlc (.dat Y)<|rlc (.dat Y)<|rlc (.dat Y)<|rlc (.dat Y) rln)<|.dead<|.dead<|.cons Y (roO Q5)<|.cons Y (roM D83) .nil)⟩
    ·
     refine Zh<|K7 0 1 8 9 24 25 26 Y<|Tr<|Ra Y<|Za<|Zg<|bE h fun x2 h_x2 h=>ZeT (Ent.focusH (r := 3) (j := 2) (e' := 29) (g := O29) (ys := x2.Sectors) Y (ZA h_x2).2 Y Jo)<|bE h fun x3 h_x3 h=>ZeT (Ent.focusH (r := 6) (j := 0) (e' := 5) (g := R5) (ys := x3) Y (ZA h_x3).2 Y DR5)<|QL (cw := ⟨true, true, [some ⟨80, [[.own 3 memories2.length, .own 4 r_.bank.spots.length, .int .i64 r_.copies, .bool true, .bool r_.stopped, .int .i64 r_.last, .bool r_.some_]]⟩, none, none, some ⟨60, List.set (List.map O60 memories2) i.toNat [.int .i64 x2.Slots, .int .i64 x2.Limit, .own 6 x2.Sectors.length, .osub 3 (List.map R3 x2.Wear), .osub 4 (List.map R4 x2.Bad)]⟩, some ⟨83, List.map R83 r_.bank.spots⟩, some ⟨83, [[.int .i64 x.sector, .int .i64 x.slot]]⟩, some ⟨29, List.set (List.map O29 x2.Sectors) x.sector.toNat [.own 7 x3.length]⟩, some ⟨5, List.map R5 x3⟩], [], [7]⟩) (by kernel_rfl)<|ZZ 0 _ Y (by kernel_rfl) Y Y (fun hp'=>Zc<|ov Y)<|Q2 1 _ Y (by kernel_rfl) Y Y Y (EL.ext<|.keep<|.keep<|.keep<|.keep<|.keep<|.keep<|.keep<|.wr Y Y Y .nil) (fun hp' hx=>Zy (ov Y) (hx.get Y Y) Y)<|Q2 2 _ Y (by kernel_rfl) Y Y Y (EL.ext<|.keep<|.keep<|.keep<|.keep<|.keep<|.keep<|.keep<|.wr Y Y Y .nil) (fun hp' hx=>Zd (ov Y) (hx.get Y Y) Y ZeA)<|Q2 3 _ Y (by kernel_rfl) Y Y Y (EL.ext<|.keep<|.keep<|.keep<|.keep<|.keep<|.keep<|.keep<|.wr Y Y Y .nil) (fun hp' hx=>Zd (ov Y) (hx.get Y Y) Y Zeu)<|Q2 4 _ Y (by kernel_rfl) Y Y Y (EL.ext<|.keep<|.keep<|.keep<|.keep<|.keep<|.keep<|.keep<|.wr Y Y Y .nil) (fun hp' hx=>Zv (ov Y) (hx.get Y Y) Y Y Zj7 Y)<|ZZ 5 _ Y (by kernel_rfl) Y Y (fun hp'=>Zc<|ov Y)<|bE h fun x4 h_x4 h=>Q2 6 _ Y (by kernel_rfl) Y Y Y (EL.ext<|.keep<|.keep<|.keep<|.keep<|.keep<|.keep<|.keep<|.wr Y Y Y .nil) (fun hp' hx=>Zjc (ov Y) (ov Y) ZdK (hx.get Y Y) Y h_x4)<|Q2 7 _ Y (by kernel_rfl) Y Y Y (EL.ext<|.keep<|.keep<|.keep<|.keep<|.keep<|.keep<|.keep<|.wr Y Y Y .nil) (fun hp' hx=>Ziq (ov Y) (hx.get Y Y) Y ZQ)<|Q2 8 _ Y (by kernel_rfl) Y Y Y (EL.ext<|.keep<|.keep<|.keep<|.keep<|.keep<|.keep<|.keep<|.wr Y Y Y .nil) (fun hp' hx=>Zbi (ov Y) (hx.get Y Y) Y (ZA h_x2).2 QH Y)<|Q2 9 _ Y (by kernel_rfl) Y Y Y (EL.ext<|.keep<|.keep<|.keep<|.keep<|.keep<|.keep<|.keep<|.wr Y Y Y .nil) (fun hp' hx=>Zd (ov Y) (hx.get Y Y) Y Zf9)<|Q2 10 _ Y (by kernel_rfl) Y Y Y (EL.ext<|.keep<|.keep<|.keep<|.keep<|.keep<|.keep<|.keep<|.wr Y Y Y .nil) (fun hp' hx=>Zv (ov Y) (hx.get Y Y) Y Y tS3 Y)<|bE h fun x5 h_x5 h=>Q2 11 _ Y (by kernel_rfl) Y Y Y (EL.ext<|.keep<|.keep<|.keep<|.keep<|.keep<|.keep<|.keep<|.wr Y Y Y .nil) (fun hp' hx=>Zjc (ov Y) (ov Y) Qo (hx.get Y Y) Y h_x5)<|Q2 12 _ Y (by kernel_rfl) Y Y Y (EL.ext<|.keep<|.keep<|.keep<|.keep<|.keep<|.keep<|.keep<|.wr Y Y Y .nil) (fun hp' hx=>Zbi (ov Y) (hx.get Y Y) Y (ZA h_x3).2 Zh7 Y)<|ZZ 14 _ Y (by kernel_rfl) Y Y (fun hp'=>Zc<|ov Y)<|Zaj 13 (.sl 5<|List.map R5 ([0] : List Int)) _ Y (by kernel_rfl) Y Y (fun h=>by cases h) (fun _=>by exact EL.ext (.keep <| .keep <| .keep <| .keep <| .keep <| .keep <| .keep <| .wr rfl rfl rfl <| .nil)) (Jz<|Zae Xf (.cons (cvs (ov Y)<|Zn Y) Y (.cons (.b Y) .nil) .nil) Y Y)<|bE h fun y2 h_y2 h=>Zaj 15 _ _ Y (by kernel_rfl) Y Y (fun h=>by cases h) (fun _=>by exact EL.ext (.keep <| .keep <| .keep <| .keep <| .keep <| .keep <| .keep <| .wr rfl rfl ((List.length_map ..).trans (Eq.trans (Jg h_y2) (Eq.symm ((List.length_map ..).trans rfl)))) <| .nil)) (ZE [7] (ZcE h_y2) (.cons (ov Y) (.own _ Y)<|.cons (ov Y) (.dat Y)<|.cons (ov Y) (.dat Y)<|.cons (ov Y) (.dat Y) .nil) (.cons Y (roM D5) .nil) Y (.keep Y Y<|.none<|.none<|.keep Y Y<|.keep Y Y<|.keep Y Y<|.keep Y Y<|.lent 0 (.inl Y) Y (roM D5) .nil) Y Y<|Xe<|rld Y)<|D1 16 Zc Y<|Dq 17 Y (Zm (ov Y) Y)<|Dq 18 Y (Zm (ov Y) Y)<|D1 19 QN Y<|D1 20 QN Y<|?_
     have h_x6 := XU (y := y2.2.2) h_x5
     have h_x7 := XU (y := (api_Memory.mk x2.Slots x2.Limit (x2.Sectors.set x.sector.toNat y2.2.2) x2.Wear x2.Bad)) h_x4
     have h_x8 := XU (y := (api_Memory.mk x2.Slots x2.Limit (x2.Sectors.set x.sector.toNat y2.2.2) x2.Wear x2.Bad)) h_x4
     refine Qg (by kernel_rfl) (Ent.trans (Ent.absorbH (r := 6) (j := 0) (q := 7) Y (ZA h_x3).2 Y Y ((List.length_map ..).trans<|Jg h_y2) Y)<|Ent.trans (Ent.closeH (r := 6) (y := y2.2.2) Y Y)<|Ent.trans (Ent.absorbH (r := 3) (j := 2) (q := 6) Y (ZA h_x2).2 Y Y ((List.length_map ..).trans<|(List.length_set ..).trans Y) Y)<|Ent.closeH (r := 3) (y := (api_Memory.mk x2.Slots x2.Limit (x2.Sectors.set x.sector.toNat y2.2.2) x2.Wear x2.Bad)) Y Y)<|K6 0 1 10 24 25 26 Y<|QS [some ⟨80, [[.own 3 memories2.length, .own 4 r_.bank.spots.length, .int .i64 r_.copies, .bool true, .bool r_.stopped, .int .i64 r_.last, .bool r_.some_]]⟩, none, none, some ⟨60, List.map O60 (memories2.set i.toNat (api_Memory.mk x2.Slots x2.Limit (x2.Sectors.set x.sector.toNat y2.2.2) x2.Wear x2.Bad))⟩, some ⟨83, List.map R83 r_.bank.spots⟩, some ⟨83, [[.int .i64 x.sector, .int .i64 x.slot]]⟩, none, none] Y<|Tr<|Rm Y<|R1 J9 Y<|Za<|K6 0 1 24 25 26 54 Y<|If h Y (fun h=>?_) fun h=>?_
     ·
      refine K2 0 1 Y<|Tr<|Rm Y<|Rq Y (Zy (ov Y) Y Y)<|Rq Y (Zd (ov Y) Y Y ZlW)<|Rx Y (Zk (ov Y) (ov Y) (Ze tS4) Y Y Y (Nat.le_of_ble_eq_true Y) (Zb Y) Y)<|Za<|K1 1 Y<|QS [some ⟨80, [[.own 3 memories2.length, .own 4 r_.bank.spots.length, .int .i64 r_.copies, .bool true, .bool true, .int .i64 r_.last, .bool r_.some_]]⟩, none, none, some ⟨60, List.map O60 (memories2.set i.toNat (api_Memory.mk x2.Slots x2.Limit (x2.Sectors.set x.sector.toNat y2.2.2) x2.Wear x2.Bad))⟩, some ⟨83, List.map R83 r_.bank.spots⟩, some ⟨83, [[.int .i64 x.sector, .int .i64 x.slot]]⟩, none, none] Y<|Tr<|Rm Y<|Ra Y<|Ra Y<|Ra Y<|Za<|?_
      replace h := lx h ▸ ho1
      obtain rfl := rt h
      exact Zp<|Za0 [some 0, some 1, some 2, some 3, some 4] Y (.cons (.tmp Y)<|.cons (.tmp Y)<|.cons (.tmp Y) .nil) (.cons Y (ro1 (by exact tZ_80.symm)<|rlc (Zds (Eq.symm<|(List.length_set ..).trans Y) Y)<|rlc (.own _ Y)<|rlc (.dat Y)<|rlc (.dat Y)<|rlc (.dat Y)<|rlc (.dat Y)<|rlc (.dat Y) rln)<|.dead<|.dead<|.cons Y (roO Q5)<|.cons Y (roM D83) .nil) Y Y<|Xe<|rlc (.dat Y)<|rlc (.dat Y)<|rlc (.dat Y) rln
     ·
      exact Zh<|K5 0 1 24 25 26 Y<|Zs<|R2 ZU Y<|Rm Y<|Za<|⟨_, h, ES [some 0, some 1, some 2, some 3, some 4] (hhp := .cons Y (ro1 (by exact tZ_80.symm)<|rlc (Zds (Eq.symm<|(List.length_set ..).trans Y) Y)<|rlc (.own _ Y)<|rlc (.dat Y)<|rlc (.dat Y)<|rlc (.dat Y)<|rlc (.dat Y)<|rlc (.dat Y) rln)<|.dead<|.dead<|.cons Y (roO Q5)<|.cons Y (roM D83) .nil)⟩
   ·
    refine ZM<|?_
    replace h := lx h ▸ ho1
    exact ⟨_, h, ES [some 0, some 1, some 2, some 3, some 4] (hhp := .cons Y (ro1 (by exact tZ_80.symm)<|rlc (.own _ Y)<|rlc (.own _ Y)<|rlc (.dat Y)<|rlc (.dat Y)<|rlc (.dat Y)<|rlc (.dat Y)<|rlc (.dat Y) rln)<|.dead<|.dead<|.cons Y (roO Q5)<|.cons Y (roM D83) .nil)⟩
  ·
   replace h := elr h
   replace h := t2i h
   refine Tr<|Rm Y<|Ra Y<|Ra Y<|Ra Y<|Za<|?_
   obtain rfl := rt h
   exact Zp<|Za0 [some 0, some 1, some 2, some 3, some 4] Y (.cons (.tmp Y)<|.cons (.tmp Y)<|.cons (.tmp Y) .nil) (.cons Y (ro1 (by exact tZ_80.symm)<|rlc (.own _ Y)<|rlc (.own _ Y)<|rlc (.dat Y)<|rlc (.dat Y)<|rlc (.dat Y)<|rlc (.dat Y)<|rlc (.dat Y) rln)<|.dead<|.dead<|.cons Y (roO Q5)<|.cons Y (roM D83) .nil) Y Y<|Xe<|rlc (.dat Y)<|rlc (.dat Y)<|rlc (.dat Y) rln
theorem ZbN {s : List api_Kept} {v : api_Kept} {r : Int} (h : QX s v = some r) :
 CSpec Tryd.prog gl0 39 [.sl 51 (List.map R51 s), .agg ((.int .i64 v.Memory) :: (.int .i64 v.Sector) :: (.int .i64 v.Sequence) :: (.int .i64 v.Slot) :: ((List.map C42 v.Frame.toList) ++ ([])))] (.int .i64 r) := by
 unfold QX at h
 replace h := QO h
 refine So Tryd.func39 Y fun w0 A=>Tr<|Rq Y (Zdx (cva<|ov Y) Zab tZ_51 ZeD)<|Ra Y<|Za<|J0 (fun j => (.inr j)) ⟨[], []⟩ h (fun h=>?_) fun h=>?_
 ·
  refine K2 0 3 Y<|Tr<|Rm Y<|Rl tZ_51 Zk9 Y<|Rm Y<|Za<|Zf<|?_
  obtain ⟨r1, hl1, ho1⟩ := Xm h
  refine L1 (fun i=>⟨[(0, .sl 51 (List.map R51 s)), (3, .rp ((.int .i64 v.Memory) :: (.int .i64 v.Sector) :: (.int .i64 v.Sequence) :: (.int .i64 v.Slot) :: ((List.map C42 v.Frame.toList) ++ ([]))) 0), (7, .int .i64 (s.length : Int)), (8, .int .i64 i)], []⟩) hl1 (ES []) fun n1 i h=>?_
  unfold Qc at h
  refine Tr<|R2 ZT Y<|Za<|Zg<|If h Y (fun h=>?_) fun h=>?_
  ·
   refine Zh<|Zg<|Zf<|K4 0 3 7 8 Y<|Tr<|Rm Y<|Ra Y<|Za<|Zg<|K5 0 3 5 7 8 Y<|QL (cw := md0) (by kernel_rfl)<|Dq 0 Y (QP (ov Y) Zj2 (Qp<|Zu Zab) Zab)<|D1 1 Zc Y<|D1 2 Zc Y<|bE h fun x h_x h=>Dq 3 Y (Qz (ov Y) (ov Y) Zk9 h_x)<|Dq 4 Y (QP (ov Y) Zj2 (Qp<|Zu Zab) Zab)<|Dq 5 Y (Zmb Zq6 (ov Y) (ov Y) (.aggB ZeD) (.aggB ZeD) (fkC Y<|fkC Y<|fkC Y<|fkC Y<|fkA (fkV fun _ => Y) fkN) (fkC Y<|fkC Y<|fkC Y<|fkC Y<|fkA (fkV fun _ => Y) fkN)<|eqC Y<|eqC Y<|eqC Y<|eqC Y<|eqA (Eq.trans arL<|Eq.symm arL) (eqV fun _ _ => Y) eqN)<|Dd<|K6 0 3 5 7 8 16 Y<|If h Y (fun h=>?_) fun h=>?_
   ·
    refine K1 5 Y<|Tr<|Rm Y<|Ra Y<|Za<|?_
    replace h := lx h ▸ ho1
    obtain rfl := rt h
    exact Zp (Z5 Y (.one<|rb Y))
   ·
    exact Zh<|K4 0 3 7 8 Y<|Zs<|R2 ZU Y<|Rm Y<|Za<|⟨_, h, ES []⟩
  ·
   refine ZM<|?_
   replace h := lx h ▸ ho1
   exact ⟨(), h, ES []⟩
 ·
  replace h := elr h
  replace h := t0i h
  refine Tr<|Ra Y<|Za<|?_
  obtain rfl := rt h
  exact Zp (Z5 Y (.one<|rb Y))
theorem Zbb {s : List api_Kept} {v : api_Kept} {r : Bool} (h : Qb s v = some r) :
 CSpec Tryd.prog gl0 17 [.sl 51 (List.map R51 s), .agg ((.int .i64 v.Memory) :: (.int .i64 v.Sector) :: (.int .i64 v.Sequence) :: (.int .i64 v.Slot) :: ((List.map C42 v.Frame.toList) ++ ([])))] (.bool r) := by
 unfold Qb at h
 replace h := QO h
 refine So Tryd.func17 Y fun w0 A=>Tr<|Rq Y (Zdx (cva<|ov Y) Zab tZ_51 ZeD)<|Ra Y<|Za<|K3 0 3 4 Y<|Tr<|Rm Y<|Rq Y (QP (ov Y) Zj2 (Qp<|Zu Zab) Zab)<|bE h fun y h_y h=>Rq Y (Zt (ZbN h_y)<|.cons (ov Y) (.b Y)<|.cons (ov Y) (.aggB ZeD) .nil)<|R2 ZiI Y<|Ra Y<|Za<|?_
 obtain rfl := rt h
 exact Zp (Z5 Y (.one<|rb Y))
theorem Zdc {l : List api_Memory} {copies : Int} {deeds : List law3_Deed} {r : Bool} (h : Xo l copies deeds = some r) :
 CSpec Tryd.prog gl0 5 [.sl 60 (List.map R60 l), .int .i64 copies, .sl 46 (List.map R46 deeds)] (.bool r) := by
 unfold Xo at h
 replace h := QO h
 refine So Tryd.func5 Y fun w0 A=>Tr<|Ra Y<|Za<|K3 0 1 2 Y<|Tr<|Rm Y<|bE h fun y h_y h=>Rq Y (Zt (Zdr h_y)<|.cons (ov Y) (.b Y) .nil)<|Rm Y<|Rq Y (Zm (ov Y) Y)<|Rq Y (Zm (ov Y) Y)<|Ra Y<|Ra Y<|Za<|K5 0 1 2 7 8 Y<|Tr<|Rm Y<|Rm Y<|bE h fun y2 h_y2 h=>?_
 rcases y2 with y2 | y2
 ·
  replace h := ell h
  refine Rx Y (ZE [] (ZdC h_y2) (.cons (ov Y) (.dat Y)<|.cons (ov Y) (.dat Y) .nil) .nil Y .nil Y Y<|Xe<|rlc (.dat Y)<|rlc (.dat Y) rln)<|Rm Y<|Rq Y (Zm (ov Y) Y)<|Rq Y (Zm (ov Y) Y)<|Ra Y<|Ra Y<|Za<|Zg<|K5 2 7 8 9 10 Y<|Tr<|Rm Y<|R2 Jv Y<|Rm Y<|Rq Y (.guarded ((!decide (y.2 = 0)) == false) Y Y Y Y fun h => Zc<|ov Y)<|Rq Y (.guarded ((!decide (y.2 = 0)) == false) Y Y Y Y fun h => Jv (ow Y h)<|ov Y)<|Rq Y (Zgu (ov Y) fun hp=>ow Y<|gF hp)<|Za<|K4 2 7 9 35 Y<|If h Y (fun h=>?_) fun h=>?_
  ·
   refine K0<|Tr<|bE h fun y3 h_y3 h=>Rq Y (Zt (Zfg h_y3) .nil)<|Ra Y<|Za<|?_
   obtain rfl := rt h
   exact Zp (Z5 Y (.one<|rb Y))
  ·
   refine Zh<|I0 ⟨[(2, .sl 46 (List.map R46 deeds)), (7, .sl 51 (List.map R51 y.1)), (9, .lit (.pointer none))], []⟩ h (fun h=>?_) fun h=>?_
   ·
    refine K3 2 7 9 Y<|Tr<|Rm Y<|Rl tZ_46 Zng Y<|Rm Y<|Za<|Zf<|?_
    obtain ⟨r1, hl1, ho1⟩ := Xm h
    refine L0 ⟨[(2, .sl 46 (List.map R46 deeds)), (7, .sl 51 (List.map R51 y.1)), (9, .lit (.pointer none)), (37, .sl 46 (List.map R46 deeds)), (38, .int .i64 (deeds.length : Int)), (39, .int .i64 0)], []⟩ hl1 (ES []) fun n1 h=>?_
    unfold Zai at h
    refine Tr<|R2 ZT Y<|Za<|Zg<|If h Y (fun h=>?_) fun h=>?_
    ·
     refine Zh<|Zg<|Zf<|K6 2 7 9 37 38 39 Y<|Tr<|bE h fun x h_x h=>Rq Y (Qz (ov Y) (ov Y) Zng h_x)<|Rq Y (QP (ov Y) ZmV (Qp<|Zu ZdE) ZdE)<|Rx Y (Qd (row := (.bool false) :: ((List.map C42 (Vector.replicate 64 0).toList) ++ ((.int .i64 0) :: []))) 0 Y ZqE (by kernel_rfl)<|by exact Eq.symm (Eq.trans (b := 66) ZdE tZ_46.symm))<|Rx Y (Zk (ov Y) (ov Y) (ZB ZmV ZdE) Y Y Y (Zaq (Zu ZdE) ZdE) (Zb ZqJ)<|Jd<|Eq.trans ZdE<|Eq.symm ZdE)<|Za<|K7 2 7 9 12 37 38 39 Y<|Tr<|Rq Y (Zd (ov Y) Y Y ZlU)<|Rq Y (Zv (ov Y) Y Y Y tS4<|QF Zqm)<|Za<|K8 2 7 9 12 37 38 39 44 Y<|If h Y (fun h=>?_) fun h=>?_
     ·
      exact (Zko h).elim
     ·
      exact (Zko h).elim
    ·
     refine ZM<|?_
     replace h := lx h ▸ ho1
     exact ⟨(), h, ES []⟩
   ·
    exact (Zko h).elim
 ·
  replace h := elr h
  refine Rx Y (ZE [] (Zdz h_y2) (.cons (ov Y) (.dat Y)<|.cons (ov Y) (.dat Y) .nil) .nil Y (.lent 0 (.inr ⟨Nat.le_of_ble_eq_true Y, Y⟩) Y (ro1 (by exact tZ_80.symm)<|rlc (.own _<|.inr ⟨Nat.le_of_ble_eq_true Y, Y⟩)<|rlc (.own _<|.inr ⟨Nat.le_of_ble_eq_true Y, Y⟩)<|rlc (.dat Y)<|rlc (.dat Y)<|rlc (.dat Y)<|rlc (.dat Y)<|rlc (.dat Y) rln)<|.lent 1 (.inr ⟨Nat.le_of_ble_eq_true Y, Y⟩) Y (roO Q5)<|.lent 2 (.inr ⟨Nat.le_of_ble_eq_true Y, Y⟩) Y (roM D83) .nil) Y Y<|Xe<|rlc (.ptr _ _ _<|.inr ⟨Nat.le_of_ble_eq_true Y, Y⟩)<|rlc (.dat Y) rln)<|Rm Y<|Rq Y (Zm (ov Y) Y)<|Rq Y (Zm (ov Y) Y)<|Ra Y<|Ra Y<|Za<|Zg<|K5 2 7 8 9 10 Y<|QS [some ⟨80, [[.own 1 y2.1.bank.memories.length, .own 2 y2.1.bank.spots.length, .int .i64 y2.1.copies, .bool y2.1.frozen, .bool y2.1.stopped, .int .i64 y2.1.last, .bool y2.1.some_]]⟩, some ⟨60, List.map O60 y2.1.bank.memories⟩, some ⟨83, List.map R83 y2.1.bank.spots⟩] Y<|Tr<|Rm Y<|R2 Jv Y<|Rm Y<|Rq Y (.guarded ((!decide (y.2 = 0)) == false) Y Y Y Y fun h => Zc<|ov Y)<|Rq Y (.guarded ((!decide (y.2 = 0)) == false) Y Y Y Y fun h => Jv (ow Y h)<|ov Y)<|Rq Y (Zgu (ov Y) fun hp=>ow Y<|gF hp)<|Za<|K4 2 7 9 35 Y<|If h Y (fun h=>?_) fun h=>?_
  ·
   refine K0<|Tr<|bE h fun y4 h_y4 h=>Rq Y (Zt (Zfg h_y4) .nil)<|Ra Y<|Za<|?_
   obtain rfl := rt h
   exact Zp (Z5 Y (.one<|rb Y))
  ·
   refine Zh<|I7 (fun memories spots copies2 frozen stopped last some_=>⟨[(2, .sl 46 (List.map R46 deeds)), (7, .sl 51 (List.map R51 y.1)), (9, .ptr 0 1 0 0)], [some ⟨80, [[.own 1 memories.length, .own 2 spots.length, .int .i64 copies2, .bool frozen, .bool stopped, .int .i64 last, .bool some_]]⟩, some ⟨60, List.map O60 memories⟩, some ⟨83, List.map R83 spots⟩]⟩) h (fun h=>?_) fun memories spots copies2 frozen stopped last some_ h=>?_
   ·
    refine K3 2 7 9 Y<|Tr<|Rm Y<|Rl tZ_46 Zng Y<|Rm Y<|Za<|Zf<|?_
    obtain ⟨r2, hl2, ho2⟩ := Xm h
    refine L8 (fun memories2 spots2 copies3 frozen2 stopped2 last2 some_2 i=>⟨[(2, .sl 46 (List.map R46 deeds)), (7, .sl 51 (List.map R51 y.1)), (9, .ptr 0 1 0 0), (37, .sl 46 (List.map R46 deeds)), (38, .int .i64 (deeds.length : Int)), (39, .int .i64 i)], [some ⟨80, [[.own 1 memories2.length, .own 2 spots2.length, .int .i64 copies3, .bool frozen2, .bool stopped2, .int .i64 last2, .bool some_2]]⟩, some ⟨60, List.map O60 memories2⟩, some ⟨83, List.map R83 spots2⟩]⟩) hl2 (ES [some 0, some 1, some 2] (hhp := .cons Y (ro1 (by exact tZ_80.symm)<|rlc (.own _ Y)<|rlc (.own _ Y)<|rlc (.dat Y)<|rlc (.dat Y)<|rlc (.dat Y)<|rlc (.dat Y)<|rlc (.dat Y) rln)<|.cons Y (roO Q5)<|.cons Y (roM D83) .nil)) fun n2 memories2 spots2 copies3 frozen2 stopped2 last2 some_2 i h=>?_
    unfold Z8 at h
    refine Tr<|R2 ZT Y<|Za<|Zg<|If h Y (fun h=>?_) fun h=>?_
    ·
     refine Zh<|Zg<|Zf<|K6 2 7 9 37 38 39 Y<|Tr<|bE h fun x2 h_x2 h=>Rq Y (Qz (ov Y) (ov Y) Zng h_x2)<|Rq Y (QP (ov Y) ZmV (Qp<|Zu ZdE) ZdE)<|Rx Y (Qd (row := (.bool false) :: ((List.map C42 (Vector.replicate 64 0).toList) ++ ((.int .i64 0) :: []))) 3 Y ZqE (by kernel_rfl)<|by exact Eq.symm (Eq.trans (b := 66) ZdE tZ_46.symm))<|Rx Y (Zk (ov Y) (ov Y) (ZB ZmV ZdE) Y Y Y (Zaq (Zu ZdE) ZdE) (Zb ZqJ)<|Jd<|Eq.trans ZdE<|Eq.symm ZdE)<|Za<|K7 2 7 9 12 37 38 39 Y<|QS [some ⟨80, [[.own 1 memories2.length, .own 2 spots2.length, .int .i64 copies3, .bool frozen2, .bool stopped2, .int .i64 last2, .bool some_2]]⟩, some ⟨60, List.map O60 memories2⟩, some ⟨83, List.map R83 spots2⟩, some ⟨46, [(.bool x2.Freeze) :: ((List.map C42 x2.Frame.toList) ++ ((.int .i64 x2.Power) :: []))]⟩] Y<|Tr<|Rq Y (Zd (ov Y) Y Y ZlU)<|Rq Y (Zv (ov Y) Y Y Y tS4<|QF Zqm)<|Za<|K8 2 7 9 12 37 38 39 44 Y<|If h Y (fun h=>?_) fun h=>?_
     ·
      exact K7 2 7 9 12 37 38 39 Y<|Zs<|Rm Y<|Rq Y (Zd (ov Y) Y Y Zn7)<|Rq Y (Zv (ov Y) Y Y Y tS3<|QF Zrj)<|bE h fun y5 h_y5 h=>Rx Y (ZE [0, 1, 2] (Zef h_y5) (.cons (ov Y) (.ptr _ _ _ Y)<|.cons (ov Y) (.dat Y) .nil) (.cons Y (ro1 (by exact tZ_80.symm)<|rlc (.own _ Y)<|rlc (.own _ Y)<|rlc (.dat Y)<|rlc (.dat Y)<|rlc (.dat Y)<|rlc (.dat Y)<|rlc (.dat Y) rln)<|.cons Y (roO Q5)<|.cons Y (roM D83) .nil) Y (.lent 0 (.inl Y) Y (ro1 (by exact tZ_80.symm)<|rlc (.own _<|.inr ⟨Nat.le_of_ble_eq_true Y, Y⟩)<|rlc (.own _<|.inr ⟨Nat.le_of_ble_eq_true Y, Y⟩)<|rlc (.dat Y)<|rlc (.dat Y)<|rlc (.dat Y)<|rlc (.dat Y)<|rlc (.dat Y) rln)<|.none<|.none<|.keep Y Y<|.lent 3 (.inr ⟨Nat.le_of_ble_eq_true Y, Y⟩) Y (roO Q5)<|.lent 4 (.inr ⟨Nat.le_of_ble_eq_true Y, Y⟩) Y (roM D83) .nil) Y Y<|Xe<|rld Y)<|Rm Y<|Rq Y (Zm (ov Y) Y)<|Rq Y (Zm (ov Y) Y)<|Rq Y (Zm (ov Y) Y)<|Za<|K6 2 7 9 37 38 39 Y<|QS [some ⟨80, [[.own 4 y5.2.2.2.bank.memories.length, .own 5 y5.2.2.2.bank.spots.length, .int .i64 y5.2.2.2.copies, .bool y5.2.2.2.frozen, .bool y5.2.2.2.stopped, .int .i64 y5.2.2.2.last, .bool y5.2.2.2.some_]]⟩, none, none, some ⟨46, [(.bool x2.Freeze) :: ((List.map C42 x2.Frame.toList) ++ ((.int .i64 x2.Power) :: []))]⟩, some ⟨60, List.map O60 y5.2.2.2.bank.memories⟩, some ⟨83, List.map R83 y5.2.2.2.bank.spots⟩] Y<|Zs<|R2 ZU Y<|Rm Y<|Za<|⟨_, h, ES [some 0, some 4, some 5] (hhp := .cons Y (ro1 (by exact tZ_80.symm)<|rlc (.own _ Y)<|rlc (.own _ Y)<|rlc (.dat Y)<|rlc (.dat Y)<|rlc (.dat Y)<|rlc (.dat Y)<|rlc (.dat Y) rln)<|.cons Y (roO Q5)<|.cons Y (roM D83) .nil)⟩
     ·
      exact K7 2 7 9 12 37 38 39 Y<|Zs<|Rm Y<|Rq Y (Zd (ov Y) Y Y Zoa)<|Rq Y (QD (ov Y) Y Y Y JS (Qp Zrf) arL (hns := (nsM fun _ => Y)))<|Rq Y (Zd (ov Y) Y Y Zn7)<|Rq Y (Zv (ov Y) Y Y Y tS3<|QF Zrj)<|bE h fun y6 h_y6 h=>Rx Y (ZE [0, 1, 2] (Za6 h_y6) (.cons (ov Y) (.ptr _ _ _ Y)<|.cons (ov Y) (Zfq<|rld<|arD fun _ => Y)<|.cons (ov Y) (.dat Y) .nil) (.cons Y (ro1 (by exact tZ_80.symm)<|rlc (.own _ Y)<|rlc (.own _ Y)<|rlc (.dat Y)<|rlc (.dat Y)<|rlc (.dat Y)<|rlc (.dat Y)<|rlc (.dat Y) rln)<|.cons Y (roO Q5)<|.cons Y (roM D83) .nil) Y (.lent 0 (.inl Y) Y (ro1 (by exact tZ_80.symm)<|rlc (.own _<|.inr ⟨Nat.le_of_ble_eq_true Y, Y⟩)<|rlc (.own _<|.inr ⟨Nat.le_of_ble_eq_true Y, Y⟩)<|rlc (.dat Y)<|rlc (.dat Y)<|rlc (.dat Y)<|rlc (.dat Y)<|rlc (.dat Y) rln)<|.none<|.none<|.keep Y Y<|.lent 3 (.inr ⟨Nat.le_of_ble_eq_true Y, Y⟩) Y (roO Q5)<|.lent 4 (.inr ⟨Nat.le_of_ble_eq_true Y, Y⟩) Y (roM D83) .nil) Y Y<|Xe<|rld Y)<|Rm Y<|Rq Y (Zm (ov Y) Y)<|Rq Y (Zm (ov Y) Y)<|Rq Y (Zm (ov Y) Y)<|Za<|K6 2 7 9 37 38 39 Y<|QS [some ⟨80, [[.own 4 y6.2.2.2.bank.memories.length, .own 5 y6.2.2.2.bank.spots.length, .int .i64 y6.2.2.2.copies, .bool y6.2.2.2.frozen, .bool y6.2.2.2.stopped, .int .i64 y6.2.2.2.last, .bool y6.2.2.2.some_]]⟩, none, none, some ⟨46, [(.bool x2.Freeze) :: ((List.map C42 x2.Frame.toList) ++ ((.int .i64 x2.Power) :: []))]⟩, some ⟨60, List.map O60 y6.2.2.2.bank.memories⟩, some ⟨83, List.map R83 y6.2.2.2.bank.spots⟩] Y<|Zs<|R2 ZU Y<|Rm Y<|Za<|⟨_, h, ES [some 0, some 4, some 5] (hhp := .cons Y (ro1 (by exact tZ_80.symm)<|rlc (.own _ Y)<|rlc (.own _ Y)<|rlc (.dat Y)<|rlc (.dat Y)<|rlc (.dat Y)<|rlc (.dat Y)<|rlc (.dat Y) rln)<|.cons Y (roO Q5)<|.cons Y (roM D83) .nil)⟩
    ·
     refine ZM<|?_
     replace h := lx h ▸ ho2
     exact ⟨_, h, ES [some 0, some 1, some 2] (hhp := .cons Y (ro1 (by exact tZ_80.symm)<|rlc (.own _ Y)<|rlc (.own _ Y)<|rlc (.dat Y)<|rlc (.dat Y)<|rlc (.dat Y)<|rlc (.dat Y)<|rlc (.dat Y) rln)<|.cons Y (roO Q5)<|.cons Y (roM D83) .nil)⟩
   ·
    refine Tr<|Rm Y<|bE h fun y7 h_y7 h=>Rx Y (ZE [0, 1, 2] (ZaF h_y7) (.cons (ov Y) (.ptr _ _ _ Y) .nil) (.cons Y (ro1 (by exact tZ_80.symm)<|rlc (.own _ Y)<|rlc (.own _ Y)<|rlc (.dat Y)<|rlc (.dat Y)<|rlc (.dat Y)<|rlc (.dat Y)<|rlc (.dat Y) rln)<|.cons Y (roO Q5)<|.cons Y (roM D83) .nil) Y (.lent 0 (.inl Y) Y (ro1 (by exact tZ_80.symm)<|rlc (.dat Y)<|rlc (.own _<|.inr ⟨Nat.le_of_ble_eq_true Y, Y⟩)<|rlc (.dat Y)<|rlc (.dat Y)<|rlc (.dat Y)<|rlc (.dat Y)<|rlc (.dat Y) rln)<|.none<|.none<|.lent 3 (.inr ⟨Nat.le_of_ble_eq_true Y, Y⟩) Y (roM D83) .nil) Y Y<|.dat Y)<|bE h fun y8 h_y8 h=>Rq Y (Zt (Zdr h_y8)<|.cons (ov Y) (.b Y) .nil)<|Rm Y<|Rq Y (Zm (ov Y) Y)<|Rq Y (Zm (ov Y) Y)<|Ra Y<|Ra Y<|Za<|Zg<|K4 2 7 8 13 Y<|Tr<|Rm Y<|R2 Jv Y<|Za<|K4 2 7 13 71 Y<|If h Y (fun h=>?_) fun h=>?_
    ·
     refine K0<|Tr<|Ra Y<|Za<|?_
     obtain rfl := rt h
     exact Zp (Z5 Y (.one<|rb Y))
    ·
     refine Zh<|J0 (fun j => (.inr j)) ⟨[], []⟩ h (fun h=>?_) fun h=>?_
     ·
      refine K3 2 7 13 Y<|Tr<|Rm Y<|Rl tZ_51 Zk9 Y<|Rm Y<|Za<|Zf<|?_
      obtain ⟨r3, hl3, ho3⟩ := Xm h
      refine L1 (fun i2=>⟨[(2, .sl 46 (List.map R46 deeds)), (7, .sl 51 (List.map R51 y.1)), (72, .sl 51 (List.map R51 y8.1)), (73, .int .i64 (y8.1.length : Int)), (74, .int .i64 i2)], []⟩) hl3 (ES []) fun n3 i2 h=>?_
      unfold Qt at h
      refine Tr<|R2 ZT Y<|Za<|Zg<|If h Y (fun h=>?_) fun h=>?_
      ·
       refine Zh<|Zg<|Zf<|K5 2 7 72 73 74 Y<|Tr<|bE h fun x3 h_x3 h=>Rq Y (Qz (ov Y) (ov Y) Zk9 h_x3)<|Rq Y (QP (ov Y) Zj2 (Qp<|Zu Zab) Zab)<|Rx Y (Qd (row := (.int .i64 0) :: (.int .i64 0) :: (.int .i64 0) :: (.int .i64 0) :: ((List.map C42 (Vector.replicate 64 0).toList) ++ ([]))) 0 Y Zpk (by kernel_rfl)<|by exact Eq.symm (Eq.trans (b := 68) Zab tZ_51.symm))<|Rx Y (Zk (ov Y) (ov Y) (ZB Zj2 Zab) Y Y Y (Zaq (Zu Zab) Zab) (Zb ZoJ)<|Jd<|Eq.trans Zab<|Eq.symm Zab)<|Za<|K6 2 7 15 72 73 74 Y<|Tr<|Rm Y<|Rq Y (QD (ov Y) Y Y Y Zj2 (Qp<|Zu Zab) Zab (hns := Zq9))<|bE h fun y9 h_y9 h=>Rq Y (Zt (Zbb h_y9)<|.cons (ov Y) (.b Y)<|.cons (ov Y) (.aggB ZeD) .nil)<|Ra Y<|Za<|I1 (fun found=>⟨[(2, .sl 46 (List.map R46 deeds)), (7, .sl 51 (List.map R51 y.1)), (16, .bool found), (72, .sl 51 (List.map R51 y8.1)), (73, .int .i64 (y8.1.length : Int)), (74, .int .i64 i2)], []⟩) h (fun h=>?_) fun found h=>?_
       ·
        refine K7 2 7 15 16 72 73 74 Y<|Tr<|Rm Y<|Rl tZ_46 Zng Y<|Rm Y<|Za<|Zf<|?_
        obtain ⟨r4, hl4, ho4⟩ := Xm h
        refine L2 (fun found2 i3=>⟨[(2, .sl 46 (List.map R46 deeds)), (7, .sl 51 (List.map R51 y.1)), (15, .ptr 0 1 0 0), (16, .bool found2), (72, .sl 51 (List.map R51 y8.1)), (73, .int .i64 (y8.1.length : Int)), (74, .int .i64 i2), (81, .sl 46 (List.map R46 deeds)), (82, .int .i64 (deeds.length : Int)), (83, .int .i64 i3)], [some ⟨51, [(.int .i64 x3.Memory) :: (.int .i64 x3.Sector) :: (.int .i64 x3.Sequence) :: (.int .i64 x3.Slot) :: ((List.map C42 x3.Frame.toList) ++ ([]))]⟩]⟩) hl4 (ES [some 0]) fun n4 found2 i3 h=>?_
        unfold Qq at h
        refine Tr<|R2 ZT Y<|Za<|Zg<|If h Y (fun h=>?_) fun h=>?_
        ·
         exact Zh<|Zg<|Zf<|K10 2 7 15 16 72 73 74 81 82 83 Y<|Tr<|bE h fun x4 h_x4 h=>Rq Y (Qz (ov Y) (ov Y) Zng h_x4)<|Rq Y (QP (ov Y) ZmV (Qp<|Zu ZdE) ZdE)<|Rx Y (Qd (row := (.bool false) :: ((List.map C42 (Vector.replicate 64 0).toList) ++ ((.int .i64 0) :: []))) 1 Y ZqE (by kernel_rfl)<|by exact Eq.symm (Eq.trans (b := 66) ZdE tZ_46.symm))<|Rx Y (Zk (ov Y) (ov Y) (ZB ZmV ZdE) Y Y Y (Zaq (Zu ZdE) ZdE) (Zb ZqJ)<|Jd<|Eq.trans ZdE<|Eq.symm ZdE)<|Za<|K11 2 7 15 16 18 72 73 74 81 82 83 Y<|Zs<|Rm Y<|Rm Y<|Rq Y (.guarded (found2 == false) Y Y Y Y fun h => Zd (ov Y) Y Y ZlU)<|Rq Y (.guarded (found2 == false) Y Y Y Y fun h => Zv (ow Y h) Y Y Y tS4<|QF Zqm)<|Rq Y (.guarded (found2 == false) Y Y Y Y fun h => J9<|ow Y h)<|Rq Y (.guarded (found2 == false) Y Y Y Y fun h => Zc<|ow Y h)<|Rq Y (.guarded2 ((found2 == false) && ((!x4.Freeze) == true)) Y Y Y Y fun h => Zd (ov Y) Y Y Zoa)<|Rq Y (.guarded2 ((found2 == false) && ((!x4.Freeze) == true)) Y Y Y Y fun h => QD (ow Y h) Y Y Y JS (Qp Zrf) arL (hns := (nsM fun _ => Y)))<|Rq Y (.guarded2 ((found2 == false) && ((!x4.Freeze) == true)) Y Y Y Y fun h => Zd (ov Y) Y Y Zl2)<|Rq Y (.guarded2 ((found2 == false) && ((!x4.Freeze) == true)) Y Y Y Y fun h => QD (ow Y h) Y Y Y JS (Qp at9) arL (hns := (nsM fun _ => Y)))<|Rq Y (.guarded2 ((found2 == false) && ((!x4.Freeze) == true)) Y Y Y Y fun h => Zmb ZpH (ow Y h) (ow Y h) (.aggB<|arD fun _ => Y) (.aggB<|arD fun _ => Y) (fkV fun _ => Y) (fkV fun _ => Y)<|eqV fun _ _ => Y)<|Rq Y (.guarded (found2 == false) Y Y Y Y fun h => Zdj (ow Y h) fun hp=>ow Y<|gA h<|gT hp)<|Rq Y (Zgu (ov Y) fun hp=>ow Y<|gF hp)<|Ra Y<|Za<|K10 2 7 15 16 72 73 74 81 82 83 Y<|Zs<|R2 ZU Y<|Rm Y<|Za<|⟨_, h, ES [some 0]⟩
        ·
         refine ZM<|?_
         replace h := lx h ▸ ho4
         exact ⟨_, h, ES []⟩
       ·
        refine Tr<|Rm Y<|R1 J9 Y<|Za<|K6 2 7 72 73 74 102 Y<|If h Y (fun h=>?_) fun h=>?_
        ·
         refine K0<|Tr<|Ra Y<|Za<|?_
         replace h := lx h ▸ ho3
         obtain rfl := rt h
         exact Zp (Z5 Y (.one<|rb Y))
        ·
         exact Zh<|K5 2 7 72 73 74 Y<|Zs<|R2 ZU Y<|Rm Y<|Za<|⟨_, h, ES []⟩
      ·
       refine ZM<|?_
       replace h := lx h ▸ ho3
       exact ⟨(), h, ES []⟩
     ·
      replace h := elr h
      replace h := t0i h
      refine Tr<|bE h fun y10 h_y10 h=>Rq Y (Zt (Zfg h_y10) .nil)<|Ra Y<|Za<|?_
      obtain rfl := rt h
      exact Zp (Z5 Y (.one<|rb Y))
end Go.Proofs.YtnlmjeleocelgaaDoor
